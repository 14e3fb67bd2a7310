/- What the law's own Check, Inverse and After, and what Inverse and After answer. -/
import Derived.Test.YtjebnceajpkhmaaDoorChk
namespace Go.Proofs.YtjebnceajpkhmaaDoor
open Go.RowKit

/-- What the law's own Check answers. -/
def OutK (n K : Nat) : Value := if K < n then .int .i64 12 else .int .i64 0

set_option maxRecDepth 100000 in
theorem refcheck_any (ao : Option Addr) (n c : Nat) (f : Nat → Int) (w : World) (hn : n ≤ 17592186044416) (hf : ∀ i, i < n → -9223372036854775808 ≤ f i ∧ f i ≤ 9223372036854775807) (K : Nat) (hF : Fits n f K) (h : Row w ao n f):
    Calls Tryd.prog 18 #[.slice ao n c] w fun e w' => e = .returned (OutK n K) ∧ Below w.heap.size w w' := by
  have H := Lib.hid h
  have HF := Lib.hid hF
  have HV := Lib.hid hf
  have hk := hF.le
  clear h hF hf
  have hmk := mk_b n hn
  go_enter Tryd.func18, Tryd.ntmps18
  go_wp2_with fail
  clear hmk
  go_loopw [11] (fun i wr => ∃ k : Nat, k ≤ K ∧ i = .int .i64 k ∧ Seen n w.heap.size (mem f k) w wr) (fun i _ => K - (intOf i).toNat)
  case atStart => exact ⟨0, by omega, rfl, Seen.start (Below.refl _ _) (mem_zero f)⟩
  case round =>
    obtain ⟨k, hkK, rfl, hS⟩ := hrel
    have HS := Lib.hid hS
    clear hS
    by_cases hlt : k < n
    · rcases H.out with h0 | ⟨b, off, rfl, hI⟩
      · omega
      have c1 : wr.cell? ⟨b, off + k, none⟩ = some (.int .i64 (f k)) := (HS.out.bel.cell (cell_lt (hI k hlt))).trans (hI k hlt)
      clear hI
      have q1 : (0 : Int) ≤ (k : Int) := by omega
      have q2 : (k : Int) < (n : Int) := by omega
      have hv := HV.out k hlt
      by_cases hlt1 : k < K
      · obtain ⟨r1, r2, r3⟩ := HF.out.fit k hlt1
        obtain ⟨x, hx⟩ : ∃ x : Nat, f k = x := ⟨(f k).toNat, by omega⟩
        have HX := Lib.hid hx
        rw [hx] at c1 r1 r2 r3
        have hxn : x < n := by omega
        obtain ⟨c2, c3⟩ := HS.out.cell x hxn
        rw [r3] at c2
        clear r3 hv hx
        have r4 : ¬ ((x : Int) < 0) := by omega
        have r5 : ¬ ((n : Int) ≤ (x : Int)) := by omega
        go_wp2_with fail
        go_roundw
        case rel => exact ⟨k + 1, by omega, by go_num, HS.out.push hxn HX.out⟩
        case measure => simp [intOf]; omega
      · obtain rfl : k = K := by omega
        have hnf := HF.out.not hlt
        by_cases r1 : f k < 0
        · go_wp2_with fail
          go_ret
          exact ⟨by rw [OutK, if_pos hlt]; rfl, HS.out.bel⟩
        · by_cases r2 : (n : Int) ≤ f k
          · go_wp2_with fail
            go_ret
            exact ⟨by rw [OutK, if_pos hlt]; rfl, HS.out.bel⟩
          · obtain ⟨x, hx⟩ : ∃ x : Nat, f k = x := ⟨(f k).toNat, by omega⟩
            have hxn : x < n := by omega
            obtain ⟨c2, c3⟩ := HS.out.cell x hxn
            have r3 : mem f k x = true := by
              cases hm : mem f k x
              · exact absurd ⟨by omega, by omega, by rw [hx]; exact hm⟩ hnf
              · rfl
            rw [r3] at c2
            rw [hx] at c1 r1 r2
            clear r3 hv hx hnf
            have r6 : (0 : Int) ≤ (x : Int) := by omega
            have r7 : (x : Int) < (n : Int) := by omega
            go_wp2_with fail
            go_ret
            exact ⟨by rw [OutK, if_pos hlt]; rfl, HS.out.bel⟩
    · obtain rfl : k = n := by omega
      obtain rfl : k = K := by omega
      go_wp2_with fail
      go_ret
      exact ⟨by rw [OutK, if_neg (by omega)]; rfl, HS.out.bel⟩

/-- The numbers g lie in block X, and may be written. -/
structure Arr (n X : Nat) (g : Nat → Int) (W0 w : World) : Prop where
  cell : ∀ x : Nat, x < n → w.cell? ⟨X, x, none⟩ = some (.int .i64 (g x)) ∧ w.frozen? ⟨X, x, none⟩ = false
  lt : X < w.heap.size
  lo : W0.heap.size ≤ X
  bel : Below W0.heap.size W0 w
theorem Arr.start {n : Nat} {W0 w : World} (h : Below W0.heap.size W0 w) : Arr n w.heap.size (fun _ => 0) W0 (w.alloc (Zi n)) :=
  ⟨fun j hj => Zi_cell w n j hj, by simp, h.size, h.alloc h.size _⟩
theorem Arr.step {n X x : Nat} {v : Int} {g g' : Nat → Int} {W0 w : World} (h : Arr n X g W0 w) (hx : x < n) (hg : ∀ y : Nat, g' y = if y = x then v else g y) : Arr n X g' W0 (w.setCell ⟨X, x, none⟩ (.int .i64 v)) := by
  have key : ∀ j, j ≠ x → (w.setCell ⟨X, x, none⟩ (.int .i64 v)).cell? ⟨X, j, none⟩ = w.cell? ⟨X, j, none⟩ := fun j hj => World.cell?_setCell_other _ _ _ _ (fun he => hj (Addr.mk.inj he).2.1.symm)
  refine ⟨fun j hj => ⟨?_, by rw [World.frozen?_setCell]; exact (h.cell j hj).2⟩, by simpa using h.lt, h.lo, h.bel.setCell h.lo _⟩
  rw [hg j]
  by_cases e : j = x
  · subst e; rw [if_pos rfl]; exact World.cell?_setCell_same _ _ _ (h.cell j hj).1
  · rw [if_neg e, key j e]; exact (h.cell j hj).1
theorem Arr.ints {n X : Nat} {g : Nat → Int} {W0 w : World} (h : Arr n X g W0 w) : Ints w X 0 n g := fun i hi => by rw [Nat.zero_add]; exact (h.cell i hi).1

/-- Where x stands among the first k numbers. -/
def ix (f : Nat → Int) : Nat → Nat → Int
  | 0, _ => 0
  | k + 1, x => if f k = x then k else ix f k x

theorem Fits.all {n : Nat} {f : Nat → Int} (h : Fits n f n) (k : Nat) (hk : k < n) : 0 ≤ f k ∧ f k < n := ⟨(h.fit k hk).1, (h.fit k hk).2.1⟩

/-- What Inverse answers: E is the error there, N the answer 'no error'. -/
def OutI (n : Nat) (f : Nat → Int) (K : Nat) (E N : Value) (w : World) (e : Ending) (w' : World) : Prop :=
  Below w.heap.size w w' ∧ ((K < n ∧ ∃ X, e = .returned (.tuple #[.slice X 0 0, E])) ∨ (K = n ∧ ∃ X, e = .returned (.tuple #[.slice (some ⟨X, 0, none⟩) n n, N]) ∧ Ints w' X 0 n (ix f n)))

set_option maxRecDepth 100000 in
theorem inverse_any (A : Nat → Addr) (ao : Option Addr) (n c : Nat) (f : Nat → Int) (w : World) (hn : n ≤ 17592186044416) (hf : ∀ i, i < n → -9223372036854775808 ≤ f i ∧ f i ≤ 9223372036854775807) (K : Nat) (hF : Fits n f K) (h : Row w ao n f) (hE : Glo A w) :
    Calls Tryd.prog 19 #[.slice ao n c] w (OutI n f K (er A 11) .nilIface w) := by
  have hC := check_any A ao n c f w hn hf K hF h hE
  have HC := Lib.hid hC
  have H := Lib.hid h
  have HF := Lib.hid hF
  have hk := hF.le
  clear hC h hF hf
  have hmk := mk_i n n rfl hn
  by_cases hlt : K < n
  · go_enter Tryd.func19, Tryd.ntmps19
    go_wp2_with fail
    refine HC.out.mono ?_
    rintro e w1 ⟨rfl, hb⟩
    have HB := Lib.hid hb
    clear hb
    rw [OutC, if_pos hlt]
    unfold er
    go_wp2_with fail
    go_ret2
    exact ⟨HB.out, .inl ⟨hlt, _, rfl⟩⟩
  obtain rfl : K = n := by omega
  go_enter Tryd.func19, Tryd.ntmps19
  go_wp2_with fail
  refine HC.out.mono ?_
  rintro e w1 ⟨rfl, hb⟩
  have HB := Lib.hid hb
  clear hb
  rw [OutC, if_neg hlt]
  go_wp2_with fail
  clear hmk
  go_loopw [18] (fun i wr => ∃ k : Nat, k ≤ K ∧ i = .int .i64 k ∧ Arr K w1.heap.size (ix f k) w wr) (fun i _ => K - (intOf i).toNat)
  case atStart => exact ⟨0, by omega, rfl, Arr.start HB.out⟩
  case round =>
    obtain ⟨k, hkK, rfl, hS⟩ := hrel
    have HS := Lib.hid hS
    clear hS
    by_cases hlt : k < K
    · rcases H.out with h0 | ⟨b, off, rfl, hI⟩
      · omega
      have c1 : wr.cell? ⟨b, off + k, none⟩ = some (.int .i64 (f k)) := (HS.out.bel.cell (cell_lt (hI k hlt))).trans (hI k hlt)
      clear hI
      have q1 : (0 : Int) ≤ (k : Int) := by omega
      have q2 : (k : Int) < (K : Int) := by omega
      obtain ⟨r1, r2⟩ := HF.out.all k hlt
      obtain ⟨x, hx⟩ : ∃ x : Nat, f k = x := ⟨(f k).toNat, by omega⟩
      have HX := Lib.hid hx
      rw [hx] at c1 r1 r2
      have hxn : x < K := by omega
      obtain ⟨c2, c3⟩ := HS.out.cell x hxn
      clear hx
      go_wp2_with fail
      go_roundw
      case rel =>
        refine ⟨k + 1, by omega, by go_num, HS.out.step hxn fun y => ?_⟩
        rw [ix, HX.out]
        by_cases e : y = x
        · subst e; simp
        · have e' : ¬ (x : Int) = (y : Int) := by omega
          simp [e, e']
      case measure => simp [intOf]; omega
    · obtain rfl : k = K := by omega
      go_wp2_with fail
      go_ret2
      exact ⟨HS.out.bel, .inr ⟨rfl, _, rfl, HS.out.ints⟩⟩

set_option maxRecDepth 100000 in
theorem refinv_any (ao : Option Addr) (n c : Nat) (f : Nat → Int) (w : World) (hn : n ≤ 17592186044416) (hf : ∀ i, i < n → -9223372036854775808 ≤ f i ∧ f i ≤ 9223372036854775807) (K : Nat) (hF : Fits n f K) (h : Row w ao n f) :
    Calls Tryd.prog 20 #[.slice ao n c] w (OutI n f K (.int .i64 12) (.int .i64 0) w) := by
  have hC := refcheck_any ao n c f w hn hf K hF h
  have HC := Lib.hid hC
  have H := Lib.hid h
  have HF := Lib.hid hF
  have hk := hF.le
  clear hC h hF hf
  have hmk := mk_i n n rfl hn
  by_cases hlt : K < n
  · go_enter Tryd.func20, Tryd.ntmps20
    go_wp2_with fail
    refine HC.out.mono ?_
    rintro e w1 ⟨rfl, hb⟩
    have HB := Lib.hid hb
    clear hb
    rw [OutK, if_pos hlt]
    go_wp2_with fail
    go_ret2
    exact ⟨HB.out.alloc HB.out.size _, .inl ⟨hlt, _, rfl⟩⟩
  obtain rfl : K = n := by omega
  go_enter Tryd.func20, Tryd.ntmps20
  go_wp2_with fail
  refine HC.out.mono ?_
  rintro e w1 ⟨rfl, hb⟩
  have HB := Lib.hid hb
  clear hb
  rw [OutK, if_neg hlt]
  go_wp2_with fail
  clear hmk
  go_loopw [19] (fun i wr => ∃ k : Nat, k ≤ K ∧ i = .int .i64 k ∧ Arr K w1.heap.size (ix f k) w wr) (fun i _ => K - (intOf i).toNat)
  case atStart => exact ⟨0, by omega, rfl, Arr.start HB.out⟩
  case round =>
    obtain ⟨k, hkK, rfl, hS⟩ := hrel
    have HS := Lib.hid hS
    clear hS
    by_cases hlt : k < K
    · rcases H.out with h0 | ⟨b, off, rfl, hI⟩
      · omega
      have c1 : wr.cell? ⟨b, off + k, none⟩ = some (.int .i64 (f k)) := (HS.out.bel.cell (cell_lt (hI k hlt))).trans (hI k hlt)
      clear hI
      have q1 : (0 : Int) ≤ (k : Int) := by omega
      have q2 : (k : Int) < (K : Int) := by omega
      obtain ⟨r1, r2⟩ := HF.out.all k hlt
      obtain ⟨x, hx⟩ : ∃ x : Nat, f k = x := ⟨(f k).toNat, by omega⟩
      have HX := Lib.hid hx
      rw [hx] at c1 r1 r2
      have hxn : x < K := by omega
      obtain ⟨c2, c3⟩ := HS.out.cell x hxn
      clear hx
      go_wp2_with fail
      go_roundw
      case rel =>
        refine ⟨k + 1, by omega, by go_num, HS.out.step hxn fun y => ?_⟩
        rw [ix, HX.out]
        by_cases e : y = x
        · subst e; simp
        · have e' : ¬ (x : Int) = (y : Int) := by omega
          simp [e, e']
      case measure => simp [intOf]; omega
    · obtain rfl : k = K := by omega
      go_wp2_with fail
      go_ret2
      exact ⟨HS.out.bel, .inr ⟨rfl, _, rfl, HS.out.ints⟩⟩

end Go.Proofs.YtjebnceajpkhmaaDoor
