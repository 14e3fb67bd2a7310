/- What moved, After and the law's own After answer. -/
import Derived.Test.YtjebnceajpkhmaaDoorInv
namespace Go.Proofs.YtjebnceajpkhmaaDoor
open Go.RowKit

/-- First q, then p: what stands at place i. -/
def aft (f q : Nat → Int) (i : Nat) : Int := q (f i).toNat

set_option maxRecDepth 100000 in
theorem moved_any (ao ap : Option Addr) (n c c' : Nat) (f q : Nat → Int) (w : World) (hn : n ≤ 17592186044416) (hF : ∀ k, k < n → 0 ≤ f k ∧ f k < n) (h : Row w ao n q) (h' : Row w ap n f) :
    Calls Tryd.prog 31 #[.slice ao n c, .slice ap n c'] w fun e w' => ∃ X, e = .returned (.slice (some ⟨X, 0, none⟩) n n) ∧ Ints w' X 0 n (aft f q) ∧ Below w.heap.size w w' := by
  have H := Lib.hid h
  have H' := Lib.hid h'
  have HF := Lib.hid hF
  clear h h' hF
  have hmk := mk_i n n rfl hn
  go_enter Tryd.func31, Tryd.ntmps31
  go_wp2_with fail
  clear hmk
  go_loopw [13] (fun i wr => ∃ k : Nat, k ≤ n ∧ i = .int .i64 k ∧ Fill n w.heap.size (aft f q) k w wr) (fun i _ => n - (intOf i).toNat)
  case atStart => exact ⟨0, by omega, rfl, Fill.start (Below.refl _ _)⟩
  case round =>
    obtain ⟨k, hkK, rfl, hS⟩ := hrel
    have HS := Lib.hid hS
    clear hS
    by_cases hlt : k < n
    · rcases H.out with h0 | ⟨b, off, rfl, hI⟩
      · omega
      rcases H'.out with h0 | ⟨b', off', rfl, hI'⟩
      · omega
      have c1 : wr.cell? ⟨b', off' + k, none⟩ = some (.int .i64 (f k)) := (HS.out.bel.cell (cell_lt (hI' k hlt))).trans (hI' k hlt)
      have q1 : (0 : Int) ≤ (k : Int) := by omega
      have q2 : (k : Int) < (n : Int) := by omega
      obtain ⟨r1, r2⟩ := HF.out k hlt
      obtain ⟨x, hx⟩ : ∃ x : Nat, f k = x := ⟨(f k).toNat, by omega⟩
      have hxn : x < n := by omega
      have c2 : wr.cell? ⟨b, off + x, none⟩ = some (.int .i64 (q x)) := (HS.out.bel.cell (cell_lt (hI x hxn))).trans (hI x hxn)
      have e0 : aft f q k = q x := by rw [aft, hx]; rfl
      have HX := Lib.hid e0
      rw [hx] at c1 r1 r2
      obtain ⟨⟨v, c3⟩, c4⟩ := HS.out.all k hlt
      clear hx hI hI' e0
      go_wp2_with fail
      go_roundw
      case rel => exact ⟨k + 1, by omega, by go_num, HS.out.step hlt _ HX.out.symm⟩
      case measure => simp [intOf]; omega
    · obtain rfl : k = n := by omega
      go_wp2_with fail
      go_ret
      exact ⟨_, rfl, fun i hi => by rw [Nat.zero_add]; exact HS.out.done i hi, HS.out.bel⟩

/-- What After answers: E, E' are the errors there, N the answer 'no error'. -/
def OutA (n m : Nat) (f q : Nat → Int) (K L : Nat) (E E' N : Value) (w : World) (e : Ending) (w' : World) : Prop :=
  Below w.heap.size w w' ∧ (((K < n ∨ L < m) ∧ ∃ X, e = .returned (.tuple #[.slice X 0 0, E])) ∨ (K = n ∧ L = m ∧ n ≠ m ∧ ∃ X, e = .returned (.tuple #[.slice X 0 0, E'])) ∨
    (K = n ∧ L = m ∧ n = m ∧ ∃ ao c, e = .returned (.tuple #[.slice ao n c, N]) ∧ Row w' ao n (aft f q)))

set_option maxRecDepth 100000 in
theorem after_any (A : Nat → Addr) (ao ap : Option Addr) (n c m c' : Nat) (f q : Nat → Int) (w : World) (hn : n ≤ 17592186044416) (hm : m ≤ 17592186044416) (hf : ∀ i, i < n → -9223372036854775808 ≤ f i ∧ f i ≤ 9223372036854775807)
    (hq : ∀ i, i < m → -9223372036854775808 ≤ q i ∧ q i ≤ 9223372036854775807) (K L : Nat) (hF : Fits n f K) (hQ : Fits m q L) (h : Row w ao n f) (h' : Row w ap m q) (hE : Glo A w) :
    Calls Tryd.prog 21 #[.slice ao n c, .slice ap m c'] w (OutA n m f q K L (er A 11) (er A 6) .nilIface w) := by
  have hC := check_any A ao n c f w hn hf K hF h hE
  have hC' := fun w1 (hb : Below w.heap.size w w1) => check_any A ap m c' q w1 hm hq L hQ (h'.below hb) (hE.below hb)
  have HC := Lib.hid hC
  have HC' := Lib.hid hC'
  have H := Lib.hid h
  have H' := Lib.hid h'
  have HF := Lib.hid hF
  have HG := Lib.hid hE
  have hk := hF.le
  have hl := hQ.le
  clear hC hC' h h' hF hf hq hE
  by_cases hlt : K < n
  · go_enter Tryd.func21, Tryd.ntmps21
    go_wp2_with fail
    refine HC.out.mono ?_
    rintro e w1 ⟨rfl, hb⟩
    have HB := Lib.hid hb
    have g0 := (HG.out.below hb).2.2
    clear hb
    rw [OutC, if_pos hlt]
    unfold er
    go_wp2_with fail
    go_quiet (fail)
    go_wp2_with fail
    go_ret2
    exact ⟨below_drewN HB.out _, .inl ⟨.inl hlt, _, rfl⟩⟩
  by_cases hlt' : L < m
  · go_enter Tryd.func21, Tryd.ntmps21
    go_wp2_with fail
    refine HC.out.mono ?_
    rintro e w1 ⟨rfl, hb⟩
    have HB := Lib.hid hb
    clear hb
    rw [OutC, if_neg hlt]
    go_wp2_with fail
    refine (HC'.out w1 HB.out).mono ?_
    rintro e w2 ⟨rfl, hb⟩
    have hb2 : Below w.heap.size w w2 := HB.out.trans (hb.mono HB.out.size)
    have HB2 := Lib.hid hb2
    have g0 := (HG.out.below hb2).2.2
    clear hb hb2
    rw [OutC, if_pos hlt']
    unfold er
    go_wp2_with fail
    go_quiet (fail)
    go_wp2_with fail
    go_ret2
    exact ⟨below_drewN HB2.out _, .inl ⟨.inr hlt', _, rfl⟩⟩
  obtain rfl : K = n := by omega
  obtain rfl : L = m := by omega
  go_enter Tryd.func21, Tryd.ntmps21
  go_wp2_with fail
  refine HC.out.mono ?_
  rintro e w1 ⟨rfl, hb⟩
  have HB := Lib.hid hb
  clear hb
  rw [OutC, if_neg hlt]
  go_wp2_with fail
  refine (HC'.out w1 HB.out).mono ?_
  rintro e w2 ⟨rfl, hb⟩
  have hb2 : Below w.heap.size w w2 := HB.out.trans (hb.mono HB.out.size)
  have HB2 := Lib.hid hb2
  have g1 := (HG.out.below hb2).2.1
  clear hb hb2
  rw [OutC, if_neg hlt']
  by_cases hne : K = L
  · subst hne
    go_wp2_with fail
    refine (moved_any ap ao K c' c f q w2 hn HF.out.all (H'.out.below HB2.out) (H.out.below HB2.out)).mono ?_
    rintro e w3 ⟨X, rfl, hX, hb⟩
    have hb3 : Below w.heap.size w w3 := HB2.out.trans (hb.mono HB2.out.size)
    have HB3 := Lib.hid hb3
    have HX := Lib.hid hX
    clear hb hb3 hX
    go_wp2_with fail
    go_ret2
    exact ⟨HB3.out, .inr (.inr ⟨rfl, rfl, rfl, _, _, rfl, .inr ⟨X, 0, rfl, HX.out⟩⟩)⟩
  · have hne' : ¬ (K : Int) = (L : Int) := by omega
    go_wp2_with fail
    go_quiet (fail)
    go_wp2_with fail
    go_ret2
    exact ⟨below_drewN HB2.out _, .inr (.inl ⟨rfl, rfl, hne, _, rfl⟩)⟩

set_option maxRecDepth 100000 in
theorem refafter_any (ao ap : Option Addr) (n c m c' : Nat) (f q : Nat → Int) (w : World) (hn : n ≤ 17592186044416) (hn8 : n ≤ 2199023255552) (hm : m ≤ 17592186044416) (hf : ∀ i, i < n → -9223372036854775808 ≤ f i ∧ f i ≤ 9223372036854775807)
    (hq : ∀ i, i < m → -9223372036854775808 ≤ q i ∧ q i ≤ 9223372036854775807) (K L : Nat) (hF : Fits n f K) (hQ : Fits m q L) (h : Row w ao n f) (h' : Row w ap m q) :
    Calls Tryd.prog 22 #[.slice ao n c, .slice ap m c'] w (OutA n m f q K L (.int .i64 12) (.int .i64 7) (.int .i64 0) w) := by
  have hC := refcheck_any ao n c f w hn hf K hF h
  have hC' := fun w1 (hb : Below w.heap.size w w1) => refcheck_any ap m c' q w1 hm hq L hQ (h'.below hb)
  have HC := Lib.hid hC
  have HC' := Lib.hid hC'
  have H := Lib.hid h
  have H' := Lib.hid h'
  have HF := Lib.hid hF
  have hk := hF.le
  have hl := hQ.le
  clear hC hC' h h' hF hf hq
  by_cases hlt : K < n
  · go_enter Tryd.func22, Tryd.ntmps22
    go_wp2_with fail
    refine HC.out.mono ?_
    rintro e w1 ⟨rfl, hb⟩
    have HB := Lib.hid hb
    clear hb
    rw [OutK, if_pos hlt]
    go_wp2_with fail
    go_ret2
    exact ⟨HB.out.alloc HB.out.size _, .inl ⟨.inl hlt, _, rfl⟩⟩
  by_cases hlt' : L < m
  · go_enter Tryd.func22, Tryd.ntmps22
    go_wp2_with fail
    refine HC.out.mono ?_
    rintro e w1 ⟨rfl, hb⟩
    have HB := Lib.hid hb
    clear hb
    rw [OutK, if_neg hlt]
    go_wp2_with fail
    refine (HC'.out w1 HB.out).mono ?_
    rintro e w2 ⟨rfl, hb⟩
    have hb2 : Below w.heap.size w w2 := HB.out.trans (hb.mono HB.out.size)
    have HB2 := Lib.hid hb2
    clear hb hb2
    rw [OutK, if_pos hlt']
    go_wp2_with fail
    go_ret2
    exact ⟨HB2.out.alloc HB2.out.size _, .inl ⟨.inr hlt', _, rfl⟩⟩
  obtain rfl : K = n := by omega
  obtain rfl : L = m := by omega
  go_enter Tryd.func22, Tryd.ntmps22
  go_wp2_with fail
  refine HC.out.mono ?_
  rintro e w1 ⟨rfl, hb⟩
  have HB := Lib.hid hb
  clear hb
  rw [OutK, if_neg hlt]
  go_wp2_with fail
  refine (HC'.out w1 HB.out).mono ?_
  rintro e w2 ⟨rfl, hb⟩
  have hb2 : Below w.heap.size w w2 := HB.out.trans (hb.mono HB.out.size)
  have HB2 := Lib.hid hb2
  clear hb hb2
  rw [OutK, if_neg hlt']
  by_cases hne : K = L
  · subst hne
    obtain ⟨i0, hi, hz0, hz1, hz2⟩ := info_parts info3i
    have HZ0 := Lib.hid hz0
    have HZ1 := Lib.hid hz1
    have HZ2 := Lib.hid hz2
    clear hz0 hz1 hz2
    go_wp2_with fail
    go_loopw [6, 27] (fun o i wr => ∃ k : Nat, k ≤ K ∧ i = .int .i64 k ∧ Told w.heap.size wr o k (aft f q) ∧ Below w.heap.size w wr) (fun _ i _ => K - (intOf i).toNat)
    case atStart =>
      refine ⟨0, by omega, rfl, ?_, HB2.out.alloc HB2.out.size _⟩
      exact World.ownsRow_made w2 #[] 0 HB2.out.size (by unfold maxLen; omega) rfl
    case round =>
      obtain ⟨k, hkK, rfl, hT, hB⟩ := hrel
      have HT := Lib.hid hT
      have HBk := Lib.hid hB
      clear hT hB
      by_cases hlt3 : k < K
      · rcases H.out with h0 | ⟨b, off, rfl, hI⟩
        · omega
        rcases H'.out with h0 | ⟨b', off', rfl, hI'⟩
        · omega
        have c1 : wr.cell? ⟨b, off + k, none⟩ = some (.int .i64 (f k)) := (HBk.out.cell (cell_lt (hI k hlt3))).trans (hI k hlt3)
        have q1 : (0 : Int) ≤ (k : Int) := by omega
        have q2 : (k : Int) < (K : Int) := by omega
        obtain ⟨r1, r2⟩ := HF.out.all k hlt3
        obtain ⟨x, hx⟩ : ∃ x : Nat, f k = x := ⟨(f k).toNat, by omega⟩
        have hxn : x < K := by omega
        have c2 : wr.cell? ⟨b', off' + x, none⟩ = some (.int .i64 (q x)) := (HBk.out.cell (cell_lt (hI' x hxn))).trans (hI' x hxn)
        have e0 : aft f q k = q x := by rw [aft, hx]; rfl
        have HX := Lib.hid e0
        rw [hx] at c1 r1 r2
        clear hx hI hI' e0
        revert c2 HX
        generalize q x = T
        intro c2 HX
        go_wp2_with (at_builtin; refine wpList_append_own _ rfl (.tmp 31) (.tmp 36) 22 rfl w.heap.size 3 i0 (.int .i64 0) 1 8 Tryd.underlying22 hi HZ0.out HZ1.out HZ2.out rfl (by decide) _ k _ rfl (World.ownsRow.alloc HT.out _) ⟨wr.heap.size, 0, none⟩ 1 1 [.int .i64 T] rfl rfl (cell_one_new _ _ _) (ints_oneCell .i64 [T]) (by unfold maxLen; omega) (by omega) (by have := HBk.out.size; simp; omega) ?_)
        intro v3 w3 hown3 hgrow3 hnil3
        have HO3 := Lib.hid hown3
        have HG3 := Lib.hid hgrow3
        clear hown3 hgrow3 hnil3
        go_wp2_with fail
        go_roundw
        case rel =>
          refine ⟨k + 1, by omega, by go_num, ?_, ?_⟩
          · unfold Told; rw [ints_succ k _ _ HX.out]; exact HO3.out
          · exact (HBk.out.alloc HBk.out.size _).grown HG3.out (by have := HBk.out.size; simp; omega) (fun b hb => (HT.out.lt b hb).1)
        case measure => simp [intOf]; omega
      · obtain rfl : k = K := by omega
        obtain ⟨ao', c'', rfl, hR⟩ := HT.out.row
        have HR := Lib.hid hR
        clear hR
        go_wp2_with fail
        go_ret2
        exact ⟨HBk.out, .inr (.inr ⟨rfl, rfl, rfl, ao', c'', rfl, HR.out⟩)⟩
  · have hne' : ¬ (K : Int) = (L : Int) := by omega
    go_wp2_with fail
    go_ret2
    exact ⟨HB2.out.alloc HB2.out.size _, .inr (.inl ⟨rfl, rfl, hne, _, rfl⟩)⟩
end Go.Proofs.YtjebnceajpkhmaaDoor
