/- What perm.Digits and the law's own Digits answer. -/
import Derived.Test.YtjebnceajpkhmaaDoorDig
namespace Go.Proofs.YtjebnceajpkhmaaDoor
open Go.RowKit

/-- The number i turned by the first k radices: the rest, and the turned number. -/
def turn (f : Nat → Int) (i : Int) : Nat → Int × Int
  | 0 => (i, 0)
  | k + 1 => (wrap64 ((turn f i k).1.tdiv (f k)), wrap64 (wrap64 ((turn f i k).2 * f k) + (turn f i k).1.tmod (f k)))
/-- What stands at place i. -/
def dig (n : Nat) (f : Nat → Int) (i : Nat) : Int := (turn f i n).2

/-- A new list of M noughts. -/
def Zi (M : Nat) : Obj := .cells (madeCells (Value.int .i64 0).cells M) 3
theorem Zi_cell (w : World) (n j : Nat) (hj : j < n) : (w.alloc (Zi n)).cell? ⟨w.heap.size, j, none⟩ = some (.int .i64 0) ∧ (w.alloc (Zi n)).frozen? ⟨w.heap.size, j, none⟩ = false := by
  refine ⟨?_, ?_⟩
  · unfold Zi
    rw [World.cell?_alloc_at _ _ _ _ rfl]
    simp [madeCells, Value.cells, hj, Nat.mod_one]
  · unfold Zi
    rw [World.frozen?_alloc_at _ _ _ _ rfl]
theorem mk_i (n : Nat) (m : Int) (hm : m = n) (hn : n ≤ 17592186044416) (w : World) : (Instr.makeSlice 22 (.int .i64 m) (.int .i64 m)).run Tryd.prog w = .ok (.slice (some ⟨w.heap.size, 0, none⟩) n n) (w.alloc (Zi n)) := by
  subst hm
  obtain ⟨i0, hi, hz0, hz1, hz2⟩ := info_parts info3i
  have := run_make (P := Tryd.prog) (w := w) 22 3 i0 _ Tryd.underlying22 hi hz0 .i64 .i64 (n : Int) (n : Int) (by omega) (by omega) (by rw [hz2]; omega) (by omega)
  rw [hz1] at this
  simpa [Zi] using this

/-- A list under way: the first k of M numbers g lie in block X. -/
structure Fill (M X : Nat) (g : Nat → Int) (k : Nat) (W0 w : World) : Prop where
  done : ∀ j, j < k → w.cell? ⟨X, j, none⟩ = some (.int .i64 (g j))
  all : ∀ j, j < M → (∃ v, w.cell? ⟨X, j, none⟩ = some (.int .i64 v)) ∧ w.frozen? ⟨X, j, none⟩ = false
  lt : X < w.heap.size
  lo : W0.heap.size ≤ X
  bel : Below W0.heap.size W0 w
theorem Fill.start {M : Nat} {g : Nat → Int} {W0 w : World} (h : Below W0.heap.size W0 w) : Fill M w.heap.size g 0 W0 (w.alloc (Zi M)) :=
  ⟨fun j hj => by omega, fun j hj => ⟨⟨0, (Zi_cell w M j hj).1⟩, (Zi_cell w M j hj).2⟩, by simp, h.size, h.alloc h.size _⟩
theorem Fill.step {M X k : Nat} {g : Nat → Int} {W0 w : World} (h : Fill M X g k W0 w) (hk : k < M) (v : Int) (hv : v = g k) : Fill M X g (k + 1) W0 (w.setCell ⟨X, k, none⟩ (.int .i64 v)) := by
  have key : ∀ j, j ≠ k → (w.setCell ⟨X, k, none⟩ (.int .i64 v)).cell? ⟨X, j, none⟩ = w.cell? ⟨X, j, none⟩ := fun j hj => World.cell?_setCell_other _ _ _ _ (fun he => hj (Addr.mk.inj he).2.1.symm)
  have same : (w.setCell ⟨X, k, none⟩ (.int .i64 v)).cell? ⟨X, k, none⟩ = some (.int .i64 v) := by
    obtain ⟨⟨u, hu⟩, -⟩ := h.all k hk
    exact World.cell?_setCell_same _ _ _ hu
  refine ⟨fun j hj => ?_, fun j hj => ⟨?_, by rw [World.frozen?_setCell]; exact (h.all j hj).2⟩, by simpa using h.lt, h.lo, h.bel.setCell h.lo _⟩
  · by_cases e : j = k
    · subst e; rw [same, hv]
    · rw [key j e]; exact h.done j (by omega)
  · by_cases e : j = k
    · subst e; exact ⟨v, same⟩
    · rw [key j e]; exact (h.all j hj).1

/-- What perm.Digits answers. -/
def OutD (A : Nat → Addr) (n : Nat) (f : Nat → Int) (K1 K2 : Nat) (w : World) (e : Ending) (w' : World) : Prop :=
  Below w.heap.size w w' ∧ ((K1 < n ∧ e = .returned (.tuple #[.slice none 0 0, er A 4])) ∨ (K1 = n ∧ K2 < n ∧ e = .returned (.tuple #[.slice none 0 0, er A 6])) ∨
    (K1 = n ∧ K2 = n ∧ ∃ X, e = .returned (.tuple #[.slice (some ⟨X, 0, none⟩) (Pr f n).toNat (Pr f n).toNat, .nilIface]) ∧ Ints w' X 0 (Pr f n).toNat (dig n f) ∧ w.heap.size ≤ X ∧ X < w'.heap.size))

set_option maxRecDepth 100000 in
theorem digits_any (A : Nat → Addr) (ao : Option Addr) (n c : Nat) (f : Nat → Int) (w : World) (hn : n ≤ 17592186044416) (hf : ∀ i, i < n → -9223372036854775808 ≤ f i ∧ f i ≤ 9223372036854775807) (K1 K2 : Nat) (hF : Facts n f K1 K2) (h : Row w ao n f) (hE : Glo A w) :
    Calls Tryd.prog 8 #[.slice ao n c] w (OutD A n f K1 K2 w) := by
  have hP := product_any A ao n c f w hn hf K1 K2 hF h hE
  have H := Lib.hid h
  have HF := Lib.hid hF
  have HE := Lib.hid hE
  have HP := Lib.hid hP
  clear h hF hE hP hf
  have hk1 := HF.out.k1
  have hk2 := HF.out.k2
  by_cases hlt1 : K1 < n
  · go_enter Tryd.func8, Tryd.ntmps8
    go_wp2_with fail
    refine HP.out.mono ?_
    rintro e w1 ⟨rfl, hb⟩
    have HB := Lib.hid hb
    clear hb
    rw [OutP, if_pos hlt1]
    unfold er
    go_wp2_with fail
    go_ret2
    exact ⟨HB.out, .inl ⟨hlt1, rfl⟩⟩
  by_cases hlt2 : K2 < n
  · go_enter Tryd.func8, Tryd.ntmps8
    go_wp2_with fail
    refine HP.out.mono ?_
    rintro e w1 ⟨rfl, hb⟩
    have HB := Lib.hid hb
    clear hb
    rw [OutP, if_neg hlt1, if_pos hlt2]
    unfold er
    go_wp2_with fail
    go_ret2
    exact ⟨HB.out, .inr (.inl ⟨by omega, hlt2, rfl⟩)⟩
  obtain rfl : K1 = n := by omega
  obtain rfl : K2 = K1 := by omega
  obtain ⟨p1, p2⟩ := HF.out.pr rfl K2 (by omega)
  obtain ⟨M, hM⟩ : ∃ M : Nat, Pr f K2 = M := ⟨(Pr f K2).toNat, by omega⟩
  have hmk := fun w => mk_i M (Pr f K2) hM (by omega) w
  have HM := Lib.hid hM
  have hM1 : 1 ≤ M := by omega
  have hM2 : M ≤ 16384 := by omega
  rw [hM] at hmk
  clear hM p1 p2
  go_enter Tryd.func8, Tryd.ntmps8
  go_wp2_with fail
  refine HP.out.mono ?_
  rintro e w1 ⟨rfl, hb⟩
  have HB := Lib.hid hb
  clear hb
  rw [OutP, if_neg hlt1, if_neg hlt2, HM.out]
  go_wp2_with fail
  go_loopw [24] (fun i wr => ∃ k : Nat, k ≤ M ∧ i = .int .i64 k ∧ Fill M w1.heap.size (dig K2 f) k w wr) (fun i _ => M - (intOf i).toNat)
  case atStart => exact ⟨0, by omega, rfl, Fill.start HB.out⟩
  case round =>
    obtain ⟨k, hk, rfl, hFi⟩ := hrel
    have HFi := Lib.hid hFi
    clear hFi
    by_cases hlt : k < M
    · go_wp2_with fail
      go_loop [8, 9, 30] (fun r t i => ∃ j : Nat, j ≤ K2 ∧ i = .int .i64 j ∧ r = .int .i64 (turn f k j).1 ∧ t = .int .i64 (turn f k j).2) (fun _ _ i => K2 - (intOf i).toNat)
      case atStart => exact ⟨0, by omega, rfl, rfl, rfl⟩
      case round =>
        obtain ⟨j, hj, rfl, rfl, rfl⟩ := hrel
        by_cases hjt : j < K2
        · rcases H.out with h0 | ⟨b, off, rfl, hI⟩
          · omega
          have c1 : wr.cell? ⟨b, off + j, none⟩ = some (.int .i64 (f j)) := (HFi.out.bel.cell (cell_lt (hI j hjt))).trans (hI j hjt)
          clear hI
          have q1 : (0 : Int) ≤ (j : Int) := by omega
          have q2 : (j : Int) < (K2 : Int) := by omega
          have q3 := HF.out.one j hjt
          have q4 : f j ≠ 0 := by omega
          have q5 : ¬ f j = -1 := by omega
          have e1 : (turn f k (j + 1)).1 = wrap64 ((turn f k j).1.tdiv (f j)) := rfl
          have e2 : (turn f k (j + 1)).2 = wrap64 (wrap64 ((turn f k j).2 * f j) + (turn f k j).1.tmod (f j)) := rfl
          have HE1 := Lib.hid e1
          have HE2 := Lib.hid e2
          clear e1 e2
          revert HE1 HE2 c1 q3 q4 q5
          generalize (turn f k j).1 = R
          generalize (turn f k j).2 = T
          generalize f j = F
          intro c1 q3 q4 q5 HE1 HE2
          go_wp2_with fail

          go_round
          case rel => exact ⟨j + 1, by omega, by go_num, by rw [HE1.out], by rw [HE2.out]⟩
          case measure => simp [intOf]; omega
        · obtain rfl : j = K2 := by omega
          have e1 : (turn f k j).2 = dig j f k := rfl
          have HE1 := Lib.hid e1
          clear e1
          revert HE1
          generalize (turn f k j).2 = T
          intro HE1
          obtain ⟨⟨v, hv⟩, hfr⟩ := HFi.out.all k hlt
          have q1 : (0 : Int) ≤ (k : Int) := by omega
          have q2 : (k : Int) < (M : Int) := by omega
          go_wp2_with fail
          go_roundw
          case rel => exact ⟨k + 1, by omega, by go_num, HFi.out.step hlt T HE1.out⟩
          case measure => simp [intOf]; omega
    · obtain rfl : k = M := by omega
      go_wp2_with fail
      go_ret2
      refine ⟨HFi.out.bel, .inr (.inr ⟨rfl, rfl, w1.heap.size, ?_, ?_, HFi.out.lo, HFi.out.lt⟩)⟩
      · rw [HM.out]; rfl
      · rw [HM.out]
        intro i hi
        rw [Nat.zero_add]; exact HFi.out.done i (by simpa using hi)
end Go.Proofs.YtjebnceajpkhmaaDoor
