/- What product, perm.Digits and the law's own Digits answer. -/
import Derived.Test.YtjebnceajpkhmaaDoorErr
import Derived.Test.YtjebnceajpkhmaaDoorSpare
namespace Go.Proofs.YtjebnceajpkhmaaDoor
open Go.RowKit

theorem first {p : Nat → Prop} (n : Nat) : ∃ K, K ≤ n ∧ (∀ j, j < K → p j) ∧ (K < n → ¬ p K) := by
  induction n with
  | zero => exact ⟨0, Nat.le_refl _, fun j h => by omega, fun h => by omega⟩
  | succ n ih =>
    obtain ⟨K, hK, h1, h2⟩ := ih
    by_cases hlt : K < n
    · exact ⟨K, by omega, h1, fun _ => h2 hlt⟩
    · obtain rfl : K = n := by omega
      by_cases hp : p K
      · exact ⟨K + 1, Nat.le_refl _, fun j hj => by rcases Nat.lt_succ_iff_lt_or_eq.1 hj with h | rfl; exact h1 j h; exact hp, fun h => by omega⟩
      · exact ⟨K, by omega, h1, fun _ => hp⟩

/-- The product of the first k numbers. -/
def Pr (f : Nat → Int) : Nat → Int
  | 0 => 1
  | k + 1 => Pr f k * f k

/-- The first K1 numbers are at least 1, the next is not; the first K2 numbers fit, the next does not. -/
structure Facts (n : Nat) (f : Nat → Int) (K1 K2 : Nat) : Prop where
  k1 : K1 ≤ n
  k2 : K2 ≤ n
  one : ∀ j, j < K1 → 1 ≤ f j
  not1 : K1 < n → ¬ 1 ≤ f K1
  fit : ∀ j, j < K2 → f j ≤ 16384 / Pr f j
  not2 : K2 < n → ¬ f K2 ≤ 16384 / Pr f K2
theorem facts (n : Nat) (f : Nat → Int) : ∃ K1 K2, Facts n f K1 K2 := by
  obtain ⟨K1, h1, h2, h3⟩ := first (p := fun j => 1 ≤ f j) n
  obtain ⟨K2, g1, g2, g3⟩ := first (p := fun j => f j ≤ 16384 / Pr f j) n
  exact ⟨K1, K2, h1, g1, h2, h3, g2, g3⟩

theorem Facts.pr {n : Nat} {f : Nat → Int} {K1 K2 : Nat} (h : Facts n f K1 K2) (hn : K1 = n) : ∀ k, k ≤ K2 → 1 ≤ Pr f k ∧ Pr f k ≤ 16384
  | 0, _ => by simp [Pr]
  | k + 1, hk => by
    obtain ⟨p1, p2⟩ := h.pr hn k (by omega)
    have a1 := h.one k (by have := h.k2; omega)
    have a2 := h.fit k (by omega)
    refine ⟨?_, ?_⟩
    · have : 1 * 1 ≤ Pr f k * f k := Int.mul_le_mul p1 a1 (by omega) (by omega)
      simpa [Pr] using this
    · have : Pr f k * f k ≤ Pr f k * (16384 / Pr f k) := Int.mul_le_mul_of_nonneg_left a2 (by omega)
      have h3 : Pr f k * (16384 / Pr f k) ≤ 16384 := Int.mul_ediv_self_le (by omega)
      simp only [Pr]; omega

/-- What product answers. -/
def OutP (A : Nat → Addr) (n : Nat) (f : Nat → Int) (K1 K2 : Nat) : Value :=
  if K1 < n then .tuple #[.int .i64 0, er A 4] else if K2 < n then .tuple #[.int .i64 0, er A 6] else .tuple #[.int .i64 (Pr f n), .nilIface]

/-- The three errors that the package answers. -/
def Glo (A : Nat → Addr) (w : World) : Prop := w.cell? ⟨2, 0, none⟩ = some (.iface 60 (.pointer (some (A 4)))) ∧ w.cell? ⟨1, 0, none⟩ = some (.iface 60 (.pointer (some (A 6)))) ∧ w.cell? ⟨0, 0, none⟩ = some (.iface 60 (.pointer (some (A 11))))
theorem gl (A : Nat → Addr) {w : World} (h : Errs errL A w) : Glo A w :=
  ⟨(h.all 4 (errL[4]'(by rw [errL_len]; decide)) (List.getElem?_eq_getElem _)).glob, (h.all 6 (errL[6]'(by rw [errL_len]; decide)) (List.getElem?_eq_getElem _)).glob, (h.all 11 (errL[11]'(by rw [errL_len]; decide)) (List.getElem?_eq_getElem _)).glob⟩
theorem Glo.below {A : Nat → Addr} {w w' : World} (h : Glo A w) (hb : Below w.heap.size w w') : Glo A w' :=
  ⟨(hb.cell (cell_lt h.1)).trans h.1, (hb.cell (cell_lt h.2.1)).trans h.2.1, (hb.cell (cell_lt h.2.2)).trans h.2.2⟩

set_option maxRecDepth 100000 in
theorem product_any (A : Nat → Addr) (ao : Option Addr) (n c : Nat) (f : Nat → Int) (w : World) (hn : n ≤ 17592186044416) (hf : ∀ i, i < n → -9223372036854775808 ≤ f i ∧ f i ≤ 9223372036854775807) (K1 K2 : Nat) (hF : Facts n f K1 K2) (h : Row w ao n f) (hE : Glo A w) :
    Calls Tryd.prog 27 #[.slice ao n c] w fun e w' => e = .returned (OutP A n f K1 K2) ∧ Below w.heap.size w w' := by
  obtain ⟨g2, g1, -⟩ := hE
  have H := Lib.hid h
  have HF := Lib.hid hF
  have HV := Lib.hid hf
  have hk1 := hF.k1
  have hk2 := hF.k2
  clear h hF hf
  go_enter Tryd.func27, Tryd.ntmps27
  go_wp2_with fail
  go_loop [11] (fun i => ∃ k : Nat, k ≤ K1 ∧ i = .int .i64 k) (fun i => K1 - (intOf i).toNat)
  case atStart => exact ⟨0, by omega, rfl⟩
  case round =>
    obtain ⟨k, hk, rfl⟩ := hrel
    by_cases hlt : k < n
    · rcases H.out with h0 | ⟨b, off, rfl, hI⟩
      · omega
      have c1 := hI k hlt
      clear hI
      have q1 : (0 : Int) ≤ (k : Int) := by omega
      have q2 : (k : Int) < (n : Int) := by omega
      have hv := HV.out k hlt
      by_cases hlt1 : k < K1
      · have q3 := HF.out.one k hlt1
        have q4 : ¬ f k < 1 := by omega
        go_wp2_with fail
        go_round
        case rel => exact ⟨k + 1, by omega, by go_num⟩
        case measure => simp [intOf]; omega
      · obtain rfl : k = K1 := by omega
        have q3 : f k < 1 := by have := HF.out.not1 hlt; omega
        go_wp2_with fail
        go_quiet (fail)
        go_wp2_with fail
        go_ret2
        refine ⟨?_, below_drewN (Below.refl _ _) _⟩
        rw [OutP, if_pos hlt]; rfl
    · obtain rfl : k = n := by omega
      obtain rfl : k = K1 := by omega
      go_wp2_with fail
      go_loop [4, 21] (fun m i => ∃ j : Nat, j ≤ K2 ∧ i = .int .i64 j ∧ m = .int .i64 (Pr f j)) (fun _ i => K2 - (intOf i).toNat)
      case atStart => exact ⟨0, by omega, rfl, rfl⟩
      case round =>
        obtain ⟨j, hj, rfl, rfl⟩ := hrel
        obtain ⟨p1, p2⟩ := HF.out.pr rfl j hj
        by_cases hlt : j < k
        · rcases H.out with h0 | ⟨b, off, rfl, hI⟩
          · omega
          have c1 := hI j hlt
          clear hI
          have q1 : (0 : Int) ≤ (j : Int) := by omega
          have q2 : (j : Int) < (k : Int) := by omega
          have q3 := HF.out.one j hlt
          have q5 : ((16384 : Int).tdiv (Pr f j)) = 16384 / Pr f j := Int.tdiv_eq_ediv_of_nonneg (by omega)
          have q6 : 16384 / Pr f j ≤ 16384 := Int.ediv_le_self _ (by omega)
          have q7 : 0 ≤ 16384 / Pr f j := Int.ediv_nonneg (by omega) (by omega)
          have e1 : Pr f (j + 1) = Pr f j * f j := rfl
          have HE1 := Lib.hid e1
          clear e1
          by_cases hlt2 : j < K2
          · obtain ⟨r1, r2⟩ := HF.out.pr rfl (j + 1) (by omega)
            rw [HE1.out] at r1 r2
            have q4 := HF.out.fit j hlt2
            have q8 : Pr f j ≠ 0 := by omega
            revert q4 q5 q6 q7 r1 r2 q3 p1 p2 q8 c1
            have HP := Lib.hid (rfl : Pr f j = Pr f j)
            generalize 16384 / Pr f j = q
            intro q4 q5 q6 q7 r1 r2 q3 p1 p2 q8 c1
            go_wp2_with fail
            go_round
            case rel => exact ⟨j + 1, by omega, by go_num, by rw [HE1.out]⟩
            case measure => simp [intOf]; omega
          · obtain rfl : j = K2 := by omega
            have q4 := HF.out.not2 hlt
            have q8 : Pr f j ≠ 0 := by omega
            revert q4 q5 q6 q7 q3 p1 p2 q8 c1
            generalize 16384 / Pr f j = q
            intro q4 q5 q6 q7 q3 p1 p2 q8 c1
            have q9 : q < f j := by omega
            go_wp2_with fail
            go_quiet (fail)
            go_wp2_with fail
            go_ret2
            refine ⟨?_, below_drewN (Below.refl _ _) _⟩
            rw [OutP, if_neg (by omega), if_pos hlt]; rfl
        · obtain rfl : j = k := by omega
          obtain rfl : j = K2 := by omega
          go_wp2_with fail
          go_ret2
          refine ⟨?_, Below.refl _ _⟩
          rw [OutP, if_neg (by omega), if_neg (by omega)]; rfl
end Go.Proofs.YtjebnceajpkhmaaDoor
