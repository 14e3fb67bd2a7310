/- The walk of FlyNoughts: it returns true. -/
import Derived.Test.YtfecfdopdkgceaaDoorFlys
import Derived.ChangeKeysEq
namespace Go.Proofs.YtfecfdopdkgceaaDoor
open Go.RowKit Fl

theorem equal_n (g h n c d : Nat) (w : World) (hn : n ≤ 5) (hg : ∀ j, j < n → ∃ a b, N a ∧ N b ∧ w.cell? ⟨g, j, none⟩ = some (.complex .f64 a b)) (hh : ∀ j, j < n → w.cell? ⟨h, j, none⟩ = some (.complex .f64 0 0)) :
    Calls Tryd.prog 7 #[.slice (some ⟨g, 0, none⟩) n c, .slice (some ⟨h, 0, none⟩) n d] w fun e w' => e = .returned (.bool true) ∧ Below w.heap.size w w' := by
  have HG := Lib.hid hg
  have HH := Lib.hid hh
  clear hg hh
  go_enter Tryd.func7, Tryd.ntmps7
  go_wp2_with fail
  go_loopw [13] (fun i wr => ∃ k m : Nat, k ≤ n ∧ i = .int .i64 k ∧ wr = w.drewN m) (fun i _ => n - (intOf i).toNat)
  case atStart => exact ⟨0, 0, by omega, rfl, rfl⟩
  case round =>
    obtain ⟨k, m, hk, rfl, rfl⟩ := hrel
    by_cases hlt : k < n
    · obtain ⟨a, b, ha, hb, c1⟩ := HG.out k hlt
      have c2 := HH.out k hlt
      have o1 := ha.order
      have o2 := hb.order
      have q1 : (0 : Int) ≤ (k : Int) := by omega
      have q2 : (k : Int) < (n : Int) := by omega
      have hd : decide ((k : Int) < (n : Int)) = true := by simp; omega
      go_wp2_with fail
      go_quiet (fail)
      go_wp2_with fail
      go_roundw
      case rel => exact ⟨k + 1, m + nq, by omega, by go_num, rfl⟩
      case measure => simp [intOf]; omega
    · go_wp2_with fail
      go_ret
      exact ⟨rfl, below_drewN (Below.refl _ _) _⟩

theorem eqc (d : Nat) (x y x' y' : Nat) (w : World) (h1 : FloatKind.f64.format.order x x' = some .eq) (h2 : FloatKind.f64.format.order y y' = some .eq) :
    (Op.equalIn (d + 1) 28 (.complex .f64 x y) (.complex .f64 x' y')).run Tryd.prog w = .ok true w := by
  simp [Op.equalIn, run_underlying Tryd.underlying28, Op.floatEq, h1, h2]
theorem info28 : (Tryd.prog.info? 28).map (fun i => (i.zero, i.size, i.bytes)) = some (some (.complex .f64 0 0), 1, 16) := by kernel_rfl
theorem cells28 : Tryd.prog.cellsOf 28 = 1 := by kernel_rfl
theorem eq2 {x y x' y' z t z' t' : Nat} (w : World) (h1 : FloatKind.f64.format.order x x' = some .eq) (h2 : FloatKind.f64.format.order y y' = some .eq) (h3 : FloatKind.f64.format.order z z' = some .eq) (h4 : FloatKind.f64.format.order t t' = some .eq) :
    (binOp .eql 35 (.agg #[.complex .f64 x y, .complex .f64 z t]) (.agg #[.complex .f64 x' y', .complex .f64 z' t'])).run Tryd.prog w = .ok (.bool true) w := by
  obtain ⟨i0, hi, -, -, -⟩ := info_parts info28
  have p0 : ∀ (a b : Value) w, (part 28 #[a, b] 0).run Tryd.prog w = .ok a w := fun a b w => by kernel_rfl
  have p1 : ∀ (a b : Value) w, (part 28 #[a, b] 1).run Tryd.prog w = .ok b w := fun a b w => by kernel_rfl
  simp only [binOp]
  simp only [Op.equal, Op.maxDepth, Sem.run_bind, run_equalIn_array w 9999 _ _ Tryd.underlying35 hi, cells28, show List.range 2 = [0, 1] from rfl, Op.eqItems, Nat.mul_one, p0, p1, Result.andThen_ok, eqc 9998 x y x' y' w h1 h2, eqc 9998 z t z' t' w h3 h4, Bool.not_true, Bool.false_eq_true, if_false]
  simp
theorem eq4 {x y x' y' z t z' t' p q p' q' r s r' s' : Nat} (w : World) (h1 : FloatKind.f64.format.order x x' = some .eq) (h2 : FloatKind.f64.format.order y y' = some .eq) (h3 : FloatKind.f64.format.order z z' = some .eq) (h4 : FloatKind.f64.format.order t t' = some .eq)
    (h5 : FloatKind.f64.format.order p p' = some .eq) (h6 : FloatKind.f64.format.order q q' = some .eq) (h7 : FloatKind.f64.format.order r r' = some .eq) (h8 : FloatKind.f64.format.order s s' = some .eq) :
    (binOp .eql 37 (.agg #[.complex .f64 x y, .complex .f64 z t, .complex .f64 p q, .complex .f64 r s]) (.agg #[.complex .f64 x' y', .complex .f64 z' t', .complex .f64 p' q', .complex .f64 r' s'])).run Tryd.prog w = .ok (.bool true) w := by
  obtain ⟨i0, hi, -, -, -⟩ := info_parts info28
  have p0 : ∀ (a b c d : Value) w, (part 28 #[a, b, c, d] 0).run Tryd.prog w = .ok a w := fun a b c d w => by kernel_rfl
  have p1 : ∀ (a b c d : Value) w, (part 28 #[a, b, c, d] 1).run Tryd.prog w = .ok b w := fun a b c d w => by kernel_rfl
  have p2 : ∀ (a b c d : Value) w, (part 28 #[a, b, c, d] 2).run Tryd.prog w = .ok c w := fun a b c d w => by kernel_rfl
  have p3 : ∀ (a b c d : Value) w, (part 28 #[a, b, c, d] 3).run Tryd.prog w = .ok d w := fun a b c d w => by kernel_rfl
  simp only [binOp]
  simp only [Op.equal, Op.maxDepth, Sem.run_bind, run_equalIn_array w 9999 _ _ Tryd.underlying37 hi, cells28, show List.range 4 = [0, 1, 2, 3] from rfl, Op.eqItems, Nat.mul_one, p0, p1, p2, p3, Result.andThen_ok, eqc 9998 x y x' y' w h1 h2, eqc 9998 z t z' t' w h3 h4, eqc 9998 p q p' q' w h5 h6, eqc 9998 r s r' s' w h7 h8, Bool.not_true, Bool.false_eq_true, if_false]
  simp

/-! ### the second half: two and four equal whole numbers -/
def wh (n : Int) : Int := n.tmod 1099511627777
theorem wh_bd (n : Int) : -1099511627776 ≤ wh n ∧ wh n ≤ 1099511627776 := by
  unfold wh
  have h1 := Int.natAbs_tmod n 1099511627777
  have h2 : n.natAbs % (1099511627777 : Int).natAbs < 1099511627777 := Nat.mod_lt _ (by decide)
  omega
theorem whole_wh (n : Int) (w : World) : Calls Tryd.prog 8 #[.int .i64 n, .int .i64 1099511627776] w fun e w' => e = .returned (.int .i64 (wh n)) ∧ w' = w :=
  whole_any n 1099511627776 w (by omega) (by omega)

theorem mul_fb {a b : Int} (hb0 : 0 < b) (ha : a.natAbs < 2 ^ 53) (hb : b.natAbs < 2 ^ 53) (hs : (a * b).natAbs < 2 ^ 53) : floatBits .mul .f64 (fb a) (fb b) = some (fb (a * b)) := by
  obtain ⟨i, _, _, hr, hi0⟩ := read_fb a ha
  obtain ⟨j, _, _, hr', _⟩ := read_fb b hb
  show ((Ieee.double.read (fb a)).product (Ieee.double.read (fb b))).map Ieee.double.write = _
  rw [hr, hr']
  simp only [Ieee.Datum.product, Option.map_some, Option.some.injEq]
  have hbn : decide (b < 0) = false := by simp; omega
  rw [hbn, Bool.xor_false]
  by_cases h0 : a = 0
  · subst h0
    simp [Ieee.Format.write, Ieee.Format.nearest]
    decide
  · have hab : a * b ≠ 0 := Int.mul_ne_zero h0 (by omega)
    have e1 : a.natAbs * 2 ^ i * (b.natAbs * 2 ^ j) = (a * b).natAbs * 2 ^ (i + j) := by
      rw [Int.natAbs_mul, Nat.pow_add, Nat.mul_mul_mul_comm]
    have e2 : -(i : Int) + -(j : Int) = -((i + j : Nat) : Int) := by omega
    have e3 : decide (a < 0) = decide (a * b < 0) := by
      by_cases hn : a < 0
      · simp [hn, Int.mul_neg_of_neg_of_pos hn hb0]
      · have : 0 ≤ a * b := Int.mul_nonneg (by omega) (by omega)
        simp [hn, this]
    rw [e1, e2, e3]
    show Ieee.double.nearest _ _ _ = _
    rw [nearest_exact _ _ _ (by omega) hs, fb_pos _ hab hs]

theorem fb2 : fb 2 = 4611686018427387904 := by decide +kernel
theorem fb4 : fb 4 = 4616189618054758400 := by decide +kernel

theorem times2_any {a b f x y : Nat} (w : World) (h1 : floatBits .mul .f64 a f = some x) (h2 : floatBits .mul .f64 b f = some y) :
    Calls Tryd.prog 11 #[.complex .f64 a b, .float .f64 f] w fun e w' => e = .returned (.complex .f64 x y) ∧ w' = w := by
  have r1 := fun w : World => run_float_arith (P := Tryd.prog) w .mul 26 .f64 a f x h1
  have r2 := fun w : World => run_float_arith (P := Tryd.prog) w .mul 26 .f64 b f y h2
  clear h1 h2
  go_enter Tryd.func11, Tryd.ntmps11
  go_wp2
  go_ret
  exact ⟨rfl, rfl⟩
theorem twice (p q : Int) (w : World) (hp : -1099511627776 ≤ p ∧ p ≤ 1099511627776) (hq : -1099511627776 ≤ q ∧ q ≤ 1099511627776) :
    Calls Tryd.prog 11 #[.complex .f64 (fb p) (fb q), .float .f64 4611686018427387904] w fun e w' => e = .returned (.complex .f64 (fb (p * 2)) (fb (q * 2))) ∧ w' = w :=
  times2_any w (by rw [← fb2]; exact mul_fb (by omega) (by omega) (by omega) (by omega)) (by rw [← fb2]; exact mul_fb (by omega) (by omega) (by omega) (by omega))
theorem fourfold (p q : Int) (w : World) (hp : -1099511627776 ≤ p ∧ p ≤ 1099511627776) (hq : -1099511627776 ≤ q ∧ q ≤ 1099511627776) :
    Calls Tryd.prog 11 #[.complex .f64 (fb p) (fb q), .float .f64 4616189618054758400] w fun e w' => e = .returned (.complex .f64 (fb (p * 4)) (fb (q * 4))) ∧ w' = w :=
  times2_any w (by rw [← fb4]; exact mul_fb (by omega) (by omega) (by omega) (by omega)) (by rw [← fb4]; exact mul_fb (by omega) (by omega) (by omega) (by omega))

theorem two_same (p q : Int) (w : World) (hp : -1099511627776 ≤ p ∧ p ≤ 1099511627776) (hq : -1099511627776 ≤ q ∧ q ≤ 1099511627776) :
    Calls Tryd.prog 9 #[.agg #[.complex .f64 (fb p) (fb q), .complex .f64 (fb p) (fb q)]] w fun e w' => e = .returned (.agg #[.complex .f64 (fb (p * 2)) (fb (q * 2)), .complex .f64 0 0]) ∧ Below w.heap.size w w' := by
  have a1 : floatBits .add .f64 (fb p) (fb p) = some (fb (p * 2)) := by rw [show p * 2 = p + p by omega]; exact add_fb (Is.mk _) (by omega) (by omega) (by omega)
  have a2 : floatBits .add .f64 (fb q) (fb q) = some (fb (q * 2)) := by rw [show q * 2 = q + q by omega]; exact add_fb (Is.mk _) (by omega) (by omega) (by omega)
  have a3 : floatBits .sub .f64 (fb p) (fb p) = some 0 := by rw [← fb_zero, sub_fb (by omega) (by omega) (by omega), Int.sub_self]
  have a4 : floatBits .sub .f64 (fb q) (fb q) = some 0 := by rw [← fb_zero, sub_fb (by omega) (by omega) (by omega), Int.sub_self]
  exact two_any w a1 a2 a3 a4

theorem four_same (p q : Int) (w : World) (hp : -1099511627776 ≤ p ∧ p ≤ 1099511627776) (hq : -1099511627776 ≤ q ∧ q ≤ 1099511627776) :
    Calls Tryd.prog 10 #[.agg #[.complex .f64 (fb p) (fb q), .complex .f64 (fb p) (fb q), .complex .f64 (fb p) (fb q), .complex .f64 (fb p) (fb q)]] w fun e w' => e = .returned (.agg #[.complex .f64 (fb (p * 4)) (fb (q * 4)), .complex .f64 0 0, .complex .f64 0 0, .complex .f64 0 0]) ∧ Below w.heap.size w w' := by
  have a1 : floatBits .add .f64 (fb p) (fb p) = some (fb (p * 2)) := by rw [show p * 2 = p + p by omega]; exact add_fb (Is.mk _) (by omega) (by omega) (by omega)
  have a2 : floatBits .add .f64 (fb q) (fb q) = some (fb (q * 2)) := by rw [show q * 2 = q + q by omega]; exact add_fb (Is.mk _) (by omega) (by omega) (by omega)
  have a3 : floatBits .sub .f64 (fb p) (fb p) = some 0 := by rw [← fb_zero, sub_fb (by omega) (by omega) (by omega), Int.sub_self]
  have a4 : floatBits .sub .f64 (fb q) (fb q) = some 0 := by rw [← fb_zero, sub_fb (by omega) (by omega) (by omega), Int.sub_self]
  have b1 : floatBits .add .f64 (fb (p * 2)) (fb (p * 2)) = some (fb (p * 4)) := by rw [show p * 4 = p * 2 + p * 2 by omega]; exact add_fb (Is.mk _) (by omega) (by omega) (by omega)
  have b2 : floatBits .add .f64 (fb (q * 2)) (fb (q * 2)) = some (fb (q * 4)) := by rw [show q * 4 = q * 2 + q * 2 by omega]; exact add_fb (Is.mk _) (by omega) (by omega) (by omega)
  have b3 : floatBits .sub .f64 (fb (p * 2)) (fb (p * 2)) = some 0 := by rw [← fb_zero, sub_fb (by omega) (by omega) (by omega), Int.sub_self]
  have b4 : floatBits .sub .f64 (fb (q * 2)) (fb (q * 2)) = some 0 := by rw [← fb_zero, sub_fb (by omega) (by omega) (by omega), Int.sub_self]
  exact four_any w a1 a2 a3 a4 a1 a2 a3 a4 b1 b2 (by decide +kernel) (by decide +kernel) b3 b4 (by decide +kernel) (by decide +kernel)

/-! ### Copysign(0, -1) -/
theorem tobits (n : Nat) (w : World) : (callFunc 16 #[.float .f64 n]).run Tryd.prog w = .ok (.value (.int .u64 n)) w := by kernel_rfl
theorem an0 : bits .andNot .u64 0 9223372036854775808 = 0 := by decide +kernel
theorem an1 : bits .and .u64 13830554455654793216 9223372036854775808 = 9223372036854775808 := by decide +kernel
theorem an2 : bits .or .u64 0 9223372036854775808 = 9223372036854775808 := by decide +kernel
theorem copysign_neg (w : World) : Calls Tryd.prog 5 #[.float .f64 0, .float .f64 13830554455654793216] w fun e w' => e = .returned (.float .f64 9223372036854775808) ∧ w' = w := by
  have t0 : ∀ w, (callFunc 16 #[.float .f64 0]).run Tryd.prog w = .ok (.value (.int .u64 0)) w := tobits 0
  have t1 : ∀ w, (callFunc 16 #[.float .f64 13830554455654793216]).run Tryd.prog w = .ok (.value (.int .u64 13830554455654793216)) w := tobits 13830554455654793216
  have t2 : ∀ w, (callFunc 14 #[.int .u64 9223372036854775808]).run Tryd.prog w = .ok (.value (.float .f64 9223372036854775808)) w := frombits 9223372036854775808
  have c0 := an0
  have c1 := an1
  have c2 := an2
  go_enter Tryd.func5, Tryd.ntmps5
  go_wp2
  go_ret
  exact ⟨rfl, rfl⟩
end Go.Proofs.YtfecfdopdkgceaaDoor
