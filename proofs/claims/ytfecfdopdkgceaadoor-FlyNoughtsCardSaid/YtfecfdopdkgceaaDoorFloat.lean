/- Whole numbers of at most 2^53 as floats: sum, difference, product and comparison are exact, the sign of a nought aside; no program here. -/
import Derived.Laws.FloatArith
namespace Go.Proofs.YtfecfdopdkgceaaDoor.Fl
open Go Ieee

/-- float64(n). -/
abbrev fb (n : Int) : Nat := floatOfInt .f64 n

theorem cut_exact (neg : Bool) (k d : Nat) (hk : 0 < k) : Toward.even.cut neg (k * 2 ^ d) d = k := by
  unfold Toward.cut
  have hlog : d ≤ (k * 2 ^ d).log2 := by
    rw [Nat.le_log2 (by have := Nat.two_pow_pos d; exact Nat.ne_of_gt (Nat.mul_pos hk this))]
    exact Nat.le_mul_of_pos_left _ hk
  have hm : min d ((k * 2 ^ d).log2 + 2) = d := by omega
  simp only [hm, Nat.shiftLeft_eq, Nat.one_mul]
  have h2 : 0 < 2 ^ d := Nat.two_pow_pos d
  rw [Nat.mul_div_cancel _ h2, Nat.mul_mod_left]
  have : decide (2 ^ d < 2 * 0) = false := by simp
  simp only [this, Bool.false_or]
  have h3 : (2 ^ d == 2 * 0) = false := by simp
  simp [h3]

theorem log2_mul_pow (m e : Nat) (hm : 0 < m) : (m * 2 ^ e).log2 = m.log2 + e := by
  induction e with
  | zero => simp
  | succ e ih =>
    have h : m * 2 ^ (e + 1) = 2 * (m * 2 ^ e) := by rw [Nat.pow_succ]; rw [Nat.mul_comm (2 ^ e) 2, Nat.mul_left_comm]
    rw [h, Nat.log2_two_mul (Nat.ne_of_gt (Nat.mul_pos hm (Nat.two_pow_pos e))), ih]
    omega

theorem log2_lt53 (m : Nat) (hm : 0 < m) (h : m < 2 ^ 53) : m.log2 ≤ 52 := by
  have := (Nat.log2_lt (Nat.ne_of_gt hm)).2 h
  omega

/-- The word of m (0 < m < 2^53) with a sign. -/
def wd (s : Bool) (m : Nat) : Nat := double.word s ((m.log2 + 1022) * 2 ^ 52 + m * 2 ^ (52 - m.log2))

theorem nearest_exact (s : Bool) (m e : Nat) (hm : 0 < m) (h53 : m < 2 ^ 53) :
    double.nearest s (m * 2 ^ e) (-(e : Int)) = wd s m := by
  have hl := log2_lt53 m hm h53
  unfold Format.nearest
  have h0 : ¬ m * 2 ^ e = 0 := Nat.ne_of_gt (Nat.mul_pos hm (Nat.two_pow_pos e))
  rw [if_neg h0]
  have hlp : double.leastPlace = -1074 := by decide
  have hfb : (double.fractionBits : Int) = 52 := by decide
  have hbi : double.binade = 2 ^ 52 := rfl
  have hir : double.infRung = 2047 * 2 ^ 52 := rfl
  have hmax : max (-(e : Int) + ((m * 2 ^ e).log2 : Nat) - (double.fractionBits : Int)) (-1074) = (m.log2 : Int) - 52 := by
    rw [log2_mul_pow m e hm, hfb]; omega
  simp only [hlp, hmax, hbi, hir]
  have hkept : Toward.even.cut s ((m * 2 ^ e) <<< (-(e : Int) - ((m.log2 : Int) - 52)).toNat) ((m.log2 : Int) - 52 - -(e : Int)).toNat = m * 2 ^ (52 - m.log2) := by
    rw [Nat.shiftLeft_eq]
    by_cases hle : e ≤ 52 - m.log2
    · have e1 : (-(e : Int) - ((m.log2 : Int) - 52)).toNat = 52 - m.log2 - e := by omega
      have e2 : ((m.log2 : Int) - 52 - -(e : Int)).toNat = 0 := by omega
      rw [e1, e2, Nat.mul_assoc, ← Nat.pow_add, show e + (52 - m.log2 - e) = 52 - m.log2 by omega]
      have := cut_exact s (m * 2 ^ (52 - m.log2)) 0 (Nat.mul_pos hm (Nat.two_pow_pos _))
      simpa using this
    · have e1 : (-(e : Int) - ((m.log2 : Int) - 52)).toNat = 0 := by omega
      have e2 : ((m.log2 : Int) - 52 - -(e : Int)).toNat = e - (52 - m.log2) := by omega
      rw [e1, e2, Nat.pow_zero, Nat.mul_one]
      have := cut_exact s (m * 2 ^ (52 - m.log2)) (e - (52 - m.log2)) (Nat.mul_pos hm (Nat.two_pow_pos _))
      rw [Nat.mul_assoc, ← Nat.pow_add, show 52 - m.log2 + (e - (52 - m.log2)) = e by omega] at this
      exact this
  rw [hkept]
  have e3 : ((m.log2 : Int) - 52 - -1074).toNat = m.log2 + 1022 := by omega
  rw [e3]
  unfold wd
  have hub : m * 2 ^ (52 - m.log2) < 2 ^ 53 := by
    have h1 : m < 2 ^ (m.log2 + 1) := Nat.lt_log2_self
    have : m * 2 ^ (52 - m.log2) < 2 ^ (m.log2 + 1) * 2 ^ (52 - m.log2) := Nat.mul_lt_mul_of_pos_right h1 (Nat.two_pow_pos _)
    rw [← Nat.pow_add, show m.log2 + 1 + (52 - m.log2) = 53 by omega] at this
    exact this
  rw [Nat.min_eq_left (by omega)]

theorem read_wd (s : Bool) (m : Nat) (hm : 0 < m) (h53 : m < 2 ^ 53) :
    double.read (wd s m) = .number s (m * 2 ^ (52 - m.log2)) (-((52 - m.log2 : Nat) : Int)) := by
  have hl := log2_lt53 m hm h53
  have hub : m * 2 ^ (52 - m.log2) < 2 ^ 53 := by
    have h1 : m < 2 ^ (m.log2 + 1) := Nat.lt_log2_self
    have : m * 2 ^ (52 - m.log2) < 2 ^ (m.log2 + 1) * 2 ^ (52 - m.log2) := Nat.mul_lt_mul_of_pos_right h1 (Nat.two_pow_pos _)
    rw [← Nat.pow_add, show m.log2 + 1 + (52 - m.log2) = 53 by omega] at this
    exact this
  have hlb : 2 ^ 52 ≤ m * 2 ^ (52 - m.log2) := by
    have h1 : 2 ^ m.log2 ≤ m := Nat.log2_self_le (Nat.ne_of_gt hm)
    have : 2 ^ m.log2 * 2 ^ (52 - m.log2) ≤ m * 2 ^ (52 - m.log2) := Nat.mul_le_mul_right _ h1
    rw [← Nat.pow_add, show m.log2 + (52 - m.log2) = 52 by omega] at this
    exact this
  have hsw : double.signWeight = 2 ^ 63 := rfl
  have hbi : double.binade = 2 ^ 52 := rfl
  have hir : double.infRung = 2047 * 2 ^ 52 := rfl
  have hlp : double.leastPlace = -1074 := by decide
  have hwd : wd s m = if s = true then 2 ^ 63 + ((m.log2 + 1022) * 2 ^ 52 + m * 2 ^ (52 - m.log2)) else (m.log2 + 1022) * 2 ^ 52 + m * 2 ^ (52 - m.log2) := rfl
  generalize m * 2 ^ (52 - m.log2) = M at *
  generalize m.log2 = L at *
  have hneg : (wd s m / 2 ^ 63 % 2 == 1) = s := by
    rw [hwd]
    cases s
    · simp only [Bool.false_eq_true, if_false]; rw [Nat.div_eq_of_lt (by omega)]; rfl
    · simp only [if_true]; rw [show (2 ^ 63 + ((L + 1022) * 2 ^ 52 + M)) / 2 ^ 63 = 1 by omega]; rfl
  have hmod : wd s m % 2 ^ 63 = (L + 1022) * 2 ^ 52 + M := by
    rw [hwd]
    cases s
    · simp only [Bool.false_eq_true, if_false]; omega
    · simp only [if_true]; omega
  unfold Format.read
  simp only [hsw, hneg, hmod, hbi, hir, hlp]
  rw [if_neg (by omega), if_pos (by omega)]
  congr 1
  · omega
  · omega

theorem fb_pos (n : Int) (h0 : n ≠ 0) (h : n.natAbs < 2 ^ 53) : fb n = wd (n < 0) n.natAbs := by
  have := nearest_exact (decide (n < 0)) n.natAbs 0 (by omega) h
  rw [Nat.pow_zero, Nat.mul_one] at this
  exact this

theorem fb_zero : fb 0 = 0 := by decide

/-- What a float stands for: a whole number below 2^53, a nought of either sign. -/
def Is (x : Nat) (n : Int) : Prop := x = fb n ∨ (n = 0 ∧ x = 2 ^ 63)

theorem Is.mk (n : Int) : Is (fb n) n := .inl rfl

theorem read_fb (n : Int) (h : n.natAbs < 2 ^ 53) : ∃ e : Nat, e ≤ 1074 ∧ (n ≠ 0 → e ≤ 52) ∧ double.read (fb n) = .number (n < 0) (n.natAbs * 2 ^ e) (-(e : Int)) ∧ (n = 0 → e = 1074) := by
  by_cases h0 : n = 0
  · subst h0
    exact ⟨1074, by omega, fun h => absurd rfl h, by decide +kernel, fun _ => rfl⟩
  · refine ⟨52 - n.natAbs.log2, by omega, fun _ => by omega, ?_, fun h => absurd h h0⟩
    rw [fb_pos n h0 h, read_wd _ _ (by omega) h]

theorem read_is {x : Nat} {n : Int} (hx : Is x n) (h : n.natAbs < 2 ^ 53) : ∃ (s : Bool) (e : Nat), e ≤ 1074 ∧ (n ≠ 0 → e ≤ 52) ∧ double.read x = .number s (n.natAbs * 2 ^ e) (-(e : Int)) ∧ (n = 0 → e = 1074) ∧ (n ≠ 0 → s = decide (n < 0)) := by
  rcases hx with rfl | ⟨rfl, rfl⟩
  · obtain ⟨e, h1, h2, h3, h4⟩ := read_fb n h
    exact ⟨_, e, h1, h2, h3, h4, fun _ => rfl⟩
  · exact ⟨true, 1074, by omega, fun h => absurd rfl h, by decide +kernel, fun _ => rfl, fun h => absurd rfl h⟩

theorem signed_of (n : Int) (s : Bool) (e u : Nat) (hs : n ≠ 0 → s = decide (n < 0)) : signed s (n.natAbs * 2 ^ e) u = n * 2 ^ (e + u) := by
  unfold signed
  rw [Nat.shiftLeft_eq, Nat.mul_assoc, ← Nat.pow_add]
  by_cases h0 : n = 0
  · subst h0; simp
  · rw [hs h0]
    by_cases hn : n < 0
    · simp only [hn, decide_true, if_true]
      push_cast
      rw [show ((n.natAbs : Nat) : Int) = -n by omega, Int.neg_mul, Int.neg_neg]
    · simp only [hn, decide_false, Bool.false_eq_true, if_false]
      push_cast
      rw [show ((n.natAbs : Nat) : Int) = n by omega]

/-- The sum of two data that stand for a and b, written. -/
theorem write_sum {s t : Bool} {i j : Nat} {a b : Int} (hs : a ≠ 0 → s = decide (a < 0)) (ht : b ≠ 0 → t = decide (b < 0))
    (hsum : (a + b).natAbs < 2 ^ 53)
    (hst : a = 0 → b = 0 → (s && t) = false) :
    ((Datum.number s (a.natAbs * 2 ^ i) (-(i : Int))).sum (.number t (b.natAbs * 2 ^ j) (-(j : Int)))).map double.write = some (fb (a + b)) := by
  simp only [Datum.sum, Option.map_some, Option.some.injEq]
  obtain ⟨M, hM, hMi, hMj⟩ : ∃ M : Nat, min (-(i : Int)) (-(j : Int)) = -(M : Int) ∧ i ≤ M ∧ j ≤ M := ⟨max i j, by omega, by omega, by omega⟩
  have e1 : (-(i : Int) - -(M : Int)).toNat = M - i := by omega
  have e2 : (-(j : Int) - -(M : Int)).toNat = M - j := by omega
  rw [hM, e1, e2, signed_of a s i _ hs, signed_of b t j _ ht, show i + (M - i) = M by omega, show j + (M - j) = M by omega, ← Int.add_mul]
  by_cases h0 : a + b = 0
  · have : (a + b) * 2 ^ M = 0 := by rw [h0]; simp
    rw [if_pos this, this, h0]
    simp only [Int.natAbs_zero, Format.write, Format.nearest, if_true]
    have : (s && t) = false := by
      by_cases ha : a = 0
      · exact hst ha (by omega)
      · rw [hs ha, ht (by omega)]
        by_cases hn : a < 0
        · simp; omega
        · simp; omega
    rw [this]; decide
  · have hp : (0 : Int) < 2 ^ M := Int.pow_pos (by decide)
    have hne : ¬ (a + b) * 2 ^ M = 0 := fun h => (Int.mul_eq_zero.1 h).elim h0 (by omega)
    rw [if_neg hne]
    have hab : ((a + b) * 2 ^ M).natAbs = (a + b).natAbs * 2 ^ M := by rw [Int.natAbs_mul, Int.natAbs_pow]; rfl
    have hneg : decide ((a + b) * 2 ^ M < 0) = decide (a + b < 0) := by
      by_cases hn : a + b < 0
      · simp [hn, Int.mul_neg_of_neg_of_pos hn hp]
      · have : 0 ≤ (a + b) * 2 ^ M := Int.mul_nonneg (by omega) (by omega)
        simp [hn, this]
    rw [hab, hneg]
    show double.nearest _ _ _ = _
    rw [nearest_exact _ _ M (by omega) hsum, fb_pos _ h0 hsum]

theorem add_fb {a b : Int} {y : Nat} (hy : Is y b) (ha : a.natAbs < 2 ^ 53) (hb : b.natAbs < 2 ^ 53) (hs : (a + b).natAbs < 2 ^ 53) :
    floatBits .add .f64 (fb a) y = some (fb (a + b)) := by
  obtain ⟨i, _, hi, hr, hi0⟩ := read_fb a ha
  obtain ⟨t, j, _, hj, hr', hj0, ht⟩ := read_is hy hb
  show ((double.read (fb a)).sum (double.read y)).map double.write = _
  rw [hr, hr']
  exact write_sum (fun _ => rfl) ht hs (fun h _ => by simp [h])

theorem sub_fb {a b : Int} (ha : a.natAbs < 2 ^ 53) (hb : b.natAbs < 2 ^ 53) (hs : (a - b).natAbs < 2 ^ 53) :
    floatBits .sub .f64 (fb a) (fb b) = some (fb (a - b)) := by
  obtain ⟨i, _, hi, hr, hi0⟩ := read_fb a ha
  obtain ⟨j, _, hj, hr', hj0⟩ := read_fb b hb
  show ((double.read (fb a)).sum (double.read (fb b)).opposite).map double.write = _
  rw [hr, hr']
  have hn : b.natAbs = (-b).natAbs := by omega
  simp only [Datum.opposite]
  rw [hn]
  exact write_sum (b := -b) (fun _ => rfl) (fun h => by by_cases hb : b < 0 <;> simp [hb] <;> omega) (by omega) (fun h _ => by simp [h])

theorem xor_top (r : Nat) (h : r < 2 ^ 63) : r ^^^ 2 ^ 63 = 2 ^ 63 + r ∧ (2 ^ 63 + r) ^^^ 2 ^ 63 = r := by
  have h1 : 2 ^ 63 + r = 2 ^ 63 ^^^ r := by
    apply Nat.eq_of_testBit_eq
    intro i
    rw [Nat.testBit_xor, Nat.testBit_two_pow]
    by_cases hi : i = 63
    · subst hi
      rw [Nat.testBit_two_pow_add_eq, Nat.testBit_lt_two_pow h]; rfl
    · by_cases hl : i < 63
      · rw [Nat.testBit_two_pow_add_gt hl]; simp [Ne.symm hi]
      · rw [Nat.testBit_lt_two_pow (by have : 2 ^ 64 ≤ 2 ^ i := Nat.pow_le_pow_right (by omega) (by omega); omega),
          Nat.testBit_lt_two_pow (by have : 2 ^ 64 ≤ 2 ^ i := Nat.pow_le_pow_right (by omega) (by omega); omega)]
        simp [Ne.symm hi]
  rw [h1]
  refine ⟨Nat.xor_comm _ _, ?_⟩
  rw [Nat.xor_comm (2 ^ 63) r, Nat.xor_assoc, Nat.xor_self, Nat.xor_zero]

theorem neg_is {x : Nat} {n : Int} (hx : Is x n) (h : n.natAbs < 2 ^ 53) : Is (Op.negFloat .f64 x) (-n) := by
  show Is (x ^^^ 2 ^ 63) (-n)
  rcases hx with rfl | ⟨rfl, rfl⟩
  · by_cases h0 : n = 0
    · subst h0; right; exact ⟨rfl, by decide +kernel⟩
    · left
      rw [fb_pos n h0 h, fb_pos (-n) (by omega) (by omega), show (-n).natAbs = n.natAbs by omega]
      have hrung : (n.natAbs.log2 + 1022) * 2 ^ 52 + n.natAbs * 2 ^ (52 - n.natAbs.log2) < 2 ^ 63 := by
        have hl := log2_lt53 n.natAbs (by omega) h
        have hub : n.natAbs * 2 ^ (52 - n.natAbs.log2) < 2 ^ 53 := by
          have h1 : n.natAbs < 2 ^ (n.natAbs.log2 + 1) := Nat.lt_log2_self
          have : n.natAbs * 2 ^ (52 - n.natAbs.log2) < 2 ^ (n.natAbs.log2 + 1) * 2 ^ (52 - n.natAbs.log2) := Nat.mul_lt_mul_of_pos_right h1 (Nat.two_pow_pos _)
          rw [← Nat.pow_add, show n.natAbs.log2 + 1 + (52 - n.natAbs.log2) = 53 by omega] at this
          exact this
        omega
      have := xor_top _ hrung
      unfold wd Format.word
      rw [show double.signWeight = 2 ^ 63 from rfl]
      by_cases hn : n < 0
      · have hm : ¬ -n < 0 := by omega
        simp only [hn, hm, decide_true, decide_false, if_true, Bool.false_eq_true, if_false]
        exact this.2
      · have hm : -n < 0 := by omega
        simp only [hn, hm, decide_true, decide_false, if_true, Bool.false_eq_true, if_false]
        exact this.1
  · left; decide +kernel

theorem order_is {x y : Nat} {a : Int} (hx : Is x a) (hy : Is y a) (h : a.natAbs < 2 ^ 53) : FloatKind.f64.format.order x y = some .eq := by
  obtain ⟨s, i, hi1, hi, hr, hi0, hs⟩ := read_is hx h
  obtain ⟨t, j, hj1, hj, hr', hj0, ht⟩ := read_is hy h
  show (double.read x).order (double.read y) = _
  rw [hr, hr']
  simp only [Datum.order, Option.some.injEq]
  obtain ⟨M, hM, hMi, hMj⟩ : ∃ M : Nat, min (-(i : Int)) (-(j : Int)) = -(M : Int) ∧ i ≤ M ∧ j ≤ M := ⟨max i j, by omega, by omega, by omega⟩
  have e1 : (-(i : Int) - -(M : Int)).toNat = M - i := by omega
  have e2 : (-(j : Int) - -(M : Int)).toNat = M - j := by omega
  rw [hM, e1, e2, signed_of a s i _ hs, signed_of a t j _ ht, show i + (M - i) = M by omega, show j + (M - j) = M by omega]
  exact Int.compare_eq_eq.2 rfl
end Go.Proofs.YtfecfdopdkgceaaDoor.Fl
