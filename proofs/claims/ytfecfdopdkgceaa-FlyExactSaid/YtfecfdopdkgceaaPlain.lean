/- The plain law of FlyExact: what the law's loops sum up is what the butterfly of four gives; no program here. -/
import Derived.Test.YtfecfdopdkgceaaFloat
namespace Go.Proofs.Ytfecfdopdkgceaa
open Go Fl

/-- n modulo 2^50 + 1, as Go has it. -/
def wh (n : Int) : Int := n.tmod 1125899906842625
theorem wh_bd (n : Int) : -1125899906842624 ≤ wh n ∧ wh n ≤ 1125899906842624 := by
  unfold wh
  have h1 := Int.natAbs_tmod n 1125899906842625
  have h2 : n.natAbs % (1125899906842625 : Int).natAbs < 1125899906842625 := Nat.mod_lt _ (by decide)
  omega

/-- Part j of the real and the imaginary parts. -/
def R (ws : Nat → Int) (j : Nat) : Int := wh (ws (2 * j))
def J (ws : Nat → Int) (j : Nat) : Int := wh (ws (2 * j + 1))
theorem R_bd (ws : Nat → Int) (j : Nat) : -1125899906842624 ≤ R ws j ∧ R ws j ≤ 1125899906842624 := wh_bd _
theorem J_bd (ws : Nat → Int) (j : Nat) : -1125899906842624 ≤ J ws j ∧ J ws j ≤ 1125899906842624 := wh_bd _

/-- (c, d) turned q times. -/
def rot : Nat → Int → Int → Int × Int
  | 0, c, d => (c, d)
  | q + 1, c, d => ((rot q c d).2, -(rot q c d).1)
def C (ws : Nat → Int) (q j : Nat) : Int := (rot q (R ws j) (J ws j)).1
def D (ws : Nat → Int) (q j : Nat) : Int := (rot q (R ws j) (J ws j)).2
theorem C_zero (ws : Nat → Int) (j : Nat) : C ws 0 j = R ws j := rfl
theorem D_zero (ws : Nat → Int) (j : Nat) : D ws 0 j = J ws j := rfl
theorem C_succ (ws : Nat → Int) (q j : Nat) : C ws (q + 1) j = D ws q j := rfl
theorem D_succ (ws : Nat → Int) (q j : Nat) : D ws (q + 1) j = -C ws q j := rfl
theorem CD_bd (ws : Nat → Int) (q j : Nat) : (-1125899906842624 ≤ C ws q j ∧ C ws q j ≤ 1125899906842624) ∧ (-1125899906842624 ≤ D ws q j ∧ D ws q j ≤ 1125899906842624) := by
  induction q with
  | zero => exact ⟨R_bd ws j, J_bd ws j⟩
  | succ q ih => rw [C_succ, D_succ]; omega

/-- The sums over the first j elements, for answer k. -/
def SA (ws : Nat → Int) (k : Nat) : Nat → Int
  | 0 => 0
  | j + 1 => SA ws k j + C ws (j * k % 4) j
def SB (ws : Nat → Int) (k : Nat) : Nat → Int
  | 0 => 0
  | j + 1 => SB ws k j + D ws (j * k % 4) j
theorem SA_zero (ws : Nat → Int) (k : Nat) : SA ws k 0 = 0 := rfl
theorem SB_zero (ws : Nat → Int) (k : Nat) : SB ws k 0 = 0 := rfl
theorem SA_succ (ws : Nat → Int) (k j : Nat) : SA ws k (j + 1) = SA ws k j + C ws (j * k % 4) j := rfl
theorem SB_succ (ws : Nat → Int) (k j : Nat) : SB ws k (j + 1) = SB ws k j + D ws (j * k % 4) j := rfl
theorem S_bd (ws : Nat → Int) (k j : Nat) : (-(1125899906842624 * j) ≤ SA ws k j ∧ SA ws k j ≤ 1125899906842624 * j) ∧ (-(1125899906842624 * j) ≤ SB ws k j ∧ SB ws k j ≤ 1125899906842624 * j) := by
  induction j with
  | zero => simp [SA_zero, SB_zero]
  | succ j ih =>
    have := CD_bd ws (j * k % 4) j
    rw [SA_succ, SB_succ]
    omega

theorem S0 (ws : Nat → Int) : SA ws 0 4 = R ws 0 + R ws 2 + (R ws 1 + R ws 3) ∧ SB ws 0 4 = J ws 0 + J ws 2 + (J ws 1 + J ws 3) := by
  simp only [SA, SB, C, D, rot]; omega
theorem S1 (ws : Nat → Int) : SA ws 1 4 = R ws 0 - R ws 2 + (J ws 1 - J ws 3) ∧ SB ws 1 4 = J ws 0 - J ws 2 + -(R ws 1 - R ws 3) := by
  simp only [SA, SB, C, D, rot]; omega
theorem S2 (ws : Nat → Int) : SA ws 2 4 = R ws 0 + R ws 2 - (R ws 1 + R ws 3) ∧ SB ws 2 4 = J ws 0 + J ws 2 - (J ws 1 + J ws 3) := by
  simp only [SA, SB, C, D, rot]; omega
theorem S3 (ws : Nat → Int) : SA ws 3 4 = R ws 0 - R ws 2 + -(J ws 1 - J ws 3) ∧ SB ws 3 4 = J ws 0 - J ws 2 + (R ws 1 - R ws 3) := by
  simp only [SA, SB, C, D, rot]; omega

/-- What stands at place j behind k rounds of the filling loop. -/
def fill (f : Nat → Int) (k j : Nat) : Int := if j < k then f j else 0
end Go.Proofs.Ytfecfdopdkgceaa
