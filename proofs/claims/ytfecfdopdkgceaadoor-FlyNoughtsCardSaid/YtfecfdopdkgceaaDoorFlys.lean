/- Fly of noughts answers noughts, in a new list; no error. -/
import Derived.Test.YtfecfdopdkgceaaDoorNought
namespace Go.Proofs.YtfecfdopdkgceaaDoor
open Go.RowKit Fl

/-- What Fly answers to n noughts: a new list of n noughts, and no error. -/
def OutF (n : Nat) (w : World) (e : Ending) (w' : World) : Prop :=
  ∃ h, e = .returned (.tuple #[.slice (some ⟨h, 0, none⟩) n n, .nilIface]) ∧ Below w.heap.size w w' ∧ w.heap.size ≤ h ∧ h < w'.heap.size ∧
    ∀ j, j < n → ∃ a b, N a ∧ N b ∧ w'.cell? ⟨h, j, none⟩ = some (.complex .f64 a b)

theorem at2 (a : Option Addr) (n c : Nat) (w : World) (h : 2 ≤ n) : (Instr.arrayAt 35 (.slice a n c)).run Tryd.prog w = .ok (.pointer a) w := run_arrayAt w 35 28 2 a n c Tryd.underlying35 h
theorem fly_2 (g cap : Nat) (w : World) (hc : ∀ j, j < 2 → ∃ a b, N a ∧ N b ∧ w.cell? ⟨g, j, none⟩ = some (.complex .f64 a b)) :
    Calls Tryd.prog 6 #[.slice (some ⟨g, 0, none⟩) 2 cap] w (OutF 2 w) := by
  obtain ⟨a0, b0, h0, k0, c0⟩ := hc 0 (by omega)
  obtain ⟨a1, b1, h1, k1, c1⟩ := hc 1 (by omega)
  clear hc
  have r := fun w => at2 (some ⟨g, 0, none⟩) 2 cap w (by omega)
  go_enter Tryd.func6, Tryd.ntmps6
  go_wp2_with fail
  refine (two_n _ h0 k0 h1 k1).mono ?_
  rintro e w1 ⟨p0, q0, p1, q1, rfl, m0, n0, m1, n1, hb⟩
  have HB := Lib.hid hb
  have hz := hb.size
  clear hb
  go_wp2_with fail
  go_ret2
  refine ⟨w1.heap.size, rfl, HB.out.alloc hz _, hz, by simp, ?_⟩
  intro j hj
  match j, hj with
  | 0, _ => exact ⟨p0, q0, m0, n0, by simp⟩
  | 1, _ => exact ⟨p1, q1, m1, n1, by simp⟩

theorem at3 (a : Option Addr) (n c : Nat) (w : World) (h : 3 ≤ n) : (Instr.arrayAt 41 (.slice a n c)).run Tryd.prog w = .ok (.pointer a) w := run_arrayAt w 41 28 3 a n c Tryd.underlying41 h
theorem fly_3 (g cap : Nat) (w : World) (hc : ∀ j, j < 3 → ∃ a b, N a ∧ N b ∧ w.cell? ⟨g, j, none⟩ = some (.complex .f64 a b)) :
    Calls Tryd.prog 6 #[.slice (some ⟨g, 0, none⟩) 3 cap] w (OutF 3 w) := by
  obtain ⟨a0, b0, h0, k0, c0⟩ := hc 0 (by omega)
  obtain ⟨a1, b1, h1, k1, c1⟩ := hc 1 (by omega)
  obtain ⟨a2, b2, h2, k2, c2⟩ := hc 2 (by omega)
  clear hc
  have r := fun w => at3 (some ⟨g, 0, none⟩) 3 cap w (by omega)
  go_enter Tryd.func6, Tryd.ntmps6
  go_wp2_with fail
  refine (three_n _ h0 k0 h1 k1 h2 k2).mono ?_
  rintro e w1 ⟨p0, q0, p1, q1, p2, q2, rfl, m0, n0, m1, n1, m2, n2, hb⟩
  have HB := Lib.hid hb
  have hz := hb.size
  clear hb
  go_wp2_with fail
  go_ret2
  refine ⟨w1.heap.size, rfl, HB.out.alloc hz _, hz, by simp, ?_⟩
  intro j hj
  match j, hj with
  | 0, _ => exact ⟨p0, q0, m0, n0, by simp⟩
  | 1, _ => exact ⟨p1, q1, m1, n1, by simp⟩
  | 2, _ => exact ⟨p2, q2, m2, n2, by simp⟩

theorem at4 (a : Option Addr) (n c : Nat) (w : World) (h : 4 ≤ n) : (Instr.arrayAt 37 (.slice a n c)).run Tryd.prog w = .ok (.pointer a) w := run_arrayAt w 37 28 4 a n c Tryd.underlying37 h
theorem fly_4 (g cap : Nat) (w : World) (hc : ∀ j, j < 4 → ∃ a b, N a ∧ N b ∧ w.cell? ⟨g, j, none⟩ = some (.complex .f64 a b)) :
    Calls Tryd.prog 6 #[.slice (some ⟨g, 0, none⟩) 4 cap] w (OutF 4 w) := by
  obtain ⟨a0, b0, h0, k0, c0⟩ := hc 0 (by omega)
  obtain ⟨a1, b1, h1, k1, c1⟩ := hc 1 (by omega)
  obtain ⟨a2, b2, h2, k2, c2⟩ := hc 2 (by omega)
  obtain ⟨a3, b3, h3, k3, c3⟩ := hc 3 (by omega)
  clear hc
  have r := fun w => at4 (some ⟨g, 0, none⟩) 4 cap w (by omega)
  go_enter Tryd.func6, Tryd.ntmps6
  go_wp2_with fail
  refine (four_n _ h0 k0 h1 k1 h2 k2 h3 k3).mono ?_
  rintro e w1 ⟨p0, q0, p1, q1, p2, q2, p3, q3, rfl, m0, n0, m1, n1, m2, n2, m3, n3, hb⟩
  have HB := Lib.hid hb
  have hz := hb.size
  clear hb
  go_wp2_with fail
  go_ret2
  refine ⟨w1.heap.size, rfl, HB.out.alloc hz _, hz, by simp, ?_⟩
  intro j hj
  match j, hj with
  | 0, _ => exact ⟨p0, q0, m0, n0, by simp⟩
  | 1, _ => exact ⟨p1, q1, m1, n1, by simp⟩
  | 2, _ => exact ⟨p2, q2, m2, n2, by simp⟩
  | 3, _ => exact ⟨p3, q3, m3, n3, by simp⟩

theorem at5 (a : Option Addr) (n c : Nat) (w : World) (h : 5 ≤ n) : (Instr.arrayAt 49 (.slice a n c)).run Tryd.prog w = .ok (.pointer a) w := run_arrayAt w 49 28 5 a n c Tryd.underlying49 h
theorem fly_5 (g cap : Nat) (w : World) (hc : ∀ j, j < 5 → ∃ a b, N a ∧ N b ∧ w.cell? ⟨g, j, none⟩ = some (.complex .f64 a b)) :
    Calls Tryd.prog 6 #[.slice (some ⟨g, 0, none⟩) 5 cap] w (OutF 5 w) := by
  obtain ⟨a0, b0, h0, k0, c0⟩ := hc 0 (by omega)
  obtain ⟨a1, b1, h1, k1, c1⟩ := hc 1 (by omega)
  obtain ⟨a2, b2, h2, k2, c2⟩ := hc 2 (by omega)
  obtain ⟨a3, b3, h3, k3, c3⟩ := hc 3 (by omega)
  obtain ⟨a4, b4, h4, k4, c4⟩ := hc 4 (by omega)
  clear hc
  have r := fun w => at5 (some ⟨g, 0, none⟩) 5 cap w (by omega)
  go_enter Tryd.func6, Tryd.ntmps6
  go_wp2_with fail
  refine (five_n _ h0 k0 h1 k1 h2 k2 h3 k3 h4 k4).mono ?_
  rintro e w1 ⟨p0, q0, p1, q1, p2, q2, p3, q3, p4, q4, rfl, m0, n0, m1, n1, m2, n2, m3, n3, m4, n4, hb⟩
  have HB := Lib.hid hb
  have hz := hb.size
  clear hb
  go_wp2_with fail
  go_ret2
  refine ⟨w1.heap.size, rfl, HB.out.alloc hz _, hz, by simp, ?_⟩
  intro j hj
  match j, hj with
  | 0, _ => exact ⟨p0, q0, m0, n0, by simp⟩
  | 1, _ => exact ⟨p1, q1, m1, n1, by simp⟩
  | 2, _ => exact ⟨p2, q2, m2, n2, by simp⟩
  | 3, _ => exact ⟨p3, q3, m3, n3, by simp⟩
  | 4, _ => exact ⟨p4, q4, m4, n4, by simp⟩
end Go.Proofs.YtfecfdopdkgceaaDoor
