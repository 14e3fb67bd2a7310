/- What the law's list of errors and Num answer. -/
import Derived.Test.YtjebnceajpkhmaaDoorMem
import Derived.Test.YtjebnceajpkhmaaDoorLaid
import Derived.LaidEql
import Derived.Deep.WholeRow
namespace Go.Proofs.YtjebnceajpkhmaaDoor
open Go.RowKit

noncomputable def errL : List (String × Nat × List UInt8) := [("timbre/api.ErrShort", 3, [116, 105, 109, 98, 114, 101, 58, 32, 116, 111, 111, 32, 115, 104, 111, 114, 116]),
  ("timbre/api.ErrVarint", 4, [116, 105, 109, 98, 114, 101, 58, 32, 118, 97, 114, 105, 110, 116]),
  ("timbre/api.ErrLimit", 5, [116, 105, 109, 98, 114, 101, 58, 32, 108, 105, 109, 105, 116]),
  ("timbre/api.ErrTail", 6, [116, 105, 109, 98, 114, 101, 58, 32, 116, 97, 105, 108]),
  ("timbre/api.ErrRange", 2, [116, 105, 109, 98, 114, 101, 58, 32, 114, 97, 110, 103, 101]),
  ("timbre/api.ErrText", 7, [116, 105, 109, 98, 114, 101, 58, 32, 116, 101, 120, 116]),
  ("timbre/api.ErrLength", 1, [116, 105, 109, 98, 114, 101, 58, 32, 108, 101, 110, 103, 116, 104]),
  ("timbre/api.ErrOrder", 8, [116, 105, 109, 98, 114, 101, 58, 32, 111, 114, 100, 101, 114]),
  ("timbre/api.ErrProgram", 9, [116, 105, 109, 98, 114, 101, 58, 32, 112, 114, 111, 103, 114, 97, 109]),
  ("timbre/api.ErrState", 10, [116, 105, 109, 98, 114, 101, 58, 32, 115, 116, 97, 116, 101]),
  ("timbre/api.ErrRoot", 11, [116, 105, 109, 98, 114, 101, 58, 32, 114, 111, 111, 116]),
  ("timbre/api.ErrPerm", 0, [116, 105, 109, 98, 114, 101, 58, 32, 112, 101, 114, 109, 117, 116, 97, 116, 105, 111, 110]),
  ("timbre/api.ErrNumber", 12, [116, 105, 109, 98, 114, 101, 58, 32, 110, 117, 109, 98, 101, 114]),
  ("timbre/api.ErrWorkers", 13, [116, 105, 109, 98, 114, 101, 58, 32, 119, 111, 114, 107, 101, 114, 115]),
  ("timbre/api.ErrDone", 14, [116, 105, 109, 98, 114, 101, 58, 32, 100, 111, 110, 101]),
  ("timbre/api.ErrUnknown", 15, [116, 105, 109, 98, 114, 101, 58, 32, 117, 110, 107, 110, 111, 119, 110]),
  ("timbre/api.ErrMode", 16, [116, 105, 109, 98, 114, 101, 58, 32, 109, 111, 100, 101]),
  ("timbre/api.ErrCommand", 17, [116, 105, 109, 98, 114, 101, 58, 32, 99, 111, 109, 109, 97, 110, 100]),
  ("timbre/api.ErrExact", 18, [116, 105, 109, 98, 114, 101, 58, 32, 101, 120, 97, 99, 116])]
theorem errL_len : errL.length = 19 := by kernel_rfl

/-- Error number k. -/
def er (A : Nat → Addr) (k : Nat) : Value := .iface 60 (.pointer (some (A k)))
def errV (A : Nat → Addr) : Array Value := #[.iface 60 (.pointer (some (A 0))), .iface 60 (.pointer (some (A 1))), .iface 60 (.pointer (some (A 2))), .iface 60 (.pointer (some (A 3))), .iface 60 (.pointer (some (A 4))), .iface 60 (.pointer (some (A 5))), .iface 60 (.pointer (some (A 6))), .iface 60 (.pointer (some (A 7))), .iface 60 (.pointer (some (A 8))), .iface 60 (.pointer (some (A 9))), .iface 60 (.pointer (some (A 10))), .iface 60 (.pointer (some (A 11))), .iface 60 (.pointer (some (A 12))), .iface 60 (.pointer (some (A 13))), .iface 60 (.pointer (some (A 14))), .iface 60 (.pointer (some (A 15))), .iface 60 (.pointer (some (A 16))), .iface 60 (.pointer (some (A 17))), .iface 60 (.pointer (some (A 18)))]
def noneV : Array Value := #[.nilIface, .nilIface, .nilIface, .nilIface, .nilIface, .nilIface, .nilIface, .nilIface, .nilIface, .nilIface, .nilIface, .nilIface, .nilIface, .nilIface, .nilIface, .nilIface, .nilIface, .nilIface, .nilIface]
theorem errV_at (A : Nat → Addr) (k : Nat) (hk : k < 19) : (errV A)[k]? = some (.iface 60 (.pointer (some (A k)))) := by
  match k, hk with
  | 0, _ => rfl
  | 1, _ => rfl
  | 2, _ => rfl
  | 3, _ => rfl
  | 4, _ => rfl
  | 5, _ => rfl
  | 6, _ => rfl
  | 7, _ => rfl
  | 8, _ => rfl
  | 9, _ => rfl
  | 10, _ => rfl
  | 11, _ => rfl
  | 12, _ => rfl
  | 13, _ => rfl
  | 14, _ => rfl
  | 15, _ => rfl
  | 16, _ => rfl
  | 17, _ => rfl
  | 18, _ => rfl
  | n + 19, h => exact absurd h (by omega)

theorem lies {w : World} {p : Addr} {v : Value} {o : Obj} (h : w.cell? p = some v) : (w.alloc o).cell? p = some v := (World.cell?_alloc_lt _ _ _ (cell_lt h)).trans h
theorem info60 : (Tryd.prog.info? 60).map (·.comparable) = some true := by kernel_rfl
theorem info78 : (Tryd.prog.info? 78).map (·.size) = some 1 := by kernel_rfl
theorem eq_run (a : Addr) (w : World) : (binOp .eql 27 (.iface 60 (.pointer (some a))) (.iface 60 (.pointer (some a)))).run Tryd.prog w = .ok (.bool true) w := by
  obtain ⟨i, hi, hc⟩ := Option.map_eq_some_iff.1 info60
  obtain ⟨i', hi', hs⟩ := Option.map_eq_some_iff.1 info78
  exact run_eql_iface_ptr_same w a tyErr Tryd.underlying60 hi hc hi'
theorem ne_run {A : Nat → Addr} {wr : World} (h : Errs errL A wr) {j k : Nat} (hj : j < 19) (hk : k < 19) (hjk : j ≠ k) :
    (binOp .eql 27 (.iface 60 (.pointer (some (A j)))) (.iface 60 (.pointer (some (A k))))).run Tryd.prog wr = .ok (.bool false) wr := by
  obtain ⟨i, hi, hc⟩ := Option.map_eq_some_iff.1 info60
  obtain ⟨i', hi', hs⟩ := Option.map_eq_some_iff.1 info78
  obtain ⟨c, t, b1⟩ := (h.all j _ (List.getElem?_eq_getElem (by rw [errL_len]; exact hj))).blk
  obtain ⟨c', t', b2⟩ := (h.all k _ (List.getElem?_eq_getElem (by rw [errL_len]; exact hk))).blk
  exact run_eql_iface_ptr_other _ tyErr Tryd.underlying60 hi hc hi' (by rw [hs]; decide) (h.ne j k (by rw [errL_len]; exact hj) (by rw [errL_len]; exact hk) hjk) b1 b2

theorem idx_run (A : Nat → Addr) (j : Nat) (hj : j < 19) (w : World) : (Instr.index 55 (.agg (errV A)) (.int .i64 (j : Int))).run Tryd.prog w = .ok (.iface 60 (.pointer (some (A j)))) w := by
  have hv := errV_at A j hj
  revert hv
  generalize errV A = V
  intro hv
  have h1 : (0 : Int) ≤ j ∧ (j : Int) < 19 := by omega
  have hs : (Tryd.prog.info? 27).map (·.size) = some 1 := by kernel_rfl
  obtain ⟨i', hi', hs⟩ := Option.map_eq_some_iff.1 hs
  simp [Instr.index, run_underlying Tryd.underlying55, asIntOf, h1, go_sem, sizeOf, typeInfo, hi', hs, hj, hv]

theorem build55 (A : Nat → Addr) (w : World) : (Instr.build 55 #[(0, .iface 60 (.pointer (some (A 0)))), (1, .iface 60 (.pointer (some (A 1)))), (2, .iface 60 (.pointer (some (A 2)))), (3, .iface 60 (.pointer (some (A 3)))), (4, .iface 60 (.pointer (some (A 4)))), (5, .iface 60 (.pointer (some (A 5)))), (6, .iface 60 (.pointer (some (A 6)))), (7, .iface 60 (.pointer (some (A 7)))), (8, .iface 60 (.pointer (some (A 8)))), (9, .iface 60 (.pointer (some (A 9)))), (10, .iface 60 (.pointer (some (A 10)))), (11, .iface 60 (.pointer (some (A 11)))), (12, .iface 60 (.pointer (some (A 12)))), (13, .iface 60 (.pointer (some (A 13)))), (14, .iface 60 (.pointer (some (A 14)))), (15, .iface 60 (.pointer (some (A 15)))), (16, .iface 60 (.pointer (some (A 16)))), (17, .iface 60 (.pointer (some (A 17)))), (18, .iface 60 (.pointer (some (A 18))))]).run Tryd.prog w = .ok (.agg #[.iface 60 (.pointer (some (A 0))), .iface 60 (.pointer (some (A 1))), .iface 60 (.pointer (some (A 2))), .iface 60 (.pointer (some (A 3))), .iface 60 (.pointer (some (A 4))), .iface 60 (.pointer (some (A 5))), .iface 60 (.pointer (some (A 6))), .iface 60 (.pointer (some (A 7))), .iface 60 (.pointer (some (A 8))), .iface 60 (.pointer (some (A 9))), .iface 60 (.pointer (some (A 10))), .iface 60 (.pointer (some (A 11))), .iface 60 (.pointer (some (A 12))), .iface 60 (.pointer (some (A 13))), .iface 60 (.pointer (some (A 14))), .iface 60 (.pointer (some (A 15))), .iface 60 (.pointer (some (A 16))), .iface 60 (.pointer (some (A 17))), .iface 60 (.pointer (some (A 18)))]) w := run_build w 55 _ _ (by kernel_rfl)
theorem store_done {P : Program} {ops : Array Oper} {Q : Exit → Act → World → Prop} {rest : List Oper} {o : Oper} {a : Act} {W w1 : World} (hgd : o.guard = none) (t : TypeId) (p x : Operand) (ho : o.op = .store t p x) (hN : o.dst = none)
    (hrun : (Instr.storeAt t (a.eval p) (a.eval x)).run P W = .ok () w1) (h : wpList P ops Q rest a w1) : wpList P ops Q (o :: rest) a W := by
  refine wpList_plain hgd fun K hK => ?_
  unfold Oper.wp
  simp only [execOp, ho, Sem.run_bind, hrun, Result.andThen_ok, Sem.run_pure]
  show K (a.put o.dst undef) w1
  rw [hN]
  exact hK _ _ h
theorem info55 : (Tryd.prog.info? 55).map (·.size) = some 19 := by kernel_rfl
set_option maxRecDepth 100000 in
theorem list_any (A : Nat → Addr) (w : World) (hE : Errs errL A w) : Calls Tryd.prog 28 #[] w fun e w' => e = .returned (.agg (errV A)) ∧ Below w.heap.size w w' := by
  have g0 := lies (o := .cells noneV 55) (show w.cell? ⟨3, 0, none⟩ = some (.iface 60 (.pointer (some (A 0)))) from (hE.all 0 (errL[0]'(by rw [errL_len]; decide)) (List.getElem?_eq_getElem _)).glob)
  have g1 := lies (o := .cells noneV 55) (show w.cell? ⟨4, 0, none⟩ = some (.iface 60 (.pointer (some (A 1)))) from (hE.all 1 (errL[1]'(by rw [errL_len]; decide)) (List.getElem?_eq_getElem _)).glob)
  have g2 := lies (o := .cells noneV 55) (show w.cell? ⟨5, 0, none⟩ = some (.iface 60 (.pointer (some (A 2)))) from (hE.all 2 (errL[2]'(by rw [errL_len]; decide)) (List.getElem?_eq_getElem _)).glob)
  have g3 := lies (o := .cells noneV 55) (show w.cell? ⟨6, 0, none⟩ = some (.iface 60 (.pointer (some (A 3)))) from (hE.all 3 (errL[3]'(by rw [errL_len]; decide)) (List.getElem?_eq_getElem _)).glob)
  have g4 := lies (o := .cells noneV 55) (show w.cell? ⟨2, 0, none⟩ = some (.iface 60 (.pointer (some (A 4)))) from (hE.all 4 (errL[4]'(by rw [errL_len]; decide)) (List.getElem?_eq_getElem _)).glob)
  have g5 := lies (o := .cells noneV 55) (show w.cell? ⟨7, 0, none⟩ = some (.iface 60 (.pointer (some (A 5)))) from (hE.all 5 (errL[5]'(by rw [errL_len]; decide)) (List.getElem?_eq_getElem _)).glob)
  have g6 := lies (o := .cells noneV 55) (show w.cell? ⟨1, 0, none⟩ = some (.iface 60 (.pointer (some (A 6)))) from (hE.all 6 (errL[6]'(by rw [errL_len]; decide)) (List.getElem?_eq_getElem _)).glob)
  have g7 := lies (o := .cells noneV 55) (show w.cell? ⟨8, 0, none⟩ = some (.iface 60 (.pointer (some (A 7)))) from (hE.all 7 (errL[7]'(by rw [errL_len]; decide)) (List.getElem?_eq_getElem _)).glob)
  have g8 := lies (o := .cells noneV 55) (show w.cell? ⟨9, 0, none⟩ = some (.iface 60 (.pointer (some (A 8)))) from (hE.all 8 (errL[8]'(by rw [errL_len]; decide)) (List.getElem?_eq_getElem _)).glob)
  have g9 := lies (o := .cells noneV 55) (show w.cell? ⟨10, 0, none⟩ = some (.iface 60 (.pointer (some (A 9)))) from (hE.all 9 (errL[9]'(by rw [errL_len]; decide)) (List.getElem?_eq_getElem _)).glob)
  have g10 := lies (o := .cells noneV 55) (show w.cell? ⟨11, 0, none⟩ = some (.iface 60 (.pointer (some (A 10)))) from (hE.all 10 (errL[10]'(by rw [errL_len]; decide)) (List.getElem?_eq_getElem _)).glob)
  have g11 := lies (o := .cells noneV 55) (show w.cell? ⟨0, 0, none⟩ = some (.iface 60 (.pointer (some (A 11)))) from (hE.all 11 (errL[11]'(by rw [errL_len]; decide)) (List.getElem?_eq_getElem _)).glob)
  have g12 := lies (o := .cells noneV 55) (show w.cell? ⟨12, 0, none⟩ = some (.iface 60 (.pointer (some (A 12)))) from (hE.all 12 (errL[12]'(by rw [errL_len]; decide)) (List.getElem?_eq_getElem _)).glob)
  have g13 := lies (o := .cells noneV 55) (show w.cell? ⟨13, 0, none⟩ = some (.iface 60 (.pointer (some (A 13)))) from (hE.all 13 (errL[13]'(by rw [errL_len]; decide)) (List.getElem?_eq_getElem _)).glob)
  have g14 := lies (o := .cells noneV 55) (show w.cell? ⟨14, 0, none⟩ = some (.iface 60 (.pointer (some (A 14)))) from (hE.all 14 (errL[14]'(by rw [errL_len]; decide)) (List.getElem?_eq_getElem _)).glob)
  have g15 := lies (o := .cells noneV 55) (show w.cell? ⟨15, 0, none⟩ = some (.iface 60 (.pointer (some (A 15)))) from (hE.all 15 (errL[15]'(by rw [errL_len]; decide)) (List.getElem?_eq_getElem _)).glob)
  have g16 := lies (o := .cells noneV 55) (show w.cell? ⟨16, 0, none⟩ = some (.iface 60 (.pointer (some (A 16)))) from (hE.all 16 (errL[16]'(by rw [errL_len]; decide)) (List.getElem?_eq_getElem _)).glob)
  have g17 := lies (o := .cells noneV 55) (show w.cell? ⟨17, 0, none⟩ = some (.iface 60 (.pointer (some (A 17)))) from (hE.all 17 (errL[17]'(by rw [errL_len]; decide)) (List.getElem?_eq_getElem _)).glob)
  have g18 := lies (o := .cells noneV 55) (show w.cell? ⟨18, 0, none⟩ = some (.iface 60 (.pointer (some (A 18)))) from (hE.all 18 (errL[18]'(by rw [errL_len]; decide)) (List.getElem?_eq_getElem _)).glob)
  clear hE
  have i55 : (Tryd.prog.info? 55).map (·.size) = some (errV A).size := by rw [info55]; rfl
  have st1 := run_storeAt_new (P := Tryd.prog) w 55 noneV (errV A) i55 rfl (by simp [errV, Value.oneCell'])
  have ST1 := Lib.hid st1
  clear st1
  have bd := build55 A
  unfold noneV at g0 g1 g2 g3 g4 g5 g6 g7 g8 g9 g10 g11 g12 g13 g14 g15 g16 g17 g18
  clear i55
  go_enter Tryd.func28, Tryd.ntmps28
  go_wp2_with (refine store_done rfl _ _ _ rfl rfl ST1.out ?_)
  refine bodyPost_ret (results_cell_row rfl _ _ w.heap.size _ (errV A) (0, 0) _ rfl (heap_alloc_new w _) Tryd.underlying55 rfl (by rw [info55]; rfl)) rfl ⟨rfl, ?_⟩
  exact (Below.refl _ _).alloc (Nat.le_refl _) _

theorem num_nil (w : World) : Calls Tryd.prog 11 #[.nilIface] w fun e w' => e = .returned (.int .i64 0) ∧ Below w.heap.size w w' := by
  go_enter Tryd.func11, Tryd.ntmps11
  go_wp2_with fail
  go_ret
  exact ⟨rfl, Below.refl _ _⟩

set_option maxRecDepth 100000 in
theorem num_err (A : Nat → Addr) (k : Nat) (hk : k < 19) (w : World) (hE : Errs errL A w) : Calls Tryd.prog 11 #[er A k] w fun e w' => e = .returned (.int .i64 ((k : Int) + 1)) ∧ Below w.heap.size w w' := by
  unfold er
  have HE := Lib.hid hE
  clear hE
  go_enter Tryd.func11, Tryd.ntmps11
  go_wp2_with fail
  refine (list_any A w HE.out).mono ?_
  rintro e w1 ⟨rfl, hb⟩
  have HB := Lib.hid hb
  clear hb
  go_wp2_with fail
  go_loop [8] (fun i => ∃ j : Nat, j ≤ k ∧ i = .int .i64 j) (fun i => k - (intOf i).toNat)
  case atStart => exact ⟨0, by omega, rfl⟩
  case round =>
    obtain ⟨j, hj, rfl⟩ := hrel
    have f1 := idx_run A j (by omega)
    have q1 : (0 : Int) ≤ (j : Int) := by omega
    have q2 : (j : Int) < 19 := by omega
    by_cases hjt : j = k
    · subst hjt
      have hr := eq_run (A j)
      go_wp2_with fail
      go_ret
      exact ⟨rfl, HB.out⟩
    · have hr := ne_run (HE.out.below HB.out) hk (show j < 19 by omega) (fun h => hjt h.symm)
      go_wp2_with fail
      go_round
      case rel => exact ⟨j + 1, by omega, by go_num⟩
      case measure => simp [intOf]; omega
end Go.Proofs.YtjebnceajpkhmaaDoor
