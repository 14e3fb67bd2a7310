/- The walk of WholeNames: it returns true. -/
import Derived.Test.YtofnnliaimdgmaaDoorLaid
import Derived.WalkKit
import Derived.WalkLawsBesides
import Derived.WalkSpells
import Derived.LaidEql
import Derived.Lib.Hide
import Derived.Outline
import Derived.Deep.RegionHeld3
import Derived.Deep.QuietTactic
import Derived.BigQuiet
import Derived.WalkSmall
namespace Go.Proofs.YtofnnliaimdgmaaDoor
open Go.RowKit

noncomputable def errL : List (String × Nat × List UInt8) := [("timbre/api.ErrShort", 0, [116, 105, 109, 98, 114, 101, 58, 32, 116, 111, 111, 32, 115, 104, 111, 114, 116]),
  ("timbre/api.ErrVarint", 1, [116, 105, 109, 98, 114, 101, 58, 32, 118, 97, 114, 105, 110, 116]),
  ("timbre/api.ErrLimit", 2, [116, 105, 109, 98, 114, 101, 58, 32, 108, 105, 109, 105, 116]),
  ("timbre/api.ErrTail", 3, [116, 105, 109, 98, 114, 101, 58, 32, 116, 97, 105, 108]),
  ("timbre/api.ErrRange", 4, [116, 105, 109, 98, 114, 101, 58, 32, 114, 97, 110, 103, 101]),
  ("timbre/api.ErrText", 5, [116, 105, 109, 98, 114, 101, 58, 32, 116, 101, 120, 116]),
  ("timbre/api.ErrLength", 6, [116, 105, 109, 98, 114, 101, 58, 32, 108, 101, 110, 103, 116, 104]),
  ("timbre/api.ErrOrder", 7, [116, 105, 109, 98, 114, 101, 58, 32, 111, 114, 100, 101, 114]),
  ("timbre/api.ErrProgram", 8, [116, 105, 109, 98, 114, 101, 58, 32, 112, 114, 111, 103, 114, 97, 109]),
  ("timbre/api.ErrState", 9, [116, 105, 109, 98, 114, 101, 58, 32, 115, 116, 97, 116, 101]),
  ("timbre/api.ErrRoot", 10, [116, 105, 109, 98, 114, 101, 58, 32, 114, 111, 111, 116]),
  ("timbre/api.ErrPerm", 11, [116, 105, 109, 98, 114, 101, 58, 32, 112, 101, 114, 109, 117, 116, 97, 116, 105, 111, 110]),
  ("timbre/api.ErrNumber", 12, [116, 105, 109, 98, 114, 101, 58, 32, 110, 117, 109, 98, 101, 114]),
  ("timbre/api.ErrWorkers", 13, [116, 105, 109, 98, 114, 101, 58, 32, 119, 111, 114, 107, 101, 114, 115]),
  ("timbre/api.ErrDone", 14, [116, 105, 109, 98, 114, 101, 58, 32, 100, 111, 110, 101]),
  ("timbre/api.ErrUnknown", 15, [116, 105, 109, 98, 114, 101, 58, 32, 117, 110, 107, 110, 111, 119, 110]),
  ("timbre/api.ErrMode", 16, [116, 105, 109, 98, 114, 101, 58, 32, 109, 111, 100, 101]),
  ("timbre/api.ErrCommand", 17, [116, 105, 109, 98, 114, 101, 58, 32, 99, 111, 109, 109, 97, 110, 100]),
  ("timbre/api.ErrExact", 18, [116, 105, 109, 98, 114, 101, 58, 32, 101, 120, 97, 99, 116])]

/-- The words behind 'timbre: '. -/
def wordL : List (List UInt8) := [[116, 111, 111, 32, 115, 104, 111, 114, 116],
  [118, 97, 114, 105, 110, 116],
  [108, 105, 109, 105, 116],
  [116, 97, 105, 108],
  [114, 97, 110, 103, 101],
  [116, 101, 120, 116],
  [108, 101, 110, 103, 116, 104],
  [111, 114, 100, 101, 114],
  [112, 114, 111, 103, 114, 97, 109],
  [115, 116, 97, 116, 101],
  [114, 111, 111, 116],
  [112, 101, 114, 109, 117, 116, 97, 116, 105, 111, 110],
  [110, 117, 109, 98, 101, 114],
  [119, 111, 114, 107, 101, 114, 115],
  [100, 111, 110, 101],
  [117, 110, 107, 110, 111, 119, 110],
  [109, 111, 100, 101],
  [99, 111, 109, 109, 97, 110, 100],
  [101, 120, 97, 99, 116]]

theorem errL_len : errL.length = 19 := by kernel_rfl
theorem wordL_len : wordL.length = 19 := rfl
/-- Text and word number k. -/
noncomputable def T (k : Nat) : ByteArray := ⟨(errL.getD k default).2.2.toArray⟩
def W (k : Nat) : ByteArray := ⟨(wordL.getD k []).toArray⟩
def pre : ByteArray := ⟨#[116, 105, 109, 98, 114, 101, 58, 32]⟩
theorem TW (k : Nat) (hk : k < 19) : T k = pre ++ W k := by
  match k, hk with
  | 0, _ => rfl
  | 1, _ => rfl
  | 2, _ => rfl
  | 3, _ => rfl
  | 4, _ => rfl
  | 5, _ => rfl
  | 6, _ => rfl
  | 7, _ => rfl
  | 8, _ => rfl
  | 9, _ => rfl
  | 10, _ => rfl
  | 11, _ => rfl
  | 12, _ => rfl
  | 13, _ => rfl
  | 14, _ => rfl
  | 15, _ => rfl
  | 16, _ => rfl
  | 17, _ => rfl
  | 18, _ => rfl
  | n + 19, h => exact absurd h (by omega)
theorem W_len (k : Nat) : (W k).size ≤ 11 := by
  by_cases hk : k < 19
  · match k, hk with
    | 0, _ => exact (by decide)
    | 1, _ => exact (by decide)
    | 2, _ => exact (by decide)
    | 3, _ => exact (by decide)
    | 4, _ => exact (by decide)
    | 5, _ => exact (by decide)
    | 6, _ => exact (by decide)
    | 7, _ => exact (by decide)
    | 8, _ => exact (by decide)
    | 9, _ => exact (by decide)
    | 10, _ => exact (by decide)
    | 11, _ => exact (by decide)
    | 12, _ => exact (by decide)
    | 13, _ => exact (by decide)
    | 14, _ => exact (by decide)
    | 15, _ => exact (by decide)
    | 16, _ => exact (by decide)
    | 17, _ => exact (by decide)
    | 18, _ => exact (by decide)
    | n + 19, h => exact absurd h (by omega)
  · unfold W
    rw [List.getD_eq_getElem?_getD, List.getElem?_eq_none (by rw [wordL_len]; omega)]
    decide

/-- (*errorString).Error. -/
theorem error_any (a : Addr) (s : ByteArray) (w : World) (h : w.cell? a = some (.string s)) : Calls Tryd.prog 19 #[.pointer (some a)] w fun e w' => e = .returned (.string s) ∧ w' = w := by
  obtain ⟨b, off, spot⟩ := a
  have hs : spot = none := World.cell?_spot h
  subst hs
  go_enter Tryd.func19, Tryd.ntmps19
  go_wp2
  go_ret
  exact ⟨rfl, rfl⟩

theorem nil_ahead (a : Addr) (w : World) : (nilAhead 154 28 (.pointer (some a)) "Error").run Tryd.prog w = .ok (some false) w := by kernel_rfl
theorem method_error (a : Addr) (w : World) : (method 154 28 (.pointer (some a)) "Error").run Tryd.prog w = .ok (19, .pointer (some a)) w := by kernel_rfl

theorem add_run (k : Nat) (hk : k < 19) (w : World) : (Op.stringOp .add { data := #[116, 105, 109, 98, 114, 101, 58, 32] } (W k)).run Tryd.prog w = .ok (.string (T k)) w := by
  rw [TW k hk]
  exact run_string_add_sum w pre (W k) (by have := W_len k; have : pre.size = 8 := rfl; omega)

/-- What the loops keep: the two lists, and the errors. -/
structure Kept (A : Nat → Addr) (w wr : World) : Prop where
  es : ∀ j, j < 19 → wr.cell? ⟨w.heap.size, j, none⟩ = some (.iface 28 (.pointer (some (A j))))
  ws : ∀ j, j < 19 → wr.cell? ⟨w.heap.size + 1, j, none⟩ = some (.string (W j))
  er : Errs errL A wr
  bel : Below w.heap.size w wr

theorem Kept.drewN {A : Nat → Addr} {w wr : World} (h : Kept A w wr) (n : Nat) : Kept A w (wr.drewN n) :=
  ⟨fun j hj => by simpa using h.es j hj, fun j hj => by simpa using h.ws j hj, h.er.below (below_drewN (Below.refl _ _) n), below_drewN h.bel n⟩

theorem info28 : (Tryd.prog.info? 28).map (·.comparable) = some true := by kernel_rfl
theorem info47 : (Tryd.prog.info? 47).map (·.size) = some 1 := by kernel_rfl
theorem ne_run {A : Nat → Addr} {wr : World} (h : Errs errL A wr) {j k : Nat} (hj : j < 19) (hk : k < 19) (hjk : j ≠ k) (n : Nat) :
    (binOp .eql 23 (.iface 28 (.pointer (some (A j)))) (.iface 28 (.pointer (some (A k))))).run Tryd.prog (wr.drewN n) = .ok (.bool false) (wr.drewN n) := by
  obtain ⟨i, hi, hc⟩ := Option.map_eq_some_iff.1 info28
  obtain ⟨i', hi', hs⟩ := Option.map_eq_some_iff.1 info47
  have h' : Errs errL A (wr.drewN n) := h.below (below_drewN (Below.refl _ _) n)
  obtain ⟨c, t, b1⟩ := (h'.all j _ (List.getElem?_eq_getElem (by rw [errL_len]; exact hj))).blk
  obtain ⟨c', t', b2⟩ := (h'.all k _ (List.getElem?_eq_getElem (by rw [errL_len]; exact hk))).blk
  exact run_eql_iface_ptr_other _ tyErr Tryd.underlying28 hi hc hi' (by rw [hs]; decide) (h'.ne j k (by rw [errL_len]; exact hj) (by rw [errL_len]; exact hk) hjk) b1 b2

theorem Kept.start {A : Nat → Addr} {w : World} (h : Errs errL A w) : Kept A w ((w.alloc (.cells #[.iface 28 (.pointer (some (A 0))), .iface 28 (.pointer (some (A 1))), .iface 28 (.pointer (some (A 2))), .iface 28 (.pointer (some (A 3))), .iface 28 (.pointer (some (A 4))), .iface 28 (.pointer (some (A 5))), .iface 28 (.pointer (some (A 6))), .iface 28 (.pointer (some (A 7))), .iface 28 (.pointer (some (A 8))), .iface 28 (.pointer (some (A 9))), .iface 28 (.pointer (some (A 10))), .iface 28 (.pointer (some (A 11))), .iface 28 (.pointer (some (A 12))), .iface 28 (.pointer (some (A 13))), .iface 28 (.pointer (some (A 14))), .iface 28 (.pointer (some (A 15))), .iface 28 (.pointer (some (A 16))), .iface 28 (.pointer (some (A 17))), .iface 28 (.pointer (some (A 18)))] 23)).alloc (.cells #[.string { data := #[116, 111, 111, 32, 115, 104, 111, 114, 116] }, .string { data := #[118, 97, 114, 105, 110, 116] }, .string { data := #[108, 105, 109, 105, 116] }, .string { data := #[116, 97, 105, 108] }, .string { data := #[114, 97, 110, 103, 101] }, .string { data := #[116, 101, 120, 116] }, .string { data := #[108, 101, 110, 103, 116, 104] }, .string { data := #[111, 114, 100, 101, 114] }, .string { data := #[112, 114, 111, 103, 114, 97, 109] }, .string { data := #[115, 116, 97, 116, 101] }, .string { data := #[114, 111, 111, 116] }, .string { data := #[112, 101, 114, 109, 117, 116, 97, 116, 105, 111, 110] }, .string { data := #[110, 117, 109, 98, 101, 114] }, .string { data := #[119, 111, 114, 107, 101, 114, 115] }, .string { data := #[100, 111, 110, 101] }, .string { data := #[117, 110, 107, 110, 111, 119, 110] }, .string { data := #[109, 111, 100, 101] }, .string { data := #[99, 111, 109, 109, 97, 110, 100] }, .string { data := #[101, 120, 97, 99, 116] }] 9)) := by
  refine ⟨fun j hj => ?_, fun j hj => ?_, h.below (((Below.refl _ _).alloc (Nat.le_refl _) _).alloc (by simp) _), ((Below.refl _ _).alloc (Nat.le_refl _) _).alloc (by simp) _⟩
  · rw [World.cell?_alloc_lt _ _ _ (by simp), World.cell?_alloc_at _ _ _ _ rfl]
    match j, hj with
    | 0, _ => rfl
    | 1, _ => rfl
    | 2, _ => rfl
    | 3, _ => rfl
    | 4, _ => rfl
    | 5, _ => rfl
    | 6, _ => rfl
    | 7, _ => rfl
    | 8, _ => rfl
    | 9, _ => rfl
    | 10, _ => rfl
    | 11, _ => rfl
    | 12, _ => rfl
    | 13, _ => rfl
    | 14, _ => rfl
    | 15, _ => rfl
    | 16, _ => rfl
    | 17, _ => rfl
    | 18, _ => rfl
    | n + 19, h => exact absurd h (by omega)
  · rw [World.cell?_alloc_at _ _ _ _ (by simp)]
    match j, hj with
    | 0, _ => rfl
    | 1, _ => rfl
    | 2, _ => rfl
    | 3, _ => rfl
    | 4, _ => rfl
    | 5, _ => rfl
    | 6, _ => rfl
    | 7, _ => rfl
    | 8, _ => rfl
    | 9, _ => rfl
    | 10, _ => rfl
    | 11, _ => rfl
    | 12, _ => rfl
    | 13, _ => rfl
    | 14, _ => rfl
    | 15, _ => rfl
    | 16, _ => rfl
    | 17, _ => rfl
    | 18, _ => rfl
    | n + 19, h => exact absurd h (by omega)

set_option maxRecDepth 100000 in
theorem walk (A : Nat → Addr) (w : World) (hE : Errs errL A w) : Calls Tryd.prog 3 #[] w fun e w' => e = .returned (.bool true) ∧ Below w.heap.size w w' := by
  have g0 : w.cell? ⟨0, 0, none⟩ = some (.iface 28 (.pointer (some (A 0)))) := (hE.all 0 (errL[0]'(by rw [errL_len]; decide)) (List.getElem?_eq_getElem _)).glob
  have g1 : w.cell? ⟨1, 0, none⟩ = some (.iface 28 (.pointer (some (A 1)))) := (hE.all 1 (errL[1]'(by rw [errL_len]; decide)) (List.getElem?_eq_getElem _)).glob
  have g2 : w.cell? ⟨2, 0, none⟩ = some (.iface 28 (.pointer (some (A 2)))) := (hE.all 2 (errL[2]'(by rw [errL_len]; decide)) (List.getElem?_eq_getElem _)).glob
  have g3 : w.cell? ⟨3, 0, none⟩ = some (.iface 28 (.pointer (some (A 3)))) := (hE.all 3 (errL[3]'(by rw [errL_len]; decide)) (List.getElem?_eq_getElem _)).glob
  have g4 : w.cell? ⟨4, 0, none⟩ = some (.iface 28 (.pointer (some (A 4)))) := (hE.all 4 (errL[4]'(by rw [errL_len]; decide)) (List.getElem?_eq_getElem _)).glob
  have g5 : w.cell? ⟨5, 0, none⟩ = some (.iface 28 (.pointer (some (A 5)))) := (hE.all 5 (errL[5]'(by rw [errL_len]; decide)) (List.getElem?_eq_getElem _)).glob
  have g6 : w.cell? ⟨6, 0, none⟩ = some (.iface 28 (.pointer (some (A 6)))) := (hE.all 6 (errL[6]'(by rw [errL_len]; decide)) (List.getElem?_eq_getElem _)).glob
  have g7 : w.cell? ⟨7, 0, none⟩ = some (.iface 28 (.pointer (some (A 7)))) := (hE.all 7 (errL[7]'(by rw [errL_len]; decide)) (List.getElem?_eq_getElem _)).glob
  have g8 : w.cell? ⟨8, 0, none⟩ = some (.iface 28 (.pointer (some (A 8)))) := (hE.all 8 (errL[8]'(by rw [errL_len]; decide)) (List.getElem?_eq_getElem _)).glob
  have g9 : w.cell? ⟨9, 0, none⟩ = some (.iface 28 (.pointer (some (A 9)))) := (hE.all 9 (errL[9]'(by rw [errL_len]; decide)) (List.getElem?_eq_getElem _)).glob
  have g10 : w.cell? ⟨10, 0, none⟩ = some (.iface 28 (.pointer (some (A 10)))) := (hE.all 10 (errL[10]'(by rw [errL_len]; decide)) (List.getElem?_eq_getElem _)).glob
  have g11 : w.cell? ⟨11, 0, none⟩ = some (.iface 28 (.pointer (some (A 11)))) := (hE.all 11 (errL[11]'(by rw [errL_len]; decide)) (List.getElem?_eq_getElem _)).glob
  have g12 : w.cell? ⟨12, 0, none⟩ = some (.iface 28 (.pointer (some (A 12)))) := (hE.all 12 (errL[12]'(by rw [errL_len]; decide)) (List.getElem?_eq_getElem _)).glob
  have g13 : w.cell? ⟨13, 0, none⟩ = some (.iface 28 (.pointer (some (A 13)))) := (hE.all 13 (errL[13]'(by rw [errL_len]; decide)) (List.getElem?_eq_getElem _)).glob
  have g14 : w.cell? ⟨14, 0, none⟩ = some (.iface 28 (.pointer (some (A 14)))) := (hE.all 14 (errL[14]'(by rw [errL_len]; decide)) (List.getElem?_eq_getElem _)).glob
  have g15 : w.cell? ⟨15, 0, none⟩ = some (.iface 28 (.pointer (some (A 15)))) := (hE.all 15 (errL[15]'(by rw [errL_len]; decide)) (List.getElem?_eq_getElem _)).glob
  have g16 : w.cell? ⟨16, 0, none⟩ = some (.iface 28 (.pointer (some (A 16)))) := (hE.all 16 (errL[16]'(by rw [errL_len]; decide)) (List.getElem?_eq_getElem _)).glob
  have g17 : w.cell? ⟨17, 0, none⟩ = some (.iface 28 (.pointer (some (A 17)))) := (hE.all 17 (errL[17]'(by rw [errL_len]; decide)) (List.getElem?_eq_getElem _)).glob
  have g18 : w.cell? ⟨18, 0, none⟩ = some (.iface 28 (.pointer (some (A 18)))) := (hE.all 18 (errL[18]'(by rw [errL_len]; decide)) (List.getElem?_eq_getElem _)).glob
  have na := nil_ahead
  have me := method_error
  go_enter Tryd.func3, Tryd.ntmps3
  go_wp2_with fail
  go_loopw [29] (fun i wr => ∃ k : Nat, k ≤ 19 ∧ i = .int .i64 k ∧ Kept A w wr) (fun i _ => 19 - (intOf i).toNat)
  case atStart => exact ⟨0, by omega, rfl, Kept.start hE⟩
  case round =>
    clear g0 g1 g2 g3 g4 g5 g6 g7 g8 g9 g10 g11 g12 g13 g14 g15 g16 g17 g18
    obtain ⟨k, hk, rfl, hK⟩ := hrel
    by_cases hlt : k < 19
    · have HK := Lib.hid hK
      have e1 := hK.es k hlt
      have e2 := hK.ws k hlt
      have e3 := (hK.er.all k _ (List.getElem?_eq_getElem (by rw [errL_len]; exact hlt))).cell
      have e4 : wr.cell? (A k) = some (.string (T k)) := by rw [e3, T, List.getD_eq_getElem?_getD, List.getElem?_eq_getElem (by rw [errL_len]; exact hlt)]; rfl
      clear e3 hK
      have q1 : (0 : Int) ≤ (k : Int) := by omega
      have q2 : (k : Int) < 19 := by omega
      have hadd := add_run k hlt
      go_wp2_with fail
      go_quiet ((go_at_call 19; exact Calls.quiet_of_same (error_any _ _ _ (by simpa using e4))))
      go_wp2_with fail
      clear hadd e4
      go_loop [5] (fun i => ∃ j : Nat, j ≤ k ∧ i = .int .i64 j) (fun i => k - (intOf i).toNat)
      case atStart => exact ⟨0, by omega, rfl⟩
      case round =>
        obtain ⟨j, hj, rfl⟩ := hrel
        by_cases hjt : j < k
        · have f1 := HK.out.es j (by omega)
          have hne := ne_run HK.out.er (by omega) hlt (show j ≠ k by omega)
          have q3 : (0 : Int) ≤ (j : Int) := by omega
          have q4 : (j : Int) < 19 := by omega
          have q5 : (j : Int) < (k : Int) := by omega
          go_wp2_with fail
          go_round
          case rel => exact ⟨j + 1, by omega, by go_num⟩
          case measure => simp [intOf]; omega
        · go_wp2_with fail
          go_roundw
          case rel => exact ⟨k + 1, by omega, by go_num, HK.out.drewN nq⟩
          case measure => simp [intOf]; omega
    · obtain rfl : k = 19 := by omega
      have HK := Lib.hid hK
      clear hK hlt hk
      go_wp2_with fail
      go_ret
      exact ⟨rfl, HK.out.bel⟩
end Go.Proofs.YtofnnliaimdgmaaDoor
