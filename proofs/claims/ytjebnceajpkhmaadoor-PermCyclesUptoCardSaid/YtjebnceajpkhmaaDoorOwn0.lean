/- OwnInts of no list is true. -/
import Derived.Test.YtjebnceajpkhmaaDoorStay
import Derived.Laws.AppendOwnNone
namespace Go.Proofs.YtjebnceajpkhmaaDoor
open Go.RowKit

set_option maxRecDepth 100000 in
set_option maxHeartbeats 4000000 in
theorem own_zero (a : Option Addr) (c : Nat) (w : World) (ha : a = none → c = 0) : Calls Tryd.prog 17 #[.slice a 0 c] w fun e w' => e = .returned (.bool true) ∧ Below w.heap.size w w' := by
  obtain ⟨i1, hi1, hy0, hy1, hy2⟩ := info_parts info22i
  have HY0 := Lib.hid hy0
  have HY1 := Lib.hid hy1
  have HY2 := Lib.hid hy2
  clear hy0 hy1 hy2
  have hrow : ∀ W : World, (W.alloc (.cells #[] 22)).ownsRow W.heap.size 22 1 (.slice (some ⟨W.heap.size, 0, none⟩) 0 0) 0 [] := fun W => World.ownsRow_made W #[] 0 (Nat.le_refl _) (by unfold maxLen; omega) rfl
  go_enter Tryd.func17, Tryd.ntmps17
  go_wp2_with fail
  refine wp_loop_rounds 1 ?_
  rw [rounds_succ]
  cases a with
  | none =>
    obtain rfl := ha rfl
    go_wp2_with (at_builtin; go_loud (refine wpList_append_own_none rfl (.tmp 33) (.tmp 34) 35 rfl w.heap.size 22 i1 1 Tryd.underlying35 hi1 (.slice (some ⟨w.heap.size, 0, none⟩) 0 0) 0 [] rfl (hrow w) rfl ?_))
    have hB : Below w.heap.size w (w.alloc (.cells #[] 22)) := (Below.refl _ _).alloc (Nat.le_refl _) _
    have HB := Lib.hid hB
    clear hB
    go_loopw [7] (fun i wr => ∃ q : Nat, q ≤ 80 ∧ i = .int .i64 q ∧ Below w.heap.size w wr) (fun i _ => 80 - (intOf i).toNat)
    case atStart => exact ⟨0, by omega, rfl, HB.out⟩
    case round =>
      obtain ⟨q, hq, rfl, hb⟩ := hrel
      have HB2 := Lib.hid hb
      clear hb
      by_cases hqt : q < 80
      · have hd : decide ((q : Int) < 80) = true := by simp; omega
        go_wp2_with fail
        clear hd
        refine wp_loop_rounds 1 ?_
        rw [rounds_succ]
        go_wp2_with fail
        go_roundw
        case rel => exact ⟨q + 1, by omega, by go_num, HB2.out⟩
        case measure => simp [intOf]; omega
      · obtain rfl : q = 80 := by omega
        go_wp2_with fail
        refine wp_loop_rounds 1 ?_
        rw [rounds_succ]
        go_wp2_with fail
        go_ret
        exact ⟨rfl, HB2.out⟩
  | some ad =>
    go_wp2_with (at_builtin; go_loud (refine wpList_append_own_at _ rfl (.tmp 33) (.tmp 34) 35 rfl w.heap.size 22 i1 (.slice none 0 0) 1 24 Tryd.underlying35 hi1 HY0.out HY1.out HY2.out rfl (by decide) (.slice (some ⟨w.heap.size, 0, none⟩) 0 0) 0 [] rfl (hrow w) ad 0 c [] rfl rfl (fun j u h => by simp at h) (fun u h => by simp at h) (by decide) (by decide) (by simp) ?_))
    intro v' w1 hown hg _ _
    have hB : Below w.heap.size w w1 := ((Below.refl _ _).alloc (Nat.le_refl _) _).grown hg (by simp) (by intro b hb; cases hb; exact Nat.le_refl _)
    obtain ⟨x, c', rfl⟩ : ∃ x c', v' = .slice x 0 c' := by
      rcases hown.2 with ⟨h, -⟩ | ⟨g, cap, cur, h, -⟩
      · exact ⟨_, _, h⟩
      · exact ⟨_, _, h⟩
    clear hown hg
    go_wp2_with fail
    have HB := Lib.hid hB
    clear hB
    go_loopw [7] (fun i wr => ∃ q : Nat, q ≤ 80 ∧ i = .int .i64 q ∧ Below w.heap.size w wr) (fun i _ => 80 - (intOf i).toNat)
    case atStart => exact ⟨0, by omega, rfl, HB.out⟩
    case round =>
      obtain ⟨q, hq, rfl, hb⟩ := hrel
      have HB2 := Lib.hid hb
      clear hb
      by_cases hqt : q < 80
      · have hd : decide ((q : Int) < 80) = true := by simp; omega
        go_wp2_with fail
        clear hd
        refine wp_loop_rounds 1 ?_
        rw [rounds_succ]
        go_wp2_with fail
        go_roundw
        case rel => exact ⟨q + 1, by omega, by go_num, HB2.out⟩
        case measure => simp [intOf]; omega
      · obtain rfl : q = 80 := by omega
        go_wp2_with fail
        refine wp_loop_rounds 1 ?_
        rw [rounds_succ]
        go_wp2_with fail
        go_ret
        exact ⟨rfl, HB2.out⟩
end Go.Proofs.YtjebnceajpkhmaaDoor
