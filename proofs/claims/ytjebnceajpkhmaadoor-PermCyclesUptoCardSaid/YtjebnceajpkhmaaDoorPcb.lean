/- The walk of PermCycles where the list is no permutation: it returns true. -/
import Derived.Test.YtjebnceajpkhmaaDoorAsks0
import Derived.Test.YtjebnceajpkhmaaDoorTwo
namespace Go.Proofs.YtjebnceajpkhmaaDoor
open Go.RowKit

/-- The world with the function's first two variables: stop and the answer. -/
def P2 (w : World) (st : Int) : World := (w.alloc (.cells #[.int .i64 st] 3)).alloc (.cells #[.bool false] 4)
theorem P2_size (w : World) (st : Int) : (P2 w st).heap.size = w.heap.size + 2 := by simp [P2]
theorem P2_below (w : World) (st : Int) : Below w.heap.size w (P2 w st) := ((Below.refl _ _).alloc (Nat.le_refl _) _).alloc (by simp) _
theorem P2_boxes (w : World) (st : Int) : Boxed (P2 w st) w.heap.size 3 (.int .i64 st) ∧ Boxed (P2 w st) (w.heap.size + 1) 4 (.bool false) := by
  unfold Boxed P2
  exact ⟨al_old (al_new rfl) (by simp), al_new (by simp)⟩
/-- What has been laid stays. -/
theorem box_below {w w' : World} {b : Nat} {t : TypeId} {v : Value} (h : Boxed w b t v) (hb : Below w.heap.size w w') : Boxed w' b t v := (hb.block b h.lt).trans h

set_option maxRecDepth 100000 in
set_option maxHeartbeats 4000000 in
theorem pc_bad (A : Nat → Addr) (ao : Option Addr) (n c K : Nat) (st : Int) (f : Nat → Int) (w : World) (hn : n ≤ 1048576) (hf : ∀ i, i < n → -9223372036854775808 ≤ f i ∧ f i ≤ 9223372036854775807)
    (hF : Fits n f K) (hR : Row w ao n f) (hE : Glo A w) (hlt : K < n) :
    Calls Tryd.prog 4 #[.slice ao n c, .int .i64 st] w fun e w' => e = .returned (.bool true) ∧ Below w.heap.size w w' := by
  have HF := Lib.hid hF
  have HV := Lib.hid hf
  have HR := Lib.hid hR
  have HE := Lib.hid hE
  clear hF hf hR hE
  go_enter Tryd.func4, Tryd.ntmps4
  go_wp2_with fail
  obtain ⟨x3, x4⟩ := P2_boxes w st
  have hb0 := P2_below w st
  have hs0 := P2_size w st
  change Calls Tryd.prog 6 #[] (P2 w st) _
  refine (lives_any A (P2 w st) (HE.out.below hb0)).mono ?_
  rintro e w1 ⟨rfl, hb⟩
  have hb1 : Below w.heap.size w w1 := hb0.trans (hb.mono hb0.size)
  have y4 := box_below x4 hb
  clear x3 x4 hb0 hb
  have HY := Lib.hid y4
  have HS := Lib.hid hs0
  have HB1 := Lib.hid hb1
  clear y4 hs0 hb1
  go_wp2_with fail
  refine (lawcycles_any A ao n c f w1 hn HV.out K HF.out (HR.out.below HB1.out) (HE.out.below HB1.out)).mono ?_
  intro e w2 ho
  obtain ⟨hb, X, k, rfl⟩ := ho.bad hlt
  have hb2 : Below w.heap.size w w2 := HB1.out.trans (hb.mono HB1.out.size)
  have y4 := box_below HY.out hb
  clear HY HB1 hb
  have HY := Lib.hid y4
  have HB2 := Lib.hid hb2
  clear y4 hb2
  go_wp2_with fail
  have hb3 : Below w.heap.size w (w2.alloc (.cells #[.slice X 0 k] 35)) := HB2.out.alloc HB2.out.size _
  refine (check_any A ao n c f (w2.alloc (.cells #[.slice X 0 k] 35)) (by omega) HV.out K HF.out (HR.out.below hb3) (HE.out.below hb3)).mono ?_
  rintro e w4 ⟨rfl, hb⟩
  have y6 := box_below (Boxed.new w2 35 (.slice X 0 k)) hb
  have y4 := box_below (HY.out.alloc _) hb
  have hb4 := hb3.trans (hb.mono hb3.size)
  have hs2 := HB2.out.size
  have d6 := y6.cell
  have d4 := y4.cell
  have e4 := y4.frozen
  have HB4 := Lib.hid hb4
  clear y6 y4 hb4 hb hb3 HY HB2
  rw [OutC, if_pos hlt]
  unfold er
  go_wp2_with fail
  refine bodyPost_ret (v := ?v) ?h1 rfl ?h2
  case h1 => simp [results, Tryd.results4, go_sem, d4]; rfl
  case h2 => exact ⟨rfl, HB4.out.setCell (p := ⟨w.heap.size + 1, 0, none⟩) (by show w.heap.size ≤ w.heap.size + 1; omega) _⟩
end Go.Proofs.YtjebnceajpkhmaaDoor
