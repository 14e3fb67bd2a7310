/- The fixed fact of the law's package is true. -/
import Derived.Test.YtjebnceajpkhmaaDoorChk
namespace Go.Proofs.YtjebnceajpkhmaaDoor
open Go.RowKit

def f23 (i : Nat) : Int := if i = 0 then 2 else 3
theorem facts23 : Facts 2 f23 2 2 :=
  ⟨by omega, by omega, fun j hj => by (rcases (show j = 0 ∨ j = 1 by omega) with rfl | rfl) <;> decide, fun h => by omega, fun j hj => by (rcases (show j = 0 ∨ j = 1 by omega) with rfl | rfl) <;> decide, fun h => by omega⟩
theorem pr23 : (Pr f23 2).toNat = 6 := by decide
def d6 (i : Nat) : Int := if i = 0 then 0 else if i = 1 then 3 else if i = 2 then 1 else if i = 3 then 4 else if i = 4 then 2 else 5
theorem dig23 (i : Nat) (hi : i < 6) : dig 2 f23 i = d6 i := by
  rcases (show i = 0 ∨ i = 1 ∨ i = 2 ∨ i = 3 ∨ i = 4 ∨ i = 5 by omega) with rfl | rfl | rfl | rfl | rfl | rfl <;> with_unfolding_all rfl
theorem fits00 : Fits 2 (fun _ => 0) 1 := by
  refine ⟨by omega, fun j hj => ?_, fun _ h => ?_⟩
  · obtain rfl : j = 0 := by omega
    exact ⟨by decide, by decide, by decide⟩
  · have := h.2.2
    revert this
    decide

/-- What the region keeps. -/
structure Lv (A : Nat → Addr) (X : Nat) (W0 w : World) : Prop where
  er : Glo A w
  is : Ints w X 0 6 d6
  bel : Below W0.heap.size W0 w
theorem Lv.go {A : Nat → Addr} {X : Nat} {W0 w w' : World} (h : Lv A X W0 w) (hb : Below w.heap.size w w') : Lv A X W0 w' :=
  ⟨h.er.below hb, h.is.below hb, h.bel.trans (hb.mono h.bel.size)⟩
theorem Lv.alloc {A : Nat → Addr} {X : Nat} {W0 w : World} (h : Lv A X W0 w) (o : Obj) : Lv A X W0 (w.alloc o) := h.go ((Below.refl _ _).alloc (Nat.le_refl _) _)
theorem Lv.drew {A : Nat → Addr} {X : Nat} {W0 w : World} (h : Lv A X W0 w) : Lv A X W0 w.drew := h.go (Below.refl _ _).drew
theorem two_row {w : World} {a b : Int} {f : Nat → Int} (h0 : f 0 = a) (h1 : f 1 = b) : Row (w.alloc (.cells #[.int .i64 a, .int .i64 b] 3)) (some ⟨w.heap.size, 0, none⟩) 2 f :=
  .inr ⟨_, _, rfl, fun i hi => by
    rw [Nat.zero_add, World.cell?_alloc_at _ _ _ _ rfl]
    rcases (show i = 0 ∨ i = 1 by omega) with rfl | rfl
    · rw [h0]; rfl
    · rw [h1]; rfl⟩

theorem six_row {w : World} : Row (w.alloc (.cells #[.int .i64 0, .int .i64 3, .int .i64 1, .int .i64 4, .int .i64 2, .int .i64 5] 3)) (some ⟨w.heap.size, 0, none⟩) 6 d6 :=
  .inr ⟨_, _, rfl, fun i hi => by
    rw [Nat.zero_add, World.cell?_alloc_at _ _ _ _ rfl]
    rcases (show i = 0 ∨ i = 1 ∨ i = 2 ∨ i = 3 ∨ i = 4 ∨ i = 5 by omega) with rfl | rfl | rfl | rfl | rfl | rfl <;> rfl⟩
/-- .. and a variable's cell. -/
def Lg (A : Nat → Addr) (X : Nat) (W0 w : World) : Prop := Lv A X W0 w ∧ w.cell? ⟨0, 0, none⟩ = some (.iface 60 (.pointer (some (A 11))))
theorem Lv.g {A : Nat → Addr} {X : Nat} {W0 w : World} (h : Lv A X W0 w) : Lg A X W0 w := ⟨h, h.er.2.2⟩
theorem check00 {A : Nat → Addr} {X b : Nat} {W0 w : World} (hL : Lg A X W0 w) (h : Row w (some ⟨b, 0, none⟩) 2 (fun _ => 0)) :
    Calls Tryd.prog 14 #[.slice (some ⟨b, 0, none⟩) 2 2] w fun e w' => e = .returned (.iface 60 (.pointer (some (A 11)))) ∧ Lv A X W0 w' ∧ w'.cell? ⟨0, 0, none⟩ = some (.iface 60 (.pointer (some (A 11)))) :=
  (check_any A _ 2 2 (fun _ => 0) w (by omega) (fun _ _ => by omega) 1 fits00 h hL.1.er).mono fun e w' ⟨he, hb⟩ => ⟨by rw [he]; rfl, (hL.1.go hb).g⟩
theorem same6 {A : Nat → Addr} {X b : Nat} {W0 w : World} (hL : Lg A X W0 w) (h : Row w (some ⟨b, 0, none⟩) 6 d6) :
    Calls Tryd.prog 10 #[.slice (some ⟨X, 0, none⟩) 6 6, .slice (some ⟨b, 0, none⟩) 6 6] w fun e w' => e = .returned (.bool true) ∧ Lv A X W0 w' ∧ w'.cell? ⟨0, 0, none⟩ = some (.iface 60 (.pointer (some (A 11)))) :=
  (same_rows (f := d6) w (by decide) (.inr ⟨X, 0, rfl, hL.1.is⟩) h).mono fun e w' ⟨he, hb⟩ => ⟨he, (hL.1.go hb).g⟩
theorem six_row' {w : World} : Row (w.alloc (.cells #[.int .i64 0, .int .i64 3, .int .i64 1, .int .i64 4, .int .i64 2, .int .i64 5] 3)).drew (some ⟨w.heap.size, 0, none⟩) 6 d6 := six_row.below (Below.refl _ _).drew
theorem Lg.alloc {A : Nat → Addr} {X : Nat} {W0 w : World} (h : Lg A X W0 w) (o : Obj) : Lv A X W0 (w.alloc o) ∧ (w.alloc o).cell? ⟨0, 0, none⟩ = some (.iface 60 (.pointer (some (A 11)))) := (h.1.alloc o).g
theorem Lg.drew {A : Nat → Addr} {X : Nat} {W0 w : World} (h : Lg A X W0 w) : Lv A X W0 w.drew ∧ w.drew.cell? ⟨0, 0, none⟩ = some (.iface 60 (.pointer (some (A 11)))) := h.1.drew.g

set_option maxRecDepth 100000 in
theorem lives_any (A : Nat → Addr) (w : World) (hE : Glo A w) : Calls Tryd.prog 6 #[] w fun e w' => e = .returned (.bool true) ∧ Below w.heap.size w w' := by
  have HE := Lib.hid hE
  clear hE
  go_enter Tryd.func6, Tryd.ntmps6
  go_wp2_with fail
  refine (digits_any A _ 2 2 f23 _ (by omega) (fun i _ => by unfold f23; split <;> omega) 2 2 facts23 (two_row rfl rfl) (HE.out.below ((Below.refl _ _).alloc (Nat.le_refl _) _))).mono ?_
  rintro e w1 ⟨hb, ⟨h, -⟩ | ⟨-, h, -⟩ | ⟨-, -, X, rfl, hX, hlo, hlt⟩⟩
  · exact absurd h (by omega)
  · exact absurd h (by omega)
  rw [pr23] at hX ⊢
  have hB1 : Below w.heap.size w w1 := ((Below.refl _ _).alloc (Nat.le_refl _) _).trans (hb.mono (by simp))
  have hL : Lv A X w w1 := ⟨HE.out.below hB1, fun i hi => by rw [hX i hi, dig23 i hi], hB1⟩
  clear hX hlo hlt hb hB1
  have g0 := hL.er.2.2
  have hq := eq_run (A 11)
  go_wp2_with fail
  go_region_held3 (fun w' => Lv A X w w' ∧ w'.cell? ⟨0, 0, none⟩ = some (.iface 60 (.pointer (some (A 11)))))
    (first | exact Lg.alloc (by assumption) _ | exact Lg.drew (by assumption) | exact Lg.alloc ⟨by assumption, by assumption⟩ _ | exact Lg.drew ⟨by assumption, by assumption⟩ | assumption | exact ⟨by assumption, by assumption⟩)
    (first | (go_at_call 10; go_loud (refine (same6 (by first | assumption | exact ⟨by assumption, by assumption⟩) (by first | exact six_row | exact six_row')).mono ?_); rintro e w2 ⟨rfl, hL2, hg2⟩) | (go_at_call 14; go_loud (refine (check00 (by first | assumption | exact ⟨by assumption, by assumption⟩) (two_row rfl rfl)).mono ?_); rintro e w2 ⟨rfl, hL2, hg2⟩))
  all_goals
    go_wp2_with fail
    go_ret
    exact ⟨rfl, by first | exact Lv.bel (by assumption) | exact Lv.bel (And.left (by assumption))⟩
end Go.Proofs.YtjebnceajpkhmaaDoor
