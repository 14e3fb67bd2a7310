/- timbrelaw11.FlyExact: for every eight int64 the law returns true, and the argument reads as it did. No condition. -/
import Derived.Test.YtfecfdopdkgceaaRows
import Derived.Test.YtfecfdopdkgceaaWalk
import Derived.WalkKit
import Derived.ProofKit
import Derived.OpenShut
import Derived.ChangeOld
import Derived.Below
namespace Go.Proofs.Ytfecfdopdkgceaa
open Go.ChangeShapes Go.WideShapes Go.ChangeAt Go.RowKit

theorem own : ownKnob Try.prog.godebug = none := by kernel_rfl
theorem laidOut : laidOutB Try.prog = true := by kernel_rfl
theorem cells2 : Try.prog.cellsOf 2 = 1 := by kernel_rfl
theorem cells22 : Try.prog.cellsOf 22 = 8 := by kernel_rfl

theorem list8 {α : Type} (l : List α) (h : (⟨l⟩ : Array α).size = 8) : ∃ a b c d e f g i, l = [a, b, c, d, e, f, g, i] := by
  match l, h with
  | [a, b, c, d, e, f, g, i], _ => exact ⟨a, b, c, d, e, f, g, i, rfl⟩

/-- An array of eight int64 that came in: its cells are eight numbers. -/
theorem open_eight {H : Type} {enc : TypeId × Value → H} {w : World} {base : Nat} {spare : Nat → Bool} {held : Bool} {fuel : Nat} {c0 c1 c2 c3 c4 c5 c6 c7 : Value} {x : DataW H × List MemPlace}
    (h : DataW.trod enc Try.prog w base spare held fuel 22 [c0, c1, c2, c3, c4, c5, c6, c7] = some x) :
    ∃ f : Nat → Int, c0 = .int .i64 (f 0) ∧ c1 = .int .i64 (f 1) ∧ c2 = .int .i64 (f 2) ∧ c3 = .int .i64 (f 3) ∧ c4 = .int .i64 (f 4) ∧ c5 = .int .i64 (f 5) ∧ c6 = .int .i64 (f 6) ∧ c7 = .int .i64 (f 7) := by
  obtain ⟨xs, m, _, _, _, hl, hel⟩ := DataW.trod_array Try.underlying22 h
  have one : ∀ i, i < 8 → ∀ c : Value, ([c0, c1, c2, c3, c4, c5, c6, c7].drop (i * 1)).take 1 = [c] → ∃ n : Int, c = .int .i64 n := by
    intro i hi c hc
    have h1 := hel i hi
    rw [cells2, hc, List.getElem?_eq_getElem (by omega)] at h1
    obtain ⟨n, e, _, _⟩ := DataW.trod_int Try.underlying2 h1
    simp at e
    exact ⟨n, e⟩
  obtain ⟨n0, rfl⟩ := one 0 (by omega) c0 rfl
  obtain ⟨n1, rfl⟩ := one 1 (by omega) c1 rfl
  obtain ⟨n2, rfl⟩ := one 2 (by omega) c2 rfl
  obtain ⟨n3, rfl⟩ := one 3 (by omega) c3 rfl
  obtain ⟨n4, rfl⟩ := one 4 (by omega) c4 rfl
  obtain ⟨n5, rfl⟩ := one 5 (by omega) c5 rfl
  obtain ⟨n6, rfl⟩ := one 6 (by omega) c6 rfl
  obtain ⟨n7, rfl⟩ := one 7 (by omega) c7 rfl
  exact ⟨fun i => [n0, n1, n2, n3, n4, n5, n6, n7].getD i 0, rfl, rfl, rfl, rfl, rfl, rfl, rfl, rfl⟩

set_option maxRecDepth 100000 in
theorem lifted (os : Os) (started : os.Started) (H : Type) (enc : TypeId × Value → H) :
    ReturnsInHanded {} Try.checked os 3 .any (Rows.flyExactSpec.pre6 enc Try.prog Try.f3 Rows.flyExactRow.domain false) (Rows.flyExactSpec.post enc Try.prog Try.f3 false true false false) := by
  refine returnsInHanded_of_change (C := Try.checked) own started (by kernel_rfl) Try.func3
    (ChangeSpec.witness6 (enc := enc) (C := Try.checked) false ⟨#[], #[.agg #[.int .i64 0, .int .i64 0, .int .i64 0, .int .i64 0, .int .i64 0, .int .i64 0, .int .i64 0, .int .i64 0]], []⟩ 8 (by kernel_rfl) (by kernel_rfl) (by kernel_rfl) (by kernel_rfl)) ?_
  intro W base args ds gs before hval0 hW _ _
  have hval : ∀ (j : Nat) t v, Try.f3.params[j]? = some t → args[j]? = some v → Value.okWide Try.prog W .any base t v := hval0
  have hW' := hW
  obtain ⟨p, q, hA0, hV, rfl, hfz, hnd⟩ := hW
  have hA : DataW.TrodAll enc Try.prog W 0 (fun _ => true) true Try.f3.params.toList args.toList ds p := hA0
  rw [Try.params3] at hA hval
  obtain ⟨v0, d0, rfl, rfl, h0⟩ := trodAll_one hA
  obtain ⟨rfl, rfl⟩ := trodVars_none hV
  have k0 := h0
  have lt0 : ∀ x ∈ p, x.block < W.heap.size := by obtain ⟨m, hm⟩ := k0; exact DataW.trod_lt m _ _ _ hm
  obtain ⟨cs, rfl, hsz, _⟩ : ∃ cs, v0 = .agg cs ∧ cs.size = Try.prog.cellsOf 22 ∧ Row.okWide Try.prog W .any base 22 cs := by
    have := hval 0 22 v0 rfl rfl
    simpa [Value.okWide, Try.underlying22] using this
  rw [cells22] at hsz
  obtain ⟨l⟩ := cs
  obtain ⟨c0, c1, c2, c3, c4, c5, c6, c7, rfl⟩ := list8 l hsz
  obtain ⟨fuel, hf⟩ := h0
  obtain ⟨f, rfl, rfl, rfl, rfl, rfl, rfl, rfl, rfl⟩ := open_eight hf
  clear hA0 hval0
  refine (exact_true f W).mono fun e W' ⟨he, bel⟩ => ?_
  subst he
  exact ⟨_, rfl, _, _, _, [], _, [], hW', trodAll_mk1 (shut_bool Try.underlying4 _), trodAll_mk1 (Below.trod laidOut (by kernel_rfl) (of_decide_eq_true (by kernel_rfl)) k0 bel lt0), rfl, bel.frame _, fun h => by cases h⟩

theorem over : Rows.flyExactRow.holds Try.pinned (OpenSpec.ofChange Rows.flyExactSpec) :=
  OpenClaim.holds_of_wide 3 Try.f3 rfl rfl rfl rfl rfl rfl rfl ⟨rfl, rfl, rfl, rfl, rfl⟩ rfl rfl rfl rfl rfl (by kernel_rfl) Try.func3 (by kernel_rfl)
    (of_decide_eq_true (by kernel_rfl)) (by unfold Func.isWrapper; rw [if_neg (of_decide_eq_false (by kernel_rfl))]; exact ⟨rfl, rfl⟩)
    (fun os started H enc _ => lifted os started H enc)

theorem flyExact_holds : Rows.FlyExactSaid := over
#print axioms flyExact_holds
end Go.Proofs.Ytfecfdopdkgceaa
