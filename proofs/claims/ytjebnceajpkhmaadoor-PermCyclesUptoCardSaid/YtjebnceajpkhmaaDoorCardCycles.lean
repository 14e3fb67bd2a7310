/- timbrelaw06.PermCycles: for every list of ints and every number, of bulk at most 1048576 together, the law returns true, and both read as they did. The card: the three listed variables (api's ErrRange, ErrLength and ErrPerm) are tied to the program's text; no other condition. -/
import Derived.Test.YtjebnceajpkhmaaDoorRows
import Derived.Test.YtjebnceajpkhmaaDoorTie
import Derived.Test.YtjebnceajpkhmaaDoorCards
import Derived.Test.YtjebnceajpkhmaaDoorPcg
import Derived.ProofKit
import Derived.LaidMore
import Derived.OpenShut
import Derived.Stop.Joined
import Derived.SevenTiedAt
import Derived.Deep.DeepHandedRow
import Derived.Deep.DeepWitnessRowRef
namespace Go.Proofs.YtjebnceajpkhmaaDoor
open Go.ChangeShapes Go.WideShapes Go.ChangeAt Go.RowKit

theorem own : ownKnob Tryd.prog.godebug = none := by kernel_rfl
theorem laidOut : laidOutB Tryd.prog = true := by kernel_rfl
theorem cells3 : Tryd.prog.cellsOf 3 = 1 := by kernel_rfl
theorem bytes3 : Tryd.prog.bytesOf 3 = 8 := by kernel_rfl

theorem add_at (b off i : Nat) : (⟨b, off, none⟩ : Addr).add i = ⟨b, off + i, none⟩ := by
  unfold Addr.add
  by_cases h : i = 0
  · subst h; simp
  · simp [h]

theorem lit64 (n : Int) (h : (Lit.int .i64 n).wf = true) : -9223372036854775808 ≤ n ∧ n ≤ 9223372036854775807 := by
  have h1 : IntKind.i64.min = -9223372036854775808 := rfl
  have h2 : IntKind.i64.max = 9223372036854775807 := rfl
  simp [Lit.wf] at h
  omega

/-- What a list of ints that came in holds. -/
theorem view {H : Type} {enc : TypeId × Value → H} {W : World} {fuel : Nat} {a : Option Addr} {len cap : Nat} {d : DataW H} {p : List MemPlace} {base : Nat} {held : Bool}
    (hf : DataW.trod enc Tryd.prog W base (fun _ => true) held fuel 22 [.slice a len cap] = some (d, p)) :
    ∃ f : Nat → Int, Arg W (.slice a len cap) len f ∧ (∀ i, i < len → -9223372036854775808 ≤ f i ∧ f i ≤ 9223372036854775807) ∧ ((d = .nil ∧ len = 0) ∨ ∃ el sp, d = .slice el sp ∧ len ≤ el.length + sp.length) := by
  rcases open_ints Tryd.underlying22 Tryd.underlying3 cells3 hf with ⟨hcs, hx⟩ | ⟨x, l, c, zs, hcs, _, hl, _, hz, hx, hcell, hwf⟩
  · simp at hcs
    obtain ⟨rfl, rfl, rfl⟩ := hcs
    exact ⟨fun _ => 0, .inl ⟨rfl, rfl⟩, fun i hi => by omega, .inl ⟨(Prod.mk.inj hx).1, rfl⟩⟩
  · simp at hcs
    obtain ⟨rfl, rfl, rfl⟩ := hcs
    simp at hz
    have h64 : ∀ i, i < len → -9223372036854775808 ≤ zs.getD i 0 ∧ zs.getD i 0 ≤ 9223372036854775807 := fun i hi => by
      have hi' : i < zs.length := by omega
      rw [List.getD_eq_getElem?_getD, List.getElem?_eq_getElem hi']
      exact lit64 _ (hwf _ (List.getElem_mem hi'))
    refine ⟨fun i => zs.getD i 0, ?_, h64, .inr ⟨_, _, (Prod.mk.inj hx).1, by simp [lits]; omega⟩⟩
    obtain ⟨b, off, spot⟩ := x
    by_cases h0 : len = 0
    · subst h0
      exact .inr (.inl ⟨_, _, rfl, rfl⟩)
    · have hs : spot = none := by simpa [Addr.add] using World.cell?_spot (hcell 0 (by omega))
      subst hs
      exact .inr (.inr ⟨b, off, _, rfl, fun i hi => by rw [← add_at]; exact hcell i (by omega)⟩)

theorem bulk_one {H : Type} (d : DataW H) : 1 ≤ Rows.uptoBulk d := by
  cases d with
  | lit l => cases l <;> simp [Rows.uptoBulk]
  | nil => simp [Rows.uptoBulk]
  | ptr d => simp [Rows.uptoBulk]
  | slice elems spare => simp [Rows.uptoBulk]
  | agg parts => simp [Rows.uptoBulk]
  | iface t d => simp [Rows.uptoBulk]
  | map entries => simp [Rows.uptoBulk]
  | held h => simp [Rows.uptoBulk]
theorem bulk_len {H : Type} (l : List (DataW H)) : l.length ≤ Rows.uptoBulkAll l := by
  induction l with
  | nil => simp [Rows.uptoBulkAll]
  | cons x r ih => have := bulk_one x; simp only [Rows.uptoBulkAll, List.length_cons]; omega
theorem bulk_slice {H : Type} (elems spare : List (DataW H)) : elems.length + spare.length + 1 ≤ Rows.uptoBulk (.slice elems spare) := by
  have h1 := bulk_len elems
  have h2 := bulk_len spare
  simp only [Rows.uptoBulk]
  omega
theorem bulk_two {H : Type} {d e : DataW H} (hk : Rows.uptoSmall H ([d, e] ++ []) = true) : Rows.uptoBulk d ≤ 1048576 := by
  have h := of_decide_eq_true hk
  simp only [List.append_nil, Rows.uptoBulkAll] at h
  omega

/-- The door's own heap meets the condition: three closed facts. -/
theorem door_met (os : Os) (args : Array Value) : laidMetH Tryd.prog Rows.permCyclesUptoRow.laid ((World.doorLaid Tryd.prog 370 os).forCall (fun _ _ => 0) ⟨#[], args, []⟩).memory :=
  laidMetH_of_parts3 (fuel := 8) (laidMet_of_run' 8 (by kernel_rfl) (by kernel_rfl)) (by kernel_rfl) (by kernel_rfl)

noncomputable def errC : List (String × Nat × List UInt8) := [("timbre/api.ErrRange", 2, [116, 105, 109, 98, 114, 101, 58, 32, 114, 97, 110, 103, 101]),
  ("timbre/api.ErrLength", 1, [116, 105, 109, 98, 114, 101, 58, 32, 108, 101, 110, 103, 116, 104]),
  ("timbre/api.ErrPerm", 0, [116, 105, 109, 98, 114, 101, 58, 32, 112, 101, 114, 109, 117, 116, 97, 116, 105, 111, 110])]
theorem glo_of {W : World} (h : laidMetH Tryd.prog Rows.permCyclesUptoRow.laid W) : ∃ A : Nat → Addr, Glo A W := by
  rw [MakeChecks.laidMetH_plain _ _ _ (by kernel_rfl)] at h
  obtain ⟨A, hA⟩ := errs_of_laid (L := errC) (by kernel_rfl) h
  refine ⟨fun i => if i = 4 then A 0 else if i = 6 then A 1 else A 2, ?_, ?_, ?_⟩
  · exact (hA.all 0 (errC[0]'(by decide)) rfl).glob
  · exact (hA.all 1 (errC[1]'(by decide)) rfl).glob
  · exact (hA.all 2 (errC[2]'(by decide)) rfl).glob

theorem pc_walk (A : Nat → Addr) (v : Value) (n : Nat) (st : Int) (f : Nat → Int) (w : World) (hn : n ≤ 1048576) (hf : ∀ i, i < n → -9223372036854775808 ≤ f i ∧ f i ≤ 9223372036854775807)
    (h : Arg w v n f) (hE : Glo A w) : Calls Tryd.prog 4 #[v, .int .i64 st] w fun e w' => e = .returned (.bool true) ∧ Below w.heap.size w w' := by
  obtain ⟨K, hF⟩ := fits n f
  obtain ⟨ao, c, rfl, hR, -⟩ := h.row
  have := hF.le
  by_cases hlt : K < n
  · exact pc_bad A ao n c K st f w hn hf hF hR hE hlt
  · obtain rfl : K = n := by omega
    exact pc_good A ao K c st f w hn hf hF hR hE

theorem reads (os : Os) {H : Type} (enc : TypeId × Value → H) : ∃ places, DataW.whole enc Tryd.prog ((World.doorLaid Tryd.prog 370 os).forCall (fun _ _ => 0) ⟨#[], #[.slice none 0 0, .int .i64 0], []⟩).memory Tryd.f4.params.toList Rows.permCyclesSpec.vars false #[Value.slice none 0 0, Value.int .i64 0].toList 8 = some ([.nil, .lit (.int .i64 0)], [], places) :=
  ⟨[], by kernel_rfl⟩

set_option maxRecDepth 100000 in
theorem lifted (os : Os) (started : os.Started) (H : Type) (enc : TypeId × Value → H) (F : Stop.Interp) :
    ReturnsInHanded {} Tryd.checked os 4 .any ((Rows.OpenSpec.upto Rows.permCyclesSpec).preRow enc Tryd.prog Tryd.f4 Rows.permCyclesUptoRow.domain false Rows.permCyclesUptoRow.laid) (((Rows.OpenSpec.upto Rows.permCyclesSpec).at F).post enc Tryd.prog Tryd.f4 false true false false) := by
  obtain ⟨places, hx⟩ := reads os enc
  refine returnsInHanded_of_row (C := Tryd.checked) (s := Rows.OpenSpec.upto Rows.permCyclesSpec) own started (by kernel_rfl) Tryd.func4
    (witness_row_atRef (enc := enc) (C := Tryd.checked) false (World.doorLaid Tryd.prog 370 os) #[.slice none 0 0, .int .i64 0] rfl (by kernel_rfl) (by kernel_rfl) (by kernel_rfl)
      (OpenSpec.preRow_of_cond 8 hx (by kernel_rfl) (fun k hk => by cases hk; kernel_rfl) (by kernel_rfl) (door_met os _))) ?_
  intro W base args ds gs before hval0 hW _ hcond _ hL _ _
  have hval : ∀ (j : Nat) t v, Tryd.f4.params[j]? = some t → args[j]? = some v → Value.okWide Tryd.prog W .any base t v := hval0
  have hk : Rows.uptoSmall H (ds ++ gs) = true := hcond _ rfl
  have hW' := hW
  obtain ⟨p, q, hA0, hV0, rfl, hfz, hnd⟩ := hW
  have hA : DataW.TrodAll enc Tryd.prog W 0 (fun _ => true) true Tryd.f4.params.toList args.toList ds p := hA0
  have hV : DataW.TrodVars enc Tryd.prog W (fun _ => true) [] gs q := hV0
  rw [Tryd.params4] at hA hval
  obtain ⟨v0, vs0, d0, ds0, p0, q0, hargs, rfl, rfl, h0, r0⟩ := trodAll_cons hA
  obtain ⟨v1, vs1, d1, ds1, p1, q1, rfl, rfl, rfl, h1, r1⟩ := trodAll_cons r0
  obtain ⟨rfl, rfl, rfl⟩ := trodAll_nil r1
  obtain rfl : args = #[v0, v1] := by cases args; simp_all
  obtain ⟨rfl, rfl⟩ : gs = [] ∧ q = [] := by
    cases gs with
    | nil => exact ⟨rfl, hV⟩
    | cons g r => exact absurd hV (by intro h; cases h)
  obtain ⟨a0, len0, cap0, rfl⟩ := okWide_slice Tryd.underlying22 (hval 0 22 v0 rfl rfl)
  obtain ⟨st, rfl, rfl, rfl, wst⟩ := open_int Tryd.underlying3 (hval 1 3 v1 rfl rfl) h1
  have k0 := h0
  have lt0 : ∀ x ∈ p0, x.block < W.heap.size := by obtain ⟨m, hm⟩ := k0; exact DataW.trod_lt m _ _ _ hm
  have b0 := bulk_two hk
  obtain ⟨fuel, hf⟩ := h0
  obtain ⟨f, hArg, h64, hd⟩ := view hf
  have hn : len0 ≤ 1048576 := by
    rcases hd with ⟨-, h⟩ | ⟨el, sp, rfl, h⟩
    · omega
    · have := bulk_slice el sp
      omega
  obtain ⟨A, hE⟩ := glo_of hL
  clear hA0 hV0 hval0 hL hcond hk
  refine (pc_walk A (.slice a0 len0 cap0) len0 st f W hn h64 hArg hE).mono fun e W' ⟨he, bel⟩ => ?_
  subst he
  exact ⟨_, rfl, _, _, _, [], _, [], hW', trodAll_mk1 (shut_bool Tryd.underlying4 _), (trodAll_cons_mk (Below.trod laidOut (by kernel_rfl) (of_decide_eq_true (by kernel_rfl)) k0 bel lt0) (trodAll_cons_mk (shut_int Tryd.underlying3 wst) trodAll_mk0)), rfl, bel.frame _, fun h => by cases h⟩

theorem over : Rows.PermCyclesUptoSaid :=
  OpenClaim.holds_of_cond 4 Tryd.f4 rfl rfl rfl rfl rfl rfl rfl ⟨rfl, rfl, rfl, rfl, rfl⟩ rfl rfl rfl rfl rfl (by kernel_rfl) Tryd.func4 (by kernel_rfl)
    (of_decide_eq_true (by kernel_rfl)) (by unfold Func.isWrapper; rw [if_neg (of_decide_eq_false (by kernel_rfl))]; exact ⟨rfl, rfl⟩)
    (fun os started H enc _ F => by rw [OpenClaim.pre_eq_preRow]; exact lifted os started H enc F)

theorem permCyclesUpto_holds : Rows.PermCyclesUptoCardSaid :=
  Claim7.holds_tied_plain_at .later [] _ _ _ _
    over (fun _ h => by cases h) (by kernel_rfl) (fun _ h => by cases h) permCyclesUpto_row_tie rfl ⟨rfl, rfl⟩ (by kernel_rfl) rfl
    (fun f fn hf hfn => by
      obtain rfl : f = 4 := Option.some.inj ((show Tryd.prog.funcNamed "timbre/timbrelaw06.PermCycles" = some 4 by kernel_rfl).symm.trans hf) |>.symm
      obtain rfl : fn = Tryd.f4 := (Option.some.inj (Tryd.func4.symm.trans hfn)).symm
      exact ⟨by kernel_rfl, fun j t ht => by
        rw [Tryd.params4] at ht
        have hm : t ∈ [22, 3] := by simpa using Array.mem_of_getElem? ht
        have hall : ([22, 3].all fun u => !Tryd.prog.wantsStandIn u) = true := by kernel_rfl
        exact (show Tryd.prog.wantsStandIn t = false by simpa using List.all_eq_true.1 hall t hm)⟩)
    (by kernel_rfl)
#print axioms permCyclesUpto_holds
end Go.Proofs.YtjebnceajpkhmaaDoor
