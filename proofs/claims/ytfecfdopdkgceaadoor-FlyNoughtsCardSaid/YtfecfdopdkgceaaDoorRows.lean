/-
  NARROWER THAN 'FOR EVERY INPUT', by the rows' own cells (each row's printed sentence says how): FlyNoughts: laid.
  DERIVED. THE GIVEN ROWS OF THIS SEAT. 1 by the template 'for every input the law returns true; each argument reads behind the call as it read before'; 0 by the template 'total and deterministic' (their statements: YtfecfdopdkgceaaDoorTotals.lean).
  GIVEN WITH THE SEED: the statements are not yours to turn. If you find one false, say at which input.
  Laid BY PROGRAM, IN A SANDBOX (cutbox-rows.mjs): the forced cells as the released guide's own fill.sh prints them over the translation 1871b6e0b4173095… (all of the seat's roots in one cut). By AI agents, Wed Nov 11 2026. No macro, syntax, notation, axiom, sorry.
-/
import Derived.Test.YtfecfdopdkgceaaDoorChecked
import GoSem.Claim
import GoSem.ClaimJoined
import GoSem.ClaimMapViews
import Derived.JoinedTies
import Derived.KernelRfl
namespace Go.Proofs.YtfecfdopdkgceaaDoor
/- THE CELL 'sum', in the pinned program and in every row, IS THE sha256 OF THE DUMP (.gsa) THAT YtfecfdopdkgceaaDoorProg.lean LOADS. Nothing in Lean hashes anything: it is a label: what it is worth is what the hold of that sum in a sandbox is worth. -/
noncomputable def Tryd.pinned : Pinned := { name := "ytfecfdopdkgceaadoor", sum := "1871b6e0b41730957b26e6b37ad4ef4768be56187d8bf5c7b217f9654cbfb1a8", checked := Tryd.checked }
namespace Rows
def none {H : Type} : Left H := { results := [], args := [] }

/- WHAT THE LISTED PACKAGE-LEVEL VARIABLES READ AS WHEN THE CALL BEGINS. Each datum BY PROGRAM (the guide's laid-datum.mjs) off the statement by which the dump's own 'gosem.cut.vars' lays the variable. In a bare row this is a premise. The card (YtfecfdopdkgceaaDoorCards.lean) ties it to the program's text. -/
def laid_timbre_api_ErrLength {H : Type} : DataW H := .iface "*errors.errorString" (.ptr (.agg [.lit (.string [116, 105, 109, 98, 114, 101, 58, 32, 108, 101, 110, 103, 116, 104])]))

/-- 'timbrelaw11.FlyNoughts': WHATEVER THE INPUT: true; the input reads as it did. -/
def flyNoughtsSpec : ChangeSpec := { name := "flyNoughts", fn := fun _ => fun
  | [d1, d2, d3, d4] => { results := [.lit (.bool true)], args := [d1, d2, d3, d4] }
  | _ => none }
def flyNoughtsRow : OpenClaim := { program := "ytfecfdopdkgceaadoor", sum := "1871b6e0b41730957b26e6b37ad4ef4768be56187d8bf5c7b217f9654cbfb1a8", func := "timbre/timbrelaw11.FlyNoughts", spec := "flyNoughts", inPlace := ["math.Float64frombits", "math.Float64bits"], named := ["timbre/api.ErrLength"], apart := false, laid := [("timbre/api.ErrLength", laid_timbre_api_ErrLength)] }
def FlyNoughtsSaid : Prop := flyNoughtsRow.holds Tryd.pinned (OpenSpec.ofChange flyNoughtsSpec)

/-- ITS FALSE NEIGHBOUR: 'it returns false'. Refute it at one input. -/
def flyNoughtsWrong : ChangeSpec := { name := "flyNoughts", fn := fun _ => fun
  | [d1, d2, d3, d4] => { results := [.lit (.bool false)], args := [d1, d2, d3, d4] }
  | _ => none }
def FlyNoughtsWrongFalsely : Prop := flyNoughtsRow.holds Tryd.pinned (OpenSpec.ofChange flyNoughtsWrong)

/- THE SECOND FORM. 'bulk': how many values and letters a reading holds, each counted each time it is reached (what is shared counts as often as it is met; a slice's spare places count too). A statement '..UptoSaid' is the law's where the arguments, and the package variables that the reading takes, are together of bulk at most 1048576: NARROWER than '..Said'. Prove '..Said' where nothing that the law and all that it calls make is longer than what came in: it says more and counts as full. Else prove '..UptoSaid'. A law counts once. -/
mutual
def uptoBulk {H : Type} : DataW H → Nat
  | .lit (.string bytes) => bytes.length + 1
  | .lit _ => 1
  | .nil => 1
  | .ptr d => uptoBulk d + 1
  | .slice elems spare => uptoBulkAll elems + uptoBulkAll spare + 1
  | .agg parts => uptoBulkAll parts + 1
  | .iface _ d => uptoBulk d + 1
  | .map entries => uptoBulkEntries entries + 1
  | .held _ => 1
def uptoBulkAll {H : Type} : List (DataW H) → Nat
  | [] => 0
  | d :: r => uptoBulk d + uptoBulkAll r
def uptoBulkEntries {H : Type} : List (Lit × DataW H) → Nat
  | [] => 0
  | x :: r => uptoBulkEntry x + uptoBulkEntries r
def uptoBulkEntry {H : Type} : Lit × DataW H → Nat
  | (.string bytes, d) => bytes.length + uptoBulk d + 1
  | (_, d) => uptoBulk d + 1
 end
def uptoSmall : (H : Type) → List (DataW H) → Bool := fun _ ds => decide (uptoBulkAll ds ≤ 1048576)
def OpenSpec.upto (s : _root_.Go.ChangeSpec) : _root_.Go.OpenSpec := { _root_.Go.OpenSpec.ofChange s with cond := some uptoSmall }

/-- 'timbrelaw11.FlyNoughts', WHERE WHAT IT READS IS OF BULK AT MOST 1048576: true; the input reads as it did. -/
def flyNoughtsUptoRow : OpenClaim := { program := "ytfecfdopdkgceaadoor", sum := "1871b6e0b41730957b26e6b37ad4ef4768be56187d8bf5c7b217f9654cbfb1a8", func := "timbre/timbrelaw11.FlyNoughts", spec := "flyNoughts", inPlace := ["math.Float64frombits", "math.Float64bits"], named := ["timbre/api.ErrLength"], apart := false, laid := [("timbre/api.ErrLength", laid_timbre_api_ErrLength)], narrowed := true }
def FlyNoughtsUptoSaid : Prop := flyNoughtsUptoRow.holds Tryd.pinned (OpenSpec.upto flyNoughtsSpec)

end Rows
end Go.Proofs.YtfecfdopdkgceaaDoor
