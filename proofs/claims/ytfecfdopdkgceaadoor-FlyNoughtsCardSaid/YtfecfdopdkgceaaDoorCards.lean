/-
  DERIVED. GIVEN WITH THE SEED: THE CARDS: each row of YtfecfdopdkgceaaDoorRows.lean that lists a variable, with what it lists TIED to the program's text (the seventh form; the later family's looks); each row that meets fmt, with fmt's text TOLD by the authors' own Lean function (tested against real Go, not proved from fmt's source: count such statements apart). THE CARD IS WHAT COUNTS. Prove the row's statement (the work); the ties are given (YtfecfdopdkgceaaDoorTie.lean); close each card by the builder's one call (the guide's Derived/Test/ToyasCard.lean, 'card_holds'). Laid BY PROGRAM, IN A SANDBOX (cutbox-door.mjs). By AI agents, Wed Nov 11 2026. No macro, syntax, notation, axiom, sorry.
-/
import Derived.Test.YtfecfdopdkgceaaDoorRows
import GoSem.ClaimSeven
namespace Go.Proofs.YtfecfdopdkgceaaDoor
namespace Rows

/-- THE TIED CARD OF 'timbrelaw11.FlyNoughts'. -/
def flyNoughtsCard : Claim7 := { stood := { row := flyNoughtsRow, standIns := [], harness := (true, "b2470c5414abed587184626af2e0be97b8b9cefd8da0541bdfb0bb97e76ef9cb"), looks := false }, kinds := [], alts := [], laidByText := true, laidKinds := [.sentinel], laidTests := true, laidLooks := .later }
def FlyNoughtsCardSaid : Prop := Claim7.holds Tryd.pinned (.plain (OpenSpec.ofChange flyNoughtsSpec)) flyNoughtsCard

/-- THE SECOND FORM's CARD OF 'timbrelaw11.FlyNoughts'. -/
def flyNoughtsUptoCard : Claim7 := { stood := { row := flyNoughtsUptoRow, standIns := [], harness := (true, "b2470c5414abed587184626af2e0be97b8b9cefd8da0541bdfb0bb97e76ef9cb"), looks := false }, kinds := [], alts := [], laidByText := true, laidKinds := [.sentinel], laidTests := true, laidLooks := .later }
def FlyNoughtsUptoCardSaid : Prop := Claim7.holds Tryd.pinned (.plain (OpenSpec.upto flyNoughtsSpec)) flyNoughtsUptoCard
end Rows
end Go.Proofs.YtfecfdopdkgceaaDoor
