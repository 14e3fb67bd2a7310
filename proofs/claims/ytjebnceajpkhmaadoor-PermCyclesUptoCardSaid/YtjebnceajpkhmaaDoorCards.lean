/-
  DERIVED. GIVEN WITH THE SEED: THE CARDS: each row of YtjebnceajpkhmaaDoorRows.lean that lists a variable, with what it lists TIED to the program's text (the seventh form; the later family's looks); each row that meets fmt, with fmt's text TOLD by the authors' own Lean function (tested against real Go, not proved from fmt's source: count such statements apart). THE CARD IS WHAT COUNTS. Prove the row's statement (the work); the ties are given (YtjebnceajpkhmaaDoorTie.lean); close each card by the builder's one call (the guide's Derived/Test/ToyasCard.lean, 'card_holds'). Laid BY PROGRAM, IN A SANDBOX (cutbox-door.mjs). By AI agents, Wed Nov 11 2026. No macro, syntax, notation, axiom, sorry.
-/
import Derived.Test.YtjebnceajpkhmaaDoorRows
import GoSem.ClaimSeven
namespace Go.Proofs.YtjebnceajpkhmaaDoor
namespace Rows

/-- THE TIED CARD OF 'timbrelaw06.PermDigits'. -/
def permDigitsCard : Claim7 := { stood := { row := permDigitsRow, standIns := [], harness := (true, "2734552c8de22a666d31c7c4e2e17385282c9d4264a577f8d7b5bfe58335fbe6"), looks := true }, kinds := [], alts := [], laidByText := true, laidKinds := [.sentinel, .sentinel, .sentinel, .sentinel, .sentinel, .sentinel, .sentinel, .sentinel, .sentinel, .sentinel, .sentinel, .sentinel, .sentinel, .sentinel, .sentinel, .sentinel, .sentinel, .sentinel, .sentinel], laidTests := true, laidLooks := .later }
def PermDigitsCardSaid : Prop := Claim7.holds Tryd.pinned (.plain (OpenSpec.ofChange permDigitsSpec)) permDigitsCard

/-- THE TIED CARD OF 'timbrelaw06.PermCycles'. -/
def permCyclesCard : Claim7 := { stood := { row := permCyclesRow, standIns := [], harness := (true, "2734552c8de22a666d31c7c4e2e17385282c9d4264a577f8d7b5bfe58335fbe6"), looks := true }, kinds := [], alts := [], laidByText := true, laidKinds := [.sentinel, .sentinel, .sentinel], laidTests := true, laidLooks := .later }
def PermCyclesCardSaid : Prop := Claim7.holds Tryd.pinned (.plain (OpenSpec.ofChange permCyclesSpec)) permCyclesCard

/-- THE TIED CARD OF 'timbrelaw06.PermAsks'. -/
def permAsksCard : Claim7 := { stood := { row := permAsksRow, standIns := [], harness := (true, "2734552c8de22a666d31c7c4e2e17385282c9d4264a577f8d7b5bfe58335fbe6"), looks := true }, kinds := [], alts := [], laidByText := true, laidKinds := [.sentinel, .sentinel, .sentinel, .sentinel, .sentinel, .sentinel, .sentinel, .sentinel, .sentinel, .sentinel, .sentinel, .sentinel, .sentinel, .sentinel, .sentinel, .sentinel, .sentinel, .sentinel, .sentinel], laidTests := true, laidLooks := .later }
def PermAsksCardSaid : Prop := Claim7.holds Tryd.pinned (.plain (OpenSpec.ofChange permAsksSpec)) permAsksCard

/-- THE SECOND FORM's CARD OF 'timbrelaw06.PermDigits'. -/
def permDigitsUptoCard : Claim7 := { stood := { row := permDigitsUptoRow, standIns := [], harness := (true, "2734552c8de22a666d31c7c4e2e17385282c9d4264a577f8d7b5bfe58335fbe6"), looks := true }, kinds := [], alts := [], laidByText := true, laidKinds := [.sentinel, .sentinel, .sentinel, .sentinel, .sentinel, .sentinel, .sentinel, .sentinel, .sentinel, .sentinel, .sentinel, .sentinel, .sentinel, .sentinel, .sentinel, .sentinel, .sentinel, .sentinel, .sentinel], laidTests := true, laidLooks := .later }
def PermDigitsUptoCardSaid : Prop := Claim7.holds Tryd.pinned (.plain (OpenSpec.upto permDigitsSpec)) permDigitsUptoCard

/-- THE SECOND FORM's CARD OF 'timbrelaw06.PermCycles'. -/
def permCyclesUptoCard : Claim7 := { stood := { row := permCyclesUptoRow, standIns := [], harness := (true, "2734552c8de22a666d31c7c4e2e17385282c9d4264a577f8d7b5bfe58335fbe6"), looks := true }, kinds := [], alts := [], laidByText := true, laidKinds := [.sentinel, .sentinel, .sentinel], laidTests := true, laidLooks := .later }
def PermCyclesUptoCardSaid : Prop := Claim7.holds Tryd.pinned (.plain (OpenSpec.upto permCyclesSpec)) permCyclesUptoCard

/-- THE SECOND FORM's CARD OF 'timbrelaw06.PermAsks'. -/
def permAsksUptoCard : Claim7 := { stood := { row := permAsksUptoRow, standIns := [], harness := (true, "2734552c8de22a666d31c7c4e2e17385282c9d4264a577f8d7b5bfe58335fbe6"), looks := true }, kinds := [], alts := [], laidByText := true, laidKinds := [.sentinel, .sentinel, .sentinel, .sentinel, .sentinel, .sentinel, .sentinel, .sentinel, .sentinel, .sentinel, .sentinel, .sentinel, .sentinel, .sentinel, .sentinel, .sentinel, .sentinel, .sentinel, .sentinel], laidTests := true, laidLooks := .later }
def PermAsksUptoCardSaid : Prop := Claim7.holds Tryd.pinned (.plain (OpenSpec.upto permAsksSpec)) permAsksUptoCard
end Rows
end Go.Proofs.YtjebnceajpkhmaaDoor
