/-
  DERIVED. GIVEN WITH THE SEED: THE CARDS: each row of YtclilclihmefbaaGreatDoorRows.lean that lists a variable, with what it lists TIED to the program's text (the seventh form; the later family's looks); each row that meets fmt, with fmt's text TOLD by the authors' own Lean function (tested against real Go, not proved from fmt's source: count such statements apart). THE CARD IS WHAT COUNTS. Prove the row's statement (the work); the ties are given (YtclilclihmefbaaGreatDoorTie.lean); close each card by the builder's one call (the guide's Derived/Test/ToyasCard.lean, 'card_holds'). Laid BY PROGRAM, IN A SANDBOX (cutbox-door.mjs). By AI agents, Wed Nov 11 2026. No macro, syntax, notation, axiom, sorry.
-/
import Derived.Test.YtclilclihmefbaaGreatDoorRows
import GoSem.ClaimSeven
namespace Go.Proofs.YtclilclihmefbaaGreatDoor
namespace Rows

/-- THE TIED CARD OF 'chandlerlaw25.StatusNil'. -/
def statusNilCard : Claim7 := { stood := { row := statusNilRow, standIns := [], harness := (true, "ed3b3f420798cfed349851cbb592bddad5aaeb699d694079fff18b786f164b73"), looks := true }, kinds := [], alts := [], laidByText := true, laidKinds := [.data, .data, .data, .data, .pinned], laidTests := true, laidLooks := .later }
def StatusNilCardSaid : Prop := Claim7.holds Tryz.pinned (.plain (OpenSpec.ofChange statusNilSpec)) statusNilCard

/-- THE SECOND FORM's CARD OF 'chandlerlaw25.StatusNil'. -/
def statusNilUptoCard : Claim7 := { stood := { row := statusNilUptoRow, standIns := [], harness := (true, "ed3b3f420798cfed349851cbb592bddad5aaeb699d694079fff18b786f164b73"), looks := true }, kinds := [], alts := [], laidByText := true, laidKinds := [.data, .data, .data, .data, .pinned], laidTests := true, laidLooks := .later }
def StatusNilUptoCardSaid : Prop := Claim7.holds Tryz.pinned (.plain (OpenSpec.upto statusNilSpec)) statusNilUptoCard
end Rows
end Go.Proofs.YtclilclihmefbaaGreatDoor
