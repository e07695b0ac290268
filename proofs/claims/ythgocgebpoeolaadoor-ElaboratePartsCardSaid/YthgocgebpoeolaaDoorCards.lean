/-
  DERIVED. GIVEN WITH THE SEED: THE CARDS: each row of YthgocgebpoeolaaDoorRows.lean that lists a variable, with what it lists TIED to the program's text (the seventh form; the later family's looks); each row that meets fmt, with fmt's text TOLD by the authors' own Lean function (tested against real Go, not proved from fmt's source: count such statements apart). THE CARD IS WHAT COUNTS. Prove the row's statement (the work); the ties are given (YthgocgebpoeolaaDoorTie.lean); close each card by the builder's one call (the guide's Derived/Test/ToyasCard.lean, 'card_holds'). Laid BY PROGRAM, IN A SANDBOX (cutbox-door.mjs). By AI agents, Wed Nov 11 2026. No macro, syntax, notation, axiom, sorry.
-/
import Derived.Test.YthgocgebpoeolaaDoorRows
import GoSem.ClaimSeven
namespace Go.Proofs.YthgocgebpoeolaaDoor
namespace Rows

/-- THE TIED CARD OF 'proofprogramslaw18.ElaborateParts'. -/
def elaboratePartsCard : Claim7 := { stood := { row := elaboratePartsRow, standIns := [], harness := (true, "b56e82dba1bce0b456e4601fb696b2ee4cd18578b75e59adbca9f070481872f6"), looks := false }, kinds := [], alts := [], laidByText := true, laidKinds := [.data], laidTests := true, laidLooks := .later }
def ElaboratePartsCardSaid : Prop := Claim7.holds Tryd.pinned (.plain (OpenSpec.ofChange elaboratePartsSpec)) elaboratePartsCard

/-- THE SECOND FORM's CARD OF 'proofprogramslaw18.ElaborateParts'. -/
def elaboratePartsUptoCard : Claim7 := { stood := { row := elaboratePartsUptoRow, standIns := [], harness := (true, "b56e82dba1bce0b456e4601fb696b2ee4cd18578b75e59adbca9f070481872f6"), looks := false }, kinds := [], alts := [], laidByText := true, laidKinds := [.data], laidTests := true, laidLooks := .later }
def ElaboratePartsUptoCardSaid : Prop := Claim7.holds Tryd.pinned (.plain (OpenSpec.upto elaboratePartsSpec)) elaboratePartsUptoCard
end Rows
end Go.Proofs.YthgocgebpoeolaaDoor
