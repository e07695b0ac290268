/-
  DERIVED. GIVEN WITH THE SEED: THE CARDS: each row of YtoljfmfmdghoeaaDoorRows.lean that lists a variable, with what it lists TIED to the program's text (the seventh form; the later family's looks); each row that meets fmt, with fmt's text TOLD by the authors' own Lean function (tested against real Go, not proved from fmt's source: count such statements apart). THE CARD IS WHAT COUNTS. Prove the row's statement (the work); the ties are given (YtoljfmfmdghoeaaDoorTie.lean); close each card by the builder's one call (the guide's Derived/Test/ToyasCard.lean, 'card_holds'). Laid BY PROGRAM, IN A SANDBOX (cutbox-door.mjs). By AI agents, Wed Nov 11 2026. No macro, syntax, notation, axiom, sorry.
-/
import Derived.Test.YtoljfmfmdghoeaaDoorRows
import GoSem.ClaimSeven
namespace Go.Proofs.YtoljfmfmdghoeaaDoor
namespace Rows

/-- THE TIED CARD OF 'proofprogramslaw36.SimplifyShorter'. -/
def simplifyShorterCard : Claim7 := { stood := { row := simplifyShorterRow, standIns := [], harness := (true, "9f59ec93cea17e48181084ce59bc790050fbea3b8bc1ff6e089f8012ebc7d69e"), looks := false }, kinds := [], alts := [], laidByText := true, laidKinds := [.data], laidTests := true, laidLooks := .later }
def SimplifyShorterCardSaid : Prop := Claim7.holds Tryd.pinned (.plain (OpenSpec.ofChange simplifyShorterSpec)) simplifyShorterCard

/-- THE TIED CARD OF 'proofprogramslaw36.SimplifyPairs'. -/
def simplifyPairsCard : Claim7 := { stood := { row := simplifyPairsRow, standIns := [], harness := (true, "9f59ec93cea17e48181084ce59bc790050fbea3b8bc1ff6e089f8012ebc7d69e"), looks := false }, kinds := [], alts := [], laidByText := true, laidKinds := [.data], laidTests := true, laidLooks := .later }
def SimplifyPairsCardSaid : Prop := Claim7.holds Tryd.pinned (.plain (OpenSpec.ofChange simplifyPairsSpec)) simplifyPairsCard

/-- THE SECOND FORM's CARD OF 'proofprogramslaw36.SimplifyShorter'. -/
def simplifyShorterUptoCard : Claim7 := { stood := { row := simplifyShorterUptoRow, standIns := [], harness := (true, "9f59ec93cea17e48181084ce59bc790050fbea3b8bc1ff6e089f8012ebc7d69e"), looks := false }, kinds := [], alts := [], laidByText := true, laidKinds := [.data], laidTests := true, laidLooks := .later }
def SimplifyShorterUptoCardSaid : Prop := Claim7.holds Tryd.pinned (.plain (OpenSpec.upto simplifyShorterSpec)) simplifyShorterUptoCard

/-- THE SECOND FORM's CARD OF 'proofprogramslaw36.SimplifyPairs'. -/
def simplifyPairsUptoCard : Claim7 := { stood := { row := simplifyPairsUptoRow, standIns := [], harness := (true, "9f59ec93cea17e48181084ce59bc790050fbea3b8bc1ff6e089f8012ebc7d69e"), looks := false }, kinds := [], alts := [], laidByText := true, laidKinds := [.data], laidTests := true, laidLooks := .later }
def SimplifyPairsUptoCardSaid : Prop := Claim7.holds Tryd.pinned (.plain (OpenSpec.upto simplifyPairsSpec)) simplifyPairsUptoCard
end Rows
end Go.Proofs.YtoljfmfmdghoeaaDoor
