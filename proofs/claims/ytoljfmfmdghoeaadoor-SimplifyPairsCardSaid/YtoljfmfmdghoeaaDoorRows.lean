/-
  NARROWER THAN 'FOR EVERY INPUT', by the rows' own cells (each row's printed sentence says how): SimplifyShorter: laid · SimplifyPairs: laid.
  DERIVED. THE GIVEN ROWS OF THIS SEAT. 2 by the template 'for every input the law returns true; each argument reads behind the call as it read before'; 0 by the template 'total and deterministic' (their statements: YtoljfmfmdghoeaaDoorTotals.lean).
  GIVEN WITH THE SEED: the statements are not yours to turn. If you find one false, say at which input.
  Laid BY PROGRAM, IN A SANDBOX (cutbox-rows.mjs): the forced cells as the released guide's own fill.sh prints them over the translation 089d856a948e553d… (all of the seat's roots in one cut). By AI agents, Wed Nov 11 2026. No macro, syntax, notation, axiom, sorry.
-/
import Derived.Test.YtoljfmfmdghoeaaDoorChecked
import GoSem.Claim
import GoSem.ClaimJoined
import GoSem.ClaimMapViews
import Derived.JoinedTies
import Derived.KernelRfl
namespace Go.Proofs.YtoljfmfmdghoeaaDoor
/- THE CELL 'sum', in the pinned program and in every row, IS THE sha256 OF THE DUMP (.gsa) THAT YtoljfmfmdghoeaaDoorProg.lean LOADS. Nothing in Lean hashes anything: it is a label: what it is worth is what the hold of that sum in a sandbox is worth. -/
noncomputable def Tryd.pinned : Pinned := { name := "ytoljfmfmdghoeaadoor", sum := "089d856a948e553d21409e4f6414e2d7939cd263db2f14b920fc97006ba466c2", checked := Tryd.checked }
namespace Rows
def none {H : Type} : Left H := { results := [], args := [] }

/- WHAT THE LISTED PACKAGE-LEVEL VARIABLES READ AS WHEN THE CALL BEGINS. Each datum BY PROGRAM (the guide's laid-datum.mjs) off the statement by which the dump's own 'gosem.cut.vars' lays the variable. In a bare row this is a premise. The card (YtoljfmfmdghoeaaDoorCards.lean) ties it to the program's text. -/
def laid_proofprograms_tree_arities {H : Type} : DataW H := .agg [.lit (.int .i64 0), .lit (.int .i64 0), .lit (.int .i64 1), .lit (.int .i64 2), .lit (.int .i64 0), .lit (.int .i64 1), .lit (.int .i64 3), .lit (.int .i64 0), .lit (.int .i64 2), .lit (.int .i64 3), .lit (.int .i64 2), .lit (.int .i64 1), .lit (.int .i64 1), .lit (.int .i64 0)]

/-- 'proofprogramslaw36.SimplifyShorter': WHATEVER THE INPUT: true; the input reads as it did. -/
def simplifyShorterSpec : ChangeSpec := { name := "simplifyShorter", fn := fun _ => fun
  | [d] => { results := [.lit (.bool true)], args := [d] }
  | _ => none }
def simplifyShorterRow : OpenClaim := { program := "ytoljfmfmdghoeaadoor", sum := "089d856a948e553d21409e4f6414e2d7939cd263db2f14b920fc97006ba466c2", func := "proofprograms/proofprogramslaw36.SimplifyShorter", spec := "simplifyShorter", unfollowed := true, recurses := true, named := ["proofprograms/tree.arities"], apart := false, laid := [("proofprograms/tree.arities", laid_proofprograms_tree_arities)] }
def SimplifyShorterSaid : Prop := simplifyShorterRow.holds Tryd.pinned (OpenSpec.ofChange simplifyShorterSpec)

/-- ITS FALSE NEIGHBOUR: 'it returns false'. Refute it at one input. -/
def simplifyShorterWrong : ChangeSpec := { name := "simplifyShorter", fn := fun _ => fun
  | [d] => { results := [.lit (.bool false)], args := [d] }
  | _ => none }
def SimplifyShorterWrongFalsely : Prop := simplifyShorterRow.holds Tryd.pinned (OpenSpec.ofChange simplifyShorterWrong)

/-- 'proofprogramslaw36.SimplifyPairs': WHATEVER THE INPUT: true; the input reads as it did. -/
def simplifyPairsSpec : ChangeSpec := { name := "simplifyPairs", fn := fun _ => fun
  | [d] => { results := [.lit (.bool true)], args := [d] }
  | _ => none }
def simplifyPairsRow : OpenClaim := { program := "ytoljfmfmdghoeaadoor", sum := "089d856a948e553d21409e4f6414e2d7939cd263db2f14b920fc97006ba466c2", func := "proofprograms/proofprogramslaw36.SimplifyPairs", spec := "simplifyPairs", unfollowed := true, recurses := true, named := ["proofprograms/tree.arities"], apart := false, laid := [("proofprograms/tree.arities", laid_proofprograms_tree_arities)] }
def SimplifyPairsSaid : Prop := simplifyPairsRow.holds Tryd.pinned (OpenSpec.ofChange simplifyPairsSpec)

/-- ITS FALSE NEIGHBOUR: 'it returns false'. Refute it at one input. -/
def simplifyPairsWrong : ChangeSpec := { name := "simplifyPairs", fn := fun _ => fun
  | [d] => { results := [.lit (.bool false)], args := [d] }
  | _ => none }
def SimplifyPairsWrongFalsely : Prop := simplifyPairsRow.holds Tryd.pinned (OpenSpec.ofChange simplifyPairsWrong)

/- THE SECOND FORM. 'bulk': how many values and letters a reading holds, each counted each time it is reached (what is shared counts as often as it is met; a slice's spare places count too). A statement '..UptoSaid' is the law's where the arguments, and the package variables that the reading takes, are together of bulk at most 1048576: NARROWER than '..Said'. Prove '..Said' where nothing that the law and all that it calls make is longer than what came in: it says more and counts as full. Else prove '..UptoSaid'. A law counts once. -/
mutual
def uptoBulk {H : Type} : DataW H → Nat
  | .lit (.string bytes) => bytes.length + 1
  | .lit _ => 1
  | .nil => 1
  | .ptr d => uptoBulk d + 1
  | .slice elems spare => uptoBulkAll elems + uptoBulkAll spare + 1
  | .agg parts => uptoBulkAll parts + 1
  | .iface _ d => uptoBulk d + 1
  | .map entries => uptoBulkEntries entries + 1
  | .held _ => 1
def uptoBulkAll {H : Type} : List (DataW H) → Nat
  | [] => 0
  | d :: r => uptoBulk d + uptoBulkAll r
def uptoBulkEntries {H : Type} : List (Lit × DataW H) → Nat
  | [] => 0
  | x :: r => uptoBulkEntry x + uptoBulkEntries r
def uptoBulkEntry {H : Type} : Lit × DataW H → Nat
  | (.string bytes, d) => bytes.length + uptoBulk d + 1
  | (_, d) => uptoBulk d + 1
 end
def uptoSmall : (H : Type) → List (DataW H) → Bool := fun _ ds => decide (uptoBulkAll ds ≤ 1048576)
def OpenSpec.upto (s : _root_.Go.ChangeSpec) : _root_.Go.OpenSpec := { _root_.Go.OpenSpec.ofChange s with cond := some uptoSmall }

/-- 'proofprogramslaw36.SimplifyShorter', WHERE WHAT IT READS IS OF BULK AT MOST 1048576: true; the input reads as it did. -/
def simplifyShorterUptoRow : OpenClaim := { program := "ytoljfmfmdghoeaadoor", sum := "089d856a948e553d21409e4f6414e2d7939cd263db2f14b920fc97006ba466c2", func := "proofprograms/proofprogramslaw36.SimplifyShorter", spec := "simplifyShorter", unfollowed := true, recurses := true, named := ["proofprograms/tree.arities"], apart := false, laid := [("proofprograms/tree.arities", laid_proofprograms_tree_arities)], narrowed := true }
def SimplifyShorterUptoSaid : Prop := simplifyShorterUptoRow.holds Tryd.pinned (OpenSpec.upto simplifyShorterSpec)

/-- 'proofprogramslaw36.SimplifyPairs', WHERE WHAT IT READS IS OF BULK AT MOST 1048576: true; the input reads as it did. -/
def simplifyPairsUptoRow : OpenClaim := { program := "ytoljfmfmdghoeaadoor", sum := "089d856a948e553d21409e4f6414e2d7939cd263db2f14b920fc97006ba466c2", func := "proofprograms/proofprogramslaw36.SimplifyPairs", spec := "simplifyPairs", unfollowed := true, recurses := true, named := ["proofprograms/tree.arities"], apart := false, laid := [("proofprograms/tree.arities", laid_proofprograms_tree_arities)], narrowed := true }
def SimplifyPairsUptoSaid : Prop := simplifyPairsUptoRow.holds Tryd.pinned (OpenSpec.upto simplifyPairsSpec)

end Rows
end Go.Proofs.YtoljfmfmdghoeaaDoor
