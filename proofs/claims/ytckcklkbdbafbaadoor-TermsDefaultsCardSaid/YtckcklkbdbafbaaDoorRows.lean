/-
  NARROWER THAN 'FOR EVERY INPUT', by the rows' own cells (each row's printed sentence says how): TermsTypes: laid · TermsRefused: laid · TermsSizes: laid · TermsDefaults: laid · TermsDoes: loops, laid.
  DERIVED. THE GIVEN ROWS OF THIS SEAT. 5 by the template 'for every input the law returns true; each argument reads behind the call as it read before'; 0 by the template 'total and deterministic' (their statements: YtckcklkbdbafbaaDoorTotals.lean).
  GIVEN WITH THE SEED: the statements are not yours to turn. If you find one false, say at which input.
  Laid BY PROGRAM, IN A SANDBOX (cutbox-rows.mjs): the forced cells as the released guide's own fill.sh prints them over the translation ce2f07c8a90d63df… (all of the seat's roots in one cut). By AI agents, Wed Nov 11 2026. No macro, syntax, notation, axiom, sorry.
-/
import Derived.Test.YtckcklkbdbafbaaDoorChecked
import GoSem.Claim
import GoSem.ClaimJoined
import GoSem.ClaimMapViews
import Derived.JoinedTies
import Derived.KernelRfl
namespace Go.Proofs.YtckcklkbdbafbaaDoor
/- THE CELL 'sum', in the pinned program and in every row, IS THE sha256 OF THE DUMP (.gsa) THAT YtckcklkbdbafbaaDoorProg.lean LOADS. Nothing in Lean hashes anything: it is a label: what it is worth is what the hold of that sum in a sandbox is worth. -/
noncomputable def Tryd.pinned : Pinned := { name := "ytckcklkbdbafbaadoor", sum := "ce2f07c8a90d63dff1fa027d75c674cd9121351db8418e0ed927ad678a50c1c3", checked := Tryd.checked }
namespace Rows
def none {H : Type} : Left H := { results := [], args := [] }

/- WHAT THE LISTED PACKAGE-LEVEL VARIABLES READ AS WHEN THE CALL BEGINS. Each datum BY PROGRAM (the guide's laid-datum.mjs) off the statement by which the dump's own 'gosem.cut.vars' lays the variable. In a bare row this is a premise. The card (YtckcklkbdbafbaaDoorCards.lean) ties it to the program's text. -/
def laid_proofprograms_tree_arities {H : Type} : DataW H := .agg [.lit (.int .i64 0), .lit (.int .i64 0), .lit (.int .i64 1), .lit (.int .i64 2), .lit (.int .i64 0), .lit (.int .i64 1), .lit (.int .i64 3), .lit (.int .i64 0), .lit (.int .i64 2), .lit (.int .i64 3), .lit (.int .i64 2), .lit (.int .i64 1), .lit (.int .i64 1), .lit (.int .i64 0)]

/-- 'proofprogramslaw02.TermsTypes': WHATEVER THE INPUT: true; the input reads as it did. -/
def termsTypesSpec : ChangeSpec := { name := "termsTypes", fn := fun _ => fun
  | [d] => { results := [.lit (.bool true)], args := [d] }
  | _ => none }
def termsTypesRow : OpenClaim := { program := "ytckcklkbdbafbaadoor", sum := "ce2f07c8a90d63dff1fa027d75c674cd9121351db8418e0ed927ad678a50c1c3", func := "proofprograms/proofprogramslaw02.TermsTypes", spec := "termsTypes", recurses := true, named := ["proofprograms/tree.arities"], apart := false, laid := [("proofprograms/tree.arities", laid_proofprograms_tree_arities)] }
def TermsTypesSaid : Prop := termsTypesRow.holds Tryd.pinned (OpenSpec.ofChange termsTypesSpec)

/-- ITS FALSE NEIGHBOUR: 'it returns false'. Refute it at one input. -/
def termsTypesWrong : ChangeSpec := { name := "termsTypes", fn := fun _ => fun
  | [d] => { results := [.lit (.bool false)], args := [d] }
  | _ => none }
def TermsTypesWrongFalsely : Prop := termsTypesRow.holds Tryd.pinned (OpenSpec.ofChange termsTypesWrong)

/-- 'proofprogramslaw02.TermsRefused': WHATEVER THE INPUT: true; the input reads as it did. -/
def termsRefusedSpec : ChangeSpec := { name := "termsRefused", fn := fun _ => fun
  | [d1, d2] => { results := [.lit (.bool true)], args := [d1, d2] }
  | _ => none }
def termsRefusedRow : OpenClaim := { program := "ytckcklkbdbafbaadoor", sum := "ce2f07c8a90d63dff1fa027d75c674cd9121351db8418e0ed927ad678a50c1c3", func := "proofprograms/proofprogramslaw02.TermsRefused", spec := "termsRefused", recurses := true, named := ["proofprograms/tree.arities"], apart := false, laid := [("proofprograms/tree.arities", laid_proofprograms_tree_arities)] }
def TermsRefusedSaid : Prop := termsRefusedRow.holds Tryd.pinned (OpenSpec.ofChange termsRefusedSpec)

/-- ITS FALSE NEIGHBOUR: 'it returns false'. Refute it at one input. -/
def termsRefusedWrong : ChangeSpec := { name := "termsRefused", fn := fun _ => fun
  | [d1, d2] => { results := [.lit (.bool false)], args := [d1, d2] }
  | _ => none }
def TermsRefusedWrongFalsely : Prop := termsRefusedRow.holds Tryd.pinned (OpenSpec.ofChange termsRefusedWrong)

/-- 'proofprogramslaw02.TermsSizes': WHATEVER THE INPUT: true; the input reads as it did. -/
def termsSizesSpec : ChangeSpec := { name := "termsSizes", fn := fun _ => fun
  | [d] => { results := [.lit (.bool true)], args := [d] }
  | _ => none }
def termsSizesRow : OpenClaim := { program := "ytckcklkbdbafbaadoor", sum := "ce2f07c8a90d63dff1fa027d75c674cd9121351db8418e0ed927ad678a50c1c3", func := "proofprograms/proofprogramslaw02.TermsSizes", spec := "termsSizes", recurses := true, named := ["proofprograms/tree.arities"], apart := false, laid := [("proofprograms/tree.arities", laid_proofprograms_tree_arities)] }
def TermsSizesSaid : Prop := termsSizesRow.holds Tryd.pinned (OpenSpec.ofChange termsSizesSpec)

/-- ITS FALSE NEIGHBOUR: 'it returns false'. Refute it at one input. -/
def termsSizesWrong : ChangeSpec := { name := "termsSizes", fn := fun _ => fun
  | [d] => { results := [.lit (.bool false)], args := [d] }
  | _ => none }
def TermsSizesWrongFalsely : Prop := termsSizesRow.holds Tryd.pinned (OpenSpec.ofChange termsSizesWrong)

/-- 'proofprogramslaw02.TermsDefaults': WHATEVER THE INPUT: true; the input reads as it did. -/
def termsDefaultsSpec : ChangeSpec := { name := "termsDefaults", fn := fun _ => fun
  | [d] => { results := [.lit (.bool true)], args := [d] }
  | _ => none }
def termsDefaultsRow : OpenClaim := { program := "ytckcklkbdbafbaadoor", sum := "ce2f07c8a90d63dff1fa027d75c674cd9121351db8418e0ed927ad678a50c1c3", func := "proofprograms/proofprogramslaw02.TermsDefaults", spec := "termsDefaults", recurses := true, named := ["proofprograms/tree.arities"], apart := false, laid := [("proofprograms/tree.arities", laid_proofprograms_tree_arities)] }
def TermsDefaultsSaid : Prop := termsDefaultsRow.holds Tryd.pinned (OpenSpec.ofChange termsDefaultsSpec)

/-- ITS FALSE NEIGHBOUR: 'it returns false'. Refute it at one input. -/
def termsDefaultsWrong : ChangeSpec := { name := "termsDefaults", fn := fun _ => fun
  | [d] => { results := [.lit (.bool false)], args := [d] }
  | _ => none }
def TermsDefaultsWrongFalsely : Prop := termsDefaultsRow.holds Tryd.pinned (OpenSpec.ofChange termsDefaultsWrong)

/-- 'proofprogramslaw02.TermsDoes': WHATEVER THE INPUT: true; the input reads as it did. -/
def termsDoesSpec : ChangeSpec := { name := "termsDoes", fn := fun _ => fun
  | [d1, d2, d3, d4, d5] => { results := [.lit (.bool true)], args := [d1, d2, d3, d4, d5] }
  | _ => none }
def termsDoesRow : OpenClaim := { program := "ytckcklkbdbafbaadoor", sum := "ce2f07c8a90d63dff1fa027d75c674cd9121351db8418e0ed927ad678a50c1c3", func := "proofprograms/proofprogramslaw02.TermsDoes", spec := "termsDoes", recurses := true, named := ["proofprograms/tree.arities"], loops := true, apart := false, laid := [("proofprograms/tree.arities", laid_proofprograms_tree_arities)] }
def TermsDoesSaid : Prop := termsDoesRow.holds Tryd.pinned (OpenSpec.ofChange termsDoesSpec)

/-- ITS FALSE NEIGHBOUR: 'it returns false'. Refute it at one input. -/
def termsDoesWrong : ChangeSpec := { name := "termsDoes", fn := fun _ => fun
  | [d1, d2, d3, d4, d5] => { results := [.lit (.bool false)], args := [d1, d2, d3, d4, d5] }
  | _ => none }
def TermsDoesWrongFalsely : Prop := termsDoesRow.holds Tryd.pinned (OpenSpec.ofChange termsDoesWrong)

/- THE SECOND FORM. 'bulk': how many values and letters a reading holds, each counted each time it is reached (what is shared counts as often as it is met; a slice's spare places count too). A statement '..UptoSaid' is the law's where the arguments, and the package variables that the reading takes, are together of bulk at most 1048576: NARROWER than '..Said'. Prove '..Said' where nothing that the law and all that it calls make is longer than what came in: it says more and counts as full. Else prove '..UptoSaid'. A law counts once. -/
mutual
def uptoBulk {H : Type} : DataW H → Nat
  | .lit (.string bytes) => bytes.length + 1
  | .lit _ => 1
  | .nil => 1
  | .ptr d => uptoBulk d + 1
  | .slice elems spare => uptoBulkAll elems + uptoBulkAll spare + 1
  | .agg parts => uptoBulkAll parts + 1
  | .iface _ d => uptoBulk d + 1
  | .map entries => uptoBulkEntries entries + 1
  | .held _ => 1
def uptoBulkAll {H : Type} : List (DataW H) → Nat
  | [] => 0
  | d :: r => uptoBulk d + uptoBulkAll r
def uptoBulkEntries {H : Type} : List (Lit × DataW H) → Nat
  | [] => 0
  | x :: r => uptoBulkEntry x + uptoBulkEntries r
def uptoBulkEntry {H : Type} : Lit × DataW H → Nat
  | (.string bytes, d) => bytes.length + uptoBulk d + 1
  | (_, d) => uptoBulk d + 1
 end
def uptoSmall : (H : Type) → List (DataW H) → Bool := fun _ ds => decide (uptoBulkAll ds ≤ 1048576)
def OpenSpec.upto (s : _root_.Go.ChangeSpec) : _root_.Go.OpenSpec := { _root_.Go.OpenSpec.ofChange s with cond := some uptoSmall }

/-- 'proofprogramslaw02.TermsTypes', WHERE WHAT IT READS IS OF BULK AT MOST 1048576: true; the input reads as it did. -/
def termsTypesUptoRow : OpenClaim := { program := "ytckcklkbdbafbaadoor", sum := "ce2f07c8a90d63dff1fa027d75c674cd9121351db8418e0ed927ad678a50c1c3", func := "proofprograms/proofprogramslaw02.TermsTypes", spec := "termsTypes", recurses := true, named := ["proofprograms/tree.arities"], apart := false, laid := [("proofprograms/tree.arities", laid_proofprograms_tree_arities)], narrowed := true }
def TermsTypesUptoSaid : Prop := termsTypesUptoRow.holds Tryd.pinned (OpenSpec.upto termsTypesSpec)

/-- 'proofprogramslaw02.TermsRefused', WHERE WHAT IT READS IS OF BULK AT MOST 1048576: true; the input reads as it did. -/
def termsRefusedUptoRow : OpenClaim := { program := "ytckcklkbdbafbaadoor", sum := "ce2f07c8a90d63dff1fa027d75c674cd9121351db8418e0ed927ad678a50c1c3", func := "proofprograms/proofprogramslaw02.TermsRefused", spec := "termsRefused", recurses := true, named := ["proofprograms/tree.arities"], apart := false, laid := [("proofprograms/tree.arities", laid_proofprograms_tree_arities)], narrowed := true }
def TermsRefusedUptoSaid : Prop := termsRefusedUptoRow.holds Tryd.pinned (OpenSpec.upto termsRefusedSpec)

/-- 'proofprogramslaw02.TermsSizes', WHERE WHAT IT READS IS OF BULK AT MOST 1048576: true; the input reads as it did. -/
def termsSizesUptoRow : OpenClaim := { program := "ytckcklkbdbafbaadoor", sum := "ce2f07c8a90d63dff1fa027d75c674cd9121351db8418e0ed927ad678a50c1c3", func := "proofprograms/proofprogramslaw02.TermsSizes", spec := "termsSizes", recurses := true, named := ["proofprograms/tree.arities"], apart := false, laid := [("proofprograms/tree.arities", laid_proofprograms_tree_arities)], narrowed := true }
def TermsSizesUptoSaid : Prop := termsSizesUptoRow.holds Tryd.pinned (OpenSpec.upto termsSizesSpec)

/-- 'proofprogramslaw02.TermsDefaults', WHERE WHAT IT READS IS OF BULK AT MOST 1048576: true; the input reads as it did. -/
def termsDefaultsUptoRow : OpenClaim := { program := "ytckcklkbdbafbaadoor", sum := "ce2f07c8a90d63dff1fa027d75c674cd9121351db8418e0ed927ad678a50c1c3", func := "proofprograms/proofprogramslaw02.TermsDefaults", spec := "termsDefaults", recurses := true, named := ["proofprograms/tree.arities"], apart := false, laid := [("proofprograms/tree.arities", laid_proofprograms_tree_arities)], narrowed := true }
def TermsDefaultsUptoSaid : Prop := termsDefaultsUptoRow.holds Tryd.pinned (OpenSpec.upto termsDefaultsSpec)

/-- 'proofprogramslaw02.TermsDoes', WHERE WHAT IT READS IS OF BULK AT MOST 1048576: true; the input reads as it did. -/
def termsDoesUptoRow : OpenClaim := { program := "ytckcklkbdbafbaadoor", sum := "ce2f07c8a90d63dff1fa027d75c674cd9121351db8418e0ed927ad678a50c1c3", func := "proofprograms/proofprogramslaw02.TermsDoes", spec := "termsDoes", recurses := true, named := ["proofprograms/tree.arities"], loops := true, apart := false, laid := [("proofprograms/tree.arities", laid_proofprograms_tree_arities)], narrowed := true }
def TermsDoesUptoSaid : Prop := termsDoesUptoRow.holds Tryd.pinned (OpenSpec.upto termsDoesSpec)

end Rows
end Go.Proofs.YtckcklkbdbafbaaDoor
