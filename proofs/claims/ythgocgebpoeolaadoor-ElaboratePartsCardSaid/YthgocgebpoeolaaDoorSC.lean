import Derived.Test.YthgocgebpoeolaaDoorSB
set_option maxRecDepth 100000
set_option maxHeartbeats 1000000
set_option linter.unusedSimpArgs false
set_option linter.unusedVariables false
namespace Go.Pi.Terms
open Go Go.Pi Go.Proofs.YthgocgebpoeolaaDoor
def Tm.become : Tm → Tm
  | .app (.lam _ a) b => a.put 0 b
  | .recu _ a _ _ => a
  | .fold _ a _ _ => a
  | .fst (.pair a _) => a
  | .snd (.pair _ b) => b
  | t => t
def Tm.next : Tm → Option Tm
  | .var i => none
  | .lam s a => match a.next with | some y => some (.lam s y) | none => none
  | .app a b => if (Tm.app a b).small then some (Tm.app a b).become else match a.next with | some y => some (.app y b) | none => (match b.next with | some y => some (.app a y) | none => none)
  | .zero => none
  | .succ a => match a.next with | some y => some (.succ y) | none => none
  | .recu s a b c => if (Tm.recu s a b c).small then some (Tm.recu s a b c).become else match a.next with | some y => some (.recu s y b c) | none => (match b.next with | some y => some (.recu s a y c) | none => (match c.next with | some y => some (.recu s a b y) | none => none))
  | .nil => none
  | .cons a b => match a.next with | some y => some (.cons y b) | none => (match b.next with | some y => some (.cons a y) | none => none)
  | .fold s a b c => if (Tm.fold s a b c).small then some (Tm.fold s a b c).become else match a.next with | some y => some (.fold s y b c) | none => (match b.next with | some y => some (.fold s a y c) | none => (match c.next with | some y => some (.fold s a b y) | none => none))
  | .pair a b => match a.next with | some y => some (.pair y b) | none => (match b.next with | some y => some (.pair a y) | none => none)
  | .fst a => if (Tm.fst a).small then some (Tm.fst a).become else match a.next with | some y => some (.fst y) | none => none
  | .snd a => if (Tm.snd a).small then some (Tm.snd a).become else match a.next with | some y => some (.snd y) | none => none
  | .unit => none
/-- What next answers, as cells. -/
def nres (t : Tm) : Option Tm → PV
  | some x => .tup [.ag x.row, .v (.bool true)]
  | none => .tup [.ag t.row, .v (.bool false)]
end Go.Pi.Terms
