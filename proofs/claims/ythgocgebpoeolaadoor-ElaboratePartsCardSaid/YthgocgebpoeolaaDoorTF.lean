import Derived.Test.YthgocgebpoeolaaDoorPiY
import Derived.Test.YthgocgebpoeolaaDoorTab
set_option maxRecDepth 100000
set_option linter.unusedSimpArgs false
set_option linter.unusedVariables false
namespace Go.Pi.Terms
open Go Go.Pi Go.Proofs.YthgocgebpoeolaaDoor

def arT : List Int := [0,0,1,2,0,1,3,0,2,3,2,1,1,0]
def G : Glob := fun g => if g = 0 then some (arT.map fun z => PV.v (.int .i64 z)) else none

/-- The types that are made. -/
inductive Ty where
  | nat | list | unit
  | pair (a b : Ty)
  | fn (a b : Ty)
  deriving DecidableEq

def Ty.kind : Ty → Int
  | .nat => 1 | .list => 2 | .pair _ _ => 3 | .fn _ _ => 4 | .unit => 5
def Ty.nodes : Ty → Nat
  | .nat | .list | .unit => 1
  | .pair a b => 1 + a.nodes + b.nodes
  | .fn a b => 1 + a.nodes + b.nodes
def Ty.asz : Ty → Nat
  | .nat | .list | .unit => 0
  | .pair _ _ | .fn _ _ => 2
def Ty.arows : Ty → List (List PV)
  | .nat | .list | .unit => []
  | .pair a b => [[i64 a.kind, .sl 0 a.asz a.arows], [i64 b.kind, .sl 0 b.asz b.arows]]
  | .fn a b => [[i64 a.kind, .sl 0 a.asz a.arows], [i64 b.kind, .sl 0 b.asz b.arows]]
/-- A type, as its cells. -/
def Ty.row (t : Ty) : List PV := [i64 t.kind, .sl 0 t.asz t.arows]
theorem Ty.nodes_pos : ∀ t : Ty, 1 ≤ t.nodes
  | .nat | .list | .unit => Nat.le_refl _
  | .pair a b | .fn a b => by simp only [Ty.nodes]; omega
theorem Ty.kind_nat : Ty.nat.kind = 1 := rfl
theorem Ty.kind_list : Ty.list.kind = 2 := rfl
theorem Ty.kind_unit : Ty.unit.kind = 5 := rfl
theorem Ty.kind_pair (a b : Ty) : (Ty.pair a b).kind = 3 := rfl
theorem Ty.kind_fn (a b : Ty) : (Ty.fn a b).kind = 4 := rfl
theorem Ty.asz_nat : Ty.nat.asz = 0 := rfl
theorem Ty.asz_list : Ty.list.asz = 0 := rfl
theorem Ty.asz_unit : Ty.unit.asz = 0 := rfl
theorem Ty.asz_pair (a b : Ty) : (Ty.pair a b).asz = 2 := rfl
theorem Ty.asz_fn (a b : Ty) : (Ty.fn a b).asz = 2 := rfl
theorem Ty.arows_nat : Ty.nat.arows = [] := rfl
theorem Ty.arows_list : Ty.list.arows = [] := rfl
theorem Ty.arows_unit : Ty.unit.arows = [] := rfl
theorem Ty.arows_pair (a b : Ty) : (Ty.pair a b).arows = [[i64 a.kind, .sl 0 a.asz a.arows], [i64 b.kind, .sl 0 b.asz b.arows]] := rfl
theorem Ty.arows_fn (a b : Ty) : (Ty.fn a b).arows = [[i64 a.kind, .sl 0 a.asz a.arows], [i64 b.kind, .sl 0 b.asz b.arows]] := rfl
theorem tyAll : type_of% (And.intro @Ty.kind_nat (And.intro @Ty.kind_list (And.intro @Ty.kind_unit (And.intro @Ty.kind_pair (And.intro @Ty.kind_fn (And.intro @Ty.asz_nat (And.intro @Ty.asz_list (And.intro @Ty.asz_unit (And.intro @Ty.asz_pair (And.intro @Ty.asz_fn (And.intro @Ty.arows_nat (And.intro @Ty.arows_list (And.intro @Ty.arows_unit (And.intro @Ty.arows_pair (@Ty.arows_fn))))))))))))))) := And.intro @Ty.kind_nat (And.intro @Ty.kind_list (And.intro @Ty.kind_unit (And.intro @Ty.kind_pair (And.intro @Ty.kind_fn (And.intro @Ty.asz_nat (And.intro @Ty.asz_list (And.intro @Ty.asz_unit (And.intro @Ty.asz_pair (And.intro @Ty.asz_fn (And.intro @Ty.arows_nat (And.intro @Ty.arows_list (And.intro @Ty.arows_unit (And.intro @Ty.arows_pair (@Ty.arows_fn))))))))))))))
end Go.Pi.Terms

set_option maxRecDepth 100000
set_option maxHeartbeats 1000000
set_option linter.unusedSimpArgs false
set_option linter.unusedVariables false
namespace Go.Pi.Terms
open Go Go.Pi Go.Proofs.YthgocgebpoeolaaDoor
theorem typeNodes (sh : Sh) : ∀ t : Ty, t.nodes ≤ 1000 → ∃ n, callN T G n 100 [.ag t.row] sh = some (.tup [i64 t.nodes, .v (.bool true)], sh)
  | .nat, _ => by
    refine run_eq (run_of (pf := p100) rfl ?_)
    unfold p100
    simp only [R.loop_eq, wp0, wp1, wp2, wp3, wp4, wp5, Int.reduceAdd, Int.reduceEq, Int.reduceLE, Int.reduceLT, Int.reduceNeg, Int.reduceSub, Int.reduceToNat, Nat.reduceAdd, Nat.reduceDiv, Nat.reduceEqDiff, Nat.reduceLT, Nat.reduceLeDiff, Nat.reduceMod, Nat.reduceMul, Nat.reduceSub, eq_self, reduceIte, Ty.row, tyAll, Ty.nodes]
  | .list, _ => by
    refine run_eq (run_of (pf := p100) rfl ?_)
    unfold p100
    simp only [R.loop_eq, wp0, wp1, wp2, wp3, wp4, wp5, Int.reduceAdd, Int.reduceEq, Int.reduceLE, Int.reduceLT, Int.reduceNeg, Int.reduceSub, Int.reduceToNat, Nat.reduceAdd, Nat.reduceDiv, Nat.reduceEqDiff, Nat.reduceLT, Nat.reduceLeDiff, Nat.reduceMod, Nat.reduceMul, Nat.reduceSub, eq_self, reduceIte, Ty.row, tyAll, Ty.nodes]
  | .unit, _ => by
    refine run_eq (run_of (pf := p100) rfl ?_)
    unfold p100
    simp only [R.loop_eq, wp0, wp1, wp2, wp3, wp4, wp5, Int.reduceAdd, Int.reduceEq, Int.reduceLE, Int.reduceLT, Int.reduceNeg, Int.reduceSub, Int.reduceToNat, Nat.reduceAdd, Nat.reduceDiv, Nat.reduceEqDiff, Nat.reduceLT, Nat.reduceLeDiff, Nat.reduceMod, Nat.reduceMul, Nat.reduceSub, eq_self, reduceIte, Ty.row, tyAll, Ty.nodes]
  | .pair a b, h => by
    simp only [Ty.nodes] at h
    have u0 := typeNodes sh a (by omega)
    have u1 := typeNodes sh b (by omega)
    try simp only [Ty.row] at u0 u1
    have u0' := clR.use u0
    have u1' := clR.use u1
    have w1 : IntKind.i64.wrap (1 + (a.nodes : Int)) = 1 + (a.nodes : Int) := wrap_i64 (by omega)
    have w2 : IntKind.i64.wrap (1 + (a.nodes : Int) + (b.nodes : Int)) = 1 + (a.nodes : Int) + (b.nodes : Int) := wrap_i64 (by omega)
    refine run_eq (run_of (pf := p100) rfl ?_)
    unfold p100
    simp only [R.loop_eq, wp0, wp1, wp2, wp3, wp4, wp5, Int.reduceAdd, Int.reduceEq, Int.reduceLE, Int.reduceLT, Int.reduceNeg, Int.reduceSub, Int.reduceToNat, Nat.reduceAdd, Nat.reduceDiv, Nat.reduceEqDiff, Nat.reduceLT, Nat.reduceLeDiff, Nat.reduceMod, Nat.reduceMul, Nat.reduceSub, eq_self, reduceIte, Ty.row, tyAll, u0', u1', w1, w2, Ty.nodes, Int.natCast_add]
  | .fn a b, h => by
    simp only [Ty.nodes] at h
    have u0 := typeNodes sh a (by omega)
    have u1 := typeNodes sh b (by omega)
    try simp only [Ty.row] at u0 u1
    have u0' := clR.use u0
    have u1' := clR.use u1
    have w1 : IntKind.i64.wrap (1 + (a.nodes : Int)) = 1 + (a.nodes : Int) := wrap_i64 (by omega)
    have w2 : IntKind.i64.wrap (1 + (a.nodes : Int) + (b.nodes : Int)) = 1 + (a.nodes : Int) + (b.nodes : Int) := wrap_i64 (by omega)
    refine run_eq (run_of (pf := p100) rfl ?_)
    unfold p100
    simp only [R.loop_eq, wp0, wp1, wp2, wp3, wp4, wp5, Int.reduceAdd, Int.reduceEq, Int.reduceLE, Int.reduceLT, Int.reduceNeg, Int.reduceSub, Int.reduceToNat, Nat.reduceAdd, Nat.reduceDiv, Nat.reduceEqDiff, Nat.reduceLT, Nat.reduceLeDiff, Nat.reduceMod, Nat.reduceMul, Nat.reduceSub, eq_self, reduceIte, Ty.row, tyAll, u0', u1', w1, w2, Ty.nodes, Int.natCast_add]

theorem checkType (sh : Sh) (t : Ty) (h : t.nodes ≤ 64) : ∃ n, callN T G n 93 [.ag t.row] sh = some (.tup [i64 t.nodes, .v (.int .i64 0)], sh) := by
  have u0 := typeNodes sh t (by omega)
  try simp only [Ty.row] at u0
  have u0' := clR.use u0
  have h1 : ¬ (64 : Int) < (t.nodes : Int) := by omega
  refine run_eq (run_of (pf := p93) rfl ?_)
  unfold p93
  simp only [R.loop_eq, wp0, wp1, wp2, wp3, wp4, wp5, Int.reduceAdd, Int.reduceEq, Int.reduceLE, Int.reduceLT, Int.reduceNeg, Int.reduceSub, Int.reduceToNat, Nat.reduceAdd, Nat.reduceDiv, Nat.reduceEqDiff, Nat.reduceLT, Nat.reduceLeDiff, Nat.reduceMod, Nat.reduceMul, Nat.reduceSub, eq_self, reduceIte, Ty.row, tyAll, u0', h1]
theorem noType (sh : Sh)  : ∃ n, callN T G n 94 [(.ag [i64 0, .sl 0 0 []])] sh = some (.v (.bool true), sh) := by
  refine run_eq (run_of (pf := p94) rfl ?_)
  unfold p94
  simp only [R.loop_eq, wp0, wp1, wp2, wp3, wp4, wp5, Int.reduceAdd, Int.reduceEq, Int.reduceLE, Int.reduceLT, Int.reduceNeg, Int.reduceSub, Int.reduceToNat, Nat.reduceAdd, Nat.reduceDiv, Nat.reduceEqDiff, Nat.reduceLT, Nat.reduceLeDiff, Nat.reduceMod, Nat.reduceMul, Nat.reduceSub, eq_self, reduceIte, Ty.row, tyAll]
theorem typedK (sh : Sh) (x : Int) (h : 1 ≤ x ∧ x < 14) : ∃ n, callN T G n 96 [i64 x] sh = some (.v (.bool (decide (x = 2 ∨ x = 6 ∨ x = 9))), sh) := by
  have hx : x = 1 ∨ x = 2 ∨ x = 3 ∨ x = 4 ∨ x = 5 ∨ x = 6 ∨ x = 7 ∨ x = 8 ∨ x = 9 ∨ x = 10 ∨ x = 11 ∨ x = 12 ∨ x = 13 := by omega
  rcases hx with rfl | rfl | rfl | rfl | rfl | rfl | rfl | rfl | rfl | rfl | rfl | rfl | rfl
  all_goals
    refine run_eq (run_of (pf := p96) rfl ?_)
    unfold p96
    simp only [R.loop_eq, wp0, wp1, wp2, wp3, wp4, wp5, Int.reduceAdd, Int.reduceEq, Int.reduceLE, Int.reduceLT, Int.reduceNeg, Int.reduceSub, Int.reduceToNat, Nat.reduceAdd, Nat.reduceDiv, Nat.reduceEqDiff, Nat.reduceLT, Nat.reduceLeDiff, Nat.reduceMod, Nat.reduceMul, Nat.reduceSub, eq_self, reduceIte, Ty.row, tyAll]
theorem arity (sh : Sh) (x : Int) (h : 1 ≤ x ∧ x < 14) : ∃ n, callN T G n 95 [i64 x] sh = some (.tup [i64 (arT.getD x.toNat 0), .v (.bool true)], sh) := by
  have hx : x = 1 ∨ x = 2 ∨ x = 3 ∨ x = 4 ∨ x = 5 ∨ x = 6 ∨ x = 7 ∨ x = 8 ∨ x = 9 ∨ x = 10 ∨ x = 11 ∨ x = 12 ∨ x = 13 := by omega
  rcases hx with rfl | rfl | rfl | rfl | rfl | rfl | rfl | rfl | rfl | rfl | rfl | rfl | rfl
  all_goals
    refine run_eq (run_of (pf := p95) rfl ?_)
    unfold p95
    simp only [R.loop_eq, wp0, wp1, wp2, wp3, wp4, wp5, Int.reduceAdd, Int.reduceEq, Int.reduceLE, Int.reduceLT, Int.reduceNeg, Int.reduceSub, Int.reduceToNat, Nat.reduceAdd, Nat.reduceDiv, Nat.reduceEqDiff, Nat.reduceLT, Nat.reduceLeDiff, Nat.reduceMod, Nat.reduceMul, Nat.reduceSub, eq_self, reduceIte, Ty.row, tyAll, G, arT]
end Go.Pi.Terms

set_option maxRecDepth 100000
set_option maxHeartbeats 1000000
set_option linter.unusedSimpArgs false
set_option linter.unusedVariables false
namespace Go.Pi.Terms
open Go Go.Pi Go.Proofs.YthgocgebpoeolaaDoor
theorem sameType (sh : Sh) : ∀ a b : Ty, ∃ n, callN T G n 55 [.ag a.row, .ag b.row] sh = some (.v (.bool (decide (a = b))), sh)
  | .nat, .nat => by
    have e3 : decide (Ty.nat = Ty.nat) = true := by simp
    refine run_eq (run_of (pf := p55) rfl ?_)
    unfold p55
    simp only [R.loop_eq, wp0, wp1, wp2, wp3, wp4, wp5, Int.reduceAdd, Int.reduceEq, Int.reduceLE, Int.reduceLT, Int.reduceNeg, Int.reduceSub, Int.reduceToNat, Nat.reduceAdd, Nat.reduceDiv, Nat.reduceEqDiff, Nat.reduceLT, Nat.reduceLeDiff, Nat.reduceMod, Nat.reduceMul, Nat.reduceSub, eq_self, reduceIte, Ty.row, tyAll, e3]
  | .nat, .list => by
    have e3 : decide (Ty.nat = Ty.list) = false := by simp
    refine run_eq (run_of (pf := p55) rfl ?_)
    unfold p55
    simp only [R.loop_eq, wp0, wp1, wp2, wp3, wp4, wp5, Int.reduceAdd, Int.reduceEq, Int.reduceLE, Int.reduceLT, Int.reduceNeg, Int.reduceSub, Int.reduceToNat, Nat.reduceAdd, Nat.reduceDiv, Nat.reduceEqDiff, Nat.reduceLT, Nat.reduceLeDiff, Nat.reduceMod, Nat.reduceMul, Nat.reduceSub, eq_self, reduceIte, Ty.row, tyAll, e3]
  | .nat, .unit => by
    have e3 : decide (Ty.nat = Ty.unit) = false := by simp
    refine run_eq (run_of (pf := p55) rfl ?_)
    unfold p55
    simp only [R.loop_eq, wp0, wp1, wp2, wp3, wp4, wp5, Int.reduceAdd, Int.reduceEq, Int.reduceLE, Int.reduceLT, Int.reduceNeg, Int.reduceSub, Int.reduceToNat, Nat.reduceAdd, Nat.reduceDiv, Nat.reduceEqDiff, Nat.reduceLT, Nat.reduceLeDiff, Nat.reduceMod, Nat.reduceMul, Nat.reduceSub, eq_self, reduceIte, Ty.row, tyAll, e3]
  | .nat, (.pair c d) => by
    have e3 : decide (Ty.nat = (Ty.pair c d)) = false := by simp
    refine run_eq (run_of (pf := p55) rfl ?_)
    unfold p55
    simp only [R.loop_eq, wp0, wp1, wp2, wp3, wp4, wp5, Int.reduceAdd, Int.reduceEq, Int.reduceLE, Int.reduceLT, Int.reduceNeg, Int.reduceSub, Int.reduceToNat, Nat.reduceAdd, Nat.reduceDiv, Nat.reduceEqDiff, Nat.reduceLT, Nat.reduceLeDiff, Nat.reduceMod, Nat.reduceMul, Nat.reduceSub, eq_self, reduceIte, Ty.row, tyAll, e3]
  | .nat, (.fn c d) => by
    have e3 : decide (Ty.nat = (Ty.fn c d)) = false := by simp
    refine run_eq (run_of (pf := p55) rfl ?_)
    unfold p55
    simp only [R.loop_eq, wp0, wp1, wp2, wp3, wp4, wp5, Int.reduceAdd, Int.reduceEq, Int.reduceLE, Int.reduceLT, Int.reduceNeg, Int.reduceSub, Int.reduceToNat, Nat.reduceAdd, Nat.reduceDiv, Nat.reduceEqDiff, Nat.reduceLT, Nat.reduceLeDiff, Nat.reduceMod, Nat.reduceMul, Nat.reduceSub, eq_self, reduceIte, Ty.row, tyAll, e3]
  | .list, .nat => by
    have e3 : decide (Ty.list = Ty.nat) = false := by simp
    refine run_eq (run_of (pf := p55) rfl ?_)
    unfold p55
    simp only [R.loop_eq, wp0, wp1, wp2, wp3, wp4, wp5, Int.reduceAdd, Int.reduceEq, Int.reduceLE, Int.reduceLT, Int.reduceNeg, Int.reduceSub, Int.reduceToNat, Nat.reduceAdd, Nat.reduceDiv, Nat.reduceEqDiff, Nat.reduceLT, Nat.reduceLeDiff, Nat.reduceMod, Nat.reduceMul, Nat.reduceSub, eq_self, reduceIte, Ty.row, tyAll, e3]
  | .list, .list => by
    have e3 : decide (Ty.list = Ty.list) = true := by simp
    refine run_eq (run_of (pf := p55) rfl ?_)
    unfold p55
    simp only [R.loop_eq, wp0, wp1, wp2, wp3, wp4, wp5, Int.reduceAdd, Int.reduceEq, Int.reduceLE, Int.reduceLT, Int.reduceNeg, Int.reduceSub, Int.reduceToNat, Nat.reduceAdd, Nat.reduceDiv, Nat.reduceEqDiff, Nat.reduceLT, Nat.reduceLeDiff, Nat.reduceMod, Nat.reduceMul, Nat.reduceSub, eq_self, reduceIte, Ty.row, tyAll, e3]
  | .list, .unit => by
    have e3 : decide (Ty.list = Ty.unit) = false := by simp
    refine run_eq (run_of (pf := p55) rfl ?_)
    unfold p55
    simp only [R.loop_eq, wp0, wp1, wp2, wp3, wp4, wp5, Int.reduceAdd, Int.reduceEq, Int.reduceLE, Int.reduceLT, Int.reduceNeg, Int.reduceSub, Int.reduceToNat, Nat.reduceAdd, Nat.reduceDiv, Nat.reduceEqDiff, Nat.reduceLT, Nat.reduceLeDiff, Nat.reduceMod, Nat.reduceMul, Nat.reduceSub, eq_self, reduceIte, Ty.row, tyAll, e3]
  | .list, (.pair c d) => by
    have e3 : decide (Ty.list = (Ty.pair c d)) = false := by simp
    refine run_eq (run_of (pf := p55) rfl ?_)
    unfold p55
    simp only [R.loop_eq, wp0, wp1, wp2, wp3, wp4, wp5, Int.reduceAdd, Int.reduceEq, Int.reduceLE, Int.reduceLT, Int.reduceNeg, Int.reduceSub, Int.reduceToNat, Nat.reduceAdd, Nat.reduceDiv, Nat.reduceEqDiff, Nat.reduceLT, Nat.reduceLeDiff, Nat.reduceMod, Nat.reduceMul, Nat.reduceSub, eq_self, reduceIte, Ty.row, tyAll, e3]
  | .list, (.fn c d) => by
    have e3 : decide (Ty.list = (Ty.fn c d)) = false := by simp
    refine run_eq (run_of (pf := p55) rfl ?_)
    unfold p55
    simp only [R.loop_eq, wp0, wp1, wp2, wp3, wp4, wp5, Int.reduceAdd, Int.reduceEq, Int.reduceLE, Int.reduceLT, Int.reduceNeg, Int.reduceSub, Int.reduceToNat, Nat.reduceAdd, Nat.reduceDiv, Nat.reduceEqDiff, Nat.reduceLT, Nat.reduceLeDiff, Nat.reduceMod, Nat.reduceMul, Nat.reduceSub, eq_self, reduceIte, Ty.row, tyAll, e3]
  | .unit, .nat => by
    have e3 : decide (Ty.unit = Ty.nat) = false := by simp
    refine run_eq (run_of (pf := p55) rfl ?_)
    unfold p55
    simp only [R.loop_eq, wp0, wp1, wp2, wp3, wp4, wp5, Int.reduceAdd, Int.reduceEq, Int.reduceLE, Int.reduceLT, Int.reduceNeg, Int.reduceSub, Int.reduceToNat, Nat.reduceAdd, Nat.reduceDiv, Nat.reduceEqDiff, Nat.reduceLT, Nat.reduceLeDiff, Nat.reduceMod, Nat.reduceMul, Nat.reduceSub, eq_self, reduceIte, Ty.row, tyAll, e3]
  | .unit, .list => by
    have e3 : decide (Ty.unit = Ty.list) = false := by simp
    refine run_eq (run_of (pf := p55) rfl ?_)
    unfold p55
    simp only [R.loop_eq, wp0, wp1, wp2, wp3, wp4, wp5, Int.reduceAdd, Int.reduceEq, Int.reduceLE, Int.reduceLT, Int.reduceNeg, Int.reduceSub, Int.reduceToNat, Nat.reduceAdd, Nat.reduceDiv, Nat.reduceEqDiff, Nat.reduceLT, Nat.reduceLeDiff, Nat.reduceMod, Nat.reduceMul, Nat.reduceSub, eq_self, reduceIte, Ty.row, tyAll, e3]
  | .unit, .unit => by
    have e3 : decide (Ty.unit = Ty.unit) = true := by simp
    refine run_eq (run_of (pf := p55) rfl ?_)
    unfold p55
    simp only [R.loop_eq, wp0, wp1, wp2, wp3, wp4, wp5, Int.reduceAdd, Int.reduceEq, Int.reduceLE, Int.reduceLT, Int.reduceNeg, Int.reduceSub, Int.reduceToNat, Nat.reduceAdd, Nat.reduceDiv, Nat.reduceEqDiff, Nat.reduceLT, Nat.reduceLeDiff, Nat.reduceMod, Nat.reduceMul, Nat.reduceSub, eq_self, reduceIte, Ty.row, tyAll, e3]
  | .unit, (.pair c d) => by
    have e3 : decide (Ty.unit = (Ty.pair c d)) = false := by simp
    refine run_eq (run_of (pf := p55) rfl ?_)
    unfold p55
    simp only [R.loop_eq, wp0, wp1, wp2, wp3, wp4, wp5, Int.reduceAdd, Int.reduceEq, Int.reduceLE, Int.reduceLT, Int.reduceNeg, Int.reduceSub, Int.reduceToNat, Nat.reduceAdd, Nat.reduceDiv, Nat.reduceEqDiff, Nat.reduceLT, Nat.reduceLeDiff, Nat.reduceMod, Nat.reduceMul, Nat.reduceSub, eq_self, reduceIte, Ty.row, tyAll, e3]
  | .unit, (.fn c d) => by
    have e3 : decide (Ty.unit = (Ty.fn c d)) = false := by simp
    refine run_eq (run_of (pf := p55) rfl ?_)
    unfold p55
    simp only [R.loop_eq, wp0, wp1, wp2, wp3, wp4, wp5, Int.reduceAdd, Int.reduceEq, Int.reduceLE, Int.reduceLT, Int.reduceNeg, Int.reduceSub, Int.reduceToNat, Nat.reduceAdd, Nat.reduceDiv, Nat.reduceEqDiff, Nat.reduceLT, Nat.reduceLeDiff, Nat.reduceMod, Nat.reduceMul, Nat.reduceSub, eq_self, reduceIte, Ty.row, tyAll, e3]
  | (.pair a b), .nat => by
    have e3 : decide ((Ty.pair a b) = Ty.nat) = false := by simp
    refine run_eq (run_of (pf := p55) rfl ?_)
    unfold p55
    simp only [R.loop_eq, wp0, wp1, wp2, wp3, wp4, wp5, Int.reduceAdd, Int.reduceEq, Int.reduceLE, Int.reduceLT, Int.reduceNeg, Int.reduceSub, Int.reduceToNat, Nat.reduceAdd, Nat.reduceDiv, Nat.reduceEqDiff, Nat.reduceLT, Nat.reduceLeDiff, Nat.reduceMod, Nat.reduceMul, Nat.reduceSub, eq_self, reduceIte, Ty.row, tyAll, e3]
  | (.pair a b), .list => by
    have e3 : decide ((Ty.pair a b) = Ty.list) = false := by simp
    refine run_eq (run_of (pf := p55) rfl ?_)
    unfold p55
    simp only [R.loop_eq, wp0, wp1, wp2, wp3, wp4, wp5, Int.reduceAdd, Int.reduceEq, Int.reduceLE, Int.reduceLT, Int.reduceNeg, Int.reduceSub, Int.reduceToNat, Nat.reduceAdd, Nat.reduceDiv, Nat.reduceEqDiff, Nat.reduceLT, Nat.reduceLeDiff, Nat.reduceMod, Nat.reduceMul, Nat.reduceSub, eq_self, reduceIte, Ty.row, tyAll, e3]
  | (.pair a b), .unit => by
    have e3 : decide ((Ty.pair a b) = Ty.unit) = false := by simp
    refine run_eq (run_of (pf := p55) rfl ?_)
    unfold p55
    simp only [R.loop_eq, wp0, wp1, wp2, wp3, wp4, wp5, Int.reduceAdd, Int.reduceEq, Int.reduceLE, Int.reduceLT, Int.reduceNeg, Int.reduceSub, Int.reduceToNat, Nat.reduceAdd, Nat.reduceDiv, Nat.reduceEqDiff, Nat.reduceLT, Nat.reduceLeDiff, Nat.reduceMod, Nat.reduceMul, Nat.reduceSub, eq_self, reduceIte, Ty.row, tyAll, e3]
  | (.pair a b), (.pair c d) => by
    by_cases h1 : a = c <;> by_cases h2 : b = d
    · have u0 := sameType sh a c
      have u1 := sameType sh b d
      try simp only [Ty.row] at u0 u1
      have u0' := clR.use u0
      have u1' := clR.use u1
      have e1 : decide (a = c) = true := by simp [h1]
      have e2 : decide (b = d) = true := by simp [h2]
      have e3 : decide ((Ty.pair a b) = (Ty.pair c d)) = true := by simp [h1, h2]
      refine run_eq (run_of (pf := p55) rfl ?_)
      unfold p55
      simp only [R.loop_eq, wp0, wp1, wp2, wp3, wp4, wp5, Int.reduceAdd, Int.reduceEq, Int.reduceLE, Int.reduceLT, Int.reduceNeg, Int.reduceSub, Int.reduceToNat, Nat.reduceAdd, Nat.reduceDiv, Nat.reduceEqDiff, Nat.reduceLT, Nat.reduceLeDiff, Nat.reduceMod, Nat.reduceMul, Nat.reduceSub, eq_self, reduceIte, Ty.row, tyAll, u0', u1', e1, e2, e3]
    · have u0 := sameType sh a c
      have u1 := sameType sh b d
      try simp only [Ty.row] at u0 u1
      have u0' := clR.use u0
      have u1' := clR.use u1
      have e1 : decide (a = c) = true := by simp [h1]
      have e2 : decide (b = d) = false := by simp [h2]
      have e3 : decide ((Ty.pair a b) = (Ty.pair c d)) = false := by simp [h1, h2]
      refine run_eq (run_of (pf := p55) rfl ?_)
      unfold p55
      simp only [R.loop_eq, wp0, wp1, wp2, wp3, wp4, wp5, Int.reduceAdd, Int.reduceEq, Int.reduceLE, Int.reduceLT, Int.reduceNeg, Int.reduceSub, Int.reduceToNat, Nat.reduceAdd, Nat.reduceDiv, Nat.reduceEqDiff, Nat.reduceLT, Nat.reduceLeDiff, Nat.reduceMod, Nat.reduceMul, Nat.reduceSub, eq_self, reduceIte, Ty.row, tyAll, u0', u1', e1, e2, e3]
    · have u0 := sameType sh a c
      have u1 := sameType sh b d
      try simp only [Ty.row] at u0 u1
      have u0' := clR.use u0
      have u1' := clR.use u1
      have e1 : decide (a = c) = false := by simp [h1]
      have e2 : decide (b = d) = true := by simp [h2]
      have e3 : decide ((Ty.pair a b) = (Ty.pair c d)) = false := by simp [h1, h2]
      refine run_eq (run_of (pf := p55) rfl ?_)
      unfold p55
      simp only [R.loop_eq, wp0, wp1, wp2, wp3, wp4, wp5, Int.reduceAdd, Int.reduceEq, Int.reduceLE, Int.reduceLT, Int.reduceNeg, Int.reduceSub, Int.reduceToNat, Nat.reduceAdd, Nat.reduceDiv, Nat.reduceEqDiff, Nat.reduceLT, Nat.reduceLeDiff, Nat.reduceMod, Nat.reduceMul, Nat.reduceSub, eq_self, reduceIte, Ty.row, tyAll, u0', u1', e1, e2, e3]
    · have u0 := sameType sh a c
      have u1 := sameType sh b d
      try simp only [Ty.row] at u0 u1
      have u0' := clR.use u0
      have u1' := clR.use u1
      have e1 : decide (a = c) = false := by simp [h1]
      have e2 : decide (b = d) = false := by simp [h2]
      have e3 : decide ((Ty.pair a b) = (Ty.pair c d)) = false := by simp [h1, h2]
      refine run_eq (run_of (pf := p55) rfl ?_)
      unfold p55
      simp only [R.loop_eq, wp0, wp1, wp2, wp3, wp4, wp5, Int.reduceAdd, Int.reduceEq, Int.reduceLE, Int.reduceLT, Int.reduceNeg, Int.reduceSub, Int.reduceToNat, Nat.reduceAdd, Nat.reduceDiv, Nat.reduceEqDiff, Nat.reduceLT, Nat.reduceLeDiff, Nat.reduceMod, Nat.reduceMul, Nat.reduceSub, eq_self, reduceIte, Ty.row, tyAll, u0', u1', e1, e2, e3]
  | (.pair a b), (.fn c d) => by
    have e3 : decide ((Ty.pair a b) = (Ty.fn c d)) = false := by simp
    refine run_eq (run_of (pf := p55) rfl ?_)
    unfold p55
    simp only [R.loop_eq, wp0, wp1, wp2, wp3, wp4, wp5, Int.reduceAdd, Int.reduceEq, Int.reduceLE, Int.reduceLT, Int.reduceNeg, Int.reduceSub, Int.reduceToNat, Nat.reduceAdd, Nat.reduceDiv, Nat.reduceEqDiff, Nat.reduceLT, Nat.reduceLeDiff, Nat.reduceMod, Nat.reduceMul, Nat.reduceSub, eq_self, reduceIte, Ty.row, tyAll, e3]
  | (.fn a b), .nat => by
    have e3 : decide ((Ty.fn a b) = Ty.nat) = false := by simp
    refine run_eq (run_of (pf := p55) rfl ?_)
    unfold p55
    simp only [R.loop_eq, wp0, wp1, wp2, wp3, wp4, wp5, Int.reduceAdd, Int.reduceEq, Int.reduceLE, Int.reduceLT, Int.reduceNeg, Int.reduceSub, Int.reduceToNat, Nat.reduceAdd, Nat.reduceDiv, Nat.reduceEqDiff, Nat.reduceLT, Nat.reduceLeDiff, Nat.reduceMod, Nat.reduceMul, Nat.reduceSub, eq_self, reduceIte, Ty.row, tyAll, e3]
  | (.fn a b), .list => by
    have e3 : decide ((Ty.fn a b) = Ty.list) = false := by simp
    refine run_eq (run_of (pf := p55) rfl ?_)
    unfold p55
    simp only [R.loop_eq, wp0, wp1, wp2, wp3, wp4, wp5, Int.reduceAdd, Int.reduceEq, Int.reduceLE, Int.reduceLT, Int.reduceNeg, Int.reduceSub, Int.reduceToNat, Nat.reduceAdd, Nat.reduceDiv, Nat.reduceEqDiff, Nat.reduceLT, Nat.reduceLeDiff, Nat.reduceMod, Nat.reduceMul, Nat.reduceSub, eq_self, reduceIte, Ty.row, tyAll, e3]
  | (.fn a b), .unit => by
    have e3 : decide ((Ty.fn a b) = Ty.unit) = false := by simp
    refine run_eq (run_of (pf := p55) rfl ?_)
    unfold p55
    simp only [R.loop_eq, wp0, wp1, wp2, wp3, wp4, wp5, Int.reduceAdd, Int.reduceEq, Int.reduceLE, Int.reduceLT, Int.reduceNeg, Int.reduceSub, Int.reduceToNat, Nat.reduceAdd, Nat.reduceDiv, Nat.reduceEqDiff, Nat.reduceLT, Nat.reduceLeDiff, Nat.reduceMod, Nat.reduceMul, Nat.reduceSub, eq_self, reduceIte, Ty.row, tyAll, e3]
  | (.fn a b), (.pair c d) => by
    have e3 : decide ((Ty.fn a b) = (Ty.pair c d)) = false := by simp
    refine run_eq (run_of (pf := p55) rfl ?_)
    unfold p55
    simp only [R.loop_eq, wp0, wp1, wp2, wp3, wp4, wp5, Int.reduceAdd, Int.reduceEq, Int.reduceLE, Int.reduceLT, Int.reduceNeg, Int.reduceSub, Int.reduceToNat, Nat.reduceAdd, Nat.reduceDiv, Nat.reduceEqDiff, Nat.reduceLT, Nat.reduceLeDiff, Nat.reduceMod, Nat.reduceMul, Nat.reduceSub, eq_self, reduceIte, Ty.row, tyAll, e3]
  | (.fn a b), (.fn c d) => by
    by_cases h1 : a = c <;> by_cases h2 : b = d
    · have u0 := sameType sh a c
      have u1 := sameType sh b d
      try simp only [Ty.row] at u0 u1
      have u0' := clR.use u0
      have u1' := clR.use u1
      have e1 : decide (a = c) = true := by simp [h1]
      have e2 : decide (b = d) = true := by simp [h2]
      have e3 : decide ((Ty.fn a b) = (Ty.fn c d)) = true := by simp [h1, h2]
      refine run_eq (run_of (pf := p55) rfl ?_)
      unfold p55
      simp only [R.loop_eq, wp0, wp1, wp2, wp3, wp4, wp5, Int.reduceAdd, Int.reduceEq, Int.reduceLE, Int.reduceLT, Int.reduceNeg, Int.reduceSub, Int.reduceToNat, Nat.reduceAdd, Nat.reduceDiv, Nat.reduceEqDiff, Nat.reduceLT, Nat.reduceLeDiff, Nat.reduceMod, Nat.reduceMul, Nat.reduceSub, eq_self, reduceIte, Ty.row, tyAll, u0', u1', e1, e2, e3]
    · have u0 := sameType sh a c
      have u1 := sameType sh b d
      try simp only [Ty.row] at u0 u1
      have u0' := clR.use u0
      have u1' := clR.use u1
      have e1 : decide (a = c) = true := by simp [h1]
      have e2 : decide (b = d) = false := by simp [h2]
      have e3 : decide ((Ty.fn a b) = (Ty.fn c d)) = false := by simp [h1, h2]
      refine run_eq (run_of (pf := p55) rfl ?_)
      unfold p55
      simp only [R.loop_eq, wp0, wp1, wp2, wp3, wp4, wp5, Int.reduceAdd, Int.reduceEq, Int.reduceLE, Int.reduceLT, Int.reduceNeg, Int.reduceSub, Int.reduceToNat, Nat.reduceAdd, Nat.reduceDiv, Nat.reduceEqDiff, Nat.reduceLT, Nat.reduceLeDiff, Nat.reduceMod, Nat.reduceMul, Nat.reduceSub, eq_self, reduceIte, Ty.row, tyAll, u0', u1', e1, e2, e3]
    · have u0 := sameType sh a c
      have u1 := sameType sh b d
      try simp only [Ty.row] at u0 u1
      have u0' := clR.use u0
      have u1' := clR.use u1
      have e1 : decide (a = c) = false := by simp [h1]
      have e2 : decide (b = d) = true := by simp [h2]
      have e3 : decide ((Ty.fn a b) = (Ty.fn c d)) = false := by simp [h1, h2]
      refine run_eq (run_of (pf := p55) rfl ?_)
      unfold p55
      simp only [R.loop_eq, wp0, wp1, wp2, wp3, wp4, wp5, Int.reduceAdd, Int.reduceEq, Int.reduceLE, Int.reduceLT, Int.reduceNeg, Int.reduceSub, Int.reduceToNat, Nat.reduceAdd, Nat.reduceDiv, Nat.reduceEqDiff, Nat.reduceLT, Nat.reduceLeDiff, Nat.reduceMod, Nat.reduceMul, Nat.reduceSub, eq_self, reduceIte, Ty.row, tyAll, u0', u1', e1, e2, e3]
    · have u0 := sameType sh a c
      have u1 := sameType sh b d
      try simp only [Ty.row] at u0 u1
      have u0' := clR.use u0
      have u1' := clR.use u1
      have e1 : decide (a = c) = false := by simp [h1]
      have e2 : decide (b = d) = false := by simp [h2]
      have e3 : decide ((Ty.fn a b) = (Ty.fn c d)) = false := by simp [h1, h2]
      refine run_eq (run_of (pf := p55) rfl ?_)
      unfold p55
      simp only [R.loop_eq, wp0, wp1, wp2, wp3, wp4, wp5, Int.reduceAdd, Int.reduceEq, Int.reduceLE, Int.reduceLT, Int.reduceNeg, Int.reduceSub, Int.reduceToNat, Nat.reduceAdd, Nat.reduceDiv, Nat.reduceEqDiff, Nat.reduceLT, Nat.reduceLeDiff, Nat.reduceMod, Nat.reduceMul, Nat.reduceSub, eq_self, reduceIte, Ty.row, tyAll, u0', u1', e1, e2, e3]

theorem same15 (sh : Sh) : ∀ a b : Ty, ∃ n, callN T G n 11 [.ag a.row, .ag b.row] sh = some (.v (.bool (decide (a = b))), sh)
  | .nat, .nat => by
    have e3 : decide (Ty.nat = Ty.nat) = true := by simp
    refine run_eq (run_of (pf := p11) rfl ?_)
    unfold p11
    simp only [R.loop_eq, wp0, wp1, wp2, wp3, wp4, wp5, Int.reduceAdd, Int.reduceEq, Int.reduceLE, Int.reduceLT, Int.reduceNeg, Int.reduceSub, Int.reduceToNat, Nat.reduceAdd, Nat.reduceDiv, Nat.reduceEqDiff, Nat.reduceLT, Nat.reduceLeDiff, Nat.reduceMod, Nat.reduceMul, Nat.reduceSub, eq_self, reduceIte, Ty.row, tyAll, e3]
  | .nat, .list => by
    have e3 : decide (Ty.nat = Ty.list) = false := by simp
    refine run_eq (run_of (pf := p11) rfl ?_)
    unfold p11
    simp only [R.loop_eq, wp0, wp1, wp2, wp3, wp4, wp5, Int.reduceAdd, Int.reduceEq, Int.reduceLE, Int.reduceLT, Int.reduceNeg, Int.reduceSub, Int.reduceToNat, Nat.reduceAdd, Nat.reduceDiv, Nat.reduceEqDiff, Nat.reduceLT, Nat.reduceLeDiff, Nat.reduceMod, Nat.reduceMul, Nat.reduceSub, eq_self, reduceIte, Ty.row, tyAll, e3]
  | .nat, .unit => by
    have e3 : decide (Ty.nat = Ty.unit) = false := by simp
    refine run_eq (run_of (pf := p11) rfl ?_)
    unfold p11
    simp only [R.loop_eq, wp0, wp1, wp2, wp3, wp4, wp5, Int.reduceAdd, Int.reduceEq, Int.reduceLE, Int.reduceLT, Int.reduceNeg, Int.reduceSub, Int.reduceToNat, Nat.reduceAdd, Nat.reduceDiv, Nat.reduceEqDiff, Nat.reduceLT, Nat.reduceLeDiff, Nat.reduceMod, Nat.reduceMul, Nat.reduceSub, eq_self, reduceIte, Ty.row, tyAll, e3]
  | .nat, (.pair c d) => by
    have e3 : decide (Ty.nat = (Ty.pair c d)) = false := by simp
    refine run_eq (run_of (pf := p11) rfl ?_)
    unfold p11
    simp only [R.loop_eq, wp0, wp1, wp2, wp3, wp4, wp5, Int.reduceAdd, Int.reduceEq, Int.reduceLE, Int.reduceLT, Int.reduceNeg, Int.reduceSub, Int.reduceToNat, Nat.reduceAdd, Nat.reduceDiv, Nat.reduceEqDiff, Nat.reduceLT, Nat.reduceLeDiff, Nat.reduceMod, Nat.reduceMul, Nat.reduceSub, eq_self, reduceIte, Ty.row, tyAll, e3]
  | .nat, (.fn c d) => by
    have e3 : decide (Ty.nat = (Ty.fn c d)) = false := by simp
    refine run_eq (run_of (pf := p11) rfl ?_)
    unfold p11
    simp only [R.loop_eq, wp0, wp1, wp2, wp3, wp4, wp5, Int.reduceAdd, Int.reduceEq, Int.reduceLE, Int.reduceLT, Int.reduceNeg, Int.reduceSub, Int.reduceToNat, Nat.reduceAdd, Nat.reduceDiv, Nat.reduceEqDiff, Nat.reduceLT, Nat.reduceLeDiff, Nat.reduceMod, Nat.reduceMul, Nat.reduceSub, eq_self, reduceIte, Ty.row, tyAll, e3]
  | .list, .nat => by
    have e3 : decide (Ty.list = Ty.nat) = false := by simp
    refine run_eq (run_of (pf := p11) rfl ?_)
    unfold p11
    simp only [R.loop_eq, wp0, wp1, wp2, wp3, wp4, wp5, Int.reduceAdd, Int.reduceEq, Int.reduceLE, Int.reduceLT, Int.reduceNeg, Int.reduceSub, Int.reduceToNat, Nat.reduceAdd, Nat.reduceDiv, Nat.reduceEqDiff, Nat.reduceLT, Nat.reduceLeDiff, Nat.reduceMod, Nat.reduceMul, Nat.reduceSub, eq_self, reduceIte, Ty.row, tyAll, e3]
  | .list, .list => by
    have e3 : decide (Ty.list = Ty.list) = true := by simp
    refine run_eq (run_of (pf := p11) rfl ?_)
    unfold p11
    simp only [R.loop_eq, wp0, wp1, wp2, wp3, wp4, wp5, Int.reduceAdd, Int.reduceEq, Int.reduceLE, Int.reduceLT, Int.reduceNeg, Int.reduceSub, Int.reduceToNat, Nat.reduceAdd, Nat.reduceDiv, Nat.reduceEqDiff, Nat.reduceLT, Nat.reduceLeDiff, Nat.reduceMod, Nat.reduceMul, Nat.reduceSub, eq_self, reduceIte, Ty.row, tyAll, e3]
  | .list, .unit => by
    have e3 : decide (Ty.list = Ty.unit) = false := by simp
    refine run_eq (run_of (pf := p11) rfl ?_)
    unfold p11
    simp only [R.loop_eq, wp0, wp1, wp2, wp3, wp4, wp5, Int.reduceAdd, Int.reduceEq, Int.reduceLE, Int.reduceLT, Int.reduceNeg, Int.reduceSub, Int.reduceToNat, Nat.reduceAdd, Nat.reduceDiv, Nat.reduceEqDiff, Nat.reduceLT, Nat.reduceLeDiff, Nat.reduceMod, Nat.reduceMul, Nat.reduceSub, eq_self, reduceIte, Ty.row, tyAll, e3]
  | .list, (.pair c d) => by
    have e3 : decide (Ty.list = (Ty.pair c d)) = false := by simp
    refine run_eq (run_of (pf := p11) rfl ?_)
    unfold p11
    simp only [R.loop_eq, wp0, wp1, wp2, wp3, wp4, wp5, Int.reduceAdd, Int.reduceEq, Int.reduceLE, Int.reduceLT, Int.reduceNeg, Int.reduceSub, Int.reduceToNat, Nat.reduceAdd, Nat.reduceDiv, Nat.reduceEqDiff, Nat.reduceLT, Nat.reduceLeDiff, Nat.reduceMod, Nat.reduceMul, Nat.reduceSub, eq_self, reduceIte, Ty.row, tyAll, e3]
  | .list, (.fn c d) => by
    have e3 : decide (Ty.list = (Ty.fn c d)) = false := by simp
    refine run_eq (run_of (pf := p11) rfl ?_)
    unfold p11
    simp only [R.loop_eq, wp0, wp1, wp2, wp3, wp4, wp5, Int.reduceAdd, Int.reduceEq, Int.reduceLE, Int.reduceLT, Int.reduceNeg, Int.reduceSub, Int.reduceToNat, Nat.reduceAdd, Nat.reduceDiv, Nat.reduceEqDiff, Nat.reduceLT, Nat.reduceLeDiff, Nat.reduceMod, Nat.reduceMul, Nat.reduceSub, eq_self, reduceIte, Ty.row, tyAll, e3]
  | .unit, .nat => by
    have e3 : decide (Ty.unit = Ty.nat) = false := by simp
    refine run_eq (run_of (pf := p11) rfl ?_)
    unfold p11
    simp only [R.loop_eq, wp0, wp1, wp2, wp3, wp4, wp5, Int.reduceAdd, Int.reduceEq, Int.reduceLE, Int.reduceLT, Int.reduceNeg, Int.reduceSub, Int.reduceToNat, Nat.reduceAdd, Nat.reduceDiv, Nat.reduceEqDiff, Nat.reduceLT, Nat.reduceLeDiff, Nat.reduceMod, Nat.reduceMul, Nat.reduceSub, eq_self, reduceIte, Ty.row, tyAll, e3]
  | .unit, .list => by
    have e3 : decide (Ty.unit = Ty.list) = false := by simp
    refine run_eq (run_of (pf := p11) rfl ?_)
    unfold p11
    simp only [R.loop_eq, wp0, wp1, wp2, wp3, wp4, wp5, Int.reduceAdd, Int.reduceEq, Int.reduceLE, Int.reduceLT, Int.reduceNeg, Int.reduceSub, Int.reduceToNat, Nat.reduceAdd, Nat.reduceDiv, Nat.reduceEqDiff, Nat.reduceLT, Nat.reduceLeDiff, Nat.reduceMod, Nat.reduceMul, Nat.reduceSub, eq_self, reduceIte, Ty.row, tyAll, e3]
  | .unit, .unit => by
    have e3 : decide (Ty.unit = Ty.unit) = true := by simp
    refine run_eq (run_of (pf := p11) rfl ?_)
    unfold p11
    simp only [R.loop_eq, wp0, wp1, wp2, wp3, wp4, wp5, Int.reduceAdd, Int.reduceEq, Int.reduceLE, Int.reduceLT, Int.reduceNeg, Int.reduceSub, Int.reduceToNat, Nat.reduceAdd, Nat.reduceDiv, Nat.reduceEqDiff, Nat.reduceLT, Nat.reduceLeDiff, Nat.reduceMod, Nat.reduceMul, Nat.reduceSub, eq_self, reduceIte, Ty.row, tyAll, e3]
  | .unit, (.pair c d) => by
    have e3 : decide (Ty.unit = (Ty.pair c d)) = false := by simp
    refine run_eq (run_of (pf := p11) rfl ?_)
    unfold p11
    simp only [R.loop_eq, wp0, wp1, wp2, wp3, wp4, wp5, Int.reduceAdd, Int.reduceEq, Int.reduceLE, Int.reduceLT, Int.reduceNeg, Int.reduceSub, Int.reduceToNat, Nat.reduceAdd, Nat.reduceDiv, Nat.reduceEqDiff, Nat.reduceLT, Nat.reduceLeDiff, Nat.reduceMod, Nat.reduceMul, Nat.reduceSub, eq_self, reduceIte, Ty.row, tyAll, e3]
  | .unit, (.fn c d) => by
    have e3 : decide (Ty.unit = (Ty.fn c d)) = false := by simp
    refine run_eq (run_of (pf := p11) rfl ?_)
    unfold p11
    simp only [R.loop_eq, wp0, wp1, wp2, wp3, wp4, wp5, Int.reduceAdd, Int.reduceEq, Int.reduceLE, Int.reduceLT, Int.reduceNeg, Int.reduceSub, Int.reduceToNat, Nat.reduceAdd, Nat.reduceDiv, Nat.reduceEqDiff, Nat.reduceLT, Nat.reduceLeDiff, Nat.reduceMod, Nat.reduceMul, Nat.reduceSub, eq_self, reduceIte, Ty.row, tyAll, e3]
  | (.pair a b), .nat => by
    have e3 : decide ((Ty.pair a b) = Ty.nat) = false := by simp
    refine run_eq (run_of (pf := p11) rfl ?_)
    unfold p11
    simp only [R.loop_eq, wp0, wp1, wp2, wp3, wp4, wp5, Int.reduceAdd, Int.reduceEq, Int.reduceLE, Int.reduceLT, Int.reduceNeg, Int.reduceSub, Int.reduceToNat, Nat.reduceAdd, Nat.reduceDiv, Nat.reduceEqDiff, Nat.reduceLT, Nat.reduceLeDiff, Nat.reduceMod, Nat.reduceMul, Nat.reduceSub, eq_self, reduceIte, Ty.row, tyAll, e3]
  | (.pair a b), .list => by
    have e3 : decide ((Ty.pair a b) = Ty.list) = false := by simp
    refine run_eq (run_of (pf := p11) rfl ?_)
    unfold p11
    simp only [R.loop_eq, wp0, wp1, wp2, wp3, wp4, wp5, Int.reduceAdd, Int.reduceEq, Int.reduceLE, Int.reduceLT, Int.reduceNeg, Int.reduceSub, Int.reduceToNat, Nat.reduceAdd, Nat.reduceDiv, Nat.reduceEqDiff, Nat.reduceLT, Nat.reduceLeDiff, Nat.reduceMod, Nat.reduceMul, Nat.reduceSub, eq_self, reduceIte, Ty.row, tyAll, e3]
  | (.pair a b), .unit => by
    have e3 : decide ((Ty.pair a b) = Ty.unit) = false := by simp
    refine run_eq (run_of (pf := p11) rfl ?_)
    unfold p11
    simp only [R.loop_eq, wp0, wp1, wp2, wp3, wp4, wp5, Int.reduceAdd, Int.reduceEq, Int.reduceLE, Int.reduceLT, Int.reduceNeg, Int.reduceSub, Int.reduceToNat, Nat.reduceAdd, Nat.reduceDiv, Nat.reduceEqDiff, Nat.reduceLT, Nat.reduceLeDiff, Nat.reduceMod, Nat.reduceMul, Nat.reduceSub, eq_self, reduceIte, Ty.row, tyAll, e3]
  | (.pair a b), (.pair c d) => by
    by_cases h1 : a = c <;> by_cases h2 : b = d
    · have u0 := same15 sh a c
      have u1 := same15 sh b d
      try simp only [Ty.row] at u0 u1
      have u0' := clR.use u0
      have u1' := clR.use u1
      have e1 : decide (a = c) = true := by simp [h1]
      have e2 : decide (b = d) = true := by simp [h2]
      have e3 : decide ((Ty.pair a b) = (Ty.pair c d)) = true := by simp [h1, h2]
      refine run_eq (run_of (pf := p11) rfl ?_)
      unfold p11
      simp only [R.loop_eq, wp0, wp1, wp2, wp3, wp4, wp5, Int.reduceAdd, Int.reduceEq, Int.reduceLE, Int.reduceLT, Int.reduceNeg, Int.reduceSub, Int.reduceToNat, Nat.reduceAdd, Nat.reduceDiv, Nat.reduceEqDiff, Nat.reduceLT, Nat.reduceLeDiff, Nat.reduceMod, Nat.reduceMul, Nat.reduceSub, eq_self, reduceIte, Ty.row, tyAll, u0', u1', e1, e2, e3]
    · have u0 := same15 sh a c
      have u1 := same15 sh b d
      try simp only [Ty.row] at u0 u1
      have u0' := clR.use u0
      have u1' := clR.use u1
      have e1 : decide (a = c) = true := by simp [h1]
      have e2 : decide (b = d) = false := by simp [h2]
      have e3 : decide ((Ty.pair a b) = (Ty.pair c d)) = false := by simp [h1, h2]
      refine run_eq (run_of (pf := p11) rfl ?_)
      unfold p11
      simp only [R.loop_eq, wp0, wp1, wp2, wp3, wp4, wp5, Int.reduceAdd, Int.reduceEq, Int.reduceLE, Int.reduceLT, Int.reduceNeg, Int.reduceSub, Int.reduceToNat, Nat.reduceAdd, Nat.reduceDiv, Nat.reduceEqDiff, Nat.reduceLT, Nat.reduceLeDiff, Nat.reduceMod, Nat.reduceMul, Nat.reduceSub, eq_self, reduceIte, Ty.row, tyAll, u0', u1', e1, e2, e3]
    · have u0 := same15 sh a c
      have u1 := same15 sh b d
      try simp only [Ty.row] at u0 u1
      have u0' := clR.use u0
      have u1' := clR.use u1
      have e1 : decide (a = c) = false := by simp [h1]
      have e2 : decide (b = d) = true := by simp [h2]
      have e3 : decide ((Ty.pair a b) = (Ty.pair c d)) = false := by simp [h1, h2]
      refine run_eq (run_of (pf := p11) rfl ?_)
      unfold p11
      simp only [R.loop_eq, wp0, wp1, wp2, wp3, wp4, wp5, Int.reduceAdd, Int.reduceEq, Int.reduceLE, Int.reduceLT, Int.reduceNeg, Int.reduceSub, Int.reduceToNat, Nat.reduceAdd, Nat.reduceDiv, Nat.reduceEqDiff, Nat.reduceLT, Nat.reduceLeDiff, Nat.reduceMod, Nat.reduceMul, Nat.reduceSub, eq_self, reduceIte, Ty.row, tyAll, u0', u1', e1, e2, e3]
    · have u0 := same15 sh a c
      have u1 := same15 sh b d
      try simp only [Ty.row] at u0 u1
      have u0' := clR.use u0
      have u1' := clR.use u1
      have e1 : decide (a = c) = false := by simp [h1]
      have e2 : decide (b = d) = false := by simp [h2]
      have e3 : decide ((Ty.pair a b) = (Ty.pair c d)) = false := by simp [h1, h2]
      refine run_eq (run_of (pf := p11) rfl ?_)
      unfold p11
      simp only [R.loop_eq, wp0, wp1, wp2, wp3, wp4, wp5, Int.reduceAdd, Int.reduceEq, Int.reduceLE, Int.reduceLT, Int.reduceNeg, Int.reduceSub, Int.reduceToNat, Nat.reduceAdd, Nat.reduceDiv, Nat.reduceEqDiff, Nat.reduceLT, Nat.reduceLeDiff, Nat.reduceMod, Nat.reduceMul, Nat.reduceSub, eq_self, reduceIte, Ty.row, tyAll, u0', u1', e1, e2, e3]
  | (.pair a b), (.fn c d) => by
    have e3 : decide ((Ty.pair a b) = (Ty.fn c d)) = false := by simp
    refine run_eq (run_of (pf := p11) rfl ?_)
    unfold p11
    simp only [R.loop_eq, wp0, wp1, wp2, wp3, wp4, wp5, Int.reduceAdd, Int.reduceEq, Int.reduceLE, Int.reduceLT, Int.reduceNeg, Int.reduceSub, Int.reduceToNat, Nat.reduceAdd, Nat.reduceDiv, Nat.reduceEqDiff, Nat.reduceLT, Nat.reduceLeDiff, Nat.reduceMod, Nat.reduceMul, Nat.reduceSub, eq_self, reduceIte, Ty.row, tyAll, e3]
  | (.fn a b), .nat => by
    have e3 : decide ((Ty.fn a b) = Ty.nat) = false := by simp
    refine run_eq (run_of (pf := p11) rfl ?_)
    unfold p11
    simp only [R.loop_eq, wp0, wp1, wp2, wp3, wp4, wp5, Int.reduceAdd, Int.reduceEq, Int.reduceLE, Int.reduceLT, Int.reduceNeg, Int.reduceSub, Int.reduceToNat, Nat.reduceAdd, Nat.reduceDiv, Nat.reduceEqDiff, Nat.reduceLT, Nat.reduceLeDiff, Nat.reduceMod, Nat.reduceMul, Nat.reduceSub, eq_self, reduceIte, Ty.row, tyAll, e3]
  | (.fn a b), .list => by
    have e3 : decide ((Ty.fn a b) = Ty.list) = false := by simp
    refine run_eq (run_of (pf := p11) rfl ?_)
    unfold p11
    simp only [R.loop_eq, wp0, wp1, wp2, wp3, wp4, wp5, Int.reduceAdd, Int.reduceEq, Int.reduceLE, Int.reduceLT, Int.reduceNeg, Int.reduceSub, Int.reduceToNat, Nat.reduceAdd, Nat.reduceDiv, Nat.reduceEqDiff, Nat.reduceLT, Nat.reduceLeDiff, Nat.reduceMod, Nat.reduceMul, Nat.reduceSub, eq_self, reduceIte, Ty.row, tyAll, e3]
  | (.fn a b), .unit => by
    have e3 : decide ((Ty.fn a b) = Ty.unit) = false := by simp
    refine run_eq (run_of (pf := p11) rfl ?_)
    unfold p11
    simp only [R.loop_eq, wp0, wp1, wp2, wp3, wp4, wp5, Int.reduceAdd, Int.reduceEq, Int.reduceLE, Int.reduceLT, Int.reduceNeg, Int.reduceSub, Int.reduceToNat, Nat.reduceAdd, Nat.reduceDiv, Nat.reduceEqDiff, Nat.reduceLT, Nat.reduceLeDiff, Nat.reduceMod, Nat.reduceMul, Nat.reduceSub, eq_self, reduceIte, Ty.row, tyAll, e3]
  | (.fn a b), (.pair c d) => by
    have e3 : decide ((Ty.fn a b) = (Ty.pair c d)) = false := by simp
    refine run_eq (run_of (pf := p11) rfl ?_)
    unfold p11
    simp only [R.loop_eq, wp0, wp1, wp2, wp3, wp4, wp5, Int.reduceAdd, Int.reduceEq, Int.reduceLE, Int.reduceLT, Int.reduceNeg, Int.reduceSub, Int.reduceToNat, Nat.reduceAdd, Nat.reduceDiv, Nat.reduceEqDiff, Nat.reduceLT, Nat.reduceLeDiff, Nat.reduceMod, Nat.reduceMul, Nat.reduceSub, eq_self, reduceIte, Ty.row, tyAll, e3]
  | (.fn a b), (.fn c d) => by
    by_cases h1 : a = c <;> by_cases h2 : b = d
    · have u0 := same15 sh a c
      have u1 := same15 sh b d
      try simp only [Ty.row] at u0 u1
      have u0' := clR.use u0
      have u1' := clR.use u1
      have e1 : decide (a = c) = true := by simp [h1]
      have e2 : decide (b = d) = true := by simp [h2]
      have e3 : decide ((Ty.fn a b) = (Ty.fn c d)) = true := by simp [h1, h2]
      refine run_eq (run_of (pf := p11) rfl ?_)
      unfold p11
      simp only [R.loop_eq, wp0, wp1, wp2, wp3, wp4, wp5, Int.reduceAdd, Int.reduceEq, Int.reduceLE, Int.reduceLT, Int.reduceNeg, Int.reduceSub, Int.reduceToNat, Nat.reduceAdd, Nat.reduceDiv, Nat.reduceEqDiff, Nat.reduceLT, Nat.reduceLeDiff, Nat.reduceMod, Nat.reduceMul, Nat.reduceSub, eq_self, reduceIte, Ty.row, tyAll, u0', u1', e1, e2, e3]
    · have u0 := same15 sh a c
      have u1 := same15 sh b d
      try simp only [Ty.row] at u0 u1
      have u0' := clR.use u0
      have u1' := clR.use u1
      have e1 : decide (a = c) = true := by simp [h1]
      have e2 : decide (b = d) = false := by simp [h2]
      have e3 : decide ((Ty.fn a b) = (Ty.fn c d)) = false := by simp [h1, h2]
      refine run_eq (run_of (pf := p11) rfl ?_)
      unfold p11
      simp only [R.loop_eq, wp0, wp1, wp2, wp3, wp4, wp5, Int.reduceAdd, Int.reduceEq, Int.reduceLE, Int.reduceLT, Int.reduceNeg, Int.reduceSub, Int.reduceToNat, Nat.reduceAdd, Nat.reduceDiv, Nat.reduceEqDiff, Nat.reduceLT, Nat.reduceLeDiff, Nat.reduceMod, Nat.reduceMul, Nat.reduceSub, eq_self, reduceIte, Ty.row, tyAll, u0', u1', e1, e2, e3]
    · have u0 := same15 sh a c
      have u1 := same15 sh b d
      try simp only [Ty.row] at u0 u1
      have u0' := clR.use u0
      have u1' := clR.use u1
      have e1 : decide (a = c) = false := by simp [h1]
      have e2 : decide (b = d) = true := by simp [h2]
      have e3 : decide ((Ty.fn a b) = (Ty.fn c d)) = false := by simp [h1, h2]
      refine run_eq (run_of (pf := p11) rfl ?_)
      unfold p11
      simp only [R.loop_eq, wp0, wp1, wp2, wp3, wp4, wp5, Int.reduceAdd, Int.reduceEq, Int.reduceLE, Int.reduceLT, Int.reduceNeg, Int.reduceSub, Int.reduceToNat, Nat.reduceAdd, Nat.reduceDiv, Nat.reduceEqDiff, Nat.reduceLT, Nat.reduceLeDiff, Nat.reduceMod, Nat.reduceMul, Nat.reduceSub, eq_self, reduceIte, Ty.row, tyAll, u0', u1', e1, e2, e3]
    · have u0 := same15 sh a c
      have u1 := same15 sh b d
      try simp only [Ty.row] at u0 u1
      have u0' := clR.use u0
      have u1' := clR.use u1
      have e1 : decide (a = c) = false := by simp [h1]
      have e2 : decide (b = d) = false := by simp [h2]
      have e3 : decide ((Ty.fn a b) = (Ty.fn c d)) = false := by simp [h1, h2]
      refine run_eq (run_of (pf := p11) rfl ?_)
      unfold p11
      simp only [R.loop_eq, wp0, wp1, wp2, wp3, wp4, wp5, Int.reduceAdd, Int.reduceEq, Int.reduceLE, Int.reduceLT, Int.reduceNeg, Int.reduceSub, Int.reduceToNat, Nat.reduceAdd, Nat.reduceDiv, Nat.reduceEqDiff, Nat.reduceLT, Nat.reduceLeDiff, Nat.reduceMod, Nat.reduceMul, Nat.reduceSub, eq_self, reduceIte, Ty.row, tyAll, u0', u1', e1, e2, e3]

end Go.Pi.Terms

set_option maxRecDepth 100000
set_option maxHeartbeats 1000000
set_option linter.unusedSimpArgs false
set_option linter.unusedVariables false
namespace Go.Pi.Terms
open Go Go.Pi Go.Proofs.YthgocgebpoeolaaDoor
theorem own49 (sh : Sh) : ∀ a : Ty, ∃ n, callN T G n 49 [.ag a.row] sh = some (.ag a.row, sh)
  | .nat => by
    refine run_eq (run_of (pf := p49) rfl ?_)
    unfold p49
    simp only [R.loop_eq, wp0, wp1, wp2, wp3, wp4, wp5, Int.reduceAdd, Int.reduceEq, Int.reduceLE, Int.reduceLT, Int.reduceNeg, Int.reduceSub, Int.reduceToNat, Nat.reduceAdd, Nat.reduceDiv, Nat.reduceEqDiff, Nat.reduceLT, Nat.reduceLeDiff, Nat.reduceMod, Nat.reduceMul, Nat.reduceSub, eq_self, reduceIte, Ty.row, tyAll]
  | .list => by
    refine run_eq (run_of (pf := p49) rfl ?_)
    unfold p49
    simp only [R.loop_eq, wp0, wp1, wp2, wp3, wp4, wp5, Int.reduceAdd, Int.reduceEq, Int.reduceLE, Int.reduceLT, Int.reduceNeg, Int.reduceSub, Int.reduceToNat, Nat.reduceAdd, Nat.reduceDiv, Nat.reduceEqDiff, Nat.reduceLT, Nat.reduceLeDiff, Nat.reduceMod, Nat.reduceMul, Nat.reduceSub, eq_self, reduceIte, Ty.row, tyAll]
  | .unit => by
    refine run_eq (run_of (pf := p49) rfl ?_)
    unfold p49
    simp only [R.loop_eq, wp0, wp1, wp2, wp3, wp4, wp5, Int.reduceAdd, Int.reduceEq, Int.reduceLE, Int.reduceLT, Int.reduceNeg, Int.reduceSub, Int.reduceToNat, Nat.reduceAdd, Nat.reduceDiv, Nat.reduceEqDiff, Nat.reduceLT, Nat.reduceLeDiff, Nat.reduceMod, Nat.reduceMul, Nat.reduceSub, eq_self, reduceIte, Ty.row, tyAll]
  | .pair a b => by
    have u0 := own49 sh a
    have u1 := own49 sh b
    try simp only [Ty.row] at u0 u1
    have u0' := clR.use u0
    have u1' := clR.use u1
    refine run_eq (run_of (pf := p49) rfl ?_)
    unfold p49
    simp only [R.loop_eq, wp0, wp1, wp2, wp3, wp4, wp5, Int.reduceAdd, Int.reduceEq, Int.reduceLE, Int.reduceLT, Int.reduceNeg, Int.reduceSub, Int.reduceToNat, Nat.reduceAdd, Nat.reduceDiv, Nat.reduceEqDiff, Nat.reduceLT, Nat.reduceLeDiff, Nat.reduceMod, Nat.reduceMul, Nat.reduceSub, eq_self, reduceIte, Ty.row, tyAll, u0', u1']
  | .fn a b => by
    have u0 := own49 sh a
    have u1 := own49 sh b
    try simp only [Ty.row] at u0 u1
    have u0' := clR.use u0
    have u1' := clR.use u1
    refine run_eq (run_of (pf := p49) rfl ?_)
    unfold p49
    simp only [R.loop_eq, wp0, wp1, wp2, wp3, wp4, wp5, Int.reduceAdd, Int.reduceEq, Int.reduceLE, Int.reduceLT, Int.reduceNeg, Int.reduceSub, Int.reduceToNat, Nat.reduceAdd, Nat.reduceDiv, Nat.reduceEqDiff, Nat.reduceLT, Nat.reduceLeDiff, Nat.reduceMod, Nat.reduceMul, Nat.reduceSub, eq_self, reduceIte, Ty.row, tyAll, u0', u1']

theorem copy50 (sh : Sh) : ∀ a : Ty, ∃ n, callN T G n 42 [.ag a.row] sh = some (.ag a.row, sh)
  | .nat => by
    refine run_eq (run_of (pf := p42) rfl ?_)
    unfold p42
    simp only [R.loop_eq, wp0, wp1, wp2, wp3, wp4, wp5, Int.reduceAdd, Int.reduceEq, Int.reduceLE, Int.reduceLT, Int.reduceNeg, Int.reduceSub, Int.reduceToNat, Nat.reduceAdd, Nat.reduceDiv, Nat.reduceEqDiff, Nat.reduceLT, Nat.reduceLeDiff, Nat.reduceMod, Nat.reduceMul, Nat.reduceSub, eq_self, reduceIte, Ty.row, tyAll]
  | .list => by
    refine run_eq (run_of (pf := p42) rfl ?_)
    unfold p42
    simp only [R.loop_eq, wp0, wp1, wp2, wp3, wp4, wp5, Int.reduceAdd, Int.reduceEq, Int.reduceLE, Int.reduceLT, Int.reduceNeg, Int.reduceSub, Int.reduceToNat, Nat.reduceAdd, Nat.reduceDiv, Nat.reduceEqDiff, Nat.reduceLT, Nat.reduceLeDiff, Nat.reduceMod, Nat.reduceMul, Nat.reduceSub, eq_self, reduceIte, Ty.row, tyAll]
  | .unit => by
    refine run_eq (run_of (pf := p42) rfl ?_)
    unfold p42
    simp only [R.loop_eq, wp0, wp1, wp2, wp3, wp4, wp5, Int.reduceAdd, Int.reduceEq, Int.reduceLE, Int.reduceLT, Int.reduceNeg, Int.reduceSub, Int.reduceToNat, Nat.reduceAdd, Nat.reduceDiv, Nat.reduceEqDiff, Nat.reduceLT, Nat.reduceLeDiff, Nat.reduceMod, Nat.reduceMul, Nat.reduceSub, eq_self, reduceIte, Ty.row, tyAll]
  | .pair a b => by
    have u0 := copy50 sh a
    have u1 := copy50 sh b
    try simp only [Ty.row] at u0 u1
    have u0' := clR.use u0
    have u1' := clR.use u1
    refine run_eq (run_of (pf := p42) rfl ?_)
    unfold p42
    simp only [R.loop_eq, wp0, wp1, wp2, wp3, wp4, wp5, Int.reduceAdd, Int.reduceEq, Int.reduceLE, Int.reduceLT, Int.reduceNeg, Int.reduceSub, Int.reduceToNat, Nat.reduceAdd, Nat.reduceDiv, Nat.reduceEqDiff, Nat.reduceLT, Nat.reduceLeDiff, Nat.reduceMod, Nat.reduceMul, Nat.reduceSub, eq_self, reduceIte, Ty.row, tyAll, u0', u1']
  | .fn a b => by
    have u0 := copy50 sh a
    have u1 := copy50 sh b
    try simp only [Ty.row] at u0 u1
    have u0' := clR.use u0
    have u1' := clR.use u1
    refine run_eq (run_of (pf := p42) rfl ?_)
    unfold p42
    simp only [R.loop_eq, wp0, wp1, wp2, wp3, wp4, wp5, Int.reduceAdd, Int.reduceEq, Int.reduceLE, Int.reduceLT, Int.reduceNeg, Int.reduceSub, Int.reduceToNat, Nat.reduceAdd, Nat.reduceDiv, Nat.reduceEqDiff, Nat.reduceLT, Nat.reduceLeDiff, Nat.reduceMod, Nat.reduceMul, Nat.reduceSub, eq_self, reduceIte, Ty.row, tyAll, u0', u1']

theorem nat34 (sh : Sh)  : ∃ n, callN T G n 23 [] sh = some (.ag Ty.nat.row, sh) := by
  refine run_eq (run_of (pf := p23) rfl ?_)
  unfold p23
  simp only [R.loop_eq, wp0, wp1, wp2, wp3, wp4, wp5, Int.reduceAdd, Int.reduceEq, Int.reduceLE, Int.reduceLT, Int.reduceNeg, Int.reduceSub, Int.reduceToNat, Nat.reduceAdd, Nat.reduceDiv, Nat.reduceEqDiff, Nat.reduceLT, Nat.reduceLeDiff, Nat.reduceMod, Nat.reduceMul, Nat.reduceSub, eq_self, reduceIte, Ty.row, tyAll]
theorem list37 (sh : Sh)  : ∃ n, callN T G n 38 [] sh = some (.ag Ty.list.row, sh) := by
  refine run_eq (run_of (pf := p38) rfl ?_)
  unfold p38
  simp only [R.loop_eq, wp0, wp1, wp2, wp3, wp4, wp5, Int.reduceAdd, Int.reduceEq, Int.reduceLE, Int.reduceLT, Int.reduceNeg, Int.reduceSub, Int.reduceToNat, Nat.reduceAdd, Nat.reduceDiv, Nat.reduceEqDiff, Nat.reduceLT, Nat.reduceLeDiff, Nat.reduceMod, Nat.reduceMul, Nat.reduceSub, eq_self, reduceIte, Ty.row, tyAll]
theorem unit38 (sh : Sh)  : ∃ n, callN T G n 39 [] sh = some (.ag Ty.unit.row, sh) := by
  refine run_eq (run_of (pf := p39) rfl ?_)
  unfold p39
  simp only [R.loop_eq, wp0, wp1, wp2, wp3, wp4, wp5, Int.reduceAdd, Int.reduceEq, Int.reduceLE, Int.reduceLT, Int.reduceNeg, Int.reduceSub, Int.reduceToNat, Nat.reduceAdd, Nat.reduceDiv, Nat.reduceEqDiff, Nat.reduceLT, Nat.reduceLeDiff, Nat.reduceMod, Nat.reduceMul, Nat.reduceSub, eq_self, reduceIte, Ty.row, tyAll]
theorem fun35 (sh : Sh) (a b : Ty) : ∃ n, callN T G n 41 [.ag a.row, .ag b.row] sh = some (.ag (Ty.fn a b).row, sh) := by
  have u0 := copy50 sh a
  have u1 := copy50 sh b
  try simp only [Ty.row] at u0 u1
  have u0' := clR.use u0
  have u1' := clR.use u1
  refine run_eq (run_of (pf := p41) rfl ?_)
  unfold p41
  simp only [R.loop_eq, wp0, wp1, wp2, wp3, wp4, wp5, Int.reduceAdd, Int.reduceEq, Int.reduceLE, Int.reduceLT, Int.reduceNeg, Int.reduceSub, Int.reduceToNat, Nat.reduceAdd, Nat.reduceDiv, Nat.reduceEqDiff, Nat.reduceLT, Nat.reduceLeDiff, Nat.reduceMod, Nat.reduceMul, Nat.reduceSub, eq_self, reduceIte, Ty.row, tyAll, u0', u1']
theorem two39 (sh : Sh) (a b : Ty) : ∃ n, callN T G n 40 [.ag a.row, .ag b.row] sh = some (.ag (Ty.pair a b).row, sh) := by
  have u0 := copy50 sh a
  have u1 := copy50 sh b
  try simp only [Ty.row] at u0 u1
  have u0' := clR.use u0
  have u1' := clR.use u1
  refine run_eq (run_of (pf := p40) rfl ?_)
  unfold p40
  simp only [R.loop_eq, wp0, wp1, wp2, wp3, wp4, wp5, Int.reduceAdd, Int.reduceEq, Int.reduceLE, Int.reduceLT, Int.reduceNeg, Int.reduceSub, Int.reduceToNat, Nat.reduceAdd, Nat.reduceDiv, Nat.reduceEqDiff, Nat.reduceLT, Nat.reduceLeDiff, Nat.reduceMod, Nat.reduceMul, Nat.reduceSub, eq_self, reduceIte, Ty.row, tyAll, u0', u1']
end Go.Pi.Terms

set_option maxRecDepth 100000
set_option maxHeartbeats 1000000
set_option linter.unusedSimpArgs false
set_option linter.unusedVariables false
namespace Go.Pi.Terms
open Go Go.Pi Go.Proofs.YthgocgebpoeolaaDoor
/-- The terms that are made. -/
inductive Tm where
  | var (i : Nat)
  | lam (s : Ty) (a : Tm)
  | app (a : Tm) (b : Tm)
  | zero
  | succ (a : Tm)
  | recu (s : Ty) (a : Tm) (b : Tm) (c : Tm)
  | nil
  | cons (a : Tm) (b : Tm)
  | fold (s : Ty) (a : Tm) (b : Tm) (c : Tm)
  | pair (a : Tm) (b : Tm)
  | fst (a : Tm)
  | snd (a : Tm)
  | unit
def Tm.kind : Tm → Int
  | .var i => 1
  | .lam s a => 2
  | .app a b => 3
  | .zero => 4
  | .succ a => 5
  | .recu s a b c => 6
  | .nil => 7
  | .cons a b => 8
  | .fold s a b c => 9
  | .pair a b => 10
  | .fst a => 11
  | .snd a => 12
  | .unit => 13
def Tm.idx : Tm → Int
  | .var i => (i : Int)
  | .lam s a => 0
  | .app a b => 0
  | .zero => 0
  | .succ a => 0
  | .recu s a b c => 0
  | .nil => 0
  | .cons a b => 0
  | .fold s a b c => 0
  | .pair a b => 0
  | .fst a => 0
  | .snd a => 0
  | .unit => 0
def Tm.tkind : Tm → Int
  | .var i => 0
  | .lam s a => s.kind
  | .app a b => 0
  | .zero => 0
  | .succ a => 0
  | .recu s a b c => s.kind
  | .nil => 0
  | .cons a b => 0
  | .fold s a b c => s.kind
  | .pair a b => 0
  | .fst a => 0
  | .snd a => 0
  | .unit => 0
def Tm.tz : Tm → Nat
  | .var i => 0
  | .lam s a => s.asz
  | .app a b => 0
  | .zero => 0
  | .succ a => 0
  | .recu s a b c => s.asz
  | .nil => 0
  | .cons a b => 0
  | .fold s a b c => s.asz
  | .pair a b => 0
  | .fst a => 0
  | .snd a => 0
  | .unit => 0
def Tm.trows : Tm → List (List PV)
  | .var i => []
  | .lam s a => s.arows
  | .app a b => []
  | .zero => []
  | .succ a => []
  | .recu s a b c => s.arows
  | .nil => []
  | .cons a b => []
  | .fold s a b c => s.arows
  | .pair a b => []
  | .fst a => []
  | .snd a => []
  | .unit => []
def Tm.az : Tm → Nat
  | .var i => 0
  | .lam s a => 5
  | .app a b => 5
  | .zero => 0
  | .succ a => 5
  | .recu s a b c => 5
  | .nil => 0
  | .cons a b => 5
  | .fold s a b c => 5
  | .pair a b => 5
  | .fst a => 5
  | .snd a => 5
  | .unit => 0
def Tm.arows : Tm → List (List PV)
  | .var i => []
  | .lam s a => [[i64 a.kind, i64 a.idx, i64 a.tkind, .sl 0 a.tz a.trows, .sl 0 a.az a.arows]]
  | .app a b => [[i64 a.kind, i64 a.idx, i64 a.tkind, .sl 0 a.tz a.trows, .sl 0 a.az a.arows], [i64 b.kind, i64 b.idx, i64 b.tkind, .sl 0 b.tz b.trows, .sl 0 b.az b.arows]]
  | .zero => []
  | .succ a => [[i64 a.kind, i64 a.idx, i64 a.tkind, .sl 0 a.tz a.trows, .sl 0 a.az a.arows]]
  | .recu s a b c => [[i64 a.kind, i64 a.idx, i64 a.tkind, .sl 0 a.tz a.trows, .sl 0 a.az a.arows], [i64 b.kind, i64 b.idx, i64 b.tkind, .sl 0 b.tz b.trows, .sl 0 b.az b.arows], [i64 c.kind, i64 c.idx, i64 c.tkind, .sl 0 c.tz c.trows, .sl 0 c.az c.arows]]
  | .nil => []
  | .cons a b => [[i64 a.kind, i64 a.idx, i64 a.tkind, .sl 0 a.tz a.trows, .sl 0 a.az a.arows], [i64 b.kind, i64 b.idx, i64 b.tkind, .sl 0 b.tz b.trows, .sl 0 b.az b.arows]]
  | .fold s a b c => [[i64 a.kind, i64 a.idx, i64 a.tkind, .sl 0 a.tz a.trows, .sl 0 a.az a.arows], [i64 b.kind, i64 b.idx, i64 b.tkind, .sl 0 b.tz b.trows, .sl 0 b.az b.arows], [i64 c.kind, i64 c.idx, i64 c.tkind, .sl 0 c.tz c.trows, .sl 0 c.az c.arows]]
  | .pair a b => [[i64 a.kind, i64 a.idx, i64 a.tkind, .sl 0 a.tz a.trows, .sl 0 a.az a.arows], [i64 b.kind, i64 b.idx, i64 b.tkind, .sl 0 b.tz b.trows, .sl 0 b.az b.arows]]
  | .fst a => [[i64 a.kind, i64 a.idx, i64 a.tkind, .sl 0 a.tz a.trows, .sl 0 a.az a.arows]]
  | .snd a => [[i64 a.kind, i64 a.idx, i64 a.tkind, .sl 0 a.tz a.trows, .sl 0 a.az a.arows]]
  | .unit => []
def Tm.size : Tm → Nat
  | .var i => 1
  | .lam s a => 1 + a.size
  | .app a b => 1 + a.size + b.size
  | .zero => 1
  | .succ a => 1 + a.size
  | .recu s a b c => 1 + a.size + b.size + c.size
  | .nil => 1
  | .cons a b => 1 + a.size + b.size
  | .fold s a b c => 1 + a.size + b.size + c.size
  | .pair a b => 1 + a.size + b.size
  | .fst a => 1 + a.size
  | .snd a => 1 + a.size
  | .unit => 1
/-- A term, as its cells. -/
def Tm.row (t : Tm) : List PV := [i64 t.kind, i64 t.idx, i64 t.tkind, .sl 0 t.tz t.trows, .sl 0 t.az t.arows]
theorem Tm.kind_var (i : Nat) : (Tm.var i).kind = 1 := rfl
theorem Tm.kind_lam (s : Ty) (a : Tm) : (Tm.lam s a).kind = 2 := rfl
theorem Tm.kind_app (a : Tm) (b : Tm) : (Tm.app a b).kind = 3 := rfl
theorem Tm.kind_zero : (Tm.zero).kind = 4 := rfl
theorem Tm.kind_succ (a : Tm) : (Tm.succ a).kind = 5 := rfl
theorem Tm.kind_recu (s : Ty) (a : Tm) (b : Tm) (c : Tm) : (Tm.recu s a b c).kind = 6 := rfl
theorem Tm.kind_nil : (Tm.nil).kind = 7 := rfl
theorem Tm.kind_cons (a : Tm) (b : Tm) : (Tm.cons a b).kind = 8 := rfl
theorem Tm.kind_fold (s : Ty) (a : Tm) (b : Tm) (c : Tm) : (Tm.fold s a b c).kind = 9 := rfl
theorem Tm.kind_pair (a : Tm) (b : Tm) : (Tm.pair a b).kind = 10 := rfl
theorem Tm.kind_fst (a : Tm) : (Tm.fst a).kind = 11 := rfl
theorem Tm.kind_snd (a : Tm) : (Tm.snd a).kind = 12 := rfl
theorem Tm.kind_unit : (Tm.unit).kind = 13 := rfl
theorem Tm.idx_var (i : Nat) : (Tm.var i).idx = (i : Int) := rfl
theorem Tm.idx_lam (s : Ty) (a : Tm) : (Tm.lam s a).idx = 0 := rfl
theorem Tm.idx_app (a : Tm) (b : Tm) : (Tm.app a b).idx = 0 := rfl
theorem Tm.idx_zero : (Tm.zero).idx = 0 := rfl
theorem Tm.idx_succ (a : Tm) : (Tm.succ a).idx = 0 := rfl
theorem Tm.idx_recu (s : Ty) (a : Tm) (b : Tm) (c : Tm) : (Tm.recu s a b c).idx = 0 := rfl
theorem Tm.idx_nil : (Tm.nil).idx = 0 := rfl
theorem Tm.idx_cons (a : Tm) (b : Tm) : (Tm.cons a b).idx = 0 := rfl
theorem Tm.idx_fold (s : Ty) (a : Tm) (b : Tm) (c : Tm) : (Tm.fold s a b c).idx = 0 := rfl
theorem Tm.idx_pair (a : Tm) (b : Tm) : (Tm.pair a b).idx = 0 := rfl
theorem Tm.idx_fst (a : Tm) : (Tm.fst a).idx = 0 := rfl
theorem Tm.idx_snd (a : Tm) : (Tm.snd a).idx = 0 := rfl
theorem Tm.idx_unit : (Tm.unit).idx = 0 := rfl
theorem Tm.tkind_var (i : Nat) : (Tm.var i).tkind = 0 := rfl
theorem Tm.tkind_lam (s : Ty) (a : Tm) : (Tm.lam s a).tkind = s.kind := rfl
theorem Tm.tkind_app (a : Tm) (b : Tm) : (Tm.app a b).tkind = 0 := rfl
theorem Tm.tkind_zero : (Tm.zero).tkind = 0 := rfl
theorem Tm.tkind_succ (a : Tm) : (Tm.succ a).tkind = 0 := rfl
theorem Tm.tkind_recu (s : Ty) (a : Tm) (b : Tm) (c : Tm) : (Tm.recu s a b c).tkind = s.kind := rfl
theorem Tm.tkind_nil : (Tm.nil).tkind = 0 := rfl
theorem Tm.tkind_cons (a : Tm) (b : Tm) : (Tm.cons a b).tkind = 0 := rfl
theorem Tm.tkind_fold (s : Ty) (a : Tm) (b : Tm) (c : Tm) : (Tm.fold s a b c).tkind = s.kind := rfl
theorem Tm.tkind_pair (a : Tm) (b : Tm) : (Tm.pair a b).tkind = 0 := rfl
theorem Tm.tkind_fst (a : Tm) : (Tm.fst a).tkind = 0 := rfl
theorem Tm.tkind_snd (a : Tm) : (Tm.snd a).tkind = 0 := rfl
theorem Tm.tkind_unit : (Tm.unit).tkind = 0 := rfl
theorem Tm.tz_var (i : Nat) : (Tm.var i).tz = 0 := rfl
theorem Tm.tz_lam (s : Ty) (a : Tm) : (Tm.lam s a).tz = s.asz := rfl
theorem Tm.tz_app (a : Tm) (b : Tm) : (Tm.app a b).tz = 0 := rfl
theorem Tm.tz_zero : (Tm.zero).tz = 0 := rfl
theorem Tm.tz_succ (a : Tm) : (Tm.succ a).tz = 0 := rfl
theorem Tm.tz_recu (s : Ty) (a : Tm) (b : Tm) (c : Tm) : (Tm.recu s a b c).tz = s.asz := rfl
theorem Tm.tz_nil : (Tm.nil).tz = 0 := rfl
theorem Tm.tz_cons (a : Tm) (b : Tm) : (Tm.cons a b).tz = 0 := rfl
theorem Tm.tz_fold (s : Ty) (a : Tm) (b : Tm) (c : Tm) : (Tm.fold s a b c).tz = s.asz := rfl
theorem Tm.tz_pair (a : Tm) (b : Tm) : (Tm.pair a b).tz = 0 := rfl
theorem Tm.tz_fst (a : Tm) : (Tm.fst a).tz = 0 := rfl
theorem Tm.tz_snd (a : Tm) : (Tm.snd a).tz = 0 := rfl
theorem Tm.tz_unit : (Tm.unit).tz = 0 := rfl
theorem Tm.trows_var (i : Nat) : (Tm.var i).trows = [] := rfl
theorem Tm.trows_lam (s : Ty) (a : Tm) : (Tm.lam s a).trows = s.arows := rfl
theorem Tm.trows_app (a : Tm) (b : Tm) : (Tm.app a b).trows = [] := rfl
theorem Tm.trows_zero : (Tm.zero).trows = [] := rfl
theorem Tm.trows_succ (a : Tm) : (Tm.succ a).trows = [] := rfl
theorem Tm.trows_recu (s : Ty) (a : Tm) (b : Tm) (c : Tm) : (Tm.recu s a b c).trows = s.arows := rfl
theorem Tm.trows_nil : (Tm.nil).trows = [] := rfl
theorem Tm.trows_cons (a : Tm) (b : Tm) : (Tm.cons a b).trows = [] := rfl
theorem Tm.trows_fold (s : Ty) (a : Tm) (b : Tm) (c : Tm) : (Tm.fold s a b c).trows = s.arows := rfl
theorem Tm.trows_pair (a : Tm) (b : Tm) : (Tm.pair a b).trows = [] := rfl
theorem Tm.trows_fst (a : Tm) : (Tm.fst a).trows = [] := rfl
theorem Tm.trows_snd (a : Tm) : (Tm.snd a).trows = [] := rfl
theorem Tm.trows_unit : (Tm.unit).trows = [] := rfl
theorem Tm.az_var (i : Nat) : (Tm.var i).az = 0 := rfl
theorem Tm.az_lam (s : Ty) (a : Tm) : (Tm.lam s a).az = 5 := rfl
theorem Tm.az_app (a : Tm) (b : Tm) : (Tm.app a b).az = 5 := rfl
theorem Tm.az_zero : (Tm.zero).az = 0 := rfl
theorem Tm.az_succ (a : Tm) : (Tm.succ a).az = 5 := rfl
theorem Tm.az_recu (s : Ty) (a : Tm) (b : Tm) (c : Tm) : (Tm.recu s a b c).az = 5 := rfl
theorem Tm.az_nil : (Tm.nil).az = 0 := rfl
theorem Tm.az_cons (a : Tm) (b : Tm) : (Tm.cons a b).az = 5 := rfl
theorem Tm.az_fold (s : Ty) (a : Tm) (b : Tm) (c : Tm) : (Tm.fold s a b c).az = 5 := rfl
theorem Tm.az_pair (a : Tm) (b : Tm) : (Tm.pair a b).az = 5 := rfl
theorem Tm.az_fst (a : Tm) : (Tm.fst a).az = 5 := rfl
theorem Tm.az_snd (a : Tm) : (Tm.snd a).az = 5 := rfl
theorem Tm.az_unit : (Tm.unit).az = 0 := rfl
theorem Tm.arows_var (i : Nat) : (Tm.var i).arows = [] := rfl
theorem Tm.arows_lam (s : Ty) (a : Tm) : (Tm.lam s a).arows = [[i64 a.kind, i64 a.idx, i64 a.tkind, .sl 0 a.tz a.trows, .sl 0 a.az a.arows]] := rfl
theorem Tm.arows_app (a : Tm) (b : Tm) : (Tm.app a b).arows = [[i64 a.kind, i64 a.idx, i64 a.tkind, .sl 0 a.tz a.trows, .sl 0 a.az a.arows], [i64 b.kind, i64 b.idx, i64 b.tkind, .sl 0 b.tz b.trows, .sl 0 b.az b.arows]] := rfl
theorem Tm.arows_zero : (Tm.zero).arows = [] := rfl
theorem Tm.arows_succ (a : Tm) : (Tm.succ a).arows = [[i64 a.kind, i64 a.idx, i64 a.tkind, .sl 0 a.tz a.trows, .sl 0 a.az a.arows]] := rfl
theorem Tm.arows_recu (s : Ty) (a : Tm) (b : Tm) (c : Tm) : (Tm.recu s a b c).arows = [[i64 a.kind, i64 a.idx, i64 a.tkind, .sl 0 a.tz a.trows, .sl 0 a.az a.arows], [i64 b.kind, i64 b.idx, i64 b.tkind, .sl 0 b.tz b.trows, .sl 0 b.az b.arows], [i64 c.kind, i64 c.idx, i64 c.tkind, .sl 0 c.tz c.trows, .sl 0 c.az c.arows]] := rfl
theorem Tm.arows_nil : (Tm.nil).arows = [] := rfl
theorem Tm.arows_cons (a : Tm) (b : Tm) : (Tm.cons a b).arows = [[i64 a.kind, i64 a.idx, i64 a.tkind, .sl 0 a.tz a.trows, .sl 0 a.az a.arows], [i64 b.kind, i64 b.idx, i64 b.tkind, .sl 0 b.tz b.trows, .sl 0 b.az b.arows]] := rfl
theorem Tm.arows_fold (s : Ty) (a : Tm) (b : Tm) (c : Tm) : (Tm.fold s a b c).arows = [[i64 a.kind, i64 a.idx, i64 a.tkind, .sl 0 a.tz a.trows, .sl 0 a.az a.arows], [i64 b.kind, i64 b.idx, i64 b.tkind, .sl 0 b.tz b.trows, .sl 0 b.az b.arows], [i64 c.kind, i64 c.idx, i64 c.tkind, .sl 0 c.tz c.trows, .sl 0 c.az c.arows]] := rfl
theorem Tm.arows_pair (a : Tm) (b : Tm) : (Tm.pair a b).arows = [[i64 a.kind, i64 a.idx, i64 a.tkind, .sl 0 a.tz a.trows, .sl 0 a.az a.arows], [i64 b.kind, i64 b.idx, i64 b.tkind, .sl 0 b.tz b.trows, .sl 0 b.az b.arows]] := rfl
theorem Tm.arows_fst (a : Tm) : (Tm.fst a).arows = [[i64 a.kind, i64 a.idx, i64 a.tkind, .sl 0 a.tz a.trows, .sl 0 a.az a.arows]] := rfl
theorem Tm.arows_snd (a : Tm) : (Tm.snd a).arows = [[i64 a.kind, i64 a.idx, i64 a.tkind, .sl 0 a.tz a.trows, .sl 0 a.az a.arows]] := rfl
theorem Tm.arows_unit : (Tm.unit).arows = [] := rfl
theorem Tm.size_var (i : Nat) : (Tm.var i).size = 1 := rfl
theorem Tm.size_lam (s : Ty) (a : Tm) : (Tm.lam s a).size = 1 + a.size := rfl
theorem Tm.size_app (a : Tm) (b : Tm) : (Tm.app a b).size = 1 + a.size + b.size := rfl
theorem Tm.size_zero : (Tm.zero).size = 1 := rfl
theorem Tm.size_succ (a : Tm) : (Tm.succ a).size = 1 + a.size := rfl
theorem Tm.size_recu (s : Ty) (a : Tm) (b : Tm) (c : Tm) : (Tm.recu s a b c).size = 1 + a.size + b.size + c.size := rfl
theorem Tm.size_nil : (Tm.nil).size = 1 := rfl
theorem Tm.size_cons (a : Tm) (b : Tm) : (Tm.cons a b).size = 1 + a.size + b.size := rfl
theorem Tm.size_fold (s : Ty) (a : Tm) (b : Tm) (c : Tm) : (Tm.fold s a b c).size = 1 + a.size + b.size + c.size := rfl
theorem Tm.size_pair (a : Tm) (b : Tm) : (Tm.pair a b).size = 1 + a.size + b.size := rfl
theorem Tm.size_fst (a : Tm) : (Tm.fst a).size = 1 + a.size := rfl
theorem Tm.size_snd (a : Tm) : (Tm.snd a).size = 1 + a.size := rfl
theorem Tm.size_unit : (Tm.unit).size = 1 := rfl
theorem tmAll : type_of% (And.intro @Tm.kind_var (And.intro @Tm.kind_lam (And.intro @Tm.kind_app (And.intro @Tm.kind_zero (And.intro @Tm.kind_succ (And.intro @Tm.kind_recu (And.intro @Tm.kind_nil (And.intro @Tm.kind_cons (And.intro @Tm.kind_fold (And.intro @Tm.kind_pair (And.intro @Tm.kind_fst (And.intro @Tm.kind_snd (And.intro @Tm.kind_unit (And.intro @Tm.idx_var (And.intro @Tm.idx_lam (And.intro @Tm.idx_app (And.intro @Tm.idx_zero (And.intro @Tm.idx_succ (And.intro @Tm.idx_recu (And.intro @Tm.idx_nil (And.intro @Tm.idx_cons (And.intro @Tm.idx_fold (And.intro @Tm.idx_pair (And.intro @Tm.idx_fst (And.intro @Tm.idx_snd (And.intro @Tm.idx_unit (And.intro @Tm.tkind_var (And.intro @Tm.tkind_lam (And.intro @Tm.tkind_app (And.intro @Tm.tkind_zero (And.intro @Tm.tkind_succ (And.intro @Tm.tkind_recu (And.intro @Tm.tkind_nil (And.intro @Tm.tkind_cons (And.intro @Tm.tkind_fold (And.intro @Tm.tkind_pair (And.intro @Tm.tkind_fst (And.intro @Tm.tkind_snd (And.intro @Tm.tkind_unit (And.intro @Tm.tz_var (And.intro @Tm.tz_lam (And.intro @Tm.tz_app (And.intro @Tm.tz_zero (And.intro @Tm.tz_succ (And.intro @Tm.tz_recu (And.intro @Tm.tz_nil (And.intro @Tm.tz_cons (And.intro @Tm.tz_fold (And.intro @Tm.tz_pair (And.intro @Tm.tz_fst (And.intro @Tm.tz_snd (And.intro @Tm.tz_unit (And.intro @Tm.trows_var (And.intro @Tm.trows_lam (And.intro @Tm.trows_app (And.intro @Tm.trows_zero (And.intro @Tm.trows_succ (And.intro @Tm.trows_recu (And.intro @Tm.trows_nil (And.intro @Tm.trows_cons (And.intro @Tm.trows_fold (And.intro @Tm.trows_pair (And.intro @Tm.trows_fst (And.intro @Tm.trows_snd (And.intro @Tm.trows_unit (And.intro @Tm.az_var (And.intro @Tm.az_lam (And.intro @Tm.az_app (And.intro @Tm.az_zero (And.intro @Tm.az_succ (And.intro @Tm.az_recu (And.intro @Tm.az_nil (And.intro @Tm.az_cons (And.intro @Tm.az_fold (And.intro @Tm.az_pair (And.intro @Tm.az_fst (And.intro @Tm.az_snd (And.intro @Tm.az_unit (And.intro @Tm.arows_var (And.intro @Tm.arows_lam (And.intro @Tm.arows_app (And.intro @Tm.arows_zero (And.intro @Tm.arows_succ (And.intro @Tm.arows_recu (And.intro @Tm.arows_nil (And.intro @Tm.arows_cons (And.intro @Tm.arows_fold (And.intro @Tm.arows_pair (And.intro @Tm.arows_fst (And.intro @Tm.arows_snd (@Tm.arows_unit))))))))))))))))))))))))))))))))))))))))))))))))))))))))))))))))))))))))))))))))))))))))))) := And.intro @Tm.kind_var (And.intro @Tm.kind_lam (And.intro @Tm.kind_app (And.intro @Tm.kind_zero (And.intro @Tm.kind_succ (And.intro @Tm.kind_recu (And.intro @Tm.kind_nil (And.intro @Tm.kind_cons (And.intro @Tm.kind_fold (And.intro @Tm.kind_pair (And.intro @Tm.kind_fst (And.intro @Tm.kind_snd (And.intro @Tm.kind_unit (And.intro @Tm.idx_var (And.intro @Tm.idx_lam (And.intro @Tm.idx_app (And.intro @Tm.idx_zero (And.intro @Tm.idx_succ (And.intro @Tm.idx_recu (And.intro @Tm.idx_nil (And.intro @Tm.idx_cons (And.intro @Tm.idx_fold (And.intro @Tm.idx_pair (And.intro @Tm.idx_fst (And.intro @Tm.idx_snd (And.intro @Tm.idx_unit (And.intro @Tm.tkind_var (And.intro @Tm.tkind_lam (And.intro @Tm.tkind_app (And.intro @Tm.tkind_zero (And.intro @Tm.tkind_succ (And.intro @Tm.tkind_recu (And.intro @Tm.tkind_nil (And.intro @Tm.tkind_cons (And.intro @Tm.tkind_fold (And.intro @Tm.tkind_pair (And.intro @Tm.tkind_fst (And.intro @Tm.tkind_snd (And.intro @Tm.tkind_unit (And.intro @Tm.tz_var (And.intro @Tm.tz_lam (And.intro @Tm.tz_app (And.intro @Tm.tz_zero (And.intro @Tm.tz_succ (And.intro @Tm.tz_recu (And.intro @Tm.tz_nil (And.intro @Tm.tz_cons (And.intro @Tm.tz_fold (And.intro @Tm.tz_pair (And.intro @Tm.tz_fst (And.intro @Tm.tz_snd (And.intro @Tm.tz_unit (And.intro @Tm.trows_var (And.intro @Tm.trows_lam (And.intro @Tm.trows_app (And.intro @Tm.trows_zero (And.intro @Tm.trows_succ (And.intro @Tm.trows_recu (And.intro @Tm.trows_nil (And.intro @Tm.trows_cons (And.intro @Tm.trows_fold (And.intro @Tm.trows_pair (And.intro @Tm.trows_fst (And.intro @Tm.trows_snd (And.intro @Tm.trows_unit (And.intro @Tm.az_var (And.intro @Tm.az_lam (And.intro @Tm.az_app (And.intro @Tm.az_zero (And.intro @Tm.az_succ (And.intro @Tm.az_recu (And.intro @Tm.az_nil (And.intro @Tm.az_cons (And.intro @Tm.az_fold (And.intro @Tm.az_pair (And.intro @Tm.az_fst (And.intro @Tm.az_snd (And.intro @Tm.az_unit (And.intro @Tm.arows_var (And.intro @Tm.arows_lam (And.intro @Tm.arows_app (And.intro @Tm.arows_zero (And.intro @Tm.arows_succ (And.intro @Tm.arows_recu (And.intro @Tm.arows_nil (And.intro @Tm.arows_cons (And.intro @Tm.arows_fold (And.intro @Tm.arows_pair (And.intro @Tm.arows_fst (And.intro @Tm.arows_snd (@Tm.arows_unit))))))))))))))))))))))))))))))))))))))))))))))))))))))))))))))))))))))))))))))))))))))))))
end Go.Pi.Terms

set_option maxRecDepth 100000
set_option maxHeartbeats 1000000
set_option linter.unusedSimpArgs false
set_option linter.unusedVariables false
namespace Go.Pi.Terms
open Go Go.Pi Go.Proofs.YthgocgebpoeolaaDoor
theorem copyNo (sh : Sh) : ∃ n, callN T G n 42 [.ag [i64 0, .sl 0 0 []]] sh = some (.ag [i64 0, .sl 0 0 []], sh) := by
  refine run_eq (run_of (pf := p42) rfl ?_)
  unfold p42
  simp only [R.loop_eq, wp0, wp1, wp2, wp3, wp4, wp5, Int.reduceAdd, Int.reduceEq, Int.reduceLE, Int.reduceLT, Int.reduceNeg, Int.reduceSub, Int.reduceToNat, Nat.reduceAdd, Nat.reduceDiv, Nat.reduceEqDiff, Nat.reduceLT, Nat.reduceLeDiff, Nat.reduceMod, Nat.reduceMul, Nat.reduceSub, eq_self, reduceIte, Ty.row, tyAll]
theorem copyTm (sh : Sh) : ∀ a : Tm, ∃ n, callN T G n 35 [.ag a.row] sh = some (.ag a.row, sh)
  | .var i => by
    have u0 := copyNo sh
    try simp only [Ty.row, Tm.row] at u0
    have u0' := clR.use u0
    refine run_eq (run_of (pf := p35) rfl ?_)
    unfold p35
    simp only [R.loop_eq, wp0, wp1, wp2, wp3, wp4, wp5, Int.reduceAdd, Int.reduceEq, Int.reduceLE, Int.reduceLT, Int.reduceNeg, Int.reduceSub, Int.reduceToNat, Nat.reduceAdd, Nat.reduceDiv, Nat.reduceEqDiff, Nat.reduceLT, Nat.reduceLeDiff, Nat.reduceMod, Nat.reduceMul, Nat.reduceSub, eq_self, reduceIte, Ty.row, tyAll, u0', Tm.row, tmAll]
  | .lam s a => by
    have u0 := copyTm sh a
    have u1 := copy50 sh s
    try simp only [Ty.row, Tm.row] at u0 u1
    have u0' := clR.use u0
    have u1' := clR.use u1
    refine run_eq (run_of (pf := p35) rfl ?_)
    unfold p35
    simp only [R.loop_eq, wp0, wp1, wp2, wp3, wp4, wp5, Int.reduceAdd, Int.reduceEq, Int.reduceLE, Int.reduceLT, Int.reduceNeg, Int.reduceSub, Int.reduceToNat, Nat.reduceAdd, Nat.reduceDiv, Nat.reduceEqDiff, Nat.reduceLT, Nat.reduceLeDiff, Nat.reduceMod, Nat.reduceMul, Nat.reduceSub, eq_self, reduceIte, Ty.row, tyAll, u0', u1', Tm.row, tmAll]
  | .app a b => by
    have u0 := copyTm sh a
    have u1 := copyTm sh b
    have u2 := copyNo sh
    try simp only [Ty.row, Tm.row] at u0 u1 u2
    have u0' := clR.use u0
    have u1' := clR.use u1
    have u2' := clR.use u2
    refine run_eq (run_of (pf := p35) rfl ?_)
    unfold p35
    simp only [R.loop_eq, wp0, wp1, wp2, wp3, wp4, wp5, Int.reduceAdd, Int.reduceEq, Int.reduceLE, Int.reduceLT, Int.reduceNeg, Int.reduceSub, Int.reduceToNat, Nat.reduceAdd, Nat.reduceDiv, Nat.reduceEqDiff, Nat.reduceLT, Nat.reduceLeDiff, Nat.reduceMod, Nat.reduceMul, Nat.reduceSub, eq_self, reduceIte, Ty.row, tyAll, u0', u1', u2', Tm.row, tmAll]
  | .zero => by
    have u0 := copyNo sh
    try simp only [Ty.row, Tm.row] at u0
    have u0' := clR.use u0
    refine run_eq (run_of (pf := p35) rfl ?_)
    unfold p35
    simp only [R.loop_eq, wp0, wp1, wp2, wp3, wp4, wp5, Int.reduceAdd, Int.reduceEq, Int.reduceLE, Int.reduceLT, Int.reduceNeg, Int.reduceSub, Int.reduceToNat, Nat.reduceAdd, Nat.reduceDiv, Nat.reduceEqDiff, Nat.reduceLT, Nat.reduceLeDiff, Nat.reduceMod, Nat.reduceMul, Nat.reduceSub, eq_self, reduceIte, Ty.row, tyAll, u0', Tm.row, tmAll]
  | .succ a => by
    have u0 := copyTm sh a
    have u1 := copyNo sh
    try simp only [Ty.row, Tm.row] at u0 u1
    have u0' := clR.use u0
    have u1' := clR.use u1
    refine run_eq (run_of (pf := p35) rfl ?_)
    unfold p35
    simp only [R.loop_eq, wp0, wp1, wp2, wp3, wp4, wp5, Int.reduceAdd, Int.reduceEq, Int.reduceLE, Int.reduceLT, Int.reduceNeg, Int.reduceSub, Int.reduceToNat, Nat.reduceAdd, Nat.reduceDiv, Nat.reduceEqDiff, Nat.reduceLT, Nat.reduceLeDiff, Nat.reduceMod, Nat.reduceMul, Nat.reduceSub, eq_self, reduceIte, Ty.row, tyAll, u0', u1', Tm.row, tmAll]
  | .recu s a b c => by
    have u0 := copyTm sh a
    have u1 := copyTm sh b
    have u2 := copyTm sh c
    have u3 := copy50 sh s
    try simp only [Ty.row, Tm.row] at u0 u1 u2 u3
    have u0' := clR.use u0
    have u1' := clR.use u1
    have u2' := clR.use u2
    have u3' := clR.use u3
    refine run_eq (run_of (pf := p35) rfl ?_)
    unfold p35
    simp only [R.loop_eq, wp0, wp1, wp2, wp3, wp4, wp5, Int.reduceAdd, Int.reduceEq, Int.reduceLE, Int.reduceLT, Int.reduceNeg, Int.reduceSub, Int.reduceToNat, Nat.reduceAdd, Nat.reduceDiv, Nat.reduceEqDiff, Nat.reduceLT, Nat.reduceLeDiff, Nat.reduceMod, Nat.reduceMul, Nat.reduceSub, eq_self, reduceIte, Ty.row, tyAll, u0', u1', u2', u3', Tm.row, tmAll]
  | .nil => by
    have u0 := copyNo sh
    try simp only [Ty.row, Tm.row] at u0
    have u0' := clR.use u0
    refine run_eq (run_of (pf := p35) rfl ?_)
    unfold p35
    simp only [R.loop_eq, wp0, wp1, wp2, wp3, wp4, wp5, Int.reduceAdd, Int.reduceEq, Int.reduceLE, Int.reduceLT, Int.reduceNeg, Int.reduceSub, Int.reduceToNat, Nat.reduceAdd, Nat.reduceDiv, Nat.reduceEqDiff, Nat.reduceLT, Nat.reduceLeDiff, Nat.reduceMod, Nat.reduceMul, Nat.reduceSub, eq_self, reduceIte, Ty.row, tyAll, u0', Tm.row, tmAll]
  | .cons a b => by
    have u0 := copyTm sh a
    have u1 := copyTm sh b
    have u2 := copyNo sh
    try simp only [Ty.row, Tm.row] at u0 u1 u2
    have u0' := clR.use u0
    have u1' := clR.use u1
    have u2' := clR.use u2
    refine run_eq (run_of (pf := p35) rfl ?_)
    unfold p35
    simp only [R.loop_eq, wp0, wp1, wp2, wp3, wp4, wp5, Int.reduceAdd, Int.reduceEq, Int.reduceLE, Int.reduceLT, Int.reduceNeg, Int.reduceSub, Int.reduceToNat, Nat.reduceAdd, Nat.reduceDiv, Nat.reduceEqDiff, Nat.reduceLT, Nat.reduceLeDiff, Nat.reduceMod, Nat.reduceMul, Nat.reduceSub, eq_self, reduceIte, Ty.row, tyAll, u0', u1', u2', Tm.row, tmAll]
  | .fold s a b c => by
    have u0 := copyTm sh a
    have u1 := copyTm sh b
    have u2 := copyTm sh c
    have u3 := copy50 sh s
    try simp only [Ty.row, Tm.row] at u0 u1 u2 u3
    have u0' := clR.use u0
    have u1' := clR.use u1
    have u2' := clR.use u2
    have u3' := clR.use u3
    refine run_eq (run_of (pf := p35) rfl ?_)
    unfold p35
    simp only [R.loop_eq, wp0, wp1, wp2, wp3, wp4, wp5, Int.reduceAdd, Int.reduceEq, Int.reduceLE, Int.reduceLT, Int.reduceNeg, Int.reduceSub, Int.reduceToNat, Nat.reduceAdd, Nat.reduceDiv, Nat.reduceEqDiff, Nat.reduceLT, Nat.reduceLeDiff, Nat.reduceMod, Nat.reduceMul, Nat.reduceSub, eq_self, reduceIte, Ty.row, tyAll, u0', u1', u2', u3', Tm.row, tmAll]
  | .pair a b => by
    have u0 := copyTm sh a
    have u1 := copyTm sh b
    have u2 := copyNo sh
    try simp only [Ty.row, Tm.row] at u0 u1 u2
    have u0' := clR.use u0
    have u1' := clR.use u1
    have u2' := clR.use u2
    refine run_eq (run_of (pf := p35) rfl ?_)
    unfold p35
    simp only [R.loop_eq, wp0, wp1, wp2, wp3, wp4, wp5, Int.reduceAdd, Int.reduceEq, Int.reduceLE, Int.reduceLT, Int.reduceNeg, Int.reduceSub, Int.reduceToNat, Nat.reduceAdd, Nat.reduceDiv, Nat.reduceEqDiff, Nat.reduceLT, Nat.reduceLeDiff, Nat.reduceMod, Nat.reduceMul, Nat.reduceSub, eq_self, reduceIte, Ty.row, tyAll, u0', u1', u2', Tm.row, tmAll]
  | .fst a => by
    have u0 := copyTm sh a
    have u1 := copyNo sh
    try simp only [Ty.row, Tm.row] at u0 u1
    have u0' := clR.use u0
    have u1' := clR.use u1
    refine run_eq (run_of (pf := p35) rfl ?_)
    unfold p35
    simp only [R.loop_eq, wp0, wp1, wp2, wp3, wp4, wp5, Int.reduceAdd, Int.reduceEq, Int.reduceLE, Int.reduceLT, Int.reduceNeg, Int.reduceSub, Int.reduceToNat, Nat.reduceAdd, Nat.reduceDiv, Nat.reduceEqDiff, Nat.reduceLT, Nat.reduceLeDiff, Nat.reduceMod, Nat.reduceMul, Nat.reduceSub, eq_self, reduceIte, Ty.row, tyAll, u0', u1', Tm.row, tmAll]
  | .snd a => by
    have u0 := copyTm sh a
    have u1 := copyNo sh
    try simp only [Ty.row, Tm.row] at u0 u1
    have u0' := clR.use u0
    have u1' := clR.use u1
    refine run_eq (run_of (pf := p35) rfl ?_)
    unfold p35
    simp only [R.loop_eq, wp0, wp1, wp2, wp3, wp4, wp5, Int.reduceAdd, Int.reduceEq, Int.reduceLE, Int.reduceLT, Int.reduceNeg, Int.reduceSub, Int.reduceToNat, Nat.reduceAdd, Nat.reduceDiv, Nat.reduceEqDiff, Nat.reduceLT, Nat.reduceLeDiff, Nat.reduceMod, Nat.reduceMul, Nat.reduceSub, eq_self, reduceIte, Ty.row, tyAll, u0', u1', Tm.row, tmAll]
  | .unit => by
    have u0 := copyNo sh
    try simp only [Ty.row, Tm.row] at u0
    have u0' := clR.use u0
    refine run_eq (run_of (pf := p35) rfl ?_)
    unfold p35
    simp only [R.loop_eq, wp0, wp1, wp2, wp3, wp4, wp5, Int.reduceAdd, Int.reduceEq, Int.reduceLE, Int.reduceLT, Int.reduceNeg, Int.reduceSub, Int.reduceToNat, Nat.reduceAdd, Nat.reduceDiv, Nat.reduceEqDiff, Nat.reduceLT, Nat.reduceLeDiff, Nat.reduceMod, Nat.reduceMul, Nat.reduceSub, eq_self, reduceIte, Ty.row, tyAll, u0', Tm.row, tmAll]
end Go.Pi.Terms
