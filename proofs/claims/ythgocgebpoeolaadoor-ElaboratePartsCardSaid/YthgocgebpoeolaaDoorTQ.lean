import Derived.Test.YthgocgebpoeolaaDoorTK
set_option maxRecDepth 100000
set_option maxHeartbeats 1000000
set_option linter.unusedSimpArgs false
set_option linter.unusedVariables false
namespace Go.Pi.Terms
open Go Go.Pi Go.Proofs.YthgocgebpoeolaaDoor
end Go.Pi.Terms

set_option maxRecDepth 100000
set_option maxHeartbeats 1000000
set_option linter.unusedSimpArgs false
set_option linter.unusedVariables false
namespace Go.Pi.Terms
open Go Go.Pi Go.Proofs.YthgocgebpoeolaaDoor
def z3 : List PV := [i64 0, .sl 0 0 [], i64 0]
end Go.Pi.Terms

set_option maxRecDepth 100000
set_option maxHeartbeats 1000000
set_option linter.unusedSimpArgs false
set_option linter.unusedVariables false
namespace Go.Pi.Terms
open Go Go.Pi Go.Proofs.YthgocgebpoeolaaDoor
/-- The types that a term names are small. -/
def Tm.ok : Tm → Prop
  | .var i => True
  | .lam s a => s.nodes ≤ 64 ∧ a.ok
  | .app a b => a.ok ∧ b.ok
  | .zero => True
  | .succ a => a.ok
  | .recu s a b c => s.nodes ≤ 64 ∧ a.ok ∧ b.ok ∧ c.ok
  | .nil => True
  | .cons a b => a.ok ∧ b.ok
  | .fold s a b c => s.nodes ≤ 64 ∧ a.ok ∧ b.ok ∧ c.ok
  | .pair a b => a.ok ∧ b.ok
  | .fst a => a.ok
  | .snd a => a.ok
  | .unit => True
theorem termNodes (sh : Sh) : ∀ t : Tm, t.ok → t.size ≤ 100000 → ∃ n, callN T G n 82 [.ag t.row] sh = some (.tup [i64 t.size, .v (.bool true)], sh) := by
  intro t
  induction t with
  | var i =>
    intro ho hs
    simp only [Tm.ok] at ho
    simp only [Tm.size] at hs
    by_cases hi : (i : Int) = 0
    · have u0 := arity sh 1 (by omega)
      have u1 := typedK sh 1 (by omega)
      have u2 := noType sh
      try simp only [Ty.row, tyAll, Tm.row, tmAll, Int.cast_ofNat_Int, arT, List.getD_cons_zero, List.getD_cons_succ, Int.reduceToNat, Int.reduceEq, or_true, true_or, or_false, false_or, decide_true, decide_false, Int.toNat_one, or_self] at u0 u1 u2
      have u0' := clR.use u0
      have u1' := clR.use u1
      have u2' := clR.use u2
      have e1 : ((i : Int) < 0) = False := by simp only [eq_iff_iff, iff_false]; omega
      refine run_eq (run_of (pf := p82) rfl ?_)
      unfold p82
      simp only [R.loop_eq, wp0, wp1, wp2, wp3, wp4, wp5, Int.reduceAdd, Int.reduceEq, Int.reduceLE, Int.reduceLT, Int.reduceNeg, Int.reduceSub, Int.reduceToNat, Nat.reduceAdd, Nat.reduceDiv, Nat.reduceEqDiff, Nat.reduceLT, Nat.reduceLeDiff, Nat.reduceMod, Nat.reduceMul, Nat.reduceSub, eq_self, reduceIte, Ty.row, tyAll, u0', u1', u2', Tm.row, tmAll, arT, Tm.size, Int.natCast_add, Int.toNat_one, e1, hi]
    · have u0 := arity sh 1 (by omega)
      have u1 := typedK sh 1 (by omega)
      have u2 := noType sh
      try simp only [Ty.row, tyAll, Tm.row, tmAll, Int.cast_ofNat_Int, arT, List.getD_cons_zero, List.getD_cons_succ, Int.reduceToNat, Int.reduceEq, or_true, true_or, or_false, false_or, decide_true, decide_false, Int.toNat_one, or_self] at u0 u1 u2
      have u0' := clR.use u0
      have u1' := clR.use u1
      have u2' := clR.use u2
      have e1 : ((i : Int) < 0) = False := by simp only [eq_iff_iff, iff_false]; omega
      refine run_eq (run_of (pf := p82) rfl ?_)
      unfold p82
      simp only [R.loop_eq, wp0, wp1, wp2, wp3, wp4, wp5, Int.reduceAdd, Int.reduceEq, Int.reduceLE, Int.reduceLT, Int.reduceNeg, Int.reduceSub, Int.reduceToNat, Nat.reduceAdd, Nat.reduceDiv, Nat.reduceEqDiff, Nat.reduceLT, Nat.reduceLeDiff, Nat.reduceMod, Nat.reduceMul, Nat.reduceSub, eq_self, reduceIte, Ty.row, tyAll, u0', u1', u2', Tm.row, tmAll, arT, Tm.size, Int.natCast_add, Int.toNat_one, e1, hi]
  | lam s a iha =>
    intro ho hs
    simp only [Tm.ok] at ho
    simp only [Tm.size] at hs
    have u0 := arity sh 2 (by omega)
    have u1 := typedK sh 2 (by omega)
    have u2 := checkType sh s ho.1
    have u3 := iha ho.2 (by omega)
    try simp only [Ty.row, tyAll, Tm.row, tmAll, Int.cast_ofNat_Int, arT, List.getD_cons_zero, List.getD_cons_succ, Int.reduceToNat, Int.reduceEq, or_true, true_or, or_false, false_or, decide_true, decide_false, Int.toNat_one, or_self] at u0 u1 u2 u3
    have u0' := clR.use u0
    have u1' := clR.use u1
    have u2' := clR.use u2
    have u3' := clR.use u3
    have w0 : IntKind.i64.wrap (1 + (a.size : Int)) = 1 + (a.size : Int) := wrap_i64 (by omega)
    refine run_eq (run_of (pf := p82) rfl ?_)
    unfold p82
    simp only [R.loop_eq, wp0, wp1, wp2, wp3, wp4, wp5, Int.reduceAdd, Int.reduceEq, Int.reduceLE, Int.reduceLT, Int.reduceNeg, Int.reduceSub, Int.reduceToNat, Nat.reduceAdd, Nat.reduceDiv, Nat.reduceEqDiff, Nat.reduceLT, Nat.reduceLeDiff, Nat.reduceMod, Nat.reduceMul, Nat.reduceSub, eq_self, reduceIte, Ty.row, tyAll, u0', u1', u2', u3', Tm.row, tmAll, w0, arT, Tm.size, Int.natCast_add, Int.toNat_one]
  | app a b iha ihb =>
    intro ho hs
    simp only [Tm.ok] at ho
    simp only [Tm.size] at hs
    have u0 := arity sh 3 (by omega)
    have u1 := typedK sh 3 (by omega)
    have u2 := noType sh
    have u3 := iha ho.1 (by omega)
    have u4 := ihb ho.2 (by omega)
    try simp only [Ty.row, tyAll, Tm.row, tmAll, Int.cast_ofNat_Int, arT, List.getD_cons_zero, List.getD_cons_succ, Int.reduceToNat, Int.reduceEq, or_true, true_or, or_false, false_or, decide_true, decide_false, Int.toNat_one, or_self] at u0 u1 u2 u3 u4
    have u0' := clR.use u0
    have u1' := clR.use u1
    have u2' := clR.use u2
    have u3' := clR.use u3
    have u4' := clR.use u4
    have w0 : IntKind.i64.wrap (1 + (a.size : Int)) = 1 + (a.size : Int) := wrap_i64 (by omega)
    have w1 : IntKind.i64.wrap (1 + (a.size : Int) + (b.size : Int)) = 1 + (a.size : Int) + (b.size : Int) := wrap_i64 (by omega)
    refine run_eq (run_of (pf := p82) rfl ?_)
    unfold p82
    simp only [R.loop_eq, wp0, wp1, wp2, wp3, wp4, wp5, Int.reduceAdd, Int.reduceEq, Int.reduceLE, Int.reduceLT, Int.reduceNeg, Int.reduceSub, Int.reduceToNat, Nat.reduceAdd, Nat.reduceDiv, Nat.reduceEqDiff, Nat.reduceLT, Nat.reduceLeDiff, Nat.reduceMod, Nat.reduceMul, Nat.reduceSub, eq_self, reduceIte, Ty.row, tyAll, u0', u1', u2', u3', u4', Tm.row, tmAll, w0, w1, arT, Tm.size, Int.natCast_add, Int.toNat_one]
  | zero =>
    intro ho hs
    simp only [Tm.ok] at ho
    simp only [Tm.size] at hs
    have u0 := arity sh 4 (by omega)
    have u1 := typedK sh 4 (by omega)
    have u2 := noType sh
    try simp only [Ty.row, tyAll, Tm.row, tmAll, Int.cast_ofNat_Int, arT, List.getD_cons_zero, List.getD_cons_succ, Int.reduceToNat, Int.reduceEq, or_true, true_or, or_false, false_or, decide_true, decide_false, Int.toNat_one, or_self] at u0 u1 u2
    have u0' := clR.use u0
    have u1' := clR.use u1
    have u2' := clR.use u2
    refine run_eq (run_of (pf := p82) rfl ?_)
    unfold p82
    simp only [R.loop_eq, wp0, wp1, wp2, wp3, wp4, wp5, Int.reduceAdd, Int.reduceEq, Int.reduceLE, Int.reduceLT, Int.reduceNeg, Int.reduceSub, Int.reduceToNat, Nat.reduceAdd, Nat.reduceDiv, Nat.reduceEqDiff, Nat.reduceLT, Nat.reduceLeDiff, Nat.reduceMod, Nat.reduceMul, Nat.reduceSub, eq_self, reduceIte, Ty.row, tyAll, u0', u1', u2', Tm.row, tmAll, arT, Tm.size, Int.natCast_add, Int.toNat_one]
  | succ a iha =>
    intro ho hs
    simp only [Tm.ok] at ho
    simp only [Tm.size] at hs
    have u0 := arity sh 5 (by omega)
    have u1 := typedK sh 5 (by omega)
    have u2 := noType sh
    have u3 := iha ho (by omega)
    try simp only [Ty.row, tyAll, Tm.row, tmAll, Int.cast_ofNat_Int, arT, List.getD_cons_zero, List.getD_cons_succ, Int.reduceToNat, Int.reduceEq, or_true, true_or, or_false, false_or, decide_true, decide_false, Int.toNat_one, or_self] at u0 u1 u2 u3
    have u0' := clR.use u0
    have u1' := clR.use u1
    have u2' := clR.use u2
    have u3' := clR.use u3
    have w0 : IntKind.i64.wrap (1 + (a.size : Int)) = 1 + (a.size : Int) := wrap_i64 (by omega)
    refine run_eq (run_of (pf := p82) rfl ?_)
    unfold p82
    simp only [R.loop_eq, wp0, wp1, wp2, wp3, wp4, wp5, Int.reduceAdd, Int.reduceEq, Int.reduceLE, Int.reduceLT, Int.reduceNeg, Int.reduceSub, Int.reduceToNat, Nat.reduceAdd, Nat.reduceDiv, Nat.reduceEqDiff, Nat.reduceLT, Nat.reduceLeDiff, Nat.reduceMod, Nat.reduceMul, Nat.reduceSub, eq_self, reduceIte, Ty.row, tyAll, u0', u1', u2', u3', Tm.row, tmAll, w0, arT, Tm.size, Int.natCast_add, Int.toNat_one]
  | recu s a b c iha ihb ihc =>
    intro ho hs
    simp only [Tm.ok] at ho
    simp only [Tm.size] at hs
    have u0 := arity sh 6 (by omega)
    have u1 := typedK sh 6 (by omega)
    have u2 := checkType sh s ho.1
    have u3 := iha ho.2.1 (by omega)
    have u4 := ihb ho.2.2.1 (by omega)
    have u5 := ihc ho.2.2.2 (by omega)
    try simp only [Ty.row, tyAll, Tm.row, tmAll, Int.cast_ofNat_Int, arT, List.getD_cons_zero, List.getD_cons_succ, Int.reduceToNat, Int.reduceEq, or_true, true_or, or_false, false_or, decide_true, decide_false, Int.toNat_one, or_self] at u0 u1 u2 u3 u4 u5
    have u0' := clR.use u0
    have u1' := clR.use u1
    have u2' := clR.use u2
    have u3' := clR.use u3
    have u4' := clR.use u4
    have u5' := clR.use u5
    have w0 : IntKind.i64.wrap (1 + (a.size : Int)) = 1 + (a.size : Int) := wrap_i64 (by omega)
    have w1 : IntKind.i64.wrap (1 + (a.size : Int) + (b.size : Int)) = 1 + (a.size : Int) + (b.size : Int) := wrap_i64 (by omega)
    have w2 : IntKind.i64.wrap (1 + (a.size : Int) + (b.size : Int) + (c.size : Int)) = 1 + (a.size : Int) + (b.size : Int) + (c.size : Int) := wrap_i64 (by omega)
    refine run_eq (run_of (pf := p82) rfl ?_)
    unfold p82
    simp only [R.loop_eq, wp0, wp1, wp2, wp3, wp4, wp5, Int.reduceAdd, Int.reduceEq, Int.reduceLE, Int.reduceLT, Int.reduceNeg, Int.reduceSub, Int.reduceToNat, Nat.reduceAdd, Nat.reduceDiv, Nat.reduceEqDiff, Nat.reduceLT, Nat.reduceLeDiff, Nat.reduceMod, Nat.reduceMul, Nat.reduceSub, eq_self, reduceIte, Ty.row, tyAll, u0', u1', u2', u3', u4', u5', Tm.row, tmAll, w0, w1, w2, arT, Tm.size, Int.natCast_add, Int.toNat_one]
  | nil =>
    intro ho hs
    simp only [Tm.ok] at ho
    simp only [Tm.size] at hs
    have u0 := arity sh 7 (by omega)
    have u1 := typedK sh 7 (by omega)
    have u2 := noType sh
    try simp only [Ty.row, tyAll, Tm.row, tmAll, Int.cast_ofNat_Int, arT, List.getD_cons_zero, List.getD_cons_succ, Int.reduceToNat, Int.reduceEq, or_true, true_or, or_false, false_or, decide_true, decide_false, Int.toNat_one, or_self] at u0 u1 u2
    have u0' := clR.use u0
    have u1' := clR.use u1
    have u2' := clR.use u2
    refine run_eq (run_of (pf := p82) rfl ?_)
    unfold p82
    simp only [R.loop_eq, wp0, wp1, wp2, wp3, wp4, wp5, Int.reduceAdd, Int.reduceEq, Int.reduceLE, Int.reduceLT, Int.reduceNeg, Int.reduceSub, Int.reduceToNat, Nat.reduceAdd, Nat.reduceDiv, Nat.reduceEqDiff, Nat.reduceLT, Nat.reduceLeDiff, Nat.reduceMod, Nat.reduceMul, Nat.reduceSub, eq_self, reduceIte, Ty.row, tyAll, u0', u1', u2', Tm.row, tmAll, arT, Tm.size, Int.natCast_add, Int.toNat_one]
  | cons a b iha ihb =>
    intro ho hs
    simp only [Tm.ok] at ho
    simp only [Tm.size] at hs
    have u0 := arity sh 8 (by omega)
    have u1 := typedK sh 8 (by omega)
    have u2 := noType sh
    have u3 := iha ho.1 (by omega)
    have u4 := ihb ho.2 (by omega)
    try simp only [Ty.row, tyAll, Tm.row, tmAll, Int.cast_ofNat_Int, arT, List.getD_cons_zero, List.getD_cons_succ, Int.reduceToNat, Int.reduceEq, or_true, true_or, or_false, false_or, decide_true, decide_false, Int.toNat_one, or_self] at u0 u1 u2 u3 u4
    have u0' := clR.use u0
    have u1' := clR.use u1
    have u2' := clR.use u2
    have u3' := clR.use u3
    have u4' := clR.use u4
    have w0 : IntKind.i64.wrap (1 + (a.size : Int)) = 1 + (a.size : Int) := wrap_i64 (by omega)
    have w1 : IntKind.i64.wrap (1 + (a.size : Int) + (b.size : Int)) = 1 + (a.size : Int) + (b.size : Int) := wrap_i64 (by omega)
    refine run_eq (run_of (pf := p82) rfl ?_)
    unfold p82
    simp only [R.loop_eq, wp0, wp1, wp2, wp3, wp4, wp5, Int.reduceAdd, Int.reduceEq, Int.reduceLE, Int.reduceLT, Int.reduceNeg, Int.reduceSub, Int.reduceToNat, Nat.reduceAdd, Nat.reduceDiv, Nat.reduceEqDiff, Nat.reduceLT, Nat.reduceLeDiff, Nat.reduceMod, Nat.reduceMul, Nat.reduceSub, eq_self, reduceIte, Ty.row, tyAll, u0', u1', u2', u3', u4', Tm.row, tmAll, w0, w1, arT, Tm.size, Int.natCast_add, Int.toNat_one]
  | fold s a b c iha ihb ihc =>
    intro ho hs
    simp only [Tm.ok] at ho
    simp only [Tm.size] at hs
    have u0 := arity sh 9 (by omega)
    have u1 := typedK sh 9 (by omega)
    have u2 := checkType sh s ho.1
    have u3 := iha ho.2.1 (by omega)
    have u4 := ihb ho.2.2.1 (by omega)
    have u5 := ihc ho.2.2.2 (by omega)
    try simp only [Ty.row, tyAll, Tm.row, tmAll, Int.cast_ofNat_Int, arT, List.getD_cons_zero, List.getD_cons_succ, Int.reduceToNat, Int.reduceEq, or_true, true_or, or_false, false_or, decide_true, decide_false, Int.toNat_one, or_self] at u0 u1 u2 u3 u4 u5
    have u0' := clR.use u0
    have u1' := clR.use u1
    have u2' := clR.use u2
    have u3' := clR.use u3
    have u4' := clR.use u4
    have u5' := clR.use u5
    have w0 : IntKind.i64.wrap (1 + (a.size : Int)) = 1 + (a.size : Int) := wrap_i64 (by omega)
    have w1 : IntKind.i64.wrap (1 + (a.size : Int) + (b.size : Int)) = 1 + (a.size : Int) + (b.size : Int) := wrap_i64 (by omega)
    have w2 : IntKind.i64.wrap (1 + (a.size : Int) + (b.size : Int) + (c.size : Int)) = 1 + (a.size : Int) + (b.size : Int) + (c.size : Int) := wrap_i64 (by omega)
    refine run_eq (run_of (pf := p82) rfl ?_)
    unfold p82
    simp only [R.loop_eq, wp0, wp1, wp2, wp3, wp4, wp5, Int.reduceAdd, Int.reduceEq, Int.reduceLE, Int.reduceLT, Int.reduceNeg, Int.reduceSub, Int.reduceToNat, Nat.reduceAdd, Nat.reduceDiv, Nat.reduceEqDiff, Nat.reduceLT, Nat.reduceLeDiff, Nat.reduceMod, Nat.reduceMul, Nat.reduceSub, eq_self, reduceIte, Ty.row, tyAll, u0', u1', u2', u3', u4', u5', Tm.row, tmAll, w0, w1, w2, arT, Tm.size, Int.natCast_add, Int.toNat_one]
  | pair a b iha ihb =>
    intro ho hs
    simp only [Tm.ok] at ho
    simp only [Tm.size] at hs
    have u0 := arity sh 10 (by omega)
    have u1 := typedK sh 10 (by omega)
    have u2 := noType sh
    have u3 := iha ho.1 (by omega)
    have u4 := ihb ho.2 (by omega)
    try simp only [Ty.row, tyAll, Tm.row, tmAll, Int.cast_ofNat_Int, arT, List.getD_cons_zero, List.getD_cons_succ, Int.reduceToNat, Int.reduceEq, or_true, true_or, or_false, false_or, decide_true, decide_false, Int.toNat_one, or_self] at u0 u1 u2 u3 u4
    have u0' := clR.use u0
    have u1' := clR.use u1
    have u2' := clR.use u2
    have u3' := clR.use u3
    have u4' := clR.use u4
    have w0 : IntKind.i64.wrap (1 + (a.size : Int)) = 1 + (a.size : Int) := wrap_i64 (by omega)
    have w1 : IntKind.i64.wrap (1 + (a.size : Int) + (b.size : Int)) = 1 + (a.size : Int) + (b.size : Int) := wrap_i64 (by omega)
    refine run_eq (run_of (pf := p82) rfl ?_)
    unfold p82
    simp only [R.loop_eq, wp0, wp1, wp2, wp3, wp4, wp5, Int.reduceAdd, Int.reduceEq, Int.reduceLE, Int.reduceLT, Int.reduceNeg, Int.reduceSub, Int.reduceToNat, Nat.reduceAdd, Nat.reduceDiv, Nat.reduceEqDiff, Nat.reduceLT, Nat.reduceLeDiff, Nat.reduceMod, Nat.reduceMul, Nat.reduceSub, eq_self, reduceIte, Ty.row, tyAll, u0', u1', u2', u3', u4', Tm.row, tmAll, w0, w1, arT, Tm.size, Int.natCast_add, Int.toNat_one]
  | fst a iha =>
    intro ho hs
    simp only [Tm.ok] at ho
    simp only [Tm.size] at hs
    have u0 := arity sh 11 (by omega)
    have u1 := typedK sh 11 (by omega)
    have u2 := noType sh
    have u3 := iha ho (by omega)
    try simp only [Ty.row, tyAll, Tm.row, tmAll, Int.cast_ofNat_Int, arT, List.getD_cons_zero, List.getD_cons_succ, Int.reduceToNat, Int.reduceEq, or_true, true_or, or_false, false_or, decide_true, decide_false, Int.toNat_one, or_self] at u0 u1 u2 u3
    have u0' := clR.use u0
    have u1' := clR.use u1
    have u2' := clR.use u2
    have u3' := clR.use u3
    have w0 : IntKind.i64.wrap (1 + (a.size : Int)) = 1 + (a.size : Int) := wrap_i64 (by omega)
    refine run_eq (run_of (pf := p82) rfl ?_)
    unfold p82
    simp only [R.loop_eq, wp0, wp1, wp2, wp3, wp4, wp5, Int.reduceAdd, Int.reduceEq, Int.reduceLE, Int.reduceLT, Int.reduceNeg, Int.reduceSub, Int.reduceToNat, Nat.reduceAdd, Nat.reduceDiv, Nat.reduceEqDiff, Nat.reduceLT, Nat.reduceLeDiff, Nat.reduceMod, Nat.reduceMul, Nat.reduceSub, eq_self, reduceIte, Ty.row, tyAll, u0', u1', u2', u3', Tm.row, tmAll, w0, arT, Tm.size, Int.natCast_add, Int.toNat_one]
  | snd a iha =>
    intro ho hs
    simp only [Tm.ok] at ho
    simp only [Tm.size] at hs
    have u0 := arity sh 12 (by omega)
    have u1 := typedK sh 12 (by omega)
    have u2 := noType sh
    have u3 := iha ho (by omega)
    try simp only [Ty.row, tyAll, Tm.row, tmAll, Int.cast_ofNat_Int, arT, List.getD_cons_zero, List.getD_cons_succ, Int.reduceToNat, Int.reduceEq, or_true, true_or, or_false, false_or, decide_true, decide_false, Int.toNat_one, or_self] at u0 u1 u2 u3
    have u0' := clR.use u0
    have u1' := clR.use u1
    have u2' := clR.use u2
    have u3' := clR.use u3
    have w0 : IntKind.i64.wrap (1 + (a.size : Int)) = 1 + (a.size : Int) := wrap_i64 (by omega)
    refine run_eq (run_of (pf := p82) rfl ?_)
    unfold p82
    simp only [R.loop_eq, wp0, wp1, wp2, wp3, wp4, wp5, Int.reduceAdd, Int.reduceEq, Int.reduceLE, Int.reduceLT, Int.reduceNeg, Int.reduceSub, Int.reduceToNat, Nat.reduceAdd, Nat.reduceDiv, Nat.reduceEqDiff, Nat.reduceLT, Nat.reduceLeDiff, Nat.reduceMod, Nat.reduceMul, Nat.reduceSub, eq_self, reduceIte, Ty.row, tyAll, u0', u1', u2', u3', Tm.row, tmAll, w0, arT, Tm.size, Int.natCast_add, Int.toNat_one]
  | unit =>
    intro ho hs
    simp only [Tm.ok] at ho
    simp only [Tm.size] at hs
    have u0 := arity sh 13 (by omega)
    have u1 := typedK sh 13 (by omega)
    have u2 := noType sh
    try simp only [Ty.row, tyAll, Tm.row, tmAll, Int.cast_ofNat_Int, arT, List.getD_cons_zero, List.getD_cons_succ, Int.reduceToNat, Int.reduceEq, or_true, true_or, or_false, false_or, decide_true, decide_false, Int.toNat_one, or_self] at u0 u1 u2
    have u0' := clR.use u0
    have u1' := clR.use u1
    have u2' := clR.use u2
    refine run_eq (run_of (pf := p82) rfl ?_)
    unfold p82
    simp only [R.loop_eq, wp0, wp1, wp2, wp3, wp4, wp5, Int.reduceAdd, Int.reduceEq, Int.reduceLE, Int.reduceLT, Int.reduceNeg, Int.reduceSub, Int.reduceToNat, Nat.reduceAdd, Nat.reduceDiv, Nat.reduceEqDiff, Nat.reduceLT, Nat.reduceLeDiff, Nat.reduceMod, Nat.reduceMul, Nat.reduceSub, eq_self, reduceIte, Ty.row, tyAll, u0', u1', u2', Tm.row, tmAll, arT, Tm.size, Int.natCast_add, Int.toNat_one]
theorem checkTerm (sh : Sh) (t : Tm) (ho : t.ok) (h : t.size ≤ 4096) : ∃ n, callN T G n 85 [.ag t.row] sh = some (.tup [i64 t.size, i64 0], sh) := by
  have u0 := termNodes sh t ho (by omega)
  try simp only [Ty.row, tyAll, Tm.row, tmAll, Int.cast_ofNat_Int, Ty.srow] at u0
  have u0' := clR.use u0
  have h1 : ¬ (4096 : Int) < (t.size : Int) := by omega
  refine run_eq (run_of (pf := p85) rfl ?_)
  unfold p85
  simp only [R.loop_eq, wp0, wp1, wp2, wp3, wp4, wp5, Int.reduceAdd, Int.reduceEq, Int.reduceLE, Int.reduceLT, Int.reduceNeg, Int.reduceSub, Int.reduceToNat, Nat.reduceAdd, Nat.reduceDiv, Nat.reduceEqDiff, Nat.reduceLT, Nat.reduceLeDiff, Nat.reduceMod, Nat.reduceMul, Nat.reduceSub, eq_self, reduceIte, Ty.row, tyAll, u0', Tm.row, tmAll, Ty.srow, h1]
theorem check27 (sh : Sh) (t : Tm) (ho : t.ok) (h : t.size ≤ 4096) : ∃ n, callN T G n 70 [.ag t.row] sh = some (i64 0, sh) := by
  have u0 := checkTerm sh t ho h
  try simp only [Ty.row, tyAll, Tm.row, tmAll, Int.cast_ofNat_Int, Ty.srow] at u0
  have u0' := clR.use u0
  refine run_eq (run_of (pf := p70) rfl ?_)
  unfold p70
  simp only [R.loop_eq, wp0, wp1, wp2, wp3, wp4, wp5, Int.reduceAdd, Int.reduceEq, Int.reduceLE, Int.reduceLT, Int.reduceNeg, Int.reduceSub, Int.reduceToNat, Nat.reduceAdd, Nat.reduceDiv, Nat.reduceEqDiff, Nat.reduceLT, Nat.reduceLeDiff, Nat.reduceMod, Nat.reduceMul, Nat.reduceSub, eq_self, reduceIte, Ty.row, tyAll, u0', Tm.row, tmAll, Ty.srow]
end Go.Pi.Terms

set_option maxRecDepth 100000
set_option maxHeartbeats 1000000
set_option linter.unusedSimpArgs false
set_option linter.unusedVariables false
namespace Go.Pi.Terms
open Go Go.Pi Go.Proofs.YthgocgebpoeolaaDoor
end Go.Pi.Terms

set_option maxRecDepth 100000
set_option maxHeartbeats 1000000
set_option linter.unusedSimpArgs false
set_option linter.unusedVariables false
namespace Go.Pi.Terms
open Go Go.Pi Go.Proofs.YthgocgebpoeolaaDoor
/-- A term has a type in a context; all types are small. -/
inductive HasTy : List Ty → Tm → Ty → Prop where
  | var {g : List Ty} {i : Nat} (h : i < g.length) : HasTy g (.var i) (g.getD (g.length - 1 - i) .nat)
  | lam {g : List Ty} {s t : Ty} {a : Tm} (h : HasTy (g ++ [s]) a t) (hn : (Ty.fn s t).nodes ≤ 64) : HasTy g (.lam s a) (.fn s t)
  | app {g : List Ty} {s t : Ty} {a b : Tm} (ha : HasTy g a (.fn s t)) (hb : HasTy g b s) (hn : (Ty.fn s t).nodes ≤ 64) : HasTy g (.app a b) t
  | zero {g : List Ty} : HasTy g .zero .nat
  | succ {g : List Ty} {a : Tm} (ha : HasTy g a .nat) : HasTy g (.succ a) .nat
  | recu {g : List Ty} {s : Ty} {a b c : Tm} (ha : HasTy g a s) (hb : HasTy g b (.fn .nat (.fn s s))) (hc : HasTy g c .nat) (hn : s.nodes ≤ 64) : HasTy g (.recu s a b c) s
  | nil {g : List Ty} : HasTy g .nil .list
  | cons {g : List Ty} {a b : Tm} (ha : HasTy g a .nat) (hb : HasTy g b .list) : HasTy g (.cons a b) .list
  | fold {g : List Ty} {s : Ty} {a b c : Tm} (ha : HasTy g a s) (hb : HasTy g b (.fn .nat (.fn .list (.fn s s)))) (hc : HasTy g c .list) (hn : s.nodes ≤ 64) : HasTy g (.fold s a b c) s
  | pair {g : List Ty} {s t : Ty} {a b : Tm} (ha : HasTy g a s) (hb : HasTy g b t) (hn : (Ty.pair s t).nodes ≤ 64) : HasTy g (.pair a b) (.pair s t)
  | fst {g : List Ty} {s t : Ty} {a : Tm} (ha : HasTy g a (.pair s t)) (hn : (Ty.pair s t).nodes ≤ 64) : HasTy g (.fst a) s
  | snd {g : List Ty} {s t : Ty} {a : Tm} (ha : HasTy g a (.pair s t)) (hn : (Ty.pair s t).nodes ≤ 64) : HasTy g (.snd a) t
  | unit {g : List Ty} : HasTy g .unit .unit

theorem HasTy.ok {g : List Ty} {x : Tm} {t : Ty} (h : HasTy g x t) : x.ok := by
  induction h with
  | lam h hn ih => simp only [Ty.nodes] at hn; exact ⟨by omega, ih⟩
  | app ha hb hn iha ihb => exact ⟨iha, ihb⟩
  | succ ha iha => exact iha
  | recu ha hb hc hn iha ihb ihc => exact ⟨hn, iha, ihb, ihc⟩
  | cons ha hb iha ihb => exact ⟨iha, ihb⟩
  | fold ha hb hc hn iha ihb ihc => exact ⟨hn, iha, ihb, ihc⟩
  | pair ha hb hn iha ihb => exact ⟨iha, ihb⟩
  | fst ha hn iha => exact iha
  | snd ha hn iha => exact iha
  | _ => trivial

theorem getD_srow (g : List Ty) {i : Nat} (h : i < g.length) : (g.map Ty.srow).getD i [] = (g.getD i .nat).srow := by
  simp [List.getD_eq_getElem?_getD, h]

theorem srow_eq (t : Ty) : t.srow = [i64 t.kind, .sl 0 t.asz t.arows, i64 (t.nodes : Int)] := rfl

end Go.Pi.Terms

set_option maxRecDepth 100000
set_option maxHeartbeats 1000000
set_option linter.unusedSimpArgs false
set_option linter.unusedVariables false
namespace Go.Pi.Terms
open Go Go.Pi Go.Proofs.YthgocgebpoeolaaDoor
end Go.Pi.Terms
