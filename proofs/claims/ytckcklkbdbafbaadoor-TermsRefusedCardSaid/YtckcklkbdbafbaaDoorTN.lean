import Derived.Test.YtckcklkbdbafbaaDoorTM
set_option maxRecDepth 100000
set_option maxHeartbeats 1000000
set_option linter.unusedSimpArgs false
set_option linter.unusedVariables false
namespace Go.Pi.Terms
open Go Go.Pi Go.Proofs.YtckcklkbdbafbaaDoor
/-- The types that a term names are small. -/
def Tm.ok : Tm → Prop
  | .var i => True
  | .lam s a => s.nodes ≤ 64 ∧ a.ok
  | .app a b => a.ok ∧ b.ok
  | .zero => True
  | .succ a => a.ok
  | .recu s a b c => s.nodes ≤ 64 ∧ a.ok ∧ b.ok ∧ c.ok
  | .nil => True
  | .cons a b => a.ok ∧ b.ok
  | .fold s a b c => s.nodes ≤ 64 ∧ a.ok ∧ b.ok ∧ c.ok
  | .pair a b => a.ok ∧ b.ok
  | .fst a => a.ok
  | .snd a => a.ok
  | .unit => True
theorem termNodes (sh : Sh) : ∀ t : Tm, t.ok → t.size ≤ 100000 → ∃ n, callN T G n 74 [.ag t.row] sh = some (.tup [i64 t.size, .v (.bool true)], sh) := by
  intro t
  induction t with
  | var i =>
    intro ho hs
    simp only [Tm.ok] at ho
    simp only [Tm.size] at hs
    by_cases hi : (i : Int) = 0
    · have u0 := arity sh 1 (by omega)
      have u1 := typedK sh 1 (by omega)
      have u2 := noType sh
      try simp only [Ty.row, tyAll, Tm.row, tmAll, Int.cast_ofNat_Int, arT, List.getD_cons_zero, List.getD_cons_succ, Int.reduceToNat, Int.reduceEq, or_true, true_or, or_false, false_or, decide_true, decide_false, Int.toNat_one, or_self] at u0 u1 u2
      have u0' := clR.use u0
      have u1' := clR.use u1
      have u2' := clR.use u2
      have e1 : ((i : Int) < 0) = False := by simp only [eq_iff_iff, iff_false]; omega
      refine run_eq (run_of (pf := p74) rfl ?_)
      unfold p74
      simp only [R.loop_eq, wp0, wp1, wp2, wp3, wp4, PV.cellsT, appMax, dropSh, fillB, fillS, putD, splice, src, startSt, Int.reduceAdd, Int.reduceEq, Int.reduceLE, Int.reduceLT, Int.reduceNeg, Int.reduceSub, Int.reduceToNat, Nat.reduceAdd, Nat.reduceEqDiff, Nat.reduceLT, Nat.reduceLeDiff, Nat.reduceMul, Nat.reduceSub, if_false, if_true, ite_false, ite_true, reduceIte, Ty.row, tyAll, u0', u1', u2', Tm.row, tmAll, arT, Tm.size, Int.natCast_add, Int.toNat_one, e1, hi]
    · have u0 := arity sh 1 (by omega)
      have u1 := typedK sh 1 (by omega)
      have u2 := noType sh
      try simp only [Ty.row, tyAll, Tm.row, tmAll, Int.cast_ofNat_Int, arT, List.getD_cons_zero, List.getD_cons_succ, Int.reduceToNat, Int.reduceEq, or_true, true_or, or_false, false_or, decide_true, decide_false, Int.toNat_one, or_self] at u0 u1 u2
      have u0' := clR.use u0
      have u1' := clR.use u1
      have u2' := clR.use u2
      have e1 : ((i : Int) < 0) = False := by simp only [eq_iff_iff, iff_false]; omega
      refine run_eq (run_of (pf := p74) rfl ?_)
      unfold p74
      simp only [R.loop_eq, wp0, wp1, wp2, wp3, wp4, PV.cellsT, appMax, dropSh, fillB, fillS, putD, splice, src, startSt, Int.reduceAdd, Int.reduceEq, Int.reduceLE, Int.reduceLT, Int.reduceNeg, Int.reduceSub, Int.reduceToNat, Nat.reduceAdd, Nat.reduceEqDiff, Nat.reduceLT, Nat.reduceLeDiff, Nat.reduceMul, Nat.reduceSub, if_false, if_true, ite_false, ite_true, reduceIte, Ty.row, tyAll, u0', u1', u2', Tm.row, tmAll, arT, Tm.size, Int.natCast_add, Int.toNat_one, e1, hi]
  | lam s a iha =>
    intro ho hs
    simp only [Tm.ok] at ho
    simp only [Tm.size] at hs
    have u0 := arity sh 2 (by omega)
    have u1 := typedK sh 2 (by omega)
    have u2 := checkType sh s ho.1
    have u3 := iha ho.2 (by omega)
    try simp only [Ty.row, tyAll, Tm.row, tmAll, Int.cast_ofNat_Int, arT, List.getD_cons_zero, List.getD_cons_succ, Int.reduceToNat, Int.reduceEq, or_true, true_or, or_false, false_or, decide_true, decide_false, Int.toNat_one, or_self] at u0 u1 u2 u3
    have u0' := clR.use u0
    have u1' := clR.use u1
    have u2' := clR.use u2
    have u3' := clR.use u3
    have w0 : IntKind.i64.wrap (1 + (a.size : Int)) = 1 + (a.size : Int) := wrap_i64 (by omega)
    refine run_eq (run_of (pf := p74) rfl ?_)
    unfold p74
    simp only [R.loop_eq, wp0, wp1, wp2, wp3, wp4, PV.cellsT, appMax, dropSh, fillB, fillS, putD, splice, src, startSt, Int.reduceAdd, Int.reduceEq, Int.reduceLE, Int.reduceLT, Int.reduceNeg, Int.reduceSub, Int.reduceToNat, Nat.reduceAdd, Nat.reduceEqDiff, Nat.reduceLT, Nat.reduceLeDiff, Nat.reduceMul, Nat.reduceSub, if_false, if_true, ite_false, ite_true, reduceIte, Ty.row, tyAll, u0', u1', u2', u3', Tm.row, tmAll, w0, arT, Tm.size, Int.natCast_add, Int.toNat_one]
  | app a b iha ihb =>
    intro ho hs
    simp only [Tm.ok] at ho
    simp only [Tm.size] at hs
    have u0 := arity sh 3 (by omega)
    have u1 := typedK sh 3 (by omega)
    have u2 := noType sh
    have u3 := iha ho.1 (by omega)
    have u4 := ihb ho.2 (by omega)
    try simp only [Ty.row, tyAll, Tm.row, tmAll, Int.cast_ofNat_Int, arT, List.getD_cons_zero, List.getD_cons_succ, Int.reduceToNat, Int.reduceEq, or_true, true_or, or_false, false_or, decide_true, decide_false, Int.toNat_one, or_self] at u0 u1 u2 u3 u4
    have u0' := clR.use u0
    have u1' := clR.use u1
    have u2' := clR.use u2
    have u3' := clR.use u3
    have u4' := clR.use u4
    have w0 : IntKind.i64.wrap (1 + (a.size : Int)) = 1 + (a.size : Int) := wrap_i64 (by omega)
    have w1 : IntKind.i64.wrap (1 + (a.size : Int) + (b.size : Int)) = 1 + (a.size : Int) + (b.size : Int) := wrap_i64 (by omega)
    refine run_eq (run_of (pf := p74) rfl ?_)
    unfold p74
    simp only [R.loop_eq, wp0, wp1, wp2, wp3, wp4, PV.cellsT, appMax, dropSh, fillB, fillS, putD, splice, src, startSt, Int.reduceAdd, Int.reduceEq, Int.reduceLE, Int.reduceLT, Int.reduceNeg, Int.reduceSub, Int.reduceToNat, Nat.reduceAdd, Nat.reduceEqDiff, Nat.reduceLT, Nat.reduceLeDiff, Nat.reduceMul, Nat.reduceSub, if_false, if_true, ite_false, ite_true, reduceIte, Ty.row, tyAll, u0', u1', u2', u3', u4', Tm.row, tmAll, w0, w1, arT, Tm.size, Int.natCast_add, Int.toNat_one]
  | zero =>
    intro ho hs
    simp only [Tm.ok] at ho
    simp only [Tm.size] at hs
    have u0 := arity sh 4 (by omega)
    have u1 := typedK sh 4 (by omega)
    have u2 := noType sh
    try simp only [Ty.row, tyAll, Tm.row, tmAll, Int.cast_ofNat_Int, arT, List.getD_cons_zero, List.getD_cons_succ, Int.reduceToNat, Int.reduceEq, or_true, true_or, or_false, false_or, decide_true, decide_false, Int.toNat_one, or_self] at u0 u1 u2
    have u0' := clR.use u0
    have u1' := clR.use u1
    have u2' := clR.use u2
    refine run_eq (run_of (pf := p74) rfl ?_)
    unfold p74
    simp only [R.loop_eq, wp0, wp1, wp2, wp3, wp4, PV.cellsT, appMax, dropSh, fillB, fillS, putD, splice, src, startSt, Int.reduceAdd, Int.reduceEq, Int.reduceLE, Int.reduceLT, Int.reduceNeg, Int.reduceSub, Int.reduceToNat, Nat.reduceAdd, Nat.reduceEqDiff, Nat.reduceLT, Nat.reduceLeDiff, Nat.reduceMul, Nat.reduceSub, if_false, if_true, ite_false, ite_true, reduceIte, Ty.row, tyAll, u0', u1', u2', Tm.row, tmAll, arT, Tm.size, Int.natCast_add, Int.toNat_one]
  | succ a iha =>
    intro ho hs
    simp only [Tm.ok] at ho
    simp only [Tm.size] at hs
    have u0 := arity sh 5 (by omega)
    have u1 := typedK sh 5 (by omega)
    have u2 := noType sh
    have u3 := iha ho (by omega)
    try simp only [Ty.row, tyAll, Tm.row, tmAll, Int.cast_ofNat_Int, arT, List.getD_cons_zero, List.getD_cons_succ, Int.reduceToNat, Int.reduceEq, or_true, true_or, or_false, false_or, decide_true, decide_false, Int.toNat_one, or_self] at u0 u1 u2 u3
    have u0' := clR.use u0
    have u1' := clR.use u1
    have u2' := clR.use u2
    have u3' := clR.use u3
    have w0 : IntKind.i64.wrap (1 + (a.size : Int)) = 1 + (a.size : Int) := wrap_i64 (by omega)
    refine run_eq (run_of (pf := p74) rfl ?_)
    unfold p74
    simp only [R.loop_eq, wp0, wp1, wp2, wp3, wp4, PV.cellsT, appMax, dropSh, fillB, fillS, putD, splice, src, startSt, Int.reduceAdd, Int.reduceEq, Int.reduceLE, Int.reduceLT, Int.reduceNeg, Int.reduceSub, Int.reduceToNat, Nat.reduceAdd, Nat.reduceEqDiff, Nat.reduceLT, Nat.reduceLeDiff, Nat.reduceMul, Nat.reduceSub, if_false, if_true, ite_false, ite_true, reduceIte, Ty.row, tyAll, u0', u1', u2', u3', Tm.row, tmAll, w0, arT, Tm.size, Int.natCast_add, Int.toNat_one]
  | recu s a b c iha ihb ihc =>
    intro ho hs
    simp only [Tm.ok] at ho
    simp only [Tm.size] at hs
    have u0 := arity sh 6 (by omega)
    have u1 := typedK sh 6 (by omega)
    have u2 := checkType sh s ho.1
    have u3 := iha ho.2.1 (by omega)
    have u4 := ihb ho.2.2.1 (by omega)
    have u5 := ihc ho.2.2.2 (by omega)
    try simp only [Ty.row, tyAll, Tm.row, tmAll, Int.cast_ofNat_Int, arT, List.getD_cons_zero, List.getD_cons_succ, Int.reduceToNat, Int.reduceEq, or_true, true_or, or_false, false_or, decide_true, decide_false, Int.toNat_one, or_self] at u0 u1 u2 u3 u4 u5
    have u0' := clR.use u0
    have u1' := clR.use u1
    have u2' := clR.use u2
    have u3' := clR.use u3
    have u4' := clR.use u4
    have u5' := clR.use u5
    have w0 : IntKind.i64.wrap (1 + (a.size : Int)) = 1 + (a.size : Int) := wrap_i64 (by omega)
    have w1 : IntKind.i64.wrap (1 + (a.size : Int) + (b.size : Int)) = 1 + (a.size : Int) + (b.size : Int) := wrap_i64 (by omega)
    have w2 : IntKind.i64.wrap (1 + (a.size : Int) + (b.size : Int) + (c.size : Int)) = 1 + (a.size : Int) + (b.size : Int) + (c.size : Int) := wrap_i64 (by omega)
    refine run_eq (run_of (pf := p74) rfl ?_)
    unfold p74
    simp only [R.loop_eq, wp0, wp1, wp2, wp3, wp4, PV.cellsT, appMax, dropSh, fillB, fillS, putD, splice, src, startSt, Int.reduceAdd, Int.reduceEq, Int.reduceLE, Int.reduceLT, Int.reduceNeg, Int.reduceSub, Int.reduceToNat, Nat.reduceAdd, Nat.reduceEqDiff, Nat.reduceLT, Nat.reduceLeDiff, Nat.reduceMul, Nat.reduceSub, if_false, if_true, ite_false, ite_true, reduceIte, Ty.row, tyAll, u0', u1', u2', u3', u4', u5', Tm.row, tmAll, w0, w1, w2, arT, Tm.size, Int.natCast_add, Int.toNat_one]
  | nil =>
    intro ho hs
    simp only [Tm.ok] at ho
    simp only [Tm.size] at hs
    have u0 := arity sh 7 (by omega)
    have u1 := typedK sh 7 (by omega)
    have u2 := noType sh
    try simp only [Ty.row, tyAll, Tm.row, tmAll, Int.cast_ofNat_Int, arT, List.getD_cons_zero, List.getD_cons_succ, Int.reduceToNat, Int.reduceEq, or_true, true_or, or_false, false_or, decide_true, decide_false, Int.toNat_one, or_self] at u0 u1 u2
    have u0' := clR.use u0
    have u1' := clR.use u1
    have u2' := clR.use u2
    refine run_eq (run_of (pf := p74) rfl ?_)
    unfold p74
    simp only [R.loop_eq, wp0, wp1, wp2, wp3, wp4, PV.cellsT, appMax, dropSh, fillB, fillS, putD, splice, src, startSt, Int.reduceAdd, Int.reduceEq, Int.reduceLE, Int.reduceLT, Int.reduceNeg, Int.reduceSub, Int.reduceToNat, Nat.reduceAdd, Nat.reduceEqDiff, Nat.reduceLT, Nat.reduceLeDiff, Nat.reduceMul, Nat.reduceSub, if_false, if_true, ite_false, ite_true, reduceIte, Ty.row, tyAll, u0', u1', u2', Tm.row, tmAll, arT, Tm.size, Int.natCast_add, Int.toNat_one]
  | cons a b iha ihb =>
    intro ho hs
    simp only [Tm.ok] at ho
    simp only [Tm.size] at hs
    have u0 := arity sh 8 (by omega)
    have u1 := typedK sh 8 (by omega)
    have u2 := noType sh
    have u3 := iha ho.1 (by omega)
    have u4 := ihb ho.2 (by omega)
    try simp only [Ty.row, tyAll, Tm.row, tmAll, Int.cast_ofNat_Int, arT, List.getD_cons_zero, List.getD_cons_succ, Int.reduceToNat, Int.reduceEq, or_true, true_or, or_false, false_or, decide_true, decide_false, Int.toNat_one, or_self] at u0 u1 u2 u3 u4
    have u0' := clR.use u0
    have u1' := clR.use u1
    have u2' := clR.use u2
    have u3' := clR.use u3
    have u4' := clR.use u4
    have w0 : IntKind.i64.wrap (1 + (a.size : Int)) = 1 + (a.size : Int) := wrap_i64 (by omega)
    have w1 : IntKind.i64.wrap (1 + (a.size : Int) + (b.size : Int)) = 1 + (a.size : Int) + (b.size : Int) := wrap_i64 (by omega)
    refine run_eq (run_of (pf := p74) rfl ?_)
    unfold p74
    simp only [R.loop_eq, wp0, wp1, wp2, wp3, wp4, PV.cellsT, appMax, dropSh, fillB, fillS, putD, splice, src, startSt, Int.reduceAdd, Int.reduceEq, Int.reduceLE, Int.reduceLT, Int.reduceNeg, Int.reduceSub, Int.reduceToNat, Nat.reduceAdd, Nat.reduceEqDiff, Nat.reduceLT, Nat.reduceLeDiff, Nat.reduceMul, Nat.reduceSub, if_false, if_true, ite_false, ite_true, reduceIte, Ty.row, tyAll, u0', u1', u2', u3', u4', Tm.row, tmAll, w0, w1, arT, Tm.size, Int.natCast_add, Int.toNat_one]
  | fold s a b c iha ihb ihc =>
    intro ho hs
    simp only [Tm.ok] at ho
    simp only [Tm.size] at hs
    have u0 := arity sh 9 (by omega)
    have u1 := typedK sh 9 (by omega)
    have u2 := checkType sh s ho.1
    have u3 := iha ho.2.1 (by omega)
    have u4 := ihb ho.2.2.1 (by omega)
    have u5 := ihc ho.2.2.2 (by omega)
    try simp only [Ty.row, tyAll, Tm.row, tmAll, Int.cast_ofNat_Int, arT, List.getD_cons_zero, List.getD_cons_succ, Int.reduceToNat, Int.reduceEq, or_true, true_or, or_false, false_or, decide_true, decide_false, Int.toNat_one, or_self] at u0 u1 u2 u3 u4 u5
    have u0' := clR.use u0
    have u1' := clR.use u1
    have u2' := clR.use u2
    have u3' := clR.use u3
    have u4' := clR.use u4
    have u5' := clR.use u5
    have w0 : IntKind.i64.wrap (1 + (a.size : Int)) = 1 + (a.size : Int) := wrap_i64 (by omega)
    have w1 : IntKind.i64.wrap (1 + (a.size : Int) + (b.size : Int)) = 1 + (a.size : Int) + (b.size : Int) := wrap_i64 (by omega)
    have w2 : IntKind.i64.wrap (1 + (a.size : Int) + (b.size : Int) + (c.size : Int)) = 1 + (a.size : Int) + (b.size : Int) + (c.size : Int) := wrap_i64 (by omega)
    refine run_eq (run_of (pf := p74) rfl ?_)
    unfold p74
    simp only [R.loop_eq, wp0, wp1, wp2, wp3, wp4, PV.cellsT, appMax, dropSh, fillB, fillS, putD, splice, src, startSt, Int.reduceAdd, Int.reduceEq, Int.reduceLE, Int.reduceLT, Int.reduceNeg, Int.reduceSub, Int.reduceToNat, Nat.reduceAdd, Nat.reduceEqDiff, Nat.reduceLT, Nat.reduceLeDiff, Nat.reduceMul, Nat.reduceSub, if_false, if_true, ite_false, ite_true, reduceIte, Ty.row, tyAll, u0', u1', u2', u3', u4', u5', Tm.row, tmAll, w0, w1, w2, arT, Tm.size, Int.natCast_add, Int.toNat_one]
  | pair a b iha ihb =>
    intro ho hs
    simp only [Tm.ok] at ho
    simp only [Tm.size] at hs
    have u0 := arity sh 10 (by omega)
    have u1 := typedK sh 10 (by omega)
    have u2 := noType sh
    have u3 := iha ho.1 (by omega)
    have u4 := ihb ho.2 (by omega)
    try simp only [Ty.row, tyAll, Tm.row, tmAll, Int.cast_ofNat_Int, arT, List.getD_cons_zero, List.getD_cons_succ, Int.reduceToNat, Int.reduceEq, or_true, true_or, or_false, false_or, decide_true, decide_false, Int.toNat_one, or_self] at u0 u1 u2 u3 u4
    have u0' := clR.use u0
    have u1' := clR.use u1
    have u2' := clR.use u2
    have u3' := clR.use u3
    have u4' := clR.use u4
    have w0 : IntKind.i64.wrap (1 + (a.size : Int)) = 1 + (a.size : Int) := wrap_i64 (by omega)
    have w1 : IntKind.i64.wrap (1 + (a.size : Int) + (b.size : Int)) = 1 + (a.size : Int) + (b.size : Int) := wrap_i64 (by omega)
    refine run_eq (run_of (pf := p74) rfl ?_)
    unfold p74
    simp only [R.loop_eq, wp0, wp1, wp2, wp3, wp4, PV.cellsT, appMax, dropSh, fillB, fillS, putD, splice, src, startSt, Int.reduceAdd, Int.reduceEq, Int.reduceLE, Int.reduceLT, Int.reduceNeg, Int.reduceSub, Int.reduceToNat, Nat.reduceAdd, Nat.reduceEqDiff, Nat.reduceLT, Nat.reduceLeDiff, Nat.reduceMul, Nat.reduceSub, if_false, if_true, ite_false, ite_true, reduceIte, Ty.row, tyAll, u0', u1', u2', u3', u4', Tm.row, tmAll, w0, w1, arT, Tm.size, Int.natCast_add, Int.toNat_one]
  | fst a iha =>
    intro ho hs
    simp only [Tm.ok] at ho
    simp only [Tm.size] at hs
    have u0 := arity sh 11 (by omega)
    have u1 := typedK sh 11 (by omega)
    have u2 := noType sh
    have u3 := iha ho (by omega)
    try simp only [Ty.row, tyAll, Tm.row, tmAll, Int.cast_ofNat_Int, arT, List.getD_cons_zero, List.getD_cons_succ, Int.reduceToNat, Int.reduceEq, or_true, true_or, or_false, false_or, decide_true, decide_false, Int.toNat_one, or_self] at u0 u1 u2 u3
    have u0' := clR.use u0
    have u1' := clR.use u1
    have u2' := clR.use u2
    have u3' := clR.use u3
    have w0 : IntKind.i64.wrap (1 + (a.size : Int)) = 1 + (a.size : Int) := wrap_i64 (by omega)
    refine run_eq (run_of (pf := p74) rfl ?_)
    unfold p74
    simp only [R.loop_eq, wp0, wp1, wp2, wp3, wp4, PV.cellsT, appMax, dropSh, fillB, fillS, putD, splice, src, startSt, Int.reduceAdd, Int.reduceEq, Int.reduceLE, Int.reduceLT, Int.reduceNeg, Int.reduceSub, Int.reduceToNat, Nat.reduceAdd, Nat.reduceEqDiff, Nat.reduceLT, Nat.reduceLeDiff, Nat.reduceMul, Nat.reduceSub, if_false, if_true, ite_false, ite_true, reduceIte, Ty.row, tyAll, u0', u1', u2', u3', Tm.row, tmAll, w0, arT, Tm.size, Int.natCast_add, Int.toNat_one]
  | snd a iha =>
    intro ho hs
    simp only [Tm.ok] at ho
    simp only [Tm.size] at hs
    have u0 := arity sh 12 (by omega)
    have u1 := typedK sh 12 (by omega)
    have u2 := noType sh
    have u3 := iha ho (by omega)
    try simp only [Ty.row, tyAll, Tm.row, tmAll, Int.cast_ofNat_Int, arT, List.getD_cons_zero, List.getD_cons_succ, Int.reduceToNat, Int.reduceEq, or_true, true_or, or_false, false_or, decide_true, decide_false, Int.toNat_one, or_self] at u0 u1 u2 u3
    have u0' := clR.use u0
    have u1' := clR.use u1
    have u2' := clR.use u2
    have u3' := clR.use u3
    have w0 : IntKind.i64.wrap (1 + (a.size : Int)) = 1 + (a.size : Int) := wrap_i64 (by omega)
    refine run_eq (run_of (pf := p74) rfl ?_)
    unfold p74
    simp only [R.loop_eq, wp0, wp1, wp2, wp3, wp4, PV.cellsT, appMax, dropSh, fillB, fillS, putD, splice, src, startSt, Int.reduceAdd, Int.reduceEq, Int.reduceLE, Int.reduceLT, Int.reduceNeg, Int.reduceSub, Int.reduceToNat, Nat.reduceAdd, Nat.reduceEqDiff, Nat.reduceLT, Nat.reduceLeDiff, Nat.reduceMul, Nat.reduceSub, if_false, if_true, ite_false, ite_true, reduceIte, Ty.row, tyAll, u0', u1', u2', u3', Tm.row, tmAll, w0, arT, Tm.size, Int.natCast_add, Int.toNat_one]
  | unit =>
    intro ho hs
    simp only [Tm.ok] at ho
    simp only [Tm.size] at hs
    have u0 := arity sh 13 (by omega)
    have u1 := typedK sh 13 (by omega)
    have u2 := noType sh
    try simp only [Ty.row, tyAll, Tm.row, tmAll, Int.cast_ofNat_Int, arT, List.getD_cons_zero, List.getD_cons_succ, Int.reduceToNat, Int.reduceEq, or_true, true_or, or_false, false_or, decide_true, decide_false, Int.toNat_one, or_self] at u0 u1 u2
    have u0' := clR.use u0
    have u1' := clR.use u1
    have u2' := clR.use u2
    refine run_eq (run_of (pf := p74) rfl ?_)
    unfold p74
    simp only [R.loop_eq, wp0, wp1, wp2, wp3, wp4, PV.cellsT, appMax, dropSh, fillB, fillS, putD, splice, src, startSt, Int.reduceAdd, Int.reduceEq, Int.reduceLE, Int.reduceLT, Int.reduceNeg, Int.reduceSub, Int.reduceToNat, Nat.reduceAdd, Nat.reduceEqDiff, Nat.reduceLT, Nat.reduceLeDiff, Nat.reduceMul, Nat.reduceSub, if_false, if_true, ite_false, ite_true, reduceIte, Ty.row, tyAll, u0', u1', u2', Tm.row, tmAll, arT, Tm.size, Int.natCast_add, Int.toNat_one]
theorem checkTerm (sh : Sh) (t : Tm) (ho : t.ok) (h : t.size ≤ 4096) : ∃ n, callN T G n 52 [.ag t.row] sh = some (.tup [i64 t.size, i64 0], sh) := by
  have u0 := termNodes sh t ho (by omega)
  try simp only [Ty.row, tyAll, Tm.row, tmAll, Int.cast_ofNat_Int, Ty.srow] at u0
  have u0' := clR.use u0
  have h1 : ¬ (4096 : Int) < (t.size : Int) := by omega
  refine run_eq (run_of (pf := p52) rfl ?_)
  unfold p52
  simp only [R.loop_eq, wp0, wp1, wp2, wp3, wp4, PV.cellsT, appMax, dropSh, fillB, fillS, putD, splice, src, startSt, Int.reduceAdd, Int.reduceEq, Int.reduceLE, Int.reduceLT, Int.reduceNeg, Int.reduceSub, Int.reduceToNat, Nat.reduceAdd, Nat.reduceEqDiff, Nat.reduceLT, Nat.reduceLeDiff, Nat.reduceMul, Nat.reduceSub, if_false, if_true, ite_false, ite_true, reduceIte, Ty.row, tyAll, u0', Tm.row, tmAll, Ty.srow, h1]
theorem check27 (sh : Sh) (t : Tm) (ho : t.ok) (h : t.size ≤ 4096) : ∃ n, callN T G n 27 [.ag t.row] sh = some (i64 0, sh) := by
  have u0 := checkTerm sh t ho h
  try simp only [Ty.row, tyAll, Tm.row, tmAll, Int.cast_ofNat_Int, Ty.srow] at u0
  have u0' := clR.use u0
  refine run_eq (run_of (pf := p27) rfl ?_)
  unfold p27
  simp only [R.loop_eq, wp0, wp1, wp2, wp3, wp4, PV.cellsT, appMax, dropSh, fillB, fillS, putD, splice, src, startSt, Int.reduceAdd, Int.reduceEq, Int.reduceLE, Int.reduceLT, Int.reduceNeg, Int.reduceSub, Int.reduceToNat, Nat.reduceAdd, Nat.reduceEqDiff, Nat.reduceLT, Nat.reduceLeDiff, Nat.reduceMul, Nat.reduceSub, if_false, if_true, ite_false, ite_true, reduceIte, Ty.row, tyAll, u0', Tm.row, tmAll, Ty.srow]
end Go.Pi.Terms
