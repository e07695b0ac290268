import Derived.Test.YtckcklkbdbafbaaDoorTL
set_option maxRecDepth 100000
set_option maxHeartbeats 1000000
set_option linter.unusedSimpArgs false
set_option linter.unusedVariables false
namespace Go.Pi.Terms
open Go Go.Pi Go.Proofs.YtckcklkbdbafbaaDoor
def z3 : List PV := [i64 0, .sl 0 0 [], i64 0]
theorem node_zero (sh : Sh)  : ∃ n, callN T G n 73 [.ag (Tm.zero).row, .ag (z3 ++ z3 ++ z3)] sh = some (.tup [.ag Ty.nat.srow, i64 0], sh) := by
  have u0 := plain86_4 sh
  have u1 := of71 sh .nat (by decide)
  try simp only [Ty.row, tyAll, Tm.row, tmAll, Int.cast_ofNat_Int, Ty.srow] at u0 u1
  have u0' := clR.use u0
  have u1' := clR.use u1
  refine run_eq (run_of (pf := p73) rfl ?_)
  unfold p73
  simp only [R.loop_eq, wp0, wp1, wp2, wp3, wp4, PV.cellsT, appMax, dropSh, fillB, fillS, putD, splice, src, startSt, Int.reduceAdd, Int.reduceEq, Int.reduceLE, Int.reduceLT, Int.reduceNeg, Int.reduceSub, Int.reduceToNat, Nat.reduceAdd, Nat.reduceEqDiff, Nat.reduceLT, Nat.reduceLeDiff, Nat.reduceMul, Nat.reduceSub, if_false, if_true, ite_false, ite_true, reduceIte, Ty.row, tyAll, u0', u1', Tm.row, tmAll, Ty.srow, z3]
theorem node_succ (sh : Sh) (a : Tm) : ∃ n, callN T G n 73 [.ag (Tm.succ a).row, .ag ((Ty.nat).srow ++ z3 ++ z3)] sh = some (.tup [.ag Ty.nat.srow, i64 0], sh) := by
  have u0 := plain86_5 sh
  have u1 := of71 sh .nat (by decide)
  have u2 := is87 sh .nat 1
  try simp only [Ty.row, tyAll, Tm.row, tmAll, Int.cast_ofNat_Int, Ty.srow] at u0 u1 u2
  have u0' := clR.use u0
  have u1' := clR.use u1
  have u2' := clR.use u2
  refine run_eq (run_of (pf := p73) rfl ?_)
  unfold p73
  simp only [R.loop_eq, wp0, wp1, wp2, wp3, wp4, PV.cellsT, appMax, dropSh, fillB, fillS, putD, splice, src, startSt, Int.reduceAdd, Int.reduceEq, Int.reduceLE, Int.reduceLT, Int.reduceNeg, Int.reduceSub, Int.reduceToNat, Nat.reduceAdd, Nat.reduceEqDiff, Nat.reduceLT, Nat.reduceLeDiff, Nat.reduceMul, Nat.reduceSub, if_false, if_true, ite_false, ite_true, reduceIte, Ty.row, tyAll, u0', u1', u2', Tm.row, tmAll, Ty.srow, z3]
theorem node_nil (sh : Sh)  : ∃ n, callN T G n 73 [.ag (Tm.nil).row, .ag (z3 ++ z3 ++ z3)] sh = some (.tup [.ag Ty.list.srow, i64 0], sh) := by
  have u0 := plain86_7 sh
  have u1 := of71 sh .list (by decide)
  try simp only [Ty.row, tyAll, Tm.row, tmAll, Int.cast_ofNat_Int, Ty.srow] at u0 u1
  have u0' := clR.use u0
  have u1' := clR.use u1
  refine run_eq (run_of (pf := p73) rfl ?_)
  unfold p73
  simp only [R.loop_eq, wp0, wp1, wp2, wp3, wp4, PV.cellsT, appMax, dropSh, fillB, fillS, putD, splice, src, startSt, Int.reduceAdd, Int.reduceEq, Int.reduceLE, Int.reduceLT, Int.reduceNeg, Int.reduceSub, Int.reduceToNat, Nat.reduceAdd, Nat.reduceEqDiff, Nat.reduceLT, Nat.reduceLeDiff, Nat.reduceMul, Nat.reduceSub, if_false, if_true, ite_false, ite_true, reduceIte, Ty.row, tyAll, u0', u1', Tm.row, tmAll, Ty.srow, z3]
theorem node_cons (sh : Sh) (a b : Tm) : ∃ n, callN T G n 73 [.ag (Tm.cons a b).row, .ag ((Ty.nat).srow ++ (Ty.list).srow ++ z3)] sh = some (.tup [.ag Ty.list.srow, i64 0], sh) := by
  have u0 := plain86_8 sh
  have u1 := of71 sh .list (by decide)
  have u2 := is87 sh .nat 1
  have u3 := is87 sh .list 2
  try simp only [Ty.row, tyAll, Tm.row, tmAll, Int.cast_ofNat_Int, Ty.srow] at u0 u1 u2 u3
  have u0' := clR.use u0
  have u1' := clR.use u1
  have u2' := clR.use u2
  have u3' := clR.use u3
  refine run_eq (run_of (pf := p73) rfl ?_)
  unfold p73
  simp only [R.loop_eq, wp0, wp1, wp2, wp3, wp4, PV.cellsT, appMax, dropSh, fillB, fillS, putD, splice, src, startSt, Int.reduceAdd, Int.reduceEq, Int.reduceLE, Int.reduceLT, Int.reduceNeg, Int.reduceSub, Int.reduceToNat, Nat.reduceAdd, Nat.reduceEqDiff, Nat.reduceLT, Nat.reduceLeDiff, Nat.reduceMul, Nat.reduceSub, if_false, if_true, ite_false, ite_true, reduceIte, Ty.row, tyAll, u0', u1', u2', u3', Tm.row, tmAll, Ty.srow, z3]
theorem node_unit (sh : Sh)  : ∃ n, callN T G n 73 [.ag (Tm.unit).row, .ag (z3 ++ z3 ++ z3)] sh = some (.tup [.ag Ty.unit.srow, i64 0], sh) := by
  have u0 := plain86_13 sh
  have u1 := of71 sh .unit (by decide)
  try simp only [Ty.row, tyAll, Tm.row, tmAll, Int.cast_ofNat_Int, Ty.srow] at u0 u1
  have u0' := clR.use u0
  have u1' := clR.use u1
  refine run_eq (run_of (pf := p73) rfl ?_)
  unfold p73
  simp only [R.loop_eq, wp0, wp1, wp2, wp3, wp4, PV.cellsT, appMax, dropSh, fillB, fillS, putD, splice, src, startSt, Int.reduceAdd, Int.reduceEq, Int.reduceLE, Int.reduceLT, Int.reduceNeg, Int.reduceSub, Int.reduceToNat, Nat.reduceAdd, Nat.reduceEqDiff, Nat.reduceLT, Nat.reduceLeDiff, Nat.reduceMul, Nat.reduceSub, if_false, if_true, ite_false, ite_true, reduceIte, Ty.row, tyAll, u0', u1', Tm.row, tmAll, Ty.srow, z3]
theorem node_app (sh : Sh) (x y : Tm) (a b : Ty) (h : (Ty.fn a b).nodes ≤ 64) : ∃ n, callN T G n 73 [.ag (Tm.app x y).row, .ag ((Ty.fn a b).srow ++ (a).srow ++ z3)] sh = some (.tup [.ag b.srow, i64 0], sh) := by
  have u0 := plain86_3 sh
  have u1 := is87 sh (.fn a b) 4
  have u2 := part88_fn0 sh a b h
  have u3 := same89 sh a a
  have u4 := part88_fn1 sh a b h
  try simp only [Ty.row, tyAll, Tm.row, tmAll, Int.cast_ofNat_Int, Ty.srow] at u0 u1 u2 u3 u4
  have u0' := clR.use u0
  have u1' := clR.use u1
  have u2' := clR.use u2
  have u3' := clR.use u3
  have u4' := clR.use u4
  refine run_eq (run_of (pf := p73) rfl ?_)
  unfold p73
  simp only [R.loop_eq, wp0, wp1, wp2, wp3, wp4, PV.cellsT, appMax, dropSh, fillB, fillS, putD, splice, src, startSt, Int.reduceAdd, Int.reduceEq, Int.reduceLE, Int.reduceLT, Int.reduceNeg, Int.reduceSub, Int.reduceToNat, Nat.reduceAdd, Nat.reduceEqDiff, Nat.reduceLT, Nat.reduceLeDiff, Nat.reduceMul, Nat.reduceSub, if_false, if_true, ite_false, ite_true, reduceIte, Ty.row, tyAll, u0', u1', u2', u3', u4', Tm.row, tmAll, Ty.srow, z3]
theorem node_app_no (sh : Sh) (x y : Tm) (a b c : Ty) (h : (Ty.fn a b).nodes ≤ 64) (hn : a ≠ c) : ∃ n, callN T G n 73 [.ag (Tm.app x y).row, .ag ((Ty.fn a b).srow ++ (c).srow ++ z3)] sh = some (.tup [.ag z3, i64 7], sh) := by
  have u0 := plain86_3 sh
  have u1 := is87 sh (.fn a b) 4
  have u2 := part88_fn0 sh a b h
  have u3 := same89 sh a c
  try simp only [Ty.row, tyAll, Tm.row, tmAll, Int.cast_ofNat_Int, Ty.srow] at u0 u1 u2 u3
  have u0' := clR.use u0
  have u1' := clR.use u1
  have u2' := clR.use u2
  have u3' := clR.use u3
  have hd : decide (a = c) = false := decide_eq_false hn
  refine run_eq (run_of (pf := p73) rfl ?_)
  unfold p73
  simp only [R.loop_eq, wp0, wp1, wp2, wp3, wp4, PV.cellsT, appMax, dropSh, fillB, fillS, putD, splice, src, startSt, Int.reduceAdd, Int.reduceEq, Int.reduceLE, Int.reduceLT, Int.reduceNeg, Int.reduceSub, Int.reduceToNat, Nat.reduceAdd, Nat.reduceEqDiff, Nat.reduceLT, Nat.reduceLeDiff, Nat.reduceMul, Nat.reduceSub, if_false, if_true, ite_false, ite_true, reduceIte, Ty.row, tyAll, u0', u1', u2', u3', Tm.row, tmAll, Ty.srow, z3, hd]
theorem node_recu (sh : Sh) (x y z : Tm) (s : Ty) (h : s.nodes ≤ 64) : ∃ n, callN T G n 73 [.ag (Tm.recu s x y z).row, .ag ((s).srow ++ (Ty.fn .nat (Ty.fn s s)).srow ++ (Ty.nat).srow)] sh = some (.tup [.ag s.srow, i64 0], sh) := by
  have u0 := plain86_6 sh
  have u1 := of71 sh s h
  have u2 := same89 sh s s
  have u3 := step90_rec sh s x y z
  have u4 := sameType sh (Ty.fn .nat (Ty.fn s s)) (Ty.fn .nat (Ty.fn s s))
  have u5 := is87 sh .nat 1
  try simp only [Ty.row, tyAll, Tm.row, tmAll, Int.cast_ofNat_Int, Ty.srow] at u0 u1 u2 u3 u4 u5
  have u0' := clR.use u0
  have u1' := clR.use u1
  have u2' := clR.use u2
  have u3' := clR.use u3
  have u4' := clR.use u4
  have u5' := clR.use u5
  refine run_eq (run_of (pf := p73) rfl ?_)
  unfold p73
  simp only [R.loop_eq, wp0, wp1, wp2, wp3, wp4, PV.cellsT, appMax, dropSh, fillB, fillS, putD, splice, src, startSt, Int.reduceAdd, Int.reduceEq, Int.reduceLE, Int.reduceLT, Int.reduceNeg, Int.reduceSub, Int.reduceToNat, Nat.reduceAdd, Nat.reduceEqDiff, Nat.reduceLT, Nat.reduceLeDiff, Nat.reduceMul, Nat.reduceSub, if_false, if_true, ite_false, ite_true, reduceIte, Ty.row, tyAll, u0', u1', u2', u3', u4', u5', Tm.row, tmAll, Ty.srow, z3]
theorem node_fold (sh : Sh) (x y z : Tm) (s : Ty) (h : s.nodes ≤ 64) : ∃ n, callN T G n 73 [.ag (Tm.fold s x y z).row, .ag ((s).srow ++ (Ty.fn .nat (Ty.fn .list (Ty.fn s s))).srow ++ (Ty.list).srow)] sh = some (.tup [.ag s.srow, i64 0], sh) := by
  have u0 := plain86_9 sh
  have u1 := of71 sh s h
  have u2 := same89 sh s s
  have u3 := step90_fold sh s x y z
  have u4 := sameType sh (Ty.fn .nat (Ty.fn .list (Ty.fn s s))) (Ty.fn .nat (Ty.fn .list (Ty.fn s s)))
  have u5 := is87 sh .list 2
  try simp only [Ty.row, tyAll, Tm.row, tmAll, Int.cast_ofNat_Int, Ty.srow] at u0 u1 u2 u3 u4 u5
  have u0' := clR.use u0
  have u1' := clR.use u1
  have u2' := clR.use u2
  have u3' := clR.use u3
  have u4' := clR.use u4
  have u5' := clR.use u5
  refine run_eq (run_of (pf := p73) rfl ?_)
  unfold p73
  simp only [R.loop_eq, wp0, wp1, wp2, wp3, wp4, PV.cellsT, appMax, dropSh, fillB, fillS, putD, splice, src, startSt, Int.reduceAdd, Int.reduceEq, Int.reduceLE, Int.reduceLT, Int.reduceNeg, Int.reduceSub, Int.reduceToNat, Nat.reduceAdd, Nat.reduceEqDiff, Nat.reduceLT, Nat.reduceLeDiff, Nat.reduceMul, Nat.reduceSub, if_false, if_true, ite_false, ite_true, reduceIte, Ty.row, tyAll, u0', u1', u2', u3', u4', u5', Tm.row, tmAll, Ty.srow, z3]
theorem node_pair (sh : Sh) (x y : Tm) (a b : Ty) (h : (Ty.pair a b).nodes ≤ 64) : ∃ n, callN T G n 73 [.ag (Tm.pair x y).row, .ag ((a).srow ++ (b).srow ++ z3)] sh = some (.tup [.ag (Ty.pair a b).srow, i64 0], sh) := by
  have u0 := plain86_10 sh
  have u1 := join72_pair sh a b h
  try simp only [Ty.row, tyAll, Tm.row, tmAll, Int.cast_ofNat_Int, Ty.srow] at u0 u1
  have u0' := clR.use u0
  have u1' := clR.use u1
  refine run_eq (run_of (pf := p73) rfl ?_)
  unfold p73
  simp only [R.loop_eq, wp0, wp1, wp2, wp3, wp4, PV.cellsT, appMax, dropSh, fillB, fillS, putD, splice, src, startSt, Int.reduceAdd, Int.reduceEq, Int.reduceLE, Int.reduceLT, Int.reduceNeg, Int.reduceSub, Int.reduceToNat, Nat.reduceAdd, Nat.reduceEqDiff, Nat.reduceLT, Nat.reduceLeDiff, Nat.reduceMul, Nat.reduceSub, if_false, if_true, ite_false, ite_true, reduceIte, Ty.row, tyAll, u0', u1', Tm.row, tmAll, Ty.srow, z3]
theorem node_fst (sh : Sh) (x : Tm) (a b : Ty) (h : (Ty.pair a b).nodes ≤ 64) : ∃ n, callN T G n 73 [.ag (Tm.fst x).row, .ag ((Ty.pair a b).srow ++ z3 ++ z3)] sh = some (.tup [.ag a.srow, i64 0], sh) := by
  have u0 := plain86_11 sh
  have u1 := is87 sh (.pair a b) 3
  have u2 := part88_pair0 sh a b h
  try simp only [Ty.row, tyAll, Tm.row, tmAll, Int.cast_ofNat_Int, Ty.srow] at u0 u1 u2
  have u0' := clR.use u0
  have u1' := clR.use u1
  have u2' := clR.use u2
  refine run_eq (run_of (pf := p73) rfl ?_)
  unfold p73
  simp only [R.loop_eq, wp0, wp1, wp2, wp3, wp4, PV.cellsT, appMax, dropSh, fillB, fillS, putD, splice, src, startSt, Int.reduceAdd, Int.reduceEq, Int.reduceLE, Int.reduceLT, Int.reduceNeg, Int.reduceSub, Int.reduceToNat, Nat.reduceAdd, Nat.reduceEqDiff, Nat.reduceLT, Nat.reduceLeDiff, Nat.reduceMul, Nat.reduceSub, if_false, if_true, ite_false, ite_true, reduceIte, Ty.row, tyAll, u0', u1', u2', Tm.row, tmAll, Ty.srow, z3]
theorem node_snd (sh : Sh) (x : Tm) (a b : Ty) (h : (Ty.pair a b).nodes ≤ 64) : ∃ n, callN T G n 73 [.ag (Tm.snd x).row, .ag ((Ty.pair a b).srow ++ z3 ++ z3)] sh = some (.tup [.ag b.srow, i64 0], sh) := by
  have u0 := plain86_12 sh
  have u1 := is87 sh (.pair a b) 3
  have u2 := part88_pair1 sh a b h
  try simp only [Ty.row, tyAll, Tm.row, tmAll, Int.cast_ofNat_Int, Ty.srow] at u0 u1 u2
  have u0' := clR.use u0
  have u1' := clR.use u1
  have u2' := clR.use u2
  refine run_eq (run_of (pf := p73) rfl ?_)
  unfold p73
  simp only [R.loop_eq, wp0, wp1, wp2, wp3, wp4, PV.cellsT, appMax, dropSh, fillB, fillS, putD, splice, src, startSt, Int.reduceAdd, Int.reduceEq, Int.reduceLE, Int.reduceLT, Int.reduceNeg, Int.reduceSub, Int.reduceToNat, Nat.reduceAdd, Nat.reduceEqDiff, Nat.reduceLT, Nat.reduceLeDiff, Nat.reduceMul, Nat.reduceSub, if_false, if_true, ite_false, ite_true, reduceIte, Ty.row, tyAll, u0', u1', u2', Tm.row, tmAll, Ty.srow, z3]
end Go.Pi.Terms
