import Derived.Test.YtckcklkbdbafbaaDoorTK
set_option maxRecDepth 100000
set_option maxHeartbeats 1000000
set_option linter.unusedSimpArgs false
set_option linter.unusedVariables false
namespace Go.Pi.Terms
open Go Go.Pi Go.Proofs.YtckcklkbdbafbaaDoor
theorem is87 (sh : Sh) (t : Ty) (k : Int) : ∃ n, callN T G n 87 [.ag t.srow, i64 k] sh = some (.v (.bool (decide (t.kind = k))), sh) := by
  refine run_eq (run_of (pf := p87) rfl ?_)
  unfold p87
  simp only [R.loop_eq, wp0, wp1, wp2, wp3, wp4, PV.cellsT, appMax, dropSh, fillB, fillS, putD, splice, src, startSt, Int.reduceAdd, Int.reduceEq, Int.reduceLE, Int.reduceLT, Int.reduceNeg, Int.reduceSub, Int.reduceToNat, Nat.reduceAdd, Nat.reduceEqDiff, Nat.reduceLT, Nat.reduceLeDiff, Nat.reduceMul, Nat.reduceSub, if_false, if_true, ite_false, ite_true, reduceIte, Ty.row, tyAll, Tm.row, tmAll, Ty.srow]
theorem part88_pair0 (sh : Sh) (a b : Ty) (h : (Ty.pair a b).nodes ≤ 64) : ∃ n, callN T G n 88 [.ag (Ty.pair a b).srow, i64 0] sh = some (.ag a.srow, sh) := by
  have u0 := of71 sh a (by simp only [Ty.nodes] at h; omega)
  try simp only [Ty.row, tyAll, Tm.row, tmAll, Int.cast_ofNat_Int, Ty.srow] at u0
  have u0' := clR.use u0
  refine run_eq (run_of (pf := p88) rfl ?_)
  unfold p88
  simp only [R.loop_eq, wp0, wp1, wp2, wp3, wp4, PV.cellsT, appMax, dropSh, fillB, fillS, putD, splice, src, startSt, Int.reduceAdd, Int.reduceEq, Int.reduceLE, Int.reduceLT, Int.reduceNeg, Int.reduceSub, Int.reduceToNat, Nat.reduceAdd, Nat.reduceEqDiff, Nat.reduceLT, Nat.reduceLeDiff, Nat.reduceMul, Nat.reduceSub, if_false, if_true, ite_false, ite_true, reduceIte, Ty.row, tyAll, u0', Tm.row, tmAll, Ty.srow]
theorem part88_pair1 (sh : Sh) (a b : Ty) (h : (Ty.pair a b).nodes ≤ 64) : ∃ n, callN T G n 88 [.ag (Ty.pair a b).srow, i64 1] sh = some (.ag b.srow, sh) := by
  have u0 := of71 sh b (by simp only [Ty.nodes] at h; omega)
  try simp only [Ty.row, tyAll, Tm.row, tmAll, Int.cast_ofNat_Int, Ty.srow] at u0
  have u0' := clR.use u0
  refine run_eq (run_of (pf := p88) rfl ?_)
  unfold p88
  simp only [R.loop_eq, wp0, wp1, wp2, wp3, wp4, PV.cellsT, appMax, dropSh, fillB, fillS, putD, splice, src, startSt, Int.reduceAdd, Int.reduceEq, Int.reduceLE, Int.reduceLT, Int.reduceNeg, Int.reduceSub, Int.reduceToNat, Nat.reduceAdd, Nat.reduceEqDiff, Nat.reduceLT, Nat.reduceLeDiff, Nat.reduceMul, Nat.reduceSub, if_false, if_true, ite_false, ite_true, reduceIte, Ty.row, tyAll, u0', Tm.row, tmAll, Ty.srow]
theorem part88_fn0 (sh : Sh) (a b : Ty) (h : (Ty.fn a b).nodes ≤ 64) : ∃ n, callN T G n 88 [.ag (Ty.fn a b).srow, i64 0] sh = some (.ag a.srow, sh) := by
  have u0 := of71 sh a (by simp only [Ty.nodes] at h; omega)
  try simp only [Ty.row, tyAll, Tm.row, tmAll, Int.cast_ofNat_Int, Ty.srow] at u0
  have u0' := clR.use u0
  refine run_eq (run_of (pf := p88) rfl ?_)
  unfold p88
  simp only [R.loop_eq, wp0, wp1, wp2, wp3, wp4, PV.cellsT, appMax, dropSh, fillB, fillS, putD, splice, src, startSt, Int.reduceAdd, Int.reduceEq, Int.reduceLE, Int.reduceLT, Int.reduceNeg, Int.reduceSub, Int.reduceToNat, Nat.reduceAdd, Nat.reduceEqDiff, Nat.reduceLT, Nat.reduceLeDiff, Nat.reduceMul, Nat.reduceSub, if_false, if_true, ite_false, ite_true, reduceIte, Ty.row, tyAll, u0', Tm.row, tmAll, Ty.srow]
theorem part88_fn1 (sh : Sh) (a b : Ty) (h : (Ty.fn a b).nodes ≤ 64) : ∃ n, callN T G n 88 [.ag (Ty.fn a b).srow, i64 1] sh = some (.ag b.srow, sh) := by
  have u0 := of71 sh b (by simp only [Ty.nodes] at h; omega)
  try simp only [Ty.row, tyAll, Tm.row, tmAll, Int.cast_ofNat_Int, Ty.srow] at u0
  have u0' := clR.use u0
  refine run_eq (run_of (pf := p88) rfl ?_)
  unfold p88
  simp only [R.loop_eq, wp0, wp1, wp2, wp3, wp4, PV.cellsT, appMax, dropSh, fillB, fillS, putD, splice, src, startSt, Int.reduceAdd, Int.reduceEq, Int.reduceLE, Int.reduceLT, Int.reduceNeg, Int.reduceSub, Int.reduceToNat, Nat.reduceAdd, Nat.reduceEqDiff, Nat.reduceLT, Nat.reduceLeDiff, Nat.reduceMul, Nat.reduceSub, if_false, if_true, ite_false, ite_true, reduceIte, Ty.row, tyAll, u0', Tm.row, tmAll, Ty.srow]
theorem same89 (sh : Sh) (a b : Ty) : ∃ n, callN T G n 89 [.ag a.srow, .ag b.srow] sh = some (.v (.bool (decide (a = b))), sh) := by
  have u0 := clR.use (sameType sh a b)
  simp only [Ty.row, tyAll] at u0
  by_cases h : a.nodes = b.nodes
  · have e : ((a.nodes : Int) = (b.nodes : Int)) = True := by simp only [h]
    refine run_eq (run_of (pf := p89) rfl ?_)
    unfold p89
    simp only [R.loop_eq, wp0, wp1, wp2, wp3, wp4, PV.cellsT, appMax, dropSh, fillB, fillS, putD, splice, src, startSt, Int.reduceAdd, Int.reduceEq, Int.reduceLE, Int.reduceLT, Int.reduceNeg, Int.reduceSub, Int.reduceToNat, Nat.reduceAdd, Nat.reduceEqDiff, Nat.reduceLT, Nat.reduceLeDiff, Nat.reduceMul, Nat.reduceSub, if_false, if_true, ite_false, ite_true, reduceIte, Ty.row, tyAll, Ty.srow, e, u0]
  · have e : ((a.nodes : Int) = (b.nodes : Int)) = False := by simp only [eq_iff_iff, iff_false]; omega
    have e2 : decide (a = b) = false := decide_eq_false fun e => h (by rw [e])
    refine run_eq (run_of (pf := p89) rfl ?_)
    unfold p89
    simp only [R.loop_eq, wp0, wp1, wp2, wp3, wp4, PV.cellsT, appMax, dropSh, fillB, fillS, putD, splice, src, startSt, Int.reduceAdd, Int.reduceEq, Int.reduceLE, Int.reduceLT, Int.reduceNeg, Int.reduceSub, Int.reduceToNat, Nat.reduceAdd, Nat.reduceEqDiff, Nat.reduceLT, Nat.reduceLeDiff, Nat.reduceMul, Nat.reduceSub, if_false, if_true, ite_false, ite_true, reduceIte, Ty.row, tyAll, Ty.srow, e, u0, e2]
theorem fun96_2 (sh : Sh) (a b t : Ty) : ∃ n, callN T G n 96 [.ag t.row, .sl 0 2 [a.row, b.row]] sh = some (.ag (Ty.fn a (Ty.fn b t)).row, sh) := by
  refine run_eq (run_of (pf := p96) rfl ?_)
  unfold p96
  simp only [R.loop_eq, wp0, wp1, wp2, wp3, wp4, PV.cellsT, appMax, dropSh, fillB, fillS, putD, splice, src, startSt, Int.reduceAdd, Int.reduceEq, Int.reduceLE, Int.reduceLT, Int.reduceNeg, Int.reduceSub, Int.reduceToNat, Nat.reduceAdd, Nat.reduceEqDiff, Nat.reduceLT, Nat.reduceLeDiff, Nat.reduceMul, Nat.reduceSub, if_false, if_true, ite_false, ite_true, reduceIte, Ty.row, tyAll, Tm.row, tmAll, Ty.srow]
theorem fun96_3 (sh : Sh) (a b c t : Ty) : ∃ n, callN T G n 96 [.ag t.row, .sl 0 2 [a.row, b.row, c.row]] sh = some (.ag (Ty.fn a (Ty.fn b (Ty.fn c t))).row, sh) := by
  refine run_eq (run_of (pf := p96) rfl ?_)
  unfold p96
  simp only [R.loop_eq, wp0, wp1, wp2, wp3, wp4, PV.cellsT, appMax, dropSh, fillB, fillS, putD, splice, src, startSt, Int.reduceAdd, Int.reduceEq, Int.reduceLE, Int.reduceLT, Int.reduceNeg, Int.reduceSub, Int.reduceToNat, Nat.reduceAdd, Nat.reduceEqDiff, Nat.reduceLT, Nat.reduceLeDiff, Nat.reduceMul, Nat.reduceSub, if_false, if_true, ite_false, ite_true, reduceIte, Ty.row, tyAll, Tm.row, tmAll, Ty.srow]
theorem step90_rec (sh : Sh) (s : Ty) (a b c : Tm) : ∃ n, callN T G n 90 [.ag (Tm.recu s a b c).row] sh = some (.ag (Ty.fn .nat (Ty.fn s s)).row, sh) := by
  have u0 := nat97 sh
  have u1 := fun96_2 sh .nat s s
  try simp only [Ty.row, tyAll, Tm.row, tmAll, Int.cast_ofNat_Int, Ty.srow] at u0 u1
  have u0' := clR.use u0
  have u1' := clR.use u1
  refine run_eq (run_of (pf := p90) rfl ?_)
  unfold p90
  simp only [R.loop_eq, wp0, wp1, wp2, wp3, wp4, PV.cellsT, appMax, dropSh, fillB, fillS, putD, splice, src, startSt, Int.reduceAdd, Int.reduceEq, Int.reduceLE, Int.reduceLT, Int.reduceNeg, Int.reduceSub, Int.reduceToNat, Nat.reduceAdd, Nat.reduceEqDiff, Nat.reduceLT, Nat.reduceLeDiff, Nat.reduceMul, Nat.reduceSub, if_false, if_true, ite_false, ite_true, reduceIte, Ty.row, tyAll, u0', u1', Tm.row, tmAll, Ty.srow]
theorem step90_fold (sh : Sh) (s : Ty) (a b c : Tm) : ∃ n, callN T G n 90 [.ag (Tm.fold s a b c).row] sh = some (.ag (Ty.fn .nat (Ty.fn .list (Ty.fn s s))).row, sh) := by
  have u0 := nat97 sh
  have u1 := list98 sh
  have u2 := fun96_3 sh .nat .list s s
  try simp only [Ty.row, tyAll, Tm.row, tmAll, Int.cast_ofNat_Int, Ty.srow] at u0 u1 u2
  have u0' := clR.use u0
  have u1' := clR.use u1
  have u2' := clR.use u2
  refine run_eq (run_of (pf := p90) rfl ?_)
  unfold p90
  simp only [R.loop_eq, wp0, wp1, wp2, wp3, wp4, PV.cellsT, appMax, dropSh, fillB, fillS, putD, splice, src, startSt, Int.reduceAdd, Int.reduceEq, Int.reduceLE, Int.reduceLT, Int.reduceNeg, Int.reduceSub, Int.reduceToNat, Nat.reduceAdd, Nat.reduceEqDiff, Nat.reduceLT, Nat.reduceLeDiff, Nat.reduceMul, Nat.reduceSub, if_false, if_true, ite_false, ite_true, reduceIte, Ty.row, tyAll, u0', u1', u2', Tm.row, tmAll, Ty.srow]
theorem plain86_1 (sh : Sh)  : ∃ n, callN T G n 86 [i64 1] sh = some (.sl 0 0 [], sh) := by
  refine run_eq (run_of (pf := p86) rfl ?_)
  unfold p86
  simp only [R.loop_eq, wp0, wp1, wp2, wp3, wp4, PV.cellsT, appMax, dropSh, fillB, fillS, putD, splice, src, startSt, Int.reduceAdd, Int.reduceEq, Int.reduceLE, Int.reduceLT, Int.reduceNeg, Int.reduceSub, Int.reduceToNat, Nat.reduceAdd, Nat.reduceEqDiff, Nat.reduceLT, Nat.reduceLeDiff, Nat.reduceMul, Nat.reduceSub, if_false, if_true, ite_false, ite_true, reduceIte, Ty.row, tyAll, Tm.row, tmAll, Ty.srow]
theorem plain86_2 (sh : Sh)  : ∃ n, callN T G n 86 [i64 2] sh = some (.sl 0 0 [], sh) := by
  refine run_eq (run_of (pf := p86) rfl ?_)
  unfold p86
  simp only [R.loop_eq, wp0, wp1, wp2, wp3, wp4, PV.cellsT, appMax, dropSh, fillB, fillS, putD, splice, src, startSt, Int.reduceAdd, Int.reduceEq, Int.reduceLE, Int.reduceLT, Int.reduceNeg, Int.reduceSub, Int.reduceToNat, Nat.reduceAdd, Nat.reduceEqDiff, Nat.reduceLT, Nat.reduceLeDiff, Nat.reduceMul, Nat.reduceSub, if_false, if_true, ite_false, ite_true, reduceIte, Ty.row, tyAll, Tm.row, tmAll, Ty.srow]
theorem plain86_3 (sh : Sh)  : ∃ n, callN T G n 86 [i64 3] sh = some (.sl 0 0 [], sh) := by
  refine run_eq (run_of (pf := p86) rfl ?_)
  unfold p86
  simp only [R.loop_eq, wp0, wp1, wp2, wp3, wp4, PV.cellsT, appMax, dropSh, fillB, fillS, putD, splice, src, startSt, Int.reduceAdd, Int.reduceEq, Int.reduceLE, Int.reduceLT, Int.reduceNeg, Int.reduceSub, Int.reduceToNat, Nat.reduceAdd, Nat.reduceEqDiff, Nat.reduceLT, Nat.reduceLeDiff, Nat.reduceMul, Nat.reduceSub, if_false, if_true, ite_false, ite_true, reduceIte, Ty.row, tyAll, Tm.row, tmAll, Ty.srow]
theorem plain86_4 (sh : Sh)  : ∃ n, callN T G n 86 [i64 4] sh = some (.sl 0 1 [[i64 1]], sh) := by
  refine run_eq (run_of (pf := p86) rfl ?_)
  unfold p86
  simp only [R.loop_eq, wp0, wp1, wp2, wp3, wp4, PV.cellsT, appMax, dropSh, fillB, fillS, putD, splice, src, startSt, Int.reduceAdd, Int.reduceEq, Int.reduceLE, Int.reduceLT, Int.reduceNeg, Int.reduceSub, Int.reduceToNat, Nat.reduceAdd, Nat.reduceEqDiff, Nat.reduceLT, Nat.reduceLeDiff, Nat.reduceMul, Nat.reduceSub, if_false, if_true, ite_false, ite_true, reduceIte, Ty.row, tyAll, Tm.row, tmAll, Ty.srow]
theorem plain86_5 (sh : Sh)  : ∃ n, callN T G n 86 [i64 5] sh = some (.sl 0 1 [[i64 1], [i64 1]], sh) := by
  refine run_eq (run_of (pf := p86) rfl ?_)
  unfold p86
  simp only [R.loop_eq, wp0, wp1, wp2, wp3, wp4, PV.cellsT, appMax, dropSh, fillB, fillS, putD, splice, src, startSt, Int.reduceAdd, Int.reduceEq, Int.reduceLE, Int.reduceLT, Int.reduceNeg, Int.reduceSub, Int.reduceToNat, Nat.reduceAdd, Nat.reduceEqDiff, Nat.reduceLT, Nat.reduceLeDiff, Nat.reduceMul, Nat.reduceSub, if_false, if_true, ite_false, ite_true, reduceIte, Ty.row, tyAll, Tm.row, tmAll, Ty.srow]
theorem plain86_6 (sh : Sh)  : ∃ n, callN T G n 86 [i64 6] sh = some (.sl 0 0 [], sh) := by
  refine run_eq (run_of (pf := p86) rfl ?_)
  unfold p86
  simp only [R.loop_eq, wp0, wp1, wp2, wp3, wp4, PV.cellsT, appMax, dropSh, fillB, fillS, putD, splice, src, startSt, Int.reduceAdd, Int.reduceEq, Int.reduceLE, Int.reduceLT, Int.reduceNeg, Int.reduceSub, Int.reduceToNat, Nat.reduceAdd, Nat.reduceEqDiff, Nat.reduceLT, Nat.reduceLeDiff, Nat.reduceMul, Nat.reduceSub, if_false, if_true, ite_false, ite_true, reduceIte, Ty.row, tyAll, Tm.row, tmAll, Ty.srow]
theorem plain86_7 (sh : Sh)  : ∃ n, callN T G n 86 [i64 7] sh = some (.sl 0 1 [[i64 2]], sh) := by
  refine run_eq (run_of (pf := p86) rfl ?_)
  unfold p86
  simp only [R.loop_eq, wp0, wp1, wp2, wp3, wp4, PV.cellsT, appMax, dropSh, fillB, fillS, putD, splice, src, startSt, Int.reduceAdd, Int.reduceEq, Int.reduceLE, Int.reduceLT, Int.reduceNeg, Int.reduceSub, Int.reduceToNat, Nat.reduceAdd, Nat.reduceEqDiff, Nat.reduceLT, Nat.reduceLeDiff, Nat.reduceMul, Nat.reduceSub, if_false, if_true, ite_false, ite_true, reduceIte, Ty.row, tyAll, Tm.row, tmAll, Ty.srow]
theorem plain86_8 (sh : Sh)  : ∃ n, callN T G n 86 [i64 8] sh = some (.sl 0 1 [[i64 2], [i64 1], [i64 2]], sh) := by
  refine run_eq (run_of (pf := p86) rfl ?_)
  unfold p86
  simp only [R.loop_eq, wp0, wp1, wp2, wp3, wp4, PV.cellsT, appMax, dropSh, fillB, fillS, putD, splice, src, startSt, Int.reduceAdd, Int.reduceEq, Int.reduceLE, Int.reduceLT, Int.reduceNeg, Int.reduceSub, Int.reduceToNat, Nat.reduceAdd, Nat.reduceEqDiff, Nat.reduceLT, Nat.reduceLeDiff, Nat.reduceMul, Nat.reduceSub, if_false, if_true, ite_false, ite_true, reduceIte, Ty.row, tyAll, Tm.row, tmAll, Ty.srow]
theorem plain86_9 (sh : Sh)  : ∃ n, callN T G n 86 [i64 9] sh = some (.sl 0 0 [], sh) := by
  refine run_eq (run_of (pf := p86) rfl ?_)
  unfold p86
  simp only [R.loop_eq, wp0, wp1, wp2, wp3, wp4, PV.cellsT, appMax, dropSh, fillB, fillS, putD, splice, src, startSt, Int.reduceAdd, Int.reduceEq, Int.reduceLE, Int.reduceLT, Int.reduceNeg, Int.reduceSub, Int.reduceToNat, Nat.reduceAdd, Nat.reduceEqDiff, Nat.reduceLT, Nat.reduceLeDiff, Nat.reduceMul, Nat.reduceSub, if_false, if_true, ite_false, ite_true, reduceIte, Ty.row, tyAll, Tm.row, tmAll, Ty.srow]
theorem plain86_10 (sh : Sh)  : ∃ n, callN T G n 86 [i64 10] sh = some (.sl 0 0 [], sh) := by
  refine run_eq (run_of (pf := p86) rfl ?_)
  unfold p86
  simp only [R.loop_eq, wp0, wp1, wp2, wp3, wp4, PV.cellsT, appMax, dropSh, fillB, fillS, putD, splice, src, startSt, Int.reduceAdd, Int.reduceEq, Int.reduceLE, Int.reduceLT, Int.reduceNeg, Int.reduceSub, Int.reduceToNat, Nat.reduceAdd, Nat.reduceEqDiff, Nat.reduceLT, Nat.reduceLeDiff, Nat.reduceMul, Nat.reduceSub, if_false, if_true, ite_false, ite_true, reduceIte, Ty.row, tyAll, Tm.row, tmAll, Ty.srow]
theorem plain86_11 (sh : Sh)  : ∃ n, callN T G n 86 [i64 11] sh = some (.sl 0 0 [], sh) := by
  refine run_eq (run_of (pf := p86) rfl ?_)
  unfold p86
  simp only [R.loop_eq, wp0, wp1, wp2, wp3, wp4, PV.cellsT, appMax, dropSh, fillB, fillS, putD, splice, src, startSt, Int.reduceAdd, Int.reduceEq, Int.reduceLE, Int.reduceLT, Int.reduceNeg, Int.reduceSub, Int.reduceToNat, Nat.reduceAdd, Nat.reduceEqDiff, Nat.reduceLT, Nat.reduceLeDiff, Nat.reduceMul, Nat.reduceSub, if_false, if_true, ite_false, ite_true, reduceIte, Ty.row, tyAll, Tm.row, tmAll, Ty.srow]
theorem plain86_12 (sh : Sh)  : ∃ n, callN T G n 86 [i64 12] sh = some (.sl 0 0 [], sh) := by
  refine run_eq (run_of (pf := p86) rfl ?_)
  unfold p86
  simp only [R.loop_eq, wp0, wp1, wp2, wp3, wp4, PV.cellsT, appMax, dropSh, fillB, fillS, putD, splice, src, startSt, Int.reduceAdd, Int.reduceEq, Int.reduceLE, Int.reduceLT, Int.reduceNeg, Int.reduceSub, Int.reduceToNat, Nat.reduceAdd, Nat.reduceEqDiff, Nat.reduceLT, Nat.reduceLeDiff, Nat.reduceMul, Nat.reduceSub, if_false, if_true, ite_false, ite_true, reduceIte, Ty.row, tyAll, Tm.row, tmAll, Ty.srow]
theorem plain86_13 (sh : Sh)  : ∃ n, callN T G n 86 [i64 13] sh = some (.sl 0 1 [[i64 5]], sh) := by
  refine run_eq (run_of (pf := p86) rfl ?_)
  unfold p86
  simp only [R.loop_eq, wp0, wp1, wp2, wp3, wp4, PV.cellsT, appMax, dropSh, fillB, fillS, putD, splice, src, startSt, Int.reduceAdd, Int.reduceEq, Int.reduceLE, Int.reduceLT, Int.reduceNeg, Int.reduceSub, Int.reduceToNat, Nat.reduceAdd, Nat.reduceEqDiff, Nat.reduceLT, Nat.reduceLeDiff, Nat.reduceMul, Nat.reduceSub, if_false, if_true, ite_false, ite_true, reduceIte, Ty.row, tyAll, Tm.row, tmAll, Ty.srow]
theorem join72_pair (sh : Sh) (a b : Ty) (h : (Ty.pair a b).nodes ≤ 64) : ∃ n, callN T G n 72 [i64 3, .ag a.srow, .ag b.srow] sh = some (.tup [.ag (Ty.pair a b).srow, i64 0], sh) := by
  have h' : 1 + a.nodes + b.nodes ≤ 64 := h
  have w1 : IntKind.i64.wrap (1 + (a.nodes : Int)) = 1 + (a.nodes : Int) := wrap_i64 (by omega)
  have w2 : IntKind.i64.wrap (1 + (a.nodes : Int) + (b.nodes : Int)) = ((Ty.pair a b).nodes : Int) := by rw [wrap_i64 (by omega)]; simp only [Ty.nodes]; omega
  have w3 : ¬ (64 : Int) < ((Ty.pair a b).nodes : Int) := by omega
  refine run_eq (run_of (pf := p72) rfl ?_)
  unfold p72
  simp only [R.loop_eq, wp0, wp1, wp2, wp3, wp4, PV.cellsT, appMax, dropSh, fillB, fillS, putD, splice, src, startSt, Int.reduceAdd, Int.reduceEq, Int.reduceLE, Int.reduceLT, Int.reduceNeg, Int.reduceSub, Int.reduceToNat, Nat.reduceAdd, Nat.reduceEqDiff, Nat.reduceLT, Nat.reduceLeDiff, Nat.reduceMul, Nat.reduceSub, if_false, if_true, ite_false, ite_true, reduceIte, Ty.row, tyAll, Tm.row, tmAll, Ty.srow, w1, w2, w3]
theorem join72_fn (sh : Sh) (a b : Ty) (h : (Ty.fn a b).nodes ≤ 64) : ∃ n, callN T G n 72 [i64 4, .ag a.srow, .ag b.srow] sh = some (.tup [.ag (Ty.fn a b).srow, i64 0], sh) := by
  have h' : 1 + a.nodes + b.nodes ≤ 64 := h
  have w1 : IntKind.i64.wrap (1 + (a.nodes : Int)) = 1 + (a.nodes : Int) := wrap_i64 (by omega)
  have w2 : IntKind.i64.wrap (1 + (a.nodes : Int) + (b.nodes : Int)) = ((Ty.fn a b).nodes : Int) := by rw [wrap_i64 (by omega)]; simp only [Ty.nodes]; omega
  have w3 : ¬ (64 : Int) < ((Ty.fn a b).nodes : Int) := by omega
  refine run_eq (run_of (pf := p72) rfl ?_)
  unfold p72
  simp only [R.loop_eq, wp0, wp1, wp2, wp3, wp4, PV.cellsT, appMax, dropSh, fillB, fillS, putD, splice, src, startSt, Int.reduceAdd, Int.reduceEq, Int.reduceLE, Int.reduceLT, Int.reduceNeg, Int.reduceSub, Int.reduceToNat, Nat.reduceAdd, Nat.reduceEqDiff, Nat.reduceLT, Nat.reduceLeDiff, Nat.reduceMul, Nat.reduceSub, if_false, if_true, ite_false, ite_true, reduceIte, Ty.row, tyAll, Tm.row, tmAll, Ty.srow, w1, w2, w3]
end Go.Pi.Terms
