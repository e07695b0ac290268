import Derived.Test.YtoljfmfmdghoeaaGreatDoorTK
set_option maxRecDepth 100000
set_option maxHeartbeats 1000000
set_option linter.unusedSimpArgs false
set_option linter.unusedVariables false
namespace Go.Pi.Terms
open Go Go.Pi Go.Proofs.YtoljfmfmdghoeaaGreatDoor
theorem is87 (sh : Sh) (t : Ty) (k : Int) : ∃ n, callN T G n 130 [.ag t.srow, i64 k] sh = some (.v (.bool (decide (t.kind = k))), sh) := by
  refine run_eq (run_of (pf := p130) rfl ?_)
  unfold p130
  simp only [R.loop_eq, wp0, wp1, wp2, wp3, wp4, PV.cellsT, appMax, dropSh, fillB, fillS, putD, splice, src, startSt, Int.reduceAdd, Int.reduceEq, Int.reduceLE, Int.reduceLT, Int.reduceNeg, Int.reduceSub, Int.reduceToNat, Nat.reduceAdd, Nat.reduceDiv, Nat.reduceEqDiff, Nat.reduceLT, Nat.reduceLeDiff, Nat.reduceMod, Nat.reduceMul, Nat.reduceSub, eq_self, if_false, if_true, ite_false, ite_true, reduceIte, Ty.row, tyAll, Tm.row, tmAll, Ty.srow]
theorem part88_pair0 (sh : Sh) (a b : Ty) (h : (Ty.pair a b).nodes ≤ 64) : ∃ n, callN T G n 131 [.ag (Ty.pair a b).srow, i64 0] sh = some (.ag a.srow, sh) := by
  have u0 := of71 sh a (by simp only [Ty.nodes] at h; omega)
  try simp only [Ty.row, tyAll, Tm.row, tmAll, Int.cast_ofNat_Int, Ty.srow] at u0
  have u0' := clR.use u0
  refine run_eq (run_of (pf := p131) rfl ?_)
  unfold p131
  simp only [R.loop_eq, wp0, wp1, wp2, wp3, wp4, PV.cellsT, appMax, dropSh, fillB, fillS, putD, splice, src, startSt, Int.reduceAdd, Int.reduceEq, Int.reduceLE, Int.reduceLT, Int.reduceNeg, Int.reduceSub, Int.reduceToNat, Nat.reduceAdd, Nat.reduceDiv, Nat.reduceEqDiff, Nat.reduceLT, Nat.reduceLeDiff, Nat.reduceMod, Nat.reduceMul, Nat.reduceSub, eq_self, if_false, if_true, ite_false, ite_true, reduceIte, Ty.row, tyAll, u0', Tm.row, tmAll, Ty.srow]
theorem part88_pair1 (sh : Sh) (a b : Ty) (h : (Ty.pair a b).nodes ≤ 64) : ∃ n, callN T G n 131 [.ag (Ty.pair a b).srow, i64 1] sh = some (.ag b.srow, sh) := by
  have u0 := of71 sh b (by simp only [Ty.nodes] at h; omega)
  try simp only [Ty.row, tyAll, Tm.row, tmAll, Int.cast_ofNat_Int, Ty.srow] at u0
  have u0' := clR.use u0
  refine run_eq (run_of (pf := p131) rfl ?_)
  unfold p131
  simp only [R.loop_eq, wp0, wp1, wp2, wp3, wp4, PV.cellsT, appMax, dropSh, fillB, fillS, putD, splice, src, startSt, Int.reduceAdd, Int.reduceEq, Int.reduceLE, Int.reduceLT, Int.reduceNeg, Int.reduceSub, Int.reduceToNat, Nat.reduceAdd, Nat.reduceDiv, Nat.reduceEqDiff, Nat.reduceLT, Nat.reduceLeDiff, Nat.reduceMod, Nat.reduceMul, Nat.reduceSub, eq_self, if_false, if_true, ite_false, ite_true, reduceIte, Ty.row, tyAll, u0', Tm.row, tmAll, Ty.srow]
theorem part88_fn0 (sh : Sh) (a b : Ty) (h : (Ty.fn a b).nodes ≤ 64) : ∃ n, callN T G n 131 [.ag (Ty.fn a b).srow, i64 0] sh = some (.ag a.srow, sh) := by
  have u0 := of71 sh a (by simp only [Ty.nodes] at h; omega)
  try simp only [Ty.row, tyAll, Tm.row, tmAll, Int.cast_ofNat_Int, Ty.srow] at u0
  have u0' := clR.use u0
  refine run_eq (run_of (pf := p131) rfl ?_)
  unfold p131
  simp only [R.loop_eq, wp0, wp1, wp2, wp3, wp4, PV.cellsT, appMax, dropSh, fillB, fillS, putD, splice, src, startSt, Int.reduceAdd, Int.reduceEq, Int.reduceLE, Int.reduceLT, Int.reduceNeg, Int.reduceSub, Int.reduceToNat, Nat.reduceAdd, Nat.reduceDiv, Nat.reduceEqDiff, Nat.reduceLT, Nat.reduceLeDiff, Nat.reduceMod, Nat.reduceMul, Nat.reduceSub, eq_self, if_false, if_true, ite_false, ite_true, reduceIte, Ty.row, tyAll, u0', Tm.row, tmAll, Ty.srow]
theorem part88_fn1 (sh : Sh) (a b : Ty) (h : (Ty.fn a b).nodes ≤ 64) : ∃ n, callN T G n 131 [.ag (Ty.fn a b).srow, i64 1] sh = some (.ag b.srow, sh) := by
  have u0 := of71 sh b (by simp only [Ty.nodes] at h; omega)
  try simp only [Ty.row, tyAll, Tm.row, tmAll, Int.cast_ofNat_Int, Ty.srow] at u0
  have u0' := clR.use u0
  refine run_eq (run_of (pf := p131) rfl ?_)
  unfold p131
  simp only [R.loop_eq, wp0, wp1, wp2, wp3, wp4, PV.cellsT, appMax, dropSh, fillB, fillS, putD, splice, src, startSt, Int.reduceAdd, Int.reduceEq, Int.reduceLE, Int.reduceLT, Int.reduceNeg, Int.reduceSub, Int.reduceToNat, Nat.reduceAdd, Nat.reduceDiv, Nat.reduceEqDiff, Nat.reduceLT, Nat.reduceLeDiff, Nat.reduceMod, Nat.reduceMul, Nat.reduceSub, eq_self, if_false, if_true, ite_false, ite_true, reduceIte, Ty.row, tyAll, u0', Tm.row, tmAll, Ty.srow]
theorem same89 (sh : Sh) (a b : Ty) : ∃ n, callN T G n 132 [.ag a.srow, .ag b.srow] sh = some (.v (.bool (decide (a = b))), sh) := by
  have u0 := clR.use (sameType sh a b)
  simp only [Ty.row, tyAll] at u0
  by_cases h : a.nodes = b.nodes
  · have e : ((a.nodes : Int) = (b.nodes : Int)) = True := by simp only [h]
    refine run_eq (run_of (pf := p132) rfl ?_)
    unfold p132
    simp only [R.loop_eq, wp0, wp1, wp2, wp3, wp4, PV.cellsT, appMax, dropSh, fillB, fillS, putD, splice, src, startSt, Int.reduceAdd, Int.reduceEq, Int.reduceLE, Int.reduceLT, Int.reduceNeg, Int.reduceSub, Int.reduceToNat, Nat.reduceAdd, Nat.reduceDiv, Nat.reduceEqDiff, Nat.reduceLT, Nat.reduceLeDiff, Nat.reduceMod, Nat.reduceMul, Nat.reduceSub, eq_self, if_false, if_true, ite_false, ite_true, reduceIte, Ty.row, tyAll, Ty.srow, e, u0]
  · have e : ((a.nodes : Int) = (b.nodes : Int)) = False := by simp only [eq_iff_iff, iff_false]; omega
    have e2 : decide (a = b) = false := decide_eq_false fun e => h (by rw [e])
    refine run_eq (run_of (pf := p132) rfl ?_)
    unfold p132
    simp only [R.loop_eq, wp0, wp1, wp2, wp3, wp4, PV.cellsT, appMax, dropSh, fillB, fillS, putD, splice, src, startSt, Int.reduceAdd, Int.reduceEq, Int.reduceLE, Int.reduceLT, Int.reduceNeg, Int.reduceSub, Int.reduceToNat, Nat.reduceAdd, Nat.reduceDiv, Nat.reduceEqDiff, Nat.reduceLT, Nat.reduceLeDiff, Nat.reduceMod, Nat.reduceMul, Nat.reduceSub, eq_self, if_false, if_true, ite_false, ite_true, reduceIte, Ty.row, tyAll, Ty.srow, e, u0, e2]
theorem fun96_2 (sh : Sh) (a b t : Ty) : ∃ n, callN T G n 163 [.ag t.row, .sl 0 2 [a.row, b.row]] sh = some (.ag (Ty.fn a (Ty.fn b t)).row, sh) := by
  refine run_eq (run_of (pf := p163) rfl ?_)
  unfold p163
  simp only [R.loop_eq, wp0, wp1, wp2, wp3, wp4, PV.cellsT, appMax, dropSh, fillB, fillS, putD, splice, src, startSt, Int.reduceAdd, Int.reduceEq, Int.reduceLE, Int.reduceLT, Int.reduceNeg, Int.reduceSub, Int.reduceToNat, Nat.reduceAdd, Nat.reduceDiv, Nat.reduceEqDiff, Nat.reduceLT, Nat.reduceLeDiff, Nat.reduceMod, Nat.reduceMul, Nat.reduceSub, eq_self, if_false, if_true, ite_false, ite_true, reduceIte, Ty.row, tyAll, Tm.row, tmAll, Ty.srow]
theorem fun96_3 (sh : Sh) (a b c t : Ty) : ∃ n, callN T G n 163 [.ag t.row, .sl 0 2 [a.row, b.row, c.row]] sh = some (.ag (Ty.fn a (Ty.fn b (Ty.fn c t))).row, sh) := by
  refine run_eq (run_of (pf := p163) rfl ?_)
  unfold p163
  simp only [R.loop_eq, wp0, wp1, wp2, wp3, wp4, PV.cellsT, appMax, dropSh, fillB, fillS, putD, splice, src, startSt, Int.reduceAdd, Int.reduceEq, Int.reduceLE, Int.reduceLT, Int.reduceNeg, Int.reduceSub, Int.reduceToNat, Nat.reduceAdd, Nat.reduceDiv, Nat.reduceEqDiff, Nat.reduceLT, Nat.reduceLeDiff, Nat.reduceMod, Nat.reduceMul, Nat.reduceSub, eq_self, if_false, if_true, ite_false, ite_true, reduceIte, Ty.row, tyAll, Tm.row, tmAll, Ty.srow]
theorem step90_rec (sh : Sh) (s : Ty) (a b c : Tm) : ∃ n, callN T G n 133 [.ag (Tm.recu s a b c).row] sh = some (.ag (Ty.fn .nat (Ty.fn s s)).row, sh) := by
  have u0 := nat97 sh
  have u1 := fun96_2 sh .nat s s
  try simp only [Ty.row, tyAll, Tm.row, tmAll, Int.cast_ofNat_Int, Ty.srow] at u0 u1
  have u0' := clR.use u0
  have u1' := clR.use u1
  refine run_eq (run_of (pf := p133) rfl ?_)
  unfold p133
  simp only [R.loop_eq, wp0, wp1, wp2, wp3, wp4, PV.cellsT, appMax, dropSh, fillB, fillS, putD, splice, src, startSt, Int.reduceAdd, Int.reduceEq, Int.reduceLE, Int.reduceLT, Int.reduceNeg, Int.reduceSub, Int.reduceToNat, Nat.reduceAdd, Nat.reduceDiv, Nat.reduceEqDiff, Nat.reduceLT, Nat.reduceLeDiff, Nat.reduceMod, Nat.reduceMul, Nat.reduceSub, eq_self, if_false, if_true, ite_false, ite_true, reduceIte, Ty.row, tyAll, u0', u1', Tm.row, tmAll, Ty.srow]
theorem step90_fold (sh : Sh) (s : Ty) (a b c : Tm) : ∃ n, callN T G n 133 [.ag (Tm.fold s a b c).row] sh = some (.ag (Ty.fn .nat (Ty.fn .list (Ty.fn s s))).row, sh) := by
  have u0 := nat97 sh
  have u1 := list98 sh
  have u2 := fun96_3 sh .nat .list s s
  try simp only [Ty.row, tyAll, Tm.row, tmAll, Int.cast_ofNat_Int, Ty.srow] at u0 u1 u2
  have u0' := clR.use u0
  have u1' := clR.use u1
  have u2' := clR.use u2
  refine run_eq (run_of (pf := p133) rfl ?_)
  unfold p133
  simp only [R.loop_eq, wp0, wp1, wp2, wp3, wp4, PV.cellsT, appMax, dropSh, fillB, fillS, putD, splice, src, startSt, Int.reduceAdd, Int.reduceEq, Int.reduceLE, Int.reduceLT, Int.reduceNeg, Int.reduceSub, Int.reduceToNat, Nat.reduceAdd, Nat.reduceDiv, Nat.reduceEqDiff, Nat.reduceLT, Nat.reduceLeDiff, Nat.reduceMod, Nat.reduceMul, Nat.reduceSub, eq_self, if_false, if_true, ite_false, ite_true, reduceIte, Ty.row, tyAll, u0', u1', u2', Tm.row, tmAll, Ty.srow]
theorem plain86_1 (sh : Sh)  : ∃ n, callN T G n 129 [i64 1] sh = some (.sl 0 0 [], sh) := by
  refine run_eq (run_of (pf := p129) rfl ?_)
  unfold p129
  simp only [R.loop_eq, wp0, wp1, wp2, wp3, wp4, PV.cellsT, appMax, dropSh, fillB, fillS, putD, splice, src, startSt, Int.reduceAdd, Int.reduceEq, Int.reduceLE, Int.reduceLT, Int.reduceNeg, Int.reduceSub, Int.reduceToNat, Nat.reduceAdd, Nat.reduceDiv, Nat.reduceEqDiff, Nat.reduceLT, Nat.reduceLeDiff, Nat.reduceMod, Nat.reduceMul, Nat.reduceSub, eq_self, if_false, if_true, ite_false, ite_true, reduceIte, Ty.row, tyAll, Tm.row, tmAll, Ty.srow]
theorem plain86_2 (sh : Sh)  : ∃ n, callN T G n 129 [i64 2] sh = some (.sl 0 0 [], sh) := by
  refine run_eq (run_of (pf := p129) rfl ?_)
  unfold p129
  simp only [R.loop_eq, wp0, wp1, wp2, wp3, wp4, PV.cellsT, appMax, dropSh, fillB, fillS, putD, splice, src, startSt, Int.reduceAdd, Int.reduceEq, Int.reduceLE, Int.reduceLT, Int.reduceNeg, Int.reduceSub, Int.reduceToNat, Nat.reduceAdd, Nat.reduceDiv, Nat.reduceEqDiff, Nat.reduceLT, Nat.reduceLeDiff, Nat.reduceMod, Nat.reduceMul, Nat.reduceSub, eq_self, if_false, if_true, ite_false, ite_true, reduceIte, Ty.row, tyAll, Tm.row, tmAll, Ty.srow]
theorem plain86_3 (sh : Sh)  : ∃ n, callN T G n 129 [i64 3] sh = some (.sl 0 0 [], sh) := by
  refine run_eq (run_of (pf := p129) rfl ?_)
  unfold p129
  simp only [R.loop_eq, wp0, wp1, wp2, wp3, wp4, PV.cellsT, appMax, dropSh, fillB, fillS, putD, splice, src, startSt, Int.reduceAdd, Int.reduceEq, Int.reduceLE, Int.reduceLT, Int.reduceNeg, Int.reduceSub, Int.reduceToNat, Nat.reduceAdd, Nat.reduceDiv, Nat.reduceEqDiff, Nat.reduceLT, Nat.reduceLeDiff, Nat.reduceMod, Nat.reduceMul, Nat.reduceSub, eq_self, if_false, if_true, ite_false, ite_true, reduceIte, Ty.row, tyAll, Tm.row, tmAll, Ty.srow]
theorem plain86_4 (sh : Sh)  : ∃ n, callN T G n 129 [i64 4] sh = some (.sl 0 1 [[i64 1]], sh) := by
  refine run_eq (run_of (pf := p129) rfl ?_)
  unfold p129
  simp only [R.loop_eq, wp0, wp1, wp2, wp3, wp4, PV.cellsT, appMax, dropSh, fillB, fillS, putD, splice, src, startSt, Int.reduceAdd, Int.reduceEq, Int.reduceLE, Int.reduceLT, Int.reduceNeg, Int.reduceSub, Int.reduceToNat, Nat.reduceAdd, Nat.reduceDiv, Nat.reduceEqDiff, Nat.reduceLT, Nat.reduceLeDiff, Nat.reduceMod, Nat.reduceMul, Nat.reduceSub, eq_self, if_false, if_true, ite_false, ite_true, reduceIte, Ty.row, tyAll, Tm.row, tmAll, Ty.srow]
theorem plain86_5 (sh : Sh)  : ∃ n, callN T G n 129 [i64 5] sh = some (.sl 0 1 [[i64 1], [i64 1]], sh) := by
  refine run_eq (run_of (pf := p129) rfl ?_)
  unfold p129
  simp only [R.loop_eq, wp0, wp1, wp2, wp3, wp4, PV.cellsT, appMax, dropSh, fillB, fillS, putD, splice, src, startSt, Int.reduceAdd, Int.reduceEq, Int.reduceLE, Int.reduceLT, Int.reduceNeg, Int.reduceSub, Int.reduceToNat, Nat.reduceAdd, Nat.reduceDiv, Nat.reduceEqDiff, Nat.reduceLT, Nat.reduceLeDiff, Nat.reduceMod, Nat.reduceMul, Nat.reduceSub, eq_self, if_false, if_true, ite_false, ite_true, reduceIte, Ty.row, tyAll, Tm.row, tmAll, Ty.srow]
theorem plain86_6 (sh : Sh)  : ∃ n, callN T G n 129 [i64 6] sh = some (.sl 0 0 [], sh) := by
  refine run_eq (run_of (pf := p129) rfl ?_)
  unfold p129
  simp only [R.loop_eq, wp0, wp1, wp2, wp3, wp4, PV.cellsT, appMax, dropSh, fillB, fillS, putD, splice, src, startSt, Int.reduceAdd, Int.reduceEq, Int.reduceLE, Int.reduceLT, Int.reduceNeg, Int.reduceSub, Int.reduceToNat, Nat.reduceAdd, Nat.reduceDiv, Nat.reduceEqDiff, Nat.reduceLT, Nat.reduceLeDiff, Nat.reduceMod, Nat.reduceMul, Nat.reduceSub, eq_self, if_false, if_true, ite_false, ite_true, reduceIte, Ty.row, tyAll, Tm.row, tmAll, Ty.srow]
theorem plain86_7 (sh : Sh)  : ∃ n, callN T G n 129 [i64 7] sh = some (.sl 0 1 [[i64 2]], sh) := by
  refine run_eq (run_of (pf := p129) rfl ?_)
  unfold p129
  simp only [R.loop_eq, wp0, wp1, wp2, wp3, wp4, PV.cellsT, appMax, dropSh, fillB, fillS, putD, splice, src, startSt, Int.reduceAdd, Int.reduceEq, Int.reduceLE, Int.reduceLT, Int.reduceNeg, Int.reduceSub, Int.reduceToNat, Nat.reduceAdd, Nat.reduceDiv, Nat.reduceEqDiff, Nat.reduceLT, Nat.reduceLeDiff, Nat.reduceMod, Nat.reduceMul, Nat.reduceSub, eq_self, if_false, if_true, ite_false, ite_true, reduceIte, Ty.row, tyAll, Tm.row, tmAll, Ty.srow]
theorem plain86_8 (sh : Sh)  : ∃ n, callN T G n 129 [i64 8] sh = some (.sl 0 1 [[i64 2], [i64 1], [i64 2]], sh) := by
  refine run_eq (run_of (pf := p129) rfl ?_)
  unfold p129
  simp only [R.loop_eq, wp0, wp1, wp2, wp3, wp4, PV.cellsT, appMax, dropSh, fillB, fillS, putD, splice, src, startSt, Int.reduceAdd, Int.reduceEq, Int.reduceLE, Int.reduceLT, Int.reduceNeg, Int.reduceSub, Int.reduceToNat, Nat.reduceAdd, Nat.reduceDiv, Nat.reduceEqDiff, Nat.reduceLT, Nat.reduceLeDiff, Nat.reduceMod, Nat.reduceMul, Nat.reduceSub, eq_self, if_false, if_true, ite_false, ite_true, reduceIte, Ty.row, tyAll, Tm.row, tmAll, Ty.srow]
theorem plain86_9 (sh : Sh)  : ∃ n, callN T G n 129 [i64 9] sh = some (.sl 0 0 [], sh) := by
  refine run_eq (run_of (pf := p129) rfl ?_)
  unfold p129
  simp only [R.loop_eq, wp0, wp1, wp2, wp3, wp4, PV.cellsT, appMax, dropSh, fillB, fillS, putD, splice, src, startSt, Int.reduceAdd, Int.reduceEq, Int.reduceLE, Int.reduceLT, Int.reduceNeg, Int.reduceSub, Int.reduceToNat, Nat.reduceAdd, Nat.reduceDiv, Nat.reduceEqDiff, Nat.reduceLT, Nat.reduceLeDiff, Nat.reduceMod, Nat.reduceMul, Nat.reduceSub, eq_self, if_false, if_true, ite_false, ite_true, reduceIte, Ty.row, tyAll, Tm.row, tmAll, Ty.srow]
theorem plain86_10 (sh : Sh)  : ∃ n, callN T G n 129 [i64 10] sh = some (.sl 0 0 [], sh) := by
  refine run_eq (run_of (pf := p129) rfl ?_)
  unfold p129
  simp only [R.loop_eq, wp0, wp1, wp2, wp3, wp4, PV.cellsT, appMax, dropSh, fillB, fillS, putD, splice, src, startSt, Int.reduceAdd, Int.reduceEq, Int.reduceLE, Int.reduceLT, Int.reduceNeg, Int.reduceSub, Int.reduceToNat, Nat.reduceAdd, Nat.reduceDiv, Nat.reduceEqDiff, Nat.reduceLT, Nat.reduceLeDiff, Nat.reduceMod, Nat.reduceMul, Nat.reduceSub, eq_self, if_false, if_true, ite_false, ite_true, reduceIte, Ty.row, tyAll, Tm.row, tmAll, Ty.srow]
theorem plain86_11 (sh : Sh)  : ∃ n, callN T G n 129 [i64 11] sh = some (.sl 0 0 [], sh) := by
  refine run_eq (run_of (pf := p129) rfl ?_)
  unfold p129
  simp only [R.loop_eq, wp0, wp1, wp2, wp3, wp4, PV.cellsT, appMax, dropSh, fillB, fillS, putD, splice, src, startSt, Int.reduceAdd, Int.reduceEq, Int.reduceLE, Int.reduceLT, Int.reduceNeg, Int.reduceSub, Int.reduceToNat, Nat.reduceAdd, Nat.reduceDiv, Nat.reduceEqDiff, Nat.reduceLT, Nat.reduceLeDiff, Nat.reduceMod, Nat.reduceMul, Nat.reduceSub, eq_self, if_false, if_true, ite_false, ite_true, reduceIte, Ty.row, tyAll, Tm.row, tmAll, Ty.srow]
theorem plain86_12 (sh : Sh)  : ∃ n, callN T G n 129 [i64 12] sh = some (.sl 0 0 [], sh) := by
  refine run_eq (run_of (pf := p129) rfl ?_)
  unfold p129
  simp only [R.loop_eq, wp0, wp1, wp2, wp3, wp4, PV.cellsT, appMax, dropSh, fillB, fillS, putD, splice, src, startSt, Int.reduceAdd, Int.reduceEq, Int.reduceLE, Int.reduceLT, Int.reduceNeg, Int.reduceSub, Int.reduceToNat, Nat.reduceAdd, Nat.reduceDiv, Nat.reduceEqDiff, Nat.reduceLT, Nat.reduceLeDiff, Nat.reduceMod, Nat.reduceMul, Nat.reduceSub, eq_self, if_false, if_true, ite_false, ite_true, reduceIte, Ty.row, tyAll, Tm.row, tmAll, Ty.srow]
theorem plain86_13 (sh : Sh)  : ∃ n, callN T G n 129 [i64 13] sh = some (.sl 0 1 [[i64 5]], sh) := by
  refine run_eq (run_of (pf := p129) rfl ?_)
  unfold p129
  simp only [R.loop_eq, wp0, wp1, wp2, wp3, wp4, PV.cellsT, appMax, dropSh, fillB, fillS, putD, splice, src, startSt, Int.reduceAdd, Int.reduceEq, Int.reduceLE, Int.reduceLT, Int.reduceNeg, Int.reduceSub, Int.reduceToNat, Nat.reduceAdd, Nat.reduceDiv, Nat.reduceEqDiff, Nat.reduceLT, Nat.reduceLeDiff, Nat.reduceMod, Nat.reduceMul, Nat.reduceSub, eq_self, if_false, if_true, ite_false, ite_true, reduceIte, Ty.row, tyAll, Tm.row, tmAll, Ty.srow]
theorem join72_pair (sh : Sh) (a b : Ty) (h : (Ty.pair a b).nodes ≤ 64) : ∃ n, callN T G n 105 [i64 3, .ag a.srow, .ag b.srow] sh = some (.tup [.ag (Ty.pair a b).srow, i64 0], sh) := by
  have h' : 1 + a.nodes + b.nodes ≤ 64 := h
  have w1 : IntKind.i64.wrap (1 + (a.nodes : Int)) = 1 + (a.nodes : Int) := wrap_i64 (by omega)
  have w2 : IntKind.i64.wrap (1 + (a.nodes : Int) + (b.nodes : Int)) = ((Ty.pair a b).nodes : Int) := by rw [wrap_i64 (by omega)]; simp only [Ty.nodes]; omega
  have w3 : ¬ (64 : Int) < ((Ty.pair a b).nodes : Int) := by omega
  refine run_eq (run_of (pf := p105) rfl ?_)
  unfold p105
  simp only [R.loop_eq, wp0, wp1, wp2, wp3, wp4, PV.cellsT, appMax, dropSh, fillB, fillS, putD, splice, src, startSt, Int.reduceAdd, Int.reduceEq, Int.reduceLE, Int.reduceLT, Int.reduceNeg, Int.reduceSub, Int.reduceToNat, Nat.reduceAdd, Nat.reduceDiv, Nat.reduceEqDiff, Nat.reduceLT, Nat.reduceLeDiff, Nat.reduceMod, Nat.reduceMul, Nat.reduceSub, eq_self, if_false, if_true, ite_false, ite_true, reduceIte, Ty.row, tyAll, Tm.row, tmAll, Ty.srow, w1, w2, w3]
theorem join72_fn (sh : Sh) (a b : Ty) (h : (Ty.fn a b).nodes ≤ 64) : ∃ n, callN T G n 105 [i64 4, .ag a.srow, .ag b.srow] sh = some (.tup [.ag (Ty.fn a b).srow, i64 0], sh) := by
  have h' : 1 + a.nodes + b.nodes ≤ 64 := h
  have w1 : IntKind.i64.wrap (1 + (a.nodes : Int)) = 1 + (a.nodes : Int) := wrap_i64 (by omega)
  have w2 : IntKind.i64.wrap (1 + (a.nodes : Int) + (b.nodes : Int)) = ((Ty.fn a b).nodes : Int) := by rw [wrap_i64 (by omega)]; simp only [Ty.nodes]; omega
  have w3 : ¬ (64 : Int) < ((Ty.fn a b).nodes : Int) := by omega
  refine run_eq (run_of (pf := p105) rfl ?_)
  unfold p105
  simp only [R.loop_eq, wp0, wp1, wp2, wp3, wp4, PV.cellsT, appMax, dropSh, fillB, fillS, putD, splice, src, startSt, Int.reduceAdd, Int.reduceEq, Int.reduceLE, Int.reduceLT, Int.reduceNeg, Int.reduceSub, Int.reduceToNat, Nat.reduceAdd, Nat.reduceDiv, Nat.reduceEqDiff, Nat.reduceLT, Nat.reduceLeDiff, Nat.reduceMod, Nat.reduceMul, Nat.reduceSub, eq_self, if_false, if_true, ite_false, ite_true, reduceIte, Ty.row, tyAll, Tm.row, tmAll, Ty.srow, w1, w2, w3]
end Go.Pi.Terms

set_option maxRecDepth 100000
set_option maxHeartbeats 1000000
set_option linter.unusedSimpArgs false
set_option linter.unusedVariables false
namespace Go.Pi.Terms
open Go Go.Pi Go.Proofs.YtoljfmfmdghoeaaGreatDoor
def z3 : List PV := [i64 0, .sl 0 0 [], i64 0]
theorem node_zero (sh : Sh)  : ∃ n, callN T G n 106 [.ag (Tm.zero).row, .ag (z3 ++ z3 ++ z3)] sh = some (.tup [.ag Ty.nat.srow, i64 0], sh) := by
  have u0 := plain86_4 sh
  have u1 := of71 sh .nat (by decide)
  try simp only [Ty.row, tyAll, Tm.row, tmAll, Int.cast_ofNat_Int, Ty.srow] at u0 u1
  have u0' := clR.use u0
  have u1' := clR.use u1
  refine run_eq (run_of (pf := p106) rfl ?_)
  unfold p106
  simp only [R.loop_eq, wp0, wp1, wp2, wp3, wp4, PV.cellsT, appMax, dropSh, fillB, fillS, putD, splice, src, startSt, Int.reduceAdd, Int.reduceEq, Int.reduceLE, Int.reduceLT, Int.reduceNeg, Int.reduceSub, Int.reduceToNat, Nat.reduceAdd, Nat.reduceDiv, Nat.reduceEqDiff, Nat.reduceLT, Nat.reduceLeDiff, Nat.reduceMod, Nat.reduceMul, Nat.reduceSub, eq_self, if_false, if_true, ite_false, ite_true, reduceIte, Ty.row, tyAll, u0', u1', Tm.row, tmAll, Ty.srow, z3]
theorem node_succ (sh : Sh) (a : Tm) : ∃ n, callN T G n 106 [.ag (Tm.succ a).row, .ag ((Ty.nat).srow ++ z3 ++ z3)] sh = some (.tup [.ag Ty.nat.srow, i64 0], sh) := by
  have u0 := plain86_5 sh
  have u1 := of71 sh .nat (by decide)
  have u2 := is87 sh .nat 1
  try simp only [Ty.row, tyAll, Tm.row, tmAll, Int.cast_ofNat_Int, Ty.srow] at u0 u1 u2
  have u0' := clR.use u0
  have u1' := clR.use u1
  have u2' := clR.use u2
  refine run_eq (run_of (pf := p106) rfl ?_)
  unfold p106
  simp only [R.loop_eq, wp0, wp1, wp2, wp3, wp4, PV.cellsT, appMax, dropSh, fillB, fillS, putD, splice, src, startSt, Int.reduceAdd, Int.reduceEq, Int.reduceLE, Int.reduceLT, Int.reduceNeg, Int.reduceSub, Int.reduceToNat, Nat.reduceAdd, Nat.reduceDiv, Nat.reduceEqDiff, Nat.reduceLT, Nat.reduceLeDiff, Nat.reduceMod, Nat.reduceMul, Nat.reduceSub, eq_self, if_false, if_true, ite_false, ite_true, reduceIte, Ty.row, tyAll, u0', u1', u2', Tm.row, tmAll, Ty.srow, z3]
theorem node_nil (sh : Sh)  : ∃ n, callN T G n 106 [.ag (Tm.nil).row, .ag (z3 ++ z3 ++ z3)] sh = some (.tup [.ag Ty.list.srow, i64 0], sh) := by
  have u0 := plain86_7 sh
  have u1 := of71 sh .list (by decide)
  try simp only [Ty.row, tyAll, Tm.row, tmAll, Int.cast_ofNat_Int, Ty.srow] at u0 u1
  have u0' := clR.use u0
  have u1' := clR.use u1
  refine run_eq (run_of (pf := p106) rfl ?_)
  unfold p106
  simp only [R.loop_eq, wp0, wp1, wp2, wp3, wp4, PV.cellsT, appMax, dropSh, fillB, fillS, putD, splice, src, startSt, Int.reduceAdd, Int.reduceEq, Int.reduceLE, Int.reduceLT, Int.reduceNeg, Int.reduceSub, Int.reduceToNat, Nat.reduceAdd, Nat.reduceDiv, Nat.reduceEqDiff, Nat.reduceLT, Nat.reduceLeDiff, Nat.reduceMod, Nat.reduceMul, Nat.reduceSub, eq_self, if_false, if_true, ite_false, ite_true, reduceIte, Ty.row, tyAll, u0', u1', Tm.row, tmAll, Ty.srow, z3]
theorem node_cons (sh : Sh) (a b : Tm) : ∃ n, callN T G n 106 [.ag (Tm.cons a b).row, .ag ((Ty.nat).srow ++ (Ty.list).srow ++ z3)] sh = some (.tup [.ag Ty.list.srow, i64 0], sh) := by
  have u0 := plain86_8 sh
  have u1 := of71 sh .list (by decide)
  have u2 := is87 sh .nat 1
  have u3 := is87 sh .list 2
  try simp only [Ty.row, tyAll, Tm.row, tmAll, Int.cast_ofNat_Int, Ty.srow] at u0 u1 u2 u3
  have u0' := clR.use u0
  have u1' := clR.use u1
  have u2' := clR.use u2
  have u3' := clR.use u3
  refine run_eq (run_of (pf := p106) rfl ?_)
  unfold p106
  simp only [R.loop_eq, wp0, wp1, wp2, wp3, wp4, PV.cellsT, appMax, dropSh, fillB, fillS, putD, splice, src, startSt, Int.reduceAdd, Int.reduceEq, Int.reduceLE, Int.reduceLT, Int.reduceNeg, Int.reduceSub, Int.reduceToNat, Nat.reduceAdd, Nat.reduceDiv, Nat.reduceEqDiff, Nat.reduceLT, Nat.reduceLeDiff, Nat.reduceMod, Nat.reduceMul, Nat.reduceSub, eq_self, if_false, if_true, ite_false, ite_true, reduceIte, Ty.row, tyAll, u0', u1', u2', u3', Tm.row, tmAll, Ty.srow, z3]
theorem node_unit (sh : Sh)  : ∃ n, callN T G n 106 [.ag (Tm.unit).row, .ag (z3 ++ z3 ++ z3)] sh = some (.tup [.ag Ty.unit.srow, i64 0], sh) := by
  have u0 := plain86_13 sh
  have u1 := of71 sh .unit (by decide)
  try simp only [Ty.row, tyAll, Tm.row, tmAll, Int.cast_ofNat_Int, Ty.srow] at u0 u1
  have u0' := clR.use u0
  have u1' := clR.use u1
  refine run_eq (run_of (pf := p106) rfl ?_)
  unfold p106
  simp only [R.loop_eq, wp0, wp1, wp2, wp3, wp4, PV.cellsT, appMax, dropSh, fillB, fillS, putD, splice, src, startSt, Int.reduceAdd, Int.reduceEq, Int.reduceLE, Int.reduceLT, Int.reduceNeg, Int.reduceSub, Int.reduceToNat, Nat.reduceAdd, Nat.reduceDiv, Nat.reduceEqDiff, Nat.reduceLT, Nat.reduceLeDiff, Nat.reduceMod, Nat.reduceMul, Nat.reduceSub, eq_self, if_false, if_true, ite_false, ite_true, reduceIte, Ty.row, tyAll, u0', u1', Tm.row, tmAll, Ty.srow, z3]
theorem node_app (sh : Sh) (x y : Tm) (a b : Ty) (h : (Ty.fn a b).nodes ≤ 64) : ∃ n, callN T G n 106 [.ag (Tm.app x y).row, .ag ((Ty.fn a b).srow ++ (a).srow ++ z3)] sh = some (.tup [.ag b.srow, i64 0], sh) := by
  have u0 := plain86_3 sh
  have u1 := is87 sh (.fn a b) 4
  have u2 := part88_fn0 sh a b h
  have u3 := same89 sh a a
  have u4 := part88_fn1 sh a b h
  try simp only [Ty.row, tyAll, Tm.row, tmAll, Int.cast_ofNat_Int, Ty.srow] at u0 u1 u2 u3 u4
  have u0' := clR.use u0
  have u1' := clR.use u1
  have u2' := clR.use u2
  have u3' := clR.use u3
  have u4' := clR.use u4
  refine run_eq (run_of (pf := p106) rfl ?_)
  unfold p106
  simp only [R.loop_eq, wp0, wp1, wp2, wp3, wp4, PV.cellsT, appMax, dropSh, fillB, fillS, putD, splice, src, startSt, Int.reduceAdd, Int.reduceEq, Int.reduceLE, Int.reduceLT, Int.reduceNeg, Int.reduceSub, Int.reduceToNat, Nat.reduceAdd, Nat.reduceDiv, Nat.reduceEqDiff, Nat.reduceLT, Nat.reduceLeDiff, Nat.reduceMod, Nat.reduceMul, Nat.reduceSub, eq_self, if_false, if_true, ite_false, ite_true, reduceIte, Ty.row, tyAll, u0', u1', u2', u3', u4', Tm.row, tmAll, Ty.srow, z3]
theorem node_app_no (sh : Sh) (x y : Tm) (a b c : Ty) (h : (Ty.fn a b).nodes ≤ 64) (hn : a ≠ c) : ∃ n, callN T G n 106 [.ag (Tm.app x y).row, .ag ((Ty.fn a b).srow ++ (c).srow ++ z3)] sh = some (.tup [.ag z3, i64 7], sh) := by
  have u0 := plain86_3 sh
  have u1 := is87 sh (.fn a b) 4
  have u2 := part88_fn0 sh a b h
  have u3 := same89 sh a c
  try simp only [Ty.row, tyAll, Tm.row, tmAll, Int.cast_ofNat_Int, Ty.srow] at u0 u1 u2 u3
  have u0' := clR.use u0
  have u1' := clR.use u1
  have u2' := clR.use u2
  have u3' := clR.use u3
  have hd : decide (a = c) = false := decide_eq_false hn
  refine run_eq (run_of (pf := p106) rfl ?_)
  unfold p106
  simp only [R.loop_eq, wp0, wp1, wp2, wp3, wp4, PV.cellsT, appMax, dropSh, fillB, fillS, putD, splice, src, startSt, Int.reduceAdd, Int.reduceEq, Int.reduceLE, Int.reduceLT, Int.reduceNeg, Int.reduceSub, Int.reduceToNat, Nat.reduceAdd, Nat.reduceDiv, Nat.reduceEqDiff, Nat.reduceLT, Nat.reduceLeDiff, Nat.reduceMod, Nat.reduceMul, Nat.reduceSub, eq_self, if_false, if_true, ite_false, ite_true, reduceIte, Ty.row, tyAll, u0', u1', u2', u3', Tm.row, tmAll, Ty.srow, z3, hd]
theorem node_recu (sh : Sh) (x y z : Tm) (s : Ty) (h : s.nodes ≤ 64) : ∃ n, callN T G n 106 [.ag (Tm.recu s x y z).row, .ag ((s).srow ++ (Ty.fn .nat (Ty.fn s s)).srow ++ (Ty.nat).srow)] sh = some (.tup [.ag s.srow, i64 0], sh) := by
  have u0 := plain86_6 sh
  have u1 := of71 sh s h
  have u2 := same89 sh s s
  have u3 := step90_rec sh s x y z
  have u4 := sameType sh (Ty.fn .nat (Ty.fn s s)) (Ty.fn .nat (Ty.fn s s))
  have u5 := is87 sh .nat 1
  try simp only [Ty.row, tyAll, Tm.row, tmAll, Int.cast_ofNat_Int, Ty.srow] at u0 u1 u2 u3 u4 u5
  have u0' := clR.use u0
  have u1' := clR.use u1
  have u2' := clR.use u2
  have u3' := clR.use u3
  have u4' := clR.use u4
  have u5' := clR.use u5
  refine run_eq (run_of (pf := p106) rfl ?_)
  unfold p106
  simp only [R.loop_eq, wp0, wp1, wp2, wp3, wp4, PV.cellsT, appMax, dropSh, fillB, fillS, putD, splice, src, startSt, Int.reduceAdd, Int.reduceEq, Int.reduceLE, Int.reduceLT, Int.reduceNeg, Int.reduceSub, Int.reduceToNat, Nat.reduceAdd, Nat.reduceDiv, Nat.reduceEqDiff, Nat.reduceLT, Nat.reduceLeDiff, Nat.reduceMod, Nat.reduceMul, Nat.reduceSub, eq_self, if_false, if_true, ite_false, ite_true, reduceIte, Ty.row, tyAll, u0', u1', u2', u3', u4', u5', Tm.row, tmAll, Ty.srow, z3]
theorem node_fold (sh : Sh) (x y z : Tm) (s : Ty) (h : s.nodes ≤ 64) : ∃ n, callN T G n 106 [.ag (Tm.fold s x y z).row, .ag ((s).srow ++ (Ty.fn .nat (Ty.fn .list (Ty.fn s s))).srow ++ (Ty.list).srow)] sh = some (.tup [.ag s.srow, i64 0], sh) := by
  have u0 := plain86_9 sh
  have u1 := of71 sh s h
  have u2 := same89 sh s s
  have u3 := step90_fold sh s x y z
  have u4 := sameType sh (Ty.fn .nat (Ty.fn .list (Ty.fn s s))) (Ty.fn .nat (Ty.fn .list (Ty.fn s s)))
  have u5 := is87 sh .list 2
  try simp only [Ty.row, tyAll, Tm.row, tmAll, Int.cast_ofNat_Int, Ty.srow] at u0 u1 u2 u3 u4 u5
  have u0' := clR.use u0
  have u1' := clR.use u1
  have u2' := clR.use u2
  have u3' := clR.use u3
  have u4' := clR.use u4
  have u5' := clR.use u5
  refine run_eq (run_of (pf := p106) rfl ?_)
  unfold p106
  simp only [R.loop_eq, wp0, wp1, wp2, wp3, wp4, PV.cellsT, appMax, dropSh, fillB, fillS, putD, splice, src, startSt, Int.reduceAdd, Int.reduceEq, Int.reduceLE, Int.reduceLT, Int.reduceNeg, Int.reduceSub, Int.reduceToNat, Nat.reduceAdd, Nat.reduceDiv, Nat.reduceEqDiff, Nat.reduceLT, Nat.reduceLeDiff, Nat.reduceMod, Nat.reduceMul, Nat.reduceSub, eq_self, if_false, if_true, ite_false, ite_true, reduceIte, Ty.row, tyAll, u0', u1', u2', u3', u4', u5', Tm.row, tmAll, Ty.srow, z3]
theorem node_pair (sh : Sh) (x y : Tm) (a b : Ty) (h : (Ty.pair a b).nodes ≤ 64) : ∃ n, callN T G n 106 [.ag (Tm.pair x y).row, .ag ((a).srow ++ (b).srow ++ z3)] sh = some (.tup [.ag (Ty.pair a b).srow, i64 0], sh) := by
  have u0 := plain86_10 sh
  have u1 := join72_pair sh a b h
  try simp only [Ty.row, tyAll, Tm.row, tmAll, Int.cast_ofNat_Int, Ty.srow] at u0 u1
  have u0' := clR.use u0
  have u1' := clR.use u1
  refine run_eq (run_of (pf := p106) rfl ?_)
  unfold p106
  simp only [R.loop_eq, wp0, wp1, wp2, wp3, wp4, PV.cellsT, appMax, dropSh, fillB, fillS, putD, splice, src, startSt, Int.reduceAdd, Int.reduceEq, Int.reduceLE, Int.reduceLT, Int.reduceNeg, Int.reduceSub, Int.reduceToNat, Nat.reduceAdd, Nat.reduceDiv, Nat.reduceEqDiff, Nat.reduceLT, Nat.reduceLeDiff, Nat.reduceMod, Nat.reduceMul, Nat.reduceSub, eq_self, if_false, if_true, ite_false, ite_true, reduceIte, Ty.row, tyAll, u0', u1', Tm.row, tmAll, Ty.srow, z3]
theorem node_fst (sh : Sh) (x : Tm) (a b : Ty) (h : (Ty.pair a b).nodes ≤ 64) : ∃ n, callN T G n 106 [.ag (Tm.fst x).row, .ag ((Ty.pair a b).srow ++ z3 ++ z3)] sh = some (.tup [.ag a.srow, i64 0], sh) := by
  have u0 := plain86_11 sh
  have u1 := is87 sh (.pair a b) 3
  have u2 := part88_pair0 sh a b h
  try simp only [Ty.row, tyAll, Tm.row, tmAll, Int.cast_ofNat_Int, Ty.srow] at u0 u1 u2
  have u0' := clR.use u0
  have u1' := clR.use u1
  have u2' := clR.use u2
  refine run_eq (run_of (pf := p106) rfl ?_)
  unfold p106
  simp only [R.loop_eq, wp0, wp1, wp2, wp3, wp4, PV.cellsT, appMax, dropSh, fillB, fillS, putD, splice, src, startSt, Int.reduceAdd, Int.reduceEq, Int.reduceLE, Int.reduceLT, Int.reduceNeg, Int.reduceSub, Int.reduceToNat, Nat.reduceAdd, Nat.reduceDiv, Nat.reduceEqDiff, Nat.reduceLT, Nat.reduceLeDiff, Nat.reduceMod, Nat.reduceMul, Nat.reduceSub, eq_self, if_false, if_true, ite_false, ite_true, reduceIte, Ty.row, tyAll, u0', u1', u2', Tm.row, tmAll, Ty.srow, z3]
theorem node_snd (sh : Sh) (x : Tm) (a b : Ty) (h : (Ty.pair a b).nodes ≤ 64) : ∃ n, callN T G n 106 [.ag (Tm.snd x).row, .ag ((Ty.pair a b).srow ++ z3 ++ z3)] sh = some (.tup [.ag b.srow, i64 0], sh) := by
  have u0 := plain86_12 sh
  have u1 := is87 sh (.pair a b) 3
  have u2 := part88_pair1 sh a b h
  try simp only [Ty.row, tyAll, Tm.row, tmAll, Int.cast_ofNat_Int, Ty.srow] at u0 u1 u2
  have u0' := clR.use u0
  have u1' := clR.use u1
  have u2' := clR.use u2
  refine run_eq (run_of (pf := p106) rfl ?_)
  unfold p106
  simp only [R.loop_eq, wp0, wp1, wp2, wp3, wp4, PV.cellsT, appMax, dropSh, fillB, fillS, putD, splice, src, startSt, Int.reduceAdd, Int.reduceEq, Int.reduceLE, Int.reduceLT, Int.reduceNeg, Int.reduceSub, Int.reduceToNat, Nat.reduceAdd, Nat.reduceDiv, Nat.reduceEqDiff, Nat.reduceLT, Nat.reduceLeDiff, Nat.reduceMod, Nat.reduceMul, Nat.reduceSub, eq_self, if_false, if_true, ite_false, ite_true, reduceIte, Ty.row, tyAll, u0', u1', u2', Tm.row, tmAll, Ty.srow, z3]
end Go.Pi.Terms

set_option maxRecDepth 100000
set_option maxHeartbeats 1000000
set_option linter.unusedSimpArgs false
set_option linter.unusedVariables false
namespace Go.Pi.Terms
open Go Go.Pi Go.Proofs.YtoljfmfmdghoeaaGreatDoor
/-- The types that a term names are small. -/
def Tm.ok : Tm → Prop
  | .var i => True
  | .lam s a => s.nodes ≤ 64 ∧ a.ok
  | .app a b => a.ok ∧ b.ok
  | .zero => True
  | .succ a => a.ok
  | .recu s a b c => s.nodes ≤ 64 ∧ a.ok ∧ b.ok ∧ c.ok
  | .nil => True
  | .cons a b => a.ok ∧ b.ok
  | .fold s a b c => s.nodes ≤ 64 ∧ a.ok ∧ b.ok ∧ c.ok
  | .pair a b => a.ok ∧ b.ok
  | .fst a => a.ok
  | .snd a => a.ok
  | .unit => True
theorem termNodes (sh : Sh) : ∀ t : Tm, t.ok → t.size ≤ 100000 → ∃ n, callN T G n 116 [.ag t.row] sh = some (.tup [i64 t.size, .v (.bool true)], sh) := by
  intro t
  induction t with
  | var i =>
    intro ho hs
    simp only [Tm.ok] at ho
    simp only [Tm.size] at hs
    by_cases hi : (i : Int) = 0
    · have u0 := arity sh 1 (by omega)
      have u1 := typedK sh 1 (by omega)
      have u2 := noType sh
      try simp only [Ty.row, tyAll, Tm.row, tmAll, Int.cast_ofNat_Int, arT, List.getD_cons_zero, List.getD_cons_succ, Int.reduceToNat, Int.reduceEq, or_true, true_or, or_false, false_or, decide_true, decide_false, Int.toNat_one, or_self] at u0 u1 u2
      have u0' := clR.use u0
      have u1' := clR.use u1
      have u2' := clR.use u2
      have e1 : ((i : Int) < 0) = False := by simp only [eq_iff_iff, iff_false]; omega
      refine run_eq (run_of (pf := p116) rfl ?_)
      unfold p116
      simp only [R.loop_eq, wp0, wp1, wp2, wp3, wp4, PV.cellsT, appMax, dropSh, fillB, fillS, putD, splice, src, startSt, Int.reduceAdd, Int.reduceEq, Int.reduceLE, Int.reduceLT, Int.reduceNeg, Int.reduceSub, Int.reduceToNat, Nat.reduceAdd, Nat.reduceDiv, Nat.reduceEqDiff, Nat.reduceLT, Nat.reduceLeDiff, Nat.reduceMod, Nat.reduceMul, Nat.reduceSub, eq_self, if_false, if_true, ite_false, ite_true, reduceIte, Ty.row, tyAll, u0', u1', u2', Tm.row, tmAll, arT, Tm.size, Int.natCast_add, Int.toNat_one, e1, hi]
    · have u0 := arity sh 1 (by omega)
      have u1 := typedK sh 1 (by omega)
      have u2 := noType sh
      try simp only [Ty.row, tyAll, Tm.row, tmAll, Int.cast_ofNat_Int, arT, List.getD_cons_zero, List.getD_cons_succ, Int.reduceToNat, Int.reduceEq, or_true, true_or, or_false, false_or, decide_true, decide_false, Int.toNat_one, or_self] at u0 u1 u2
      have u0' := clR.use u0
      have u1' := clR.use u1
      have u2' := clR.use u2
      have e1 : ((i : Int) < 0) = False := by simp only [eq_iff_iff, iff_false]; omega
      refine run_eq (run_of (pf := p116) rfl ?_)
      unfold p116
      simp only [R.loop_eq, wp0, wp1, wp2, wp3, wp4, PV.cellsT, appMax, dropSh, fillB, fillS, putD, splice, src, startSt, Int.reduceAdd, Int.reduceEq, Int.reduceLE, Int.reduceLT, Int.reduceNeg, Int.reduceSub, Int.reduceToNat, Nat.reduceAdd, Nat.reduceDiv, Nat.reduceEqDiff, Nat.reduceLT, Nat.reduceLeDiff, Nat.reduceMod, Nat.reduceMul, Nat.reduceSub, eq_self, if_false, if_true, ite_false, ite_true, reduceIte, Ty.row, tyAll, u0', u1', u2', Tm.row, tmAll, arT, Tm.size, Int.natCast_add, Int.toNat_one, e1, hi]
  | lam s a iha =>
    intro ho hs
    simp only [Tm.ok] at ho
    simp only [Tm.size] at hs
    have u0 := arity sh 2 (by omega)
    have u1 := typedK sh 2 (by omega)
    have u2 := checkType sh s ho.1
    have u3 := iha ho.2 (by omega)
    try simp only [Ty.row, tyAll, Tm.row, tmAll, Int.cast_ofNat_Int, arT, List.getD_cons_zero, List.getD_cons_succ, Int.reduceToNat, Int.reduceEq, or_true, true_or, or_false, false_or, decide_true, decide_false, Int.toNat_one, or_self] at u0 u1 u2 u3
    have u0' := clR.use u0
    have u1' := clR.use u1
    have u2' := clR.use u2
    have u3' := clR.use u3
    have w0 : IntKind.i64.wrap (1 + (a.size : Int)) = 1 + (a.size : Int) := wrap_i64 (by omega)
    refine run_eq (run_of (pf := p116) rfl ?_)
    unfold p116
    simp only [R.loop_eq, wp0, wp1, wp2, wp3, wp4, PV.cellsT, appMax, dropSh, fillB, fillS, putD, splice, src, startSt, Int.reduceAdd, Int.reduceEq, Int.reduceLE, Int.reduceLT, Int.reduceNeg, Int.reduceSub, Int.reduceToNat, Nat.reduceAdd, Nat.reduceDiv, Nat.reduceEqDiff, Nat.reduceLT, Nat.reduceLeDiff, Nat.reduceMod, Nat.reduceMul, Nat.reduceSub, eq_self, if_false, if_true, ite_false, ite_true, reduceIte, Ty.row, tyAll, u0', u1', u2', u3', Tm.row, tmAll, w0, arT, Tm.size, Int.natCast_add, Int.toNat_one]
  | app a b iha ihb =>
    intro ho hs
    simp only [Tm.ok] at ho
    simp only [Tm.size] at hs
    have u0 := arity sh 3 (by omega)
    have u1 := typedK sh 3 (by omega)
    have u2 := noType sh
    have u3 := iha ho.1 (by omega)
    have u4 := ihb ho.2 (by omega)
    try simp only [Ty.row, tyAll, Tm.row, tmAll, Int.cast_ofNat_Int, arT, List.getD_cons_zero, List.getD_cons_succ, Int.reduceToNat, Int.reduceEq, or_true, true_or, or_false, false_or, decide_true, decide_false, Int.toNat_one, or_self] at u0 u1 u2 u3 u4
    have u0' := clR.use u0
    have u1' := clR.use u1
    have u2' := clR.use u2
    have u3' := clR.use u3
    have u4' := clR.use u4
    have w0 : IntKind.i64.wrap (1 + (a.size : Int)) = 1 + (a.size : Int) := wrap_i64 (by omega)
    have w1 : IntKind.i64.wrap (1 + (a.size : Int) + (b.size : Int)) = 1 + (a.size : Int) + (b.size : Int) := wrap_i64 (by omega)
    refine run_eq (run_of (pf := p116) rfl ?_)
    unfold p116
    simp only [R.loop_eq, wp0, wp1, wp2, wp3, wp4, PV.cellsT, appMax, dropSh, fillB, fillS, putD, splice, src, startSt, Int.reduceAdd, Int.reduceEq, Int.reduceLE, Int.reduceLT, Int.reduceNeg, Int.reduceSub, Int.reduceToNat, Nat.reduceAdd, Nat.reduceDiv, Nat.reduceEqDiff, Nat.reduceLT, Nat.reduceLeDiff, Nat.reduceMod, Nat.reduceMul, Nat.reduceSub, eq_self, if_false, if_true, ite_false, ite_true, reduceIte, Ty.row, tyAll, u0', u1', u2', u3', u4', Tm.row, tmAll, w0, w1, arT, Tm.size, Int.natCast_add, Int.toNat_one]
  | zero =>
    intro ho hs
    simp only [Tm.ok] at ho
    simp only [Tm.size] at hs
    have u0 := arity sh 4 (by omega)
    have u1 := typedK sh 4 (by omega)
    have u2 := noType sh
    try simp only [Ty.row, tyAll, Tm.row, tmAll, Int.cast_ofNat_Int, arT, List.getD_cons_zero, List.getD_cons_succ, Int.reduceToNat, Int.reduceEq, or_true, true_or, or_false, false_or, decide_true, decide_false, Int.toNat_one, or_self] at u0 u1 u2
    have u0' := clR.use u0
    have u1' := clR.use u1
    have u2' := clR.use u2
    refine run_eq (run_of (pf := p116) rfl ?_)
    unfold p116
    simp only [R.loop_eq, wp0, wp1, wp2, wp3, wp4, PV.cellsT, appMax, dropSh, fillB, fillS, putD, splice, src, startSt, Int.reduceAdd, Int.reduceEq, Int.reduceLE, Int.reduceLT, Int.reduceNeg, Int.reduceSub, Int.reduceToNat, Nat.reduceAdd, Nat.reduceDiv, Nat.reduceEqDiff, Nat.reduceLT, Nat.reduceLeDiff, Nat.reduceMod, Nat.reduceMul, Nat.reduceSub, eq_self, if_false, if_true, ite_false, ite_true, reduceIte, Ty.row, tyAll, u0', u1', u2', Tm.row, tmAll, arT, Tm.size, Int.natCast_add, Int.toNat_one]
  | succ a iha =>
    intro ho hs
    simp only [Tm.ok] at ho
    simp only [Tm.size] at hs
    have u0 := arity sh 5 (by omega)
    have u1 := typedK sh 5 (by omega)
    have u2 := noType sh
    have u3 := iha ho (by omega)
    try simp only [Ty.row, tyAll, Tm.row, tmAll, Int.cast_ofNat_Int, arT, List.getD_cons_zero, List.getD_cons_succ, Int.reduceToNat, Int.reduceEq, or_true, true_or, or_false, false_or, decide_true, decide_false, Int.toNat_one, or_self] at u0 u1 u2 u3
    have u0' := clR.use u0
    have u1' := clR.use u1
    have u2' := clR.use u2
    have u3' := clR.use u3
    have w0 : IntKind.i64.wrap (1 + (a.size : Int)) = 1 + (a.size : Int) := wrap_i64 (by omega)
    refine run_eq (run_of (pf := p116) rfl ?_)
    unfold p116
    simp only [R.loop_eq, wp0, wp1, wp2, wp3, wp4, PV.cellsT, appMax, dropSh, fillB, fillS, putD, splice, src, startSt, Int.reduceAdd, Int.reduceEq, Int.reduceLE, Int.reduceLT, Int.reduceNeg, Int.reduceSub, Int.reduceToNat, Nat.reduceAdd, Nat.reduceDiv, Nat.reduceEqDiff, Nat.reduceLT, Nat.reduceLeDiff, Nat.reduceMod, Nat.reduceMul, Nat.reduceSub, eq_self, if_false, if_true, ite_false, ite_true, reduceIte, Ty.row, tyAll, u0', u1', u2', u3', Tm.row, tmAll, w0, arT, Tm.size, Int.natCast_add, Int.toNat_one]
  | recu s a b c iha ihb ihc =>
    intro ho hs
    simp only [Tm.ok] at ho
    simp only [Tm.size] at hs
    have u0 := arity sh 6 (by omega)
    have u1 := typedK sh 6 (by omega)
    have u2 := checkType sh s ho.1
    have u3 := iha ho.2.1 (by omega)
    have u4 := ihb ho.2.2.1 (by omega)
    have u5 := ihc ho.2.2.2 (by omega)
    try simp only [Ty.row, tyAll, Tm.row, tmAll, Int.cast_ofNat_Int, arT, List.getD_cons_zero, List.getD_cons_succ, Int.reduceToNat, Int.reduceEq, or_true, true_or, or_false, false_or, decide_true, decide_false, Int.toNat_one, or_self] at u0 u1 u2 u3 u4 u5
    have u0' := clR.use u0
    have u1' := clR.use u1
    have u2' := clR.use u2
    have u3' := clR.use u3
    have u4' := clR.use u4
    have u5' := clR.use u5
    have w0 : IntKind.i64.wrap (1 + (a.size : Int)) = 1 + (a.size : Int) := wrap_i64 (by omega)
    have w1 : IntKind.i64.wrap (1 + (a.size : Int) + (b.size : Int)) = 1 + (a.size : Int) + (b.size : Int) := wrap_i64 (by omega)
    have w2 : IntKind.i64.wrap (1 + (a.size : Int) + (b.size : Int) + (c.size : Int)) = 1 + (a.size : Int) + (b.size : Int) + (c.size : Int) := wrap_i64 (by omega)
    refine run_eq (run_of (pf := p116) rfl ?_)
    unfold p116
    simp only [R.loop_eq, wp0, wp1, wp2, wp3, wp4, PV.cellsT, appMax, dropSh, fillB, fillS, putD, splice, src, startSt, Int.reduceAdd, Int.reduceEq, Int.reduceLE, Int.reduceLT, Int.reduceNeg, Int.reduceSub, Int.reduceToNat, Nat.reduceAdd, Nat.reduceDiv, Nat.reduceEqDiff, Nat.reduceLT, Nat.reduceLeDiff, Nat.reduceMod, Nat.reduceMul, Nat.reduceSub, eq_self, if_false, if_true, ite_false, ite_true, reduceIte, Ty.row, tyAll, u0', u1', u2', u3', u4', u5', Tm.row, tmAll, w0, w1, w2, arT, Tm.size, Int.natCast_add, Int.toNat_one]
  | nil =>
    intro ho hs
    simp only [Tm.ok] at ho
    simp only [Tm.size] at hs
    have u0 := arity sh 7 (by omega)
    have u1 := typedK sh 7 (by omega)
    have u2 := noType sh
    try simp only [Ty.row, tyAll, Tm.row, tmAll, Int.cast_ofNat_Int, arT, List.getD_cons_zero, List.getD_cons_succ, Int.reduceToNat, Int.reduceEq, or_true, true_or, or_false, false_or, decide_true, decide_false, Int.toNat_one, or_self] at u0 u1 u2
    have u0' := clR.use u0
    have u1' := clR.use u1
    have u2' := clR.use u2
    refine run_eq (run_of (pf := p116) rfl ?_)
    unfold p116
    simp only [R.loop_eq, wp0, wp1, wp2, wp3, wp4, PV.cellsT, appMax, dropSh, fillB, fillS, putD, splice, src, startSt, Int.reduceAdd, Int.reduceEq, Int.reduceLE, Int.reduceLT, Int.reduceNeg, Int.reduceSub, Int.reduceToNat, Nat.reduceAdd, Nat.reduceDiv, Nat.reduceEqDiff, Nat.reduceLT, Nat.reduceLeDiff, Nat.reduceMod, Nat.reduceMul, Nat.reduceSub, eq_self, if_false, if_true, ite_false, ite_true, reduceIte, Ty.row, tyAll, u0', u1', u2', Tm.row, tmAll, arT, Tm.size, Int.natCast_add, Int.toNat_one]
  | cons a b iha ihb =>
    intro ho hs
    simp only [Tm.ok] at ho
    simp only [Tm.size] at hs
    have u0 := arity sh 8 (by omega)
    have u1 := typedK sh 8 (by omega)
    have u2 := noType sh
    have u3 := iha ho.1 (by omega)
    have u4 := ihb ho.2 (by omega)
    try simp only [Ty.row, tyAll, Tm.row, tmAll, Int.cast_ofNat_Int, arT, List.getD_cons_zero, List.getD_cons_succ, Int.reduceToNat, Int.reduceEq, or_true, true_or, or_false, false_or, decide_true, decide_false, Int.toNat_one, or_self] at u0 u1 u2 u3 u4
    have u0' := clR.use u0
    have u1' := clR.use u1
    have u2' := clR.use u2
    have u3' := clR.use u3
    have u4' := clR.use u4
    have w0 : IntKind.i64.wrap (1 + (a.size : Int)) = 1 + (a.size : Int) := wrap_i64 (by omega)
    have w1 : IntKind.i64.wrap (1 + (a.size : Int) + (b.size : Int)) = 1 + (a.size : Int) + (b.size : Int) := wrap_i64 (by omega)
    refine run_eq (run_of (pf := p116) rfl ?_)
    unfold p116
    simp only [R.loop_eq, wp0, wp1, wp2, wp3, wp4, PV.cellsT, appMax, dropSh, fillB, fillS, putD, splice, src, startSt, Int.reduceAdd, Int.reduceEq, Int.reduceLE, Int.reduceLT, Int.reduceNeg, Int.reduceSub, Int.reduceToNat, Nat.reduceAdd, Nat.reduceDiv, Nat.reduceEqDiff, Nat.reduceLT, Nat.reduceLeDiff, Nat.reduceMod, Nat.reduceMul, Nat.reduceSub, eq_self, if_false, if_true, ite_false, ite_true, reduceIte, Ty.row, tyAll, u0', u1', u2', u3', u4', Tm.row, tmAll, w0, w1, arT, Tm.size, Int.natCast_add, Int.toNat_one]
  | fold s a b c iha ihb ihc =>
    intro ho hs
    simp only [Tm.ok] at ho
    simp only [Tm.size] at hs
    have u0 := arity sh 9 (by omega)
    have u1 := typedK sh 9 (by omega)
    have u2 := checkType sh s ho.1
    have u3 := iha ho.2.1 (by omega)
    have u4 := ihb ho.2.2.1 (by omega)
    have u5 := ihc ho.2.2.2 (by omega)
    try simp only [Ty.row, tyAll, Tm.row, tmAll, Int.cast_ofNat_Int, arT, List.getD_cons_zero, List.getD_cons_succ, Int.reduceToNat, Int.reduceEq, or_true, true_or, or_false, false_or, decide_true, decide_false, Int.toNat_one, or_self] at u0 u1 u2 u3 u4 u5
    have u0' := clR.use u0
    have u1' := clR.use u1
    have u2' := clR.use u2
    have u3' := clR.use u3
    have u4' := clR.use u4
    have u5' := clR.use u5
    have w0 : IntKind.i64.wrap (1 + (a.size : Int)) = 1 + (a.size : Int) := wrap_i64 (by omega)
    have w1 : IntKind.i64.wrap (1 + (a.size : Int) + (b.size : Int)) = 1 + (a.size : Int) + (b.size : Int) := wrap_i64 (by omega)
    have w2 : IntKind.i64.wrap (1 + (a.size : Int) + (b.size : Int) + (c.size : Int)) = 1 + (a.size : Int) + (b.size : Int) + (c.size : Int) := wrap_i64 (by omega)
    refine run_eq (run_of (pf := p116) rfl ?_)
    unfold p116
    simp only [R.loop_eq, wp0, wp1, wp2, wp3, wp4, PV.cellsT, appMax, dropSh, fillB, fillS, putD, splice, src, startSt, Int.reduceAdd, Int.reduceEq, Int.reduceLE, Int.reduceLT, Int.reduceNeg, Int.reduceSub, Int.reduceToNat, Nat.reduceAdd, Nat.reduceDiv, Nat.reduceEqDiff, Nat.reduceLT, Nat.reduceLeDiff, Nat.reduceMod, Nat.reduceMul, Nat.reduceSub, eq_self, if_false, if_true, ite_false, ite_true, reduceIte, Ty.row, tyAll, u0', u1', u2', u3', u4', u5', Tm.row, tmAll, w0, w1, w2, arT, Tm.size, Int.natCast_add, Int.toNat_one]
  | pair a b iha ihb =>
    intro ho hs
    simp only [Tm.ok] at ho
    simp only [Tm.size] at hs
    have u0 := arity sh 10 (by omega)
    have u1 := typedK sh 10 (by omega)
    have u2 := noType sh
    have u3 := iha ho.1 (by omega)
    have u4 := ihb ho.2 (by omega)
    try simp only [Ty.row, tyAll, Tm.row, tmAll, Int.cast_ofNat_Int, arT, List.getD_cons_zero, List.getD_cons_succ, Int.reduceToNat, Int.reduceEq, or_true, true_or, or_false, false_or, decide_true, decide_false, Int.toNat_one, or_self] at u0 u1 u2 u3 u4
    have u0' := clR.use u0
    have u1' := clR.use u1
    have u2' := clR.use u2
    have u3' := clR.use u3
    have u4' := clR.use u4
    have w0 : IntKind.i64.wrap (1 + (a.size : Int)) = 1 + (a.size : Int) := wrap_i64 (by omega)
    have w1 : IntKind.i64.wrap (1 + (a.size : Int) + (b.size : Int)) = 1 + (a.size : Int) + (b.size : Int) := wrap_i64 (by omega)
    refine run_eq (run_of (pf := p116) rfl ?_)
    unfold p116
    simp only [R.loop_eq, wp0, wp1, wp2, wp3, wp4, PV.cellsT, appMax, dropSh, fillB, fillS, putD, splice, src, startSt, Int.reduceAdd, Int.reduceEq, Int.reduceLE, Int.reduceLT, Int.reduceNeg, Int.reduceSub, Int.reduceToNat, Nat.reduceAdd, Nat.reduceDiv, Nat.reduceEqDiff, Nat.reduceLT, Nat.reduceLeDiff, Nat.reduceMod, Nat.reduceMul, Nat.reduceSub, eq_self, if_false, if_true, ite_false, ite_true, reduceIte, Ty.row, tyAll, u0', u1', u2', u3', u4', Tm.row, tmAll, w0, w1, arT, Tm.size, Int.natCast_add, Int.toNat_one]
  | fst a iha =>
    intro ho hs
    simp only [Tm.ok] at ho
    simp only [Tm.size] at hs
    have u0 := arity sh 11 (by omega)
    have u1 := typedK sh 11 (by omega)
    have u2 := noType sh
    have u3 := iha ho (by omega)
    try simp only [Ty.row, tyAll, Tm.row, tmAll, Int.cast_ofNat_Int, arT, List.getD_cons_zero, List.getD_cons_succ, Int.reduceToNat, Int.reduceEq, or_true, true_or, or_false, false_or, decide_true, decide_false, Int.toNat_one, or_self] at u0 u1 u2 u3
    have u0' := clR.use u0
    have u1' := clR.use u1
    have u2' := clR.use u2
    have u3' := clR.use u3
    have w0 : IntKind.i64.wrap (1 + (a.size : Int)) = 1 + (a.size : Int) := wrap_i64 (by omega)
    refine run_eq (run_of (pf := p116) rfl ?_)
    unfold p116
    simp only [R.loop_eq, wp0, wp1, wp2, wp3, wp4, PV.cellsT, appMax, dropSh, fillB, fillS, putD, splice, src, startSt, Int.reduceAdd, Int.reduceEq, Int.reduceLE, Int.reduceLT, Int.reduceNeg, Int.reduceSub, Int.reduceToNat, Nat.reduceAdd, Nat.reduceDiv, Nat.reduceEqDiff, Nat.reduceLT, Nat.reduceLeDiff, Nat.reduceMod, Nat.reduceMul, Nat.reduceSub, eq_self, if_false, if_true, ite_false, ite_true, reduceIte, Ty.row, tyAll, u0', u1', u2', u3', Tm.row, tmAll, w0, arT, Tm.size, Int.natCast_add, Int.toNat_one]
  | snd a iha =>
    intro ho hs
    simp only [Tm.ok] at ho
    simp only [Tm.size] at hs
    have u0 := arity sh 12 (by omega)
    have u1 := typedK sh 12 (by omega)
    have u2 := noType sh
    have u3 := iha ho (by omega)
    try simp only [Ty.row, tyAll, Tm.row, tmAll, Int.cast_ofNat_Int, arT, List.getD_cons_zero, List.getD_cons_succ, Int.reduceToNat, Int.reduceEq, or_true, true_or, or_false, false_or, decide_true, decide_false, Int.toNat_one, or_self] at u0 u1 u2 u3
    have u0' := clR.use u0
    have u1' := clR.use u1
    have u2' := clR.use u2
    have u3' := clR.use u3
    have w0 : IntKind.i64.wrap (1 + (a.size : Int)) = 1 + (a.size : Int) := wrap_i64 (by omega)
    refine run_eq (run_of (pf := p116) rfl ?_)
    unfold p116
    simp only [R.loop_eq, wp0, wp1, wp2, wp3, wp4, PV.cellsT, appMax, dropSh, fillB, fillS, putD, splice, src, startSt, Int.reduceAdd, Int.reduceEq, Int.reduceLE, Int.reduceLT, Int.reduceNeg, Int.reduceSub, Int.reduceToNat, Nat.reduceAdd, Nat.reduceDiv, Nat.reduceEqDiff, Nat.reduceLT, Nat.reduceLeDiff, Nat.reduceMod, Nat.reduceMul, Nat.reduceSub, eq_self, if_false, if_true, ite_false, ite_true, reduceIte, Ty.row, tyAll, u0', u1', u2', u3', Tm.row, tmAll, w0, arT, Tm.size, Int.natCast_add, Int.toNat_one]
  | unit =>
    intro ho hs
    simp only [Tm.ok] at ho
    simp only [Tm.size] at hs
    have u0 := arity sh 13 (by omega)
    have u1 := typedK sh 13 (by omega)
    have u2 := noType sh
    try simp only [Ty.row, tyAll, Tm.row, tmAll, Int.cast_ofNat_Int, arT, List.getD_cons_zero, List.getD_cons_succ, Int.reduceToNat, Int.reduceEq, or_true, true_or, or_false, false_or, decide_true, decide_false, Int.toNat_one, or_self] at u0 u1 u2
    have u0' := clR.use u0
    have u1' := clR.use u1
    have u2' := clR.use u2
    refine run_eq (run_of (pf := p116) rfl ?_)
    unfold p116
    simp only [R.loop_eq, wp0, wp1, wp2, wp3, wp4, PV.cellsT, appMax, dropSh, fillB, fillS, putD, splice, src, startSt, Int.reduceAdd, Int.reduceEq, Int.reduceLE, Int.reduceLT, Int.reduceNeg, Int.reduceSub, Int.reduceToNat, Nat.reduceAdd, Nat.reduceDiv, Nat.reduceEqDiff, Nat.reduceLT, Nat.reduceLeDiff, Nat.reduceMod, Nat.reduceMul, Nat.reduceSub, eq_self, if_false, if_true, ite_false, ite_true, reduceIte, Ty.row, tyAll, u0', u1', u2', Tm.row, tmAll, arT, Tm.size, Int.natCast_add, Int.toNat_one]
theorem checkTerm (sh : Sh) (t : Tm) (ho : t.ok) (h : t.size ≤ 4096) : ∃ n, callN T G n 91 [.ag t.row] sh = some (.tup [i64 t.size, i64 0], sh) := by
  have u0 := termNodes sh t ho (by omega)
  try simp only [Ty.row, tyAll, Tm.row, tmAll, Int.cast_ofNat_Int, Ty.srow] at u0
  have u0' := clR.use u0
  have h1 : ¬ (4096 : Int) < (t.size : Int) := by omega
  refine run_eq (run_of (pf := p91) rfl ?_)
  unfold p91
  simp only [R.loop_eq, wp0, wp1, wp2, wp3, wp4, PV.cellsT, appMax, dropSh, fillB, fillS, putD, splice, src, startSt, Int.reduceAdd, Int.reduceEq, Int.reduceLE, Int.reduceLT, Int.reduceNeg, Int.reduceSub, Int.reduceToNat, Nat.reduceAdd, Nat.reduceDiv, Nat.reduceEqDiff, Nat.reduceLT, Nat.reduceLeDiff, Nat.reduceMod, Nat.reduceMul, Nat.reduceSub, eq_self, if_false, if_true, ite_false, ite_true, reduceIte, Ty.row, tyAll, u0', Tm.row, tmAll, Ty.srow, h1]
theorem check27 (sh : Sh) (t : Tm) (ho : t.ok) (h : t.size ≤ 4096) : ∃ n, callN T G n 52 [.ag t.row] sh = some (i64 0, sh) := by
  have u0 := checkTerm sh t ho h
  try simp only [Ty.row, tyAll, Tm.row, tmAll, Int.cast_ofNat_Int, Ty.srow] at u0
  have u0' := clR.use u0
  refine run_eq (run_of (pf := p52) rfl ?_)
  unfold p52
  simp only [R.loop_eq, wp0, wp1, wp2, wp3, wp4, PV.cellsT, appMax, dropSh, fillB, fillS, putD, splice, src, startSt, Int.reduceAdd, Int.reduceEq, Int.reduceLE, Int.reduceLT, Int.reduceNeg, Int.reduceSub, Int.reduceToNat, Nat.reduceAdd, Nat.reduceDiv, Nat.reduceEqDiff, Nat.reduceLT, Nat.reduceLeDiff, Nat.reduceMod, Nat.reduceMul, Nat.reduceSub, eq_self, if_false, if_true, ite_false, ite_true, reduceIte, Ty.row, tyAll, u0', Tm.row, tmAll, Ty.srow]
end Go.Pi.Terms

set_option maxRecDepth 100000
set_option maxHeartbeats 1000000
set_option linter.unusedSimpArgs false
set_option linter.unusedVariables false
namespace Go.Pi.Terms
open Go Go.Pi Go.Proofs.YtoljfmfmdghoeaaGreatDoor
def b46_0 : PC := (.seq (.ops [⟨.bin .lss,[.s 11,.s 10],some 12,none,none⟩]) (.seq (.cond (.s 12) .skip (.exit 0)) (.seq (.block 1 (.seq (.ops [⟨.ia 2,[.s 9,.s 11],some 13,none,none⟩,⟨.ldE 2 true,[.s 13],some 14,none,none⟩,⟨.alloc [.v (.int .i64 0),.sl 1 0 []],[],some 4,none,none⟩,⟨.stL 2,[.s 4,.s 14],none,some 4,none⟩]) (.seq (.ops [⟨.ldL 2 true,[.s 4],some 15,some 4,none⟩,⟨.callF 103,[.s 15],some 16,none,none⟩,⟨.mv,[.s 16],some 5,none,none⟩]) (.seq (.ops [⟨.mv,[.s 5],some 17,none,none⟩,⟨.bin .neq,[.s 17,.c (.v (.int .i64 0))],some 18,none,none⟩]) (.cond (.s 18) (.seq (.ops [⟨.mv,[.s 5],some 19,none,none⟩,⟨.mv,[.s 19],some 2,none,none⟩]) .ret) .skip))))) (.ops [⟨.bin .add,[.s 11,.c (.v (.int .i64 1))],some 20,none,none⟩,⟨.mv,[.s 20],some 11,none,none⟩]))))
theorem context_loop (g : List Ty) (zg : Nat) (hz : g ≠ [] → zg = 2) (hg : g.length ≤ 1000) (hb : ∀ t ∈ g, t.nodes ≤ 64) (sh : Sh) (lv : Nat → Bool) (tk : Nat) (k : List Fr) (Q : Out → Prop) ( x0 x1 x3 x6 x7 x8 : PV)
    (hk : ∀ ( y2 y4 y5 y12 y13 y14 y15 y16 y17 y18 y19 y20 : PV), R T G [] k ⟨[x0, x1, y2, x3, y4, y5, x6, x7, x8, .sl 0 zg (g.map Ty.row), i64 (g.length : Int), i64 (g.length : Int), y12, y13, y14, y15, y16, y17, y18, y19, y20], ⟨sh, lv, tk⟩⟩ Q) :
    ∀ (m i : Nat) ( x2 x4 x5 x12 x13 x14 x15 x16 x17 x18 x19 x20 : PV), i + m = g.length → R T G [] (.pc (.loop b46_0) :: .blk 0 :: k) ⟨[x0, x1, x2, x3, x4, x5, x6, x7, x8, .sl 0 zg (g.map Ty.row), i64 (g.length : Int), i64 (i : Int), x12, x13, x14, x15, x16, x17, x18, x19, x20], ⟨sh, lv, tk⟩⟩ Q := by
  intro m
  induction m with
  | zero =>
    intro i  x2 x4 x5 x12 x13 x14 x15 x16 x17 x18 x19 x20 hi
    have hi' : i = g.length := by omega
    subst hi'
    rw [R.loop_eq]
    unfold b46_0
    simp only [wp0, wp1, wp2, wp3, wp4, PV.cellsT, appMax, dropSh, fillB, fillS, putD, splice, src, startSt, Int.reduceAdd, Int.reduceEq, Int.reduceLE, Int.reduceLT, Int.reduceNeg, Int.reduceSub, Int.reduceToNat, Nat.reduceAdd, Nat.reduceDiv, Nat.reduceEqDiff, Nat.reduceLT, Nat.reduceLeDiff, Nat.reduceMod, Nat.reduceMul, Nat.reduceSub, eq_self, if_false, if_true, ite_false, ite_true, reduceIte, Int.lt_irrefl]
    exact hk _ _ _ _ _ _ _ _ _ _ _ _
  | succ m ih =>
    intro i  x2 x4 x5 x12 x13 x14 x15 x16 x17 x18 x19 x20 hi
    have hne : g ≠ [] := by intro e; subst e; simp at hi
    obtain rfl := hz hne
    have c1 : (i : Int) < (g.length : Int) := by omega
    have w3 : IntKind.i64.wrap ((i : Int) + 1) = ((i + 1 : Nat) : Int) := by rw [wrap_i64 (by omega)]; omega
    have c3 : (0 : Int) ≤ (i : Int) := by omega
    have c4 := getD_row g (i := i) (by omega)
    have hm : g.getD i .nat ∈ g := by
      rw [List.getD_eq_getElem?_getD, List.getElem?_eq_getElem (by omega)]
      exact List.getElem_mem _
    have u := clR.use (typesCheck sh (g.getD i .nat) (hb _ hm))
    simp only [Ty.row, tyAll] at u c4
    rw [R.loop_eq]
    unfold b46_0
    simp only [wp0, wp1, wp2, wp3, wp4, PV.cellsT, appMax, dropSh, fillB, fillS, putD, splice, src, startSt, Int.reduceAdd, Int.reduceEq, Int.reduceLE, Int.reduceLT, Int.reduceNeg, Int.reduceSub, Int.reduceToNat, Nat.reduceAdd, Nat.reduceDiv, Nat.reduceEqDiff, Nat.reduceLT, Nat.reduceLeDiff, Nat.reduceMod, Nat.reduceMul, Nat.reduceSub, eq_self, if_false, if_true, ite_false, ite_true, reduceIte, List.length_map, c1, w3, c3, c4, u, Int.toNat_natCast]
    exact ih (i + 1) _ _ _ _ _ _ _ _ _ _ _ _ (by omega)
theorem context46 (g : List Ty) (zg : Nat) (hz : g ≠ [] → zg = 2) (hg : g.length ≤ 16) (hb : ∀ t ∈ g, t.nodes ≤ 64) (sh : Sh) :
    ∃ n, callN T G n 68 [.sl 0 zg (g.map Ty.row)] sh = some (i64 0, sh) := by
  have c : ¬ (16 : Int) < (g.length : Int) := by omega
  refine run_eq (run_of (pf := p68) rfl ?_)
  unfold p68
  simp only [wp0, wp1, wp2, wp3, wp4, PV.cellsT, appMax, dropSh, fillB, fillS, putD, splice, src, startSt, Int.reduceAdd, Int.reduceEq, Int.reduceLE, Int.reduceLT, Int.reduceNeg, Int.reduceSub, Int.reduceToNat, Nat.reduceAdd, Nat.reduceDiv, Nat.reduceEqDiff, Nat.reduceLT, Nat.reduceLeDiff, Nat.reduceMod, Nat.reduceMul, Nat.reduceSub, eq_self, if_false, if_true, ite_false, ite_true, reduceIte, List.length_map, c]
  refine context_loop g zg hz (by omega) hb sh _ _ _ _ _ _ _ _ _ _ ?_ g.length 0 _ _ _ _ _ _ _ _ _ _ _ _ (by omega)
  intro  y2 y4 y5 y12 y13 y14 y15 y16 y17 y18 y19 y20
  simp only [wp0, wp1, wp2, wp3, wp4, PV.cellsT, appMax, dropSh, fillB, fillS, putD, splice, src, startSt, Int.reduceAdd, Int.reduceEq, Int.reduceLE, Int.reduceLT, Int.reduceNeg, Int.reduceSub, Int.reduceToNat, Nat.reduceAdd, Nat.reduceDiv, Nat.reduceEqDiff, Nat.reduceLT, Nat.reduceLeDiff, Nat.reduceMod, Nat.reduceMul, Nat.reduceSub, eq_self, if_false, if_true, ite_false, ite_true, reduceIte]
def b47_0 : PC := (.seq (.ops [⟨.bin .lss,[.s 8,.s 7],some 9,none,none⟩]) (.seq (.cond (.s 9) .skip (.exit 0)) (.seq (.block 1 (.seq (.ops [⟨.ia 2,[.s 6,.s 8],some 10,none,none⟩,⟨.ldE 2 true,[.s 10],some 11,none,none⟩,⟨.alloc [.v (.int .i64 0),.sl 1 0 []],[],some 5,none,none⟩,⟨.stL 2,[.s 5,.s 11],none,some 5,none⟩]) (.ops [⟨.mv,[.s 3],some 12,none,none⟩,⟨.ldL 2 true,[.s 5],some 13,some 5,none⟩,⟨.callF 104,[.s 13],some 14,none,none⟩,⟨.bslice [.v (.int .i64 0),.sl 0 0 [],.v (.int .i64 0)] 1 3 [0],[.s 14],some 15,none,none⟩,⟨.app 3,[.s 12,.s 15],some 16,none,none⟩,⟨.mv,[.s 16],some 3,none,none⟩]))) (.ops [⟨.bin .add,[.s 8,.c (.v (.int .i64 1))],some 17,none,none⟩,⟨.mv,[.s 17],some 8,none,none⟩]))))
theorem from_loop (g : List Ty) (zg : Nat) (hz : g ≠ [] → zg = 2) (hg : g.length ≤ 1000) (hb : ∀ t ∈ g, t.nodes ≤ 64) (sh : Sh) (k : List Fr) (Q : Out → Prop) ( x0 x1 x2 x4 x18 : PV)
    (hk : ∀ (tok z : Nat) (lv : Nat → Bool) (tk : Nat) ( y5 y9 y10 y11 y12 y13 y14 y15 y16 y17 : PV), (g ≠ [] → z = 3) → R T G [] k ⟨[x0, x1, x2, .sl tok z (g.map Ty.srow), x4, y5, .sl 0 zg (g.map Ty.row), i64 (g.length : Int), i64 (g.length : Int), y9, y10, y11, y12, y13, y14, y15, y16, y17, x18], ⟨sh, lv, tk⟩⟩ Q) :
    ∀ (m i : Nat) (tok z : Nat) (lv : Nat → Bool) (tk : Nat) ( x5 x9 x10 x11 x12 x13 x14 x15 x16 x17 : PV), i + m = g.length → 2 ≤ tk → Tok lv tk tok → (tok = 1 → i = 0) → (tok ≠ 1 → z = 3) → R T G [] (.pc (.loop b47_0) :: .blk 0 :: k) ⟨[x0, x1, x2, .sl tok z ((g.take i).map Ty.srow), x4, x5, .sl 0 zg (g.map Ty.row), i64 (g.length : Int), i64 (i : Int), x9, x10, x11, x12, x13, x14, x15, x16, x17, x18], ⟨sh, lv, tk⟩⟩ Q := by
  intro m
  induction m with
  | zero =>
    intro i tok z lv tk  x5 x9 x10 x11 x12 x13 x14 x15 x16 x17 hi htk ht h1 h2
    have hi' : i = g.length := by omega
    subst hi'
    rw [R.loop_eq]
    unfold b47_0
    simp only [wp0, wp1, wp2, wp3, wp4, PV.cellsT, appMax, dropSh, fillB, fillS, putD, splice, src, startSt, Int.reduceAdd, Int.reduceEq, Int.reduceLE, Int.reduceLT, Int.reduceNeg, Int.reduceSub, Int.reduceToNat, Nat.reduceAdd, Nat.reduceDiv, Nat.reduceEqDiff, Nat.reduceLT, Nat.reduceLeDiff, Nat.reduceMod, Nat.reduceMul, Nat.reduceSub, eq_self, if_false, if_true, ite_false, ite_true, reduceIte, Int.lt_irrefl, List.take_length]
    exact hk tok z lv tk _ _ _ _ _ _ _ _ _ _ (fun hne => h2 fun e => hne (List.length_eq_zero_iff.1 (h1 e)))
  | succ m ih =>
    intro i tok z lv tk  x5 x9 x10 x11 x12 x13 x14 x15 x16 x17 hi htk ht h1 h2
    have hne : g ≠ [] := by intro e; subst e; simp at hi
    obtain rfl := hz hne
    have c1 : (i : Int) < (g.length : Int) := by omega
    have w3 : IntKind.i64.wrap ((i : Int) + 1) = ((i + 1 : Nat) : Int) := by rw [wrap_i64 (by omega)]; omega
    have c3 : (0 : Int) ≤ (i : Int) := by omega
    have c4 := getD_row g (i := i) (by omega)
    have hm : g.getD i .nat ∈ g := by
      rw [List.getD_eq_getElem?_getD, List.getElem?_eq_getElem (by omega)]
      exact List.getElem_mem _
    have u := clR.use (of71 sh (g.getD i .nat) (hb _ hm))
    have ha3 : ((g.take i).map Ty.srow) ++ [(g.getD i .nat).srow] = (g.take (i + 1)).map Ty.srow := by
      rw [List.take_add_one, List.map_append]
      simp [List.getD_eq_getElem?_getD, List.getElem?_eq_getElem (show i < g.length by omega)]
    have ha2 := @e_appS noCall 3 z tok 1 ((g.take i).map Ty.srow) [(g.getD i .nat).srow] sh lv tk ht (fun e => by rw [h1 e]; rfl) h2
    rw [ha3] at ha2
    have ha1 : ((g.take i).map Ty.srow).length + [(g.getD i .nat).srow].length ≤ appMax := by simp [appMax]; omega
    rw [if_pos ha1] at ha2
    have hs : ∀ t : Ty, t.srow = [i64 t.kind, .sl 0 t.asz t.arows, i64 (t.nodes : Int)] := fun _ => rfl
    simp only [hs] at ha2
    simp only [Ty.row, tyAll, hs] at u c4
    rw [R.loop_eq]
    unfold b47_0
    simp only [wp0, wp1, wp2, wp3, wp4, PV.cellsT, appMax, dropSh, fillB, fillS, putD, splice, src, startSt, Int.reduceAdd, Int.reduceEq, Int.reduceLE, Int.reduceLT, Int.reduceNeg, Int.reduceSub, Int.reduceToNat, Nat.reduceAdd, Nat.reduceDiv, Nat.reduceEqDiff, Nat.reduceLT, Nat.reduceLeDiff, Nat.reduceMod, Nat.reduceMul, Nat.reduceSub, eq_self, if_false, if_true, ite_false, ite_true, reduceIte, List.length_map, c1, w3, c3, c4, u, ha2, Int.toNat_natCast]
    exact ih (i + 1) tk 3 (lvApp lv tk tok) (tk + 1) _ _ _ _ _ _ _ _ _ _ (by omega) (by omega) (.app htk) (fun e => by omega) (fun _ => rfl)
theorem from47 (g : List Ty) (zg : Nat) (hz : g ≠ [] → zg = 2) (hg : g.length ≤ 1000) (hb : ∀ t ∈ g, t.nodes ≤ 64) (sh : Sh) :
    ∃ z, (g ≠ [] → z = 3) ∧ ∃ n, callN T G n 69 [.sl 0 zg (g.map Ty.row)] sh = some (.sl 0 z (g.map Ty.srow), sh) := by
  have key : Runs T G 69 [.sl 0 zg (g.map Ty.row)] sh fun r s' => ∃ z, (g ≠ [] → z = 3) ∧ r = .sl 0 z (g.map Ty.srow) ∧ s' = sh := by
    refine run_of (pf := p69) rfl ?_
    unfold p69
    simp only [wp0, wp1, wp2, wp3, wp4, PV.cellsT, appMax, dropSh, fillB, fillS, putD, splice, src, startSt, Int.reduceAdd, Int.reduceEq, Int.reduceLE, Int.reduceLT, Int.reduceNeg, Int.reduceSub, Int.reduceToNat, Nat.reduceAdd, Nat.reduceDiv, Nat.reduceEqDiff, Nat.reduceLT, Nat.reduceLeDiff, Nat.reduceMod, Nat.reduceMul, Nat.reduceSub, eq_self, if_false, if_true, ite_false, ite_true, reduceIte, List.length_map]
    refine from_loop g zg hz hg hb sh _ _ _ _ _ _ _ ?_ g.length 0 1 0 _ _ _ _ _ _ _ _ _ _ _ _ (by omega) (Nat.le_refl _) .one (fun _ => rfl) (fun h => (h rfl).elim)
    intro tok z lv tk  y5 y9 y10 y11 y12 y13 y14 y15 y16 y17 hz'
    simp only [wp0, wp1, wp2, wp3, wp4, PV.cellsT, appMax, dropSh, fillB, fillS, putD, splice, src, startSt, Int.reduceAdd, Int.reduceEq, Int.reduceLE, Int.reduceLT, Int.reduceNeg, Int.reduceSub, Int.reduceToNat, Nat.reduceAdd, Nat.reduceDiv, Nat.reduceEqDiff, Nat.reduceLT, Nat.reduceLeDiff, Nat.reduceMod, Nat.reduceMul, Nat.reduceSub, eq_self, if_false, if_true, ite_false, ite_true, reduceIte]
    first | exact ⟨z, hz', rfl, rfl⟩ | exact ⟨z, hz', rfl⟩
  obtain ⟨n, r, s', h, z, h1, rfl, rfl⟩ := key
  exact ⟨z, h1, n, h⟩
end Go.Pi.Terms

set_option maxRecDepth 100000
set_option maxHeartbeats 1000000
set_option linter.unusedSimpArgs false
set_option linter.unusedVariables false
namespace Go.Pi.Terms
open Go Go.Pi Go.Proofs.YtoljfmfmdghoeaaGreatDoor
/-- A term has a type in a context; all types are small. -/
inductive HasTy : List Ty → Tm → Ty → Prop where
  | var {g : List Ty} {i : Nat} (h : i < g.length) : HasTy g (.var i) (g.getD (g.length - 1 - i) .nat)
  | lam {g : List Ty} {s t : Ty} {a : Tm} (h : HasTy (g ++ [s]) a t) (hn : (Ty.fn s t).nodes ≤ 64) : HasTy g (.lam s a) (.fn s t)
  | app {g : List Ty} {s t : Ty} {a b : Tm} (ha : HasTy g a (.fn s t)) (hb : HasTy g b s) (hn : (Ty.fn s t).nodes ≤ 64) : HasTy g (.app a b) t
  | zero {g : List Ty} : HasTy g .zero .nat
  | succ {g : List Ty} {a : Tm} (ha : HasTy g a .nat) : HasTy g (.succ a) .nat
  | recu {g : List Ty} {s : Ty} {a b c : Tm} (ha : HasTy g a s) (hb : HasTy g b (.fn .nat (.fn s s))) (hc : HasTy g c .nat) (hn : s.nodes ≤ 64) : HasTy g (.recu s a b c) s
  | nil {g : List Ty} : HasTy g .nil .list
  | cons {g : List Ty} {a b : Tm} (ha : HasTy g a .nat) (hb : HasTy g b .list) : HasTy g (.cons a b) .list
  | fold {g : List Ty} {s : Ty} {a b c : Tm} (ha : HasTy g a s) (hb : HasTy g b (.fn .nat (.fn .list (.fn s s)))) (hc : HasTy g c .list) (hn : s.nodes ≤ 64) : HasTy g (.fold s a b c) s
  | pair {g : List Ty} {s t : Ty} {a b : Tm} (ha : HasTy g a s) (hb : HasTy g b t) (hn : (Ty.pair s t).nodes ≤ 64) : HasTy g (.pair a b) (.pair s t)
  | fst {g : List Ty} {s t : Ty} {a : Tm} (ha : HasTy g a (.pair s t)) (hn : (Ty.pair s t).nodes ≤ 64) : HasTy g (.fst a) s
  | snd {g : List Ty} {s t : Ty} {a : Tm} (ha : HasTy g a (.pair s t)) (hn : (Ty.pair s t).nodes ≤ 64) : HasTy g (.snd a) t
  | unit {g : List Ty} : HasTy g .unit .unit

theorem HasTy.ok {g : List Ty} {x : Tm} {t : Ty} (h : HasTy g x t) : x.ok := by
  induction h with
  | lam h hn ih => simp only [Ty.nodes] at hn; exact ⟨by omega, ih⟩
  | app ha hb hn iha ihb => exact ⟨iha, ihb⟩
  | succ ha iha => exact iha
  | recu ha hb hc hn iha ihb ihc => exact ⟨hn, iha, ihb, ihc⟩
  | cons ha hb iha ihb => exact ⟨iha, ihb⟩
  | fold ha hb hc hn iha ihb ihc => exact ⟨hn, iha, ihb, ihc⟩
  | pair ha hb hn iha ihb => exact ⟨iha, ihb⟩
  | fst ha hn iha => exact iha
  | snd ha hn iha => exact iha
  | _ => trivial

theorem getD_srow (g : List Ty) {i : Nat} (h : i < g.length) : (g.map Ty.srow).getD i [] = (g.getD i .nat).srow := by
  simp [List.getD_eq_getElem?_getD, h]

theorem srow_eq (t : Ty) : t.srow = [i64 t.kind, .sl 0 t.asz t.arows, i64 (t.nodes : Int)] := rfl

theorem typeOf48 (sh : Sh) {g : List Ty} {x : Tm} {t : Ty} (h : HasTy g x t) : ∀ (zg : Nat), (g ≠ [] → zg = 3) → g.length + x.size ≤ 100000 → ∃ n, callN T G n 70 [.sl 0 zg (g.map Ty.srow), .ag x.row] sh = some (.tup [.ag t.srow, i64 0], sh) := by
  induction h with
  | @var g i hi =>
    intro zg hz hs
    simp only [Tm.size] at hs
    obtain rfl := hz (by intro e; subst e; simp at hi)
    have c1 : ¬ ((g.length : Int) ≤ (i : Int)) := by omega
    have w1 : IntKind.i64.wrap ((g.length : Int) - 1) = (g.length : Int) - 1 := wrap_i64 (by omega)
    have w2 : IntKind.i64.wrap ((g.length : Int) - 1 - (i : Int)) = ((g.length - 1 - i : Nat) : Int) := by rw [wrap_i64 (by omega)]; omega
    have c2 : ((g.length - 1 - i : Nat) : Int) < (g.length : Int) := by omega
    have c3 : (0 : Int) ≤ ((g.length - 1 - i : Nat) : Int) := by omega
    have c4 := getD_srow g (i := g.length - 1 - i) (by omega)
    simp only [srow_eq] at c4
    refine run_eq (run_of (pf := p70) rfl ?_)
    unfold p70
    simp only [R.loop_eq, wp0, wp1, wp2, wp3, wp4, PV.cellsT, appMax, dropSh, fillB, fillS, putD, splice, src, startSt, Int.reduceAdd, Int.reduceEq, Int.reduceLE, Int.reduceLT, Int.reduceNeg, Int.reduceSub, Int.reduceToNat, Nat.reduceAdd, Nat.reduceDiv, Nat.reduceEqDiff, Nat.reduceLT, Nat.reduceLeDiff, Nat.reduceMod, Nat.reduceMul, Nat.reduceSub, eq_self, if_false, if_true, ite_false, ite_true, reduceIte, Ty.row, tyAll, Tm.row, tmAll, List.length_map, c1, w1, w2, c2, c3, c4, Int.toNat_natCast, srow_eq]
  | @lam g s t a h hn ih =>
    intro zg hz hs
    simp only [Tm.size] at hs
    have hn' : 1 + s.nodes + t.nodes ≤ 64 := hn
    have u0 := clR.use (of71 sh s (by omega))
    have u1 := ih 3 (fun _ => rfl) (by simp only [List.length_append, List.length_cons, List.length_nil]; omega)
    have u2 := clR.use (join72_fn sh s t hn)
    simp only [List.map_append, List.map_cons, List.map_nil] at u1
    simp only [Ty.row, tyAll, Tm.row, tmAll, srow_eq] at u0 u1 u2
    have u1' := clR.use u1
    have hz' : zg = 3 ∨ g.map Ty.srow = [] := by
      by_cases e : g = []
      · exact .inr (by rw [e]; rfl)
      · exact .inl (hz e)
    have c1 := @sl_full 0 zg 3 .i64 .i64 (g.length : Int) (g.map Ty.srow) hz' (by rw [List.length_map])
    have c2 : g.length ≤ 4294967295 := by omega
    refine run_eq (run_of (pf := p70) rfl ?_)
    unfold p70
    simp only [R.loop_eq, wp0, wp1, wp2, wp3, wp4, PV.cellsT, appMax, dropSh, fillB, fillS, putD, splice, src, startSt, Int.reduceAdd, Int.reduceEq, Int.reduceLE, Int.reduceLT, Int.reduceNeg, Int.reduceSub, Int.reduceToNat, Nat.reduceAdd, Nat.reduceDiv, Nat.reduceEqDiff, Nat.reduceLT, Nat.reduceLeDiff, Nat.reduceMod, Nat.reduceMul, Nat.reduceSub, eq_self, if_false, if_true, ite_false, ite_true, reduceIte, Ty.row, tyAll, Tm.row, tmAll, List.length_map, c1, c2, u0, u1', u2, srow_eq]
  | @app g s t a b ha hb hn iha ihb =>
    intro zg hz hs
    simp only [Tm.size] at hs
    have u := node_app sh a b s t hn
    have ua := iha zg hz (by omega)
    have ub := ihb zg hz (by omega)
    simp only [Ty.row, tyAll, Tm.row, tmAll, srow_eq, z3, List.cons_append, List.nil_append] at u ua ub
    have u' := clR.use u
    have ua' := clR.use ua
    have ub' := clR.use ub
    refine run_eq (run_of (pf := p70) rfl ?_)
    unfold p70
    simp only [R.loop_eq, wp0, wp1, wp2, wp3, wp4, PV.cellsT, appMax, dropSh, fillB, fillS, putD, splice, src, startSt, Int.reduceAdd, Int.reduceEq, Int.reduceLE, Int.reduceLT, Int.reduceNeg, Int.reduceSub, Int.reduceToNat, Nat.reduceAdd, Nat.reduceDiv, Nat.reduceEqDiff, Nat.reduceLT, Nat.reduceLeDiff, Nat.reduceMod, Nat.reduceMul, Nat.reduceSub, eq_self, if_false, if_true, ite_false, ite_true, reduceIte, Ty.row, tyAll, Tm.row, tmAll, List.length_map, srow_eq, Int.toNat_one, Int.toNat_zero, u', ua', ub']
  | @zero g =>
    intro zg hz hs
    simp only [Tm.size] at hs
    have u := node_zero sh
    simp only [Ty.row, tyAll, Tm.row, tmAll, srow_eq, z3, List.cons_append, List.nil_append] at u
    have u' := clR.use u
    refine run_eq (run_of (pf := p70) rfl ?_)
    unfold p70
    simp only [R.loop_eq, wp0, wp1, wp2, wp3, wp4, PV.cellsT, appMax, dropSh, fillB, fillS, putD, splice, src, startSt, Int.reduceAdd, Int.reduceEq, Int.reduceLE, Int.reduceLT, Int.reduceNeg, Int.reduceSub, Int.reduceToNat, Nat.reduceAdd, Nat.reduceDiv, Nat.reduceEqDiff, Nat.reduceLT, Nat.reduceLeDiff, Nat.reduceMod, Nat.reduceMul, Nat.reduceSub, eq_self, if_false, if_true, ite_false, ite_true, reduceIte, Ty.row, tyAll, Tm.row, tmAll, List.length_map, srow_eq, Int.toNat_one, Int.toNat_zero, u']
  | @succ g a ha iha =>
    intro zg hz hs
    simp only [Tm.size] at hs
    have u := node_succ sh a
    have ua := iha zg hz (by omega)
    simp only [Ty.row, tyAll, Tm.row, tmAll, srow_eq, z3, List.cons_append, List.nil_append] at u ua
    have u' := clR.use u
    have ua' := clR.use ua
    refine run_eq (run_of (pf := p70) rfl ?_)
    unfold p70
    simp only [R.loop_eq, wp0, wp1, wp2, wp3, wp4, PV.cellsT, appMax, dropSh, fillB, fillS, putD, splice, src, startSt, Int.reduceAdd, Int.reduceEq, Int.reduceLE, Int.reduceLT, Int.reduceNeg, Int.reduceSub, Int.reduceToNat, Nat.reduceAdd, Nat.reduceDiv, Nat.reduceEqDiff, Nat.reduceLT, Nat.reduceLeDiff, Nat.reduceMod, Nat.reduceMul, Nat.reduceSub, eq_self, if_false, if_true, ite_false, ite_true, reduceIte, Ty.row, tyAll, Tm.row, tmAll, List.length_map, srow_eq, Int.toNat_one, Int.toNat_zero, u', ua']
  | @recu g s a b c ha hb hc hn iha ihb ihc =>
    intro zg hz hs
    simp only [Tm.size] at hs
    have u := node_recu sh a b c s hn
    have ua := iha zg hz (by omega)
    have ub := ihb zg hz (by omega)
    have uc := ihc zg hz (by omega)
    simp only [Ty.row, tyAll, Tm.row, tmAll, srow_eq, z3, List.cons_append, List.nil_append] at u ua ub uc
    have u' := clR.use u
    have ua' := clR.use ua
    have ub' := clR.use ub
    have uc' := clR.use uc
    refine run_eq (run_of (pf := p70) rfl ?_)
    unfold p70
    simp only [R.loop_eq, wp0, wp1, wp2, wp3, wp4, PV.cellsT, appMax, dropSh, fillB, fillS, putD, splice, src, startSt, Int.reduceAdd, Int.reduceEq, Int.reduceLE, Int.reduceLT, Int.reduceNeg, Int.reduceSub, Int.reduceToNat, Nat.reduceAdd, Nat.reduceDiv, Nat.reduceEqDiff, Nat.reduceLT, Nat.reduceLeDiff, Nat.reduceMod, Nat.reduceMul, Nat.reduceSub, eq_self, if_false, if_true, ite_false, ite_true, reduceIte, Ty.row, tyAll, Tm.row, tmAll, List.length_map, srow_eq, Int.toNat_one, Int.toNat_zero, u', ua', ub', uc']
  | @nil g =>
    intro zg hz hs
    simp only [Tm.size] at hs
    have u := node_nil sh
    simp only [Ty.row, tyAll, Tm.row, tmAll, srow_eq, z3, List.cons_append, List.nil_append] at u
    have u' := clR.use u
    refine run_eq (run_of (pf := p70) rfl ?_)
    unfold p70
    simp only [R.loop_eq, wp0, wp1, wp2, wp3, wp4, PV.cellsT, appMax, dropSh, fillB, fillS, putD, splice, src, startSt, Int.reduceAdd, Int.reduceEq, Int.reduceLE, Int.reduceLT, Int.reduceNeg, Int.reduceSub, Int.reduceToNat, Nat.reduceAdd, Nat.reduceDiv, Nat.reduceEqDiff, Nat.reduceLT, Nat.reduceLeDiff, Nat.reduceMod, Nat.reduceMul, Nat.reduceSub, eq_self, if_false, if_true, ite_false, ite_true, reduceIte, Ty.row, tyAll, Tm.row, tmAll, List.length_map, srow_eq, Int.toNat_one, Int.toNat_zero, u']
  | @cons g a b ha hb iha ihb =>
    intro zg hz hs
    simp only [Tm.size] at hs
    have u := node_cons sh a b
    have ua := iha zg hz (by omega)
    have ub := ihb zg hz (by omega)
    simp only [Ty.row, tyAll, Tm.row, tmAll, srow_eq, z3, List.cons_append, List.nil_append] at u ua ub
    have u' := clR.use u
    have ua' := clR.use ua
    have ub' := clR.use ub
    refine run_eq (run_of (pf := p70) rfl ?_)
    unfold p70
    simp only [R.loop_eq, wp0, wp1, wp2, wp3, wp4, PV.cellsT, appMax, dropSh, fillB, fillS, putD, splice, src, startSt, Int.reduceAdd, Int.reduceEq, Int.reduceLE, Int.reduceLT, Int.reduceNeg, Int.reduceSub, Int.reduceToNat, Nat.reduceAdd, Nat.reduceDiv, Nat.reduceEqDiff, Nat.reduceLT, Nat.reduceLeDiff, Nat.reduceMod, Nat.reduceMul, Nat.reduceSub, eq_self, if_false, if_true, ite_false, ite_true, reduceIte, Ty.row, tyAll, Tm.row, tmAll, List.length_map, srow_eq, Int.toNat_one, Int.toNat_zero, u', ua', ub']
  | @fold g s a b c ha hb hc hn iha ihb ihc =>
    intro zg hz hs
    simp only [Tm.size] at hs
    have u := node_fold sh a b c s hn
    have ua := iha zg hz (by omega)
    have ub := ihb zg hz (by omega)
    have uc := ihc zg hz (by omega)
    simp only [Ty.row, tyAll, Tm.row, tmAll, srow_eq, z3, List.cons_append, List.nil_append] at u ua ub uc
    have u' := clR.use u
    have ua' := clR.use ua
    have ub' := clR.use ub
    have uc' := clR.use uc
    refine run_eq (run_of (pf := p70) rfl ?_)
    unfold p70
    simp only [R.loop_eq, wp0, wp1, wp2, wp3, wp4, PV.cellsT, appMax, dropSh, fillB, fillS, putD, splice, src, startSt, Int.reduceAdd, Int.reduceEq, Int.reduceLE, Int.reduceLT, Int.reduceNeg, Int.reduceSub, Int.reduceToNat, Nat.reduceAdd, Nat.reduceDiv, Nat.reduceEqDiff, Nat.reduceLT, Nat.reduceLeDiff, Nat.reduceMod, Nat.reduceMul, Nat.reduceSub, eq_self, if_false, if_true, ite_false, ite_true, reduceIte, Ty.row, tyAll, Tm.row, tmAll, List.length_map, srow_eq, Int.toNat_one, Int.toNat_zero, u', ua', ub', uc']
  | @pair g s t a b ha hb hn iha ihb =>
    intro zg hz hs
    simp only [Tm.size] at hs
    have u := node_pair sh a b s t hn
    have ua := iha zg hz (by omega)
    have ub := ihb zg hz (by omega)
    simp only [Ty.row, tyAll, Tm.row, tmAll, srow_eq, z3, List.cons_append, List.nil_append] at u ua ub
    have u' := clR.use u
    have ua' := clR.use ua
    have ub' := clR.use ub
    refine run_eq (run_of (pf := p70) rfl ?_)
    unfold p70
    simp only [R.loop_eq, wp0, wp1, wp2, wp3, wp4, PV.cellsT, appMax, dropSh, fillB, fillS, putD, splice, src, startSt, Int.reduceAdd, Int.reduceEq, Int.reduceLE, Int.reduceLT, Int.reduceNeg, Int.reduceSub, Int.reduceToNat, Nat.reduceAdd, Nat.reduceDiv, Nat.reduceEqDiff, Nat.reduceLT, Nat.reduceLeDiff, Nat.reduceMod, Nat.reduceMul, Nat.reduceSub, eq_self, if_false, if_true, ite_false, ite_true, reduceIte, Ty.row, tyAll, Tm.row, tmAll, List.length_map, srow_eq, Int.toNat_one, Int.toNat_zero, u', ua', ub']
  | @fst g s t a ha hn iha =>
    intro zg hz hs
    simp only [Tm.size] at hs
    have u := node_fst sh a s t hn
    have ua := iha zg hz (by omega)
    simp only [Ty.row, tyAll, Tm.row, tmAll, srow_eq, z3, List.cons_append, List.nil_append] at u ua
    have u' := clR.use u
    have ua' := clR.use ua
    refine run_eq (run_of (pf := p70) rfl ?_)
    unfold p70
    simp only [R.loop_eq, wp0, wp1, wp2, wp3, wp4, PV.cellsT, appMax, dropSh, fillB, fillS, putD, splice, src, startSt, Int.reduceAdd, Int.reduceEq, Int.reduceLE, Int.reduceLT, Int.reduceNeg, Int.reduceSub, Int.reduceToNat, Nat.reduceAdd, Nat.reduceDiv, Nat.reduceEqDiff, Nat.reduceLT, Nat.reduceLeDiff, Nat.reduceMod, Nat.reduceMul, Nat.reduceSub, eq_self, if_false, if_true, ite_false, ite_true, reduceIte, Ty.row, tyAll, Tm.row, tmAll, List.length_map, srow_eq, Int.toNat_one, Int.toNat_zero, u', ua']
  | @snd g s t a ha hn iha =>
    intro zg hz hs
    simp only [Tm.size] at hs
    have u := node_snd sh a s t hn
    have ua := iha zg hz (by omega)
    simp only [Ty.row, tyAll, Tm.row, tmAll, srow_eq, z3, List.cons_append, List.nil_append] at u ua
    have u' := clR.use u
    have ua' := clR.use ua
    refine run_eq (run_of (pf := p70) rfl ?_)
    unfold p70
    simp only [R.loop_eq, wp0, wp1, wp2, wp3, wp4, PV.cellsT, appMax, dropSh, fillB, fillS, putD, splice, src, startSt, Int.reduceAdd, Int.reduceEq, Int.reduceLE, Int.reduceLT, Int.reduceNeg, Int.reduceSub, Int.reduceToNat, Nat.reduceAdd, Nat.reduceDiv, Nat.reduceEqDiff, Nat.reduceLT, Nat.reduceLeDiff, Nat.reduceMod, Nat.reduceMul, Nat.reduceSub, eq_self, if_false, if_true, ite_false, ite_true, reduceIte, Ty.row, tyAll, Tm.row, tmAll, List.length_map, srow_eq, Int.toNat_one, Int.toNat_zero, u', ua']
  | @unit g =>
    intro zg hz hs
    simp only [Tm.size] at hs
    have u := node_unit sh
    simp only [Ty.row, tyAll, Tm.row, tmAll, srow_eq, z3, List.cons_append, List.nil_append] at u
    have u' := clR.use u
    refine run_eq (run_of (pf := p70) rfl ?_)
    unfold p70
    simp only [R.loop_eq, wp0, wp1, wp2, wp3, wp4, PV.cellsT, appMax, dropSh, fillB, fillS, putD, splice, src, startSt, Int.reduceAdd, Int.reduceEq, Int.reduceLE, Int.reduceLT, Int.reduceNeg, Int.reduceSub, Int.reduceToNat, Nat.reduceAdd, Nat.reduceDiv, Nat.reduceEqDiff, Nat.reduceLT, Nat.reduceLeDiff, Nat.reduceMod, Nat.reduceMul, Nat.reduceSub, eq_self, if_false, if_true, ite_false, ite_true, reduceIte, Ty.row, tyAll, Tm.row, tmAll, List.length_map, srow_eq, Int.toNat_one, Int.toNat_zero, u']
end Go.Pi.Terms

set_option maxRecDepth 100000
set_option maxHeartbeats 1000000
set_option linter.unusedSimpArgs false
set_option linter.unusedVariables false
namespace Go.Pi.Terms
open Go Go.Pi Go.Proofs.YtoljfmfmdghoeaaGreatDoor
theorem typeOf14 (sh : Sh) {g : List Ty} {x : Tm} {t : Ty} (h : HasTy g x t) (zg : Nat) (hz : g ≠ [] → zg = 2) (hg : g.length ≤ 16) (hb : ∀ t ∈ g, t.nodes ≤ 64) (hs : x.size ≤ 4096) :
    ∃ n, callN T G n 29 [.sl 0 zg (g.map Ty.row), .ag x.row] sh = some (.tup [.ag t.row, i64 0], sh) := by
  obtain ⟨z3, h3, hf⟩ := from47 g zg hz (by omega) hb sh
  have u0 := clR.use (context46 g zg hz hg hb sh)
  have u1 := check27 sh x h.ok hs
  have u2 := clR.use hf
  have u3 := typeOf48 sh h z3 h3 (by omega)
  have u4 := own49 sh t
  simp only [Ty.row, tyAll, Tm.row, tmAll, srow_eq] at u1 u3 u4
  have u1' := clR.use u1
  have u3' := clR.use u3
  have u4' := clR.use u4
  refine run_eq (run_of (pf := p29) rfl ?_)
  unfold p29
  simp only [R.loop_eq, wp0, wp1, wp2, wp3, wp4, PV.cellsT, appMax, dropSh, fillB, fillS, putD, splice, src, startSt, Int.reduceAdd, Int.reduceEq, Int.reduceLE, Int.reduceLT, Int.reduceNeg, Int.reduceSub, Int.reduceToNat, Nat.reduceAdd, Nat.reduceDiv, Nat.reduceEqDiff, Nat.reduceLT, Nat.reduceLeDiff, Nat.reduceMod, Nat.reduceMul, Nat.reduceSub, eq_self, if_false, if_true, ite_false, ite_true, reduceIte, Ty.row, tyAll, Tm.row, tmAll, srow_eq, u0, u1', u2, u3', u4']

end Go.Pi.Terms
