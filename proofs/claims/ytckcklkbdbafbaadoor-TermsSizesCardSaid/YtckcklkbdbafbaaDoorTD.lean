import Derived.Test.YtckcklkbdbafbaaDoorTC
set_option maxRecDepth 100000
set_option maxHeartbeats 1000000
set_option linter.unusedSimpArgs false
set_option linter.unusedVariables false
namespace Go.Pi.Terms
open Go Go.Pi Go.Proofs.YtckcklkbdbafbaaDoor
theorem own49 (sh : Sh) : ∀ a : Ty, ∃ n, callN T G n 49 [.ag a.row] sh = some (.ag a.row, sh)
  | .nat => by
    refine run_eq (run_of (pf := p49) rfl ?_)
    unfold p49
    simp only [R.loop_eq, wp0, wp1, wp2, wp3, wp4, PV.cellsT, appMax, dropSh, fillB, fillS, putD, splice, src, startSt, Int.reduceAdd, Int.reduceEq, Int.reduceLE, Int.reduceLT, Int.reduceNeg, Int.reduceSub, Int.reduceToNat, Nat.reduceAdd, Nat.reduceEqDiff, Nat.reduceLT, Nat.reduceLeDiff, Nat.reduceMul, Nat.reduceSub, if_false, if_true, ite_false, ite_true, reduceIte, Ty.row, tyAll]
  | .list => by
    refine run_eq (run_of (pf := p49) rfl ?_)
    unfold p49
    simp only [R.loop_eq, wp0, wp1, wp2, wp3, wp4, PV.cellsT, appMax, dropSh, fillB, fillS, putD, splice, src, startSt, Int.reduceAdd, Int.reduceEq, Int.reduceLE, Int.reduceLT, Int.reduceNeg, Int.reduceSub, Int.reduceToNat, Nat.reduceAdd, Nat.reduceEqDiff, Nat.reduceLT, Nat.reduceLeDiff, Nat.reduceMul, Nat.reduceSub, if_false, if_true, ite_false, ite_true, reduceIte, Ty.row, tyAll]
  | .unit => by
    refine run_eq (run_of (pf := p49) rfl ?_)
    unfold p49
    simp only [R.loop_eq, wp0, wp1, wp2, wp3, wp4, PV.cellsT, appMax, dropSh, fillB, fillS, putD, splice, src, startSt, Int.reduceAdd, Int.reduceEq, Int.reduceLE, Int.reduceLT, Int.reduceNeg, Int.reduceSub, Int.reduceToNat, Nat.reduceAdd, Nat.reduceEqDiff, Nat.reduceLT, Nat.reduceLeDiff, Nat.reduceMul, Nat.reduceSub, if_false, if_true, ite_false, ite_true, reduceIte, Ty.row, tyAll]
  | .pair a b => by
    have u0 := own49 sh a
    have u1 := own49 sh b
    try simp only [Ty.row] at u0 u1
    have u0' := clR.use u0
    have u1' := clR.use u1
    refine run_eq (run_of (pf := p49) rfl ?_)
    unfold p49
    simp only [R.loop_eq, wp0, wp1, wp2, wp3, wp4, PV.cellsT, appMax, dropSh, fillB, fillS, putD, splice, src, startSt, Int.reduceAdd, Int.reduceEq, Int.reduceLE, Int.reduceLT, Int.reduceNeg, Int.reduceSub, Int.reduceToNat, Nat.reduceAdd, Nat.reduceEqDiff, Nat.reduceLT, Nat.reduceLeDiff, Nat.reduceMul, Nat.reduceSub, if_false, if_true, ite_false, ite_true, reduceIte, Ty.row, tyAll, u0', u1']
  | .fn a b => by
    have u0 := own49 sh a
    have u1 := own49 sh b
    try simp only [Ty.row] at u0 u1
    have u0' := clR.use u0
    have u1' := clR.use u1
    refine run_eq (run_of (pf := p49) rfl ?_)
    unfold p49
    simp only [R.loop_eq, wp0, wp1, wp2, wp3, wp4, PV.cellsT, appMax, dropSh, fillB, fillS, putD, splice, src, startSt, Int.reduceAdd, Int.reduceEq, Int.reduceLE, Int.reduceLT, Int.reduceNeg, Int.reduceSub, Int.reduceToNat, Nat.reduceAdd, Nat.reduceEqDiff, Nat.reduceLT, Nat.reduceLeDiff, Nat.reduceMul, Nat.reduceSub, if_false, if_true, ite_false, ite_true, reduceIte, Ty.row, tyAll, u0', u1']

theorem copy50 (sh : Sh) : ∀ a : Ty, ∃ n, callN T G n 50 [.ag a.row] sh = some (.ag a.row, sh)
  | .nat => by
    refine run_eq (run_of (pf := p50) rfl ?_)
    unfold p50
    simp only [R.loop_eq, wp0, wp1, wp2, wp3, wp4, PV.cellsT, appMax, dropSh, fillB, fillS, putD, splice, src, startSt, Int.reduceAdd, Int.reduceEq, Int.reduceLE, Int.reduceLT, Int.reduceNeg, Int.reduceSub, Int.reduceToNat, Nat.reduceAdd, Nat.reduceEqDiff, Nat.reduceLT, Nat.reduceLeDiff, Nat.reduceMul, Nat.reduceSub, if_false, if_true, ite_false, ite_true, reduceIte, Ty.row, tyAll]
  | .list => by
    refine run_eq (run_of (pf := p50) rfl ?_)
    unfold p50
    simp only [R.loop_eq, wp0, wp1, wp2, wp3, wp4, PV.cellsT, appMax, dropSh, fillB, fillS, putD, splice, src, startSt, Int.reduceAdd, Int.reduceEq, Int.reduceLE, Int.reduceLT, Int.reduceNeg, Int.reduceSub, Int.reduceToNat, Nat.reduceAdd, Nat.reduceEqDiff, Nat.reduceLT, Nat.reduceLeDiff, Nat.reduceMul, Nat.reduceSub, if_false, if_true, ite_false, ite_true, reduceIte, Ty.row, tyAll]
  | .unit => by
    refine run_eq (run_of (pf := p50) rfl ?_)
    unfold p50
    simp only [R.loop_eq, wp0, wp1, wp2, wp3, wp4, PV.cellsT, appMax, dropSh, fillB, fillS, putD, splice, src, startSt, Int.reduceAdd, Int.reduceEq, Int.reduceLE, Int.reduceLT, Int.reduceNeg, Int.reduceSub, Int.reduceToNat, Nat.reduceAdd, Nat.reduceEqDiff, Nat.reduceLT, Nat.reduceLeDiff, Nat.reduceMul, Nat.reduceSub, if_false, if_true, ite_false, ite_true, reduceIte, Ty.row, tyAll]
  | .pair a b => by
    have u0 := copy50 sh a
    have u1 := copy50 sh b
    try simp only [Ty.row] at u0 u1
    have u0' := clR.use u0
    have u1' := clR.use u1
    refine run_eq (run_of (pf := p50) rfl ?_)
    unfold p50
    simp only [R.loop_eq, wp0, wp1, wp2, wp3, wp4, PV.cellsT, appMax, dropSh, fillB, fillS, putD, splice, src, startSt, Int.reduceAdd, Int.reduceEq, Int.reduceLE, Int.reduceLT, Int.reduceNeg, Int.reduceSub, Int.reduceToNat, Nat.reduceAdd, Nat.reduceEqDiff, Nat.reduceLT, Nat.reduceLeDiff, Nat.reduceMul, Nat.reduceSub, if_false, if_true, ite_false, ite_true, reduceIte, Ty.row, tyAll, u0', u1']
  | .fn a b => by
    have u0 := copy50 sh a
    have u1 := copy50 sh b
    try simp only [Ty.row] at u0 u1
    have u0' := clR.use u0
    have u1' := clR.use u1
    refine run_eq (run_of (pf := p50) rfl ?_)
    unfold p50
    simp only [R.loop_eq, wp0, wp1, wp2, wp3, wp4, PV.cellsT, appMax, dropSh, fillB, fillS, putD, splice, src, startSt, Int.reduceAdd, Int.reduceEq, Int.reduceLE, Int.reduceLT, Int.reduceNeg, Int.reduceSub, Int.reduceToNat, Nat.reduceAdd, Nat.reduceEqDiff, Nat.reduceLT, Nat.reduceLeDiff, Nat.reduceMul, Nat.reduceSub, if_false, if_true, ite_false, ite_true, reduceIte, Ty.row, tyAll, u0', u1']

theorem nat34 (sh : Sh)  : ∃ n, callN T G n 34 [] sh = some (.ag Ty.nat.row, sh) := by
  refine run_eq (run_of (pf := p34) rfl ?_)
  unfold p34
  simp only [R.loop_eq, wp0, wp1, wp2, wp3, wp4, PV.cellsT, appMax, dropSh, fillB, fillS, putD, splice, src, startSt, Int.reduceAdd, Int.reduceEq, Int.reduceLE, Int.reduceLT, Int.reduceNeg, Int.reduceSub, Int.reduceToNat, Nat.reduceAdd, Nat.reduceEqDiff, Nat.reduceLT, Nat.reduceLeDiff, Nat.reduceMul, Nat.reduceSub, if_false, if_true, ite_false, ite_true, reduceIte, Ty.row, tyAll]
theorem list37 (sh : Sh)  : ∃ n, callN T G n 37 [] sh = some (.ag Ty.list.row, sh) := by
  refine run_eq (run_of (pf := p37) rfl ?_)
  unfold p37
  simp only [R.loop_eq, wp0, wp1, wp2, wp3, wp4, PV.cellsT, appMax, dropSh, fillB, fillS, putD, splice, src, startSt, Int.reduceAdd, Int.reduceEq, Int.reduceLE, Int.reduceLT, Int.reduceNeg, Int.reduceSub, Int.reduceToNat, Nat.reduceAdd, Nat.reduceEqDiff, Nat.reduceLT, Nat.reduceLeDiff, Nat.reduceMul, Nat.reduceSub, if_false, if_true, ite_false, ite_true, reduceIte, Ty.row, tyAll]
theorem unit38 (sh : Sh)  : ∃ n, callN T G n 38 [] sh = some (.ag Ty.unit.row, sh) := by
  refine run_eq (run_of (pf := p38) rfl ?_)
  unfold p38
  simp only [R.loop_eq, wp0, wp1, wp2, wp3, wp4, PV.cellsT, appMax, dropSh, fillB, fillS, putD, splice, src, startSt, Int.reduceAdd, Int.reduceEq, Int.reduceLE, Int.reduceLT, Int.reduceNeg, Int.reduceSub, Int.reduceToNat, Nat.reduceAdd, Nat.reduceEqDiff, Nat.reduceLT, Nat.reduceLeDiff, Nat.reduceMul, Nat.reduceSub, if_false, if_true, ite_false, ite_true, reduceIte, Ty.row, tyAll]
theorem nat97 (sh : Sh)  : ∃ n, callN T G n 97 [] sh = some (.ag Ty.nat.row, sh) := by
  refine run_eq (run_of (pf := p97) rfl ?_)
  unfold p97
  simp only [R.loop_eq, wp0, wp1, wp2, wp3, wp4, PV.cellsT, appMax, dropSh, fillB, fillS, putD, splice, src, startSt, Int.reduceAdd, Int.reduceEq, Int.reduceLE, Int.reduceLT, Int.reduceNeg, Int.reduceSub, Int.reduceToNat, Nat.reduceAdd, Nat.reduceEqDiff, Nat.reduceLT, Nat.reduceLeDiff, Nat.reduceMul, Nat.reduceSub, if_false, if_true, ite_false, ite_true, reduceIte, Ty.row, tyAll]
theorem list98 (sh : Sh)  : ∃ n, callN T G n 98 [] sh = some (.ag Ty.list.row, sh) := by
  refine run_eq (run_of (pf := p98) rfl ?_)
  unfold p98
  simp only [R.loop_eq, wp0, wp1, wp2, wp3, wp4, PV.cellsT, appMax, dropSh, fillB, fillS, putD, splice, src, startSt, Int.reduceAdd, Int.reduceEq, Int.reduceLE, Int.reduceLT, Int.reduceNeg, Int.reduceSub, Int.reduceToNat, Nat.reduceAdd, Nat.reduceEqDiff, Nat.reduceLT, Nat.reduceLeDiff, Nat.reduceMul, Nat.reduceSub, if_false, if_true, ite_false, ite_true, reduceIte, Ty.row, tyAll]
theorem fun35 (sh : Sh) (a b : Ty) : ∃ n, callN T G n 35 [.ag a.row, .ag b.row] sh = some (.ag (Ty.fn a b).row, sh) := by
  have u0 := copy50 sh a
  have u1 := copy50 sh b
  try simp only [Ty.row] at u0 u1
  have u0' := clR.use u0
  have u1' := clR.use u1
  refine run_eq (run_of (pf := p35) rfl ?_)
  unfold p35
  simp only [R.loop_eq, wp0, wp1, wp2, wp3, wp4, PV.cellsT, appMax, dropSh, fillB, fillS, putD, splice, src, startSt, Int.reduceAdd, Int.reduceEq, Int.reduceLE, Int.reduceLT, Int.reduceNeg, Int.reduceSub, Int.reduceToNat, Nat.reduceAdd, Nat.reduceEqDiff, Nat.reduceLT, Nat.reduceLeDiff, Nat.reduceMul, Nat.reduceSub, if_false, if_true, ite_false, ite_true, reduceIte, Ty.row, tyAll, u0', u1']
theorem two39 (sh : Sh) (a b : Ty) : ∃ n, callN T G n 39 [.ag a.row, .ag b.row] sh = some (.ag (Ty.pair a b).row, sh) := by
  have u0 := copy50 sh a
  have u1 := copy50 sh b
  try simp only [Ty.row] at u0 u1
  have u0' := clR.use u0
  have u1' := clR.use u1
  refine run_eq (run_of (pf := p39) rfl ?_)
  unfold p39
  simp only [R.loop_eq, wp0, wp1, wp2, wp3, wp4, PV.cellsT, appMax, dropSh, fillB, fillS, putD, splice, src, startSt, Int.reduceAdd, Int.reduceEq, Int.reduceLE, Int.reduceLT, Int.reduceNeg, Int.reduceSub, Int.reduceToNat, Nat.reduceAdd, Nat.reduceEqDiff, Nat.reduceLT, Nat.reduceLeDiff, Nat.reduceMul, Nat.reduceSub, if_false, if_true, ite_false, ite_true, reduceIte, Ty.row, tyAll, u0', u1']
end Go.Pi.Terms
