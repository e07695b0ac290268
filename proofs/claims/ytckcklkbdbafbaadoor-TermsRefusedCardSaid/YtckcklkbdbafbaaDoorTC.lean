import Derived.Test.YtckcklkbdbafbaaDoorTB
set_option maxRecDepth 100000
set_option maxHeartbeats 1000000
set_option linter.unusedSimpArgs false
set_option linter.unusedVariables false
namespace Go.Pi.Terms
open Go Go.Pi Go.Proofs.YtckcklkbdbafbaaDoor
theorem sameType (sh : Sh) : ∀ a b : Ty, ∃ n, callN T G n 83 [.ag a.row, .ag b.row] sh = some (.v (.bool (decide (a = b))), sh)
  | .nat, .nat => by
    have e3 : decide (Ty.nat = Ty.nat) = true := by simp
    refine run_eq (run_of (pf := p83) rfl ?_)
    unfold p83
    simp only [R.loop_eq, wp0, wp1, wp2, wp3, wp4, PV.cellsT, appMax, dropSh, fillB, fillS, putD, splice, src, startSt, Int.reduceAdd, Int.reduceEq, Int.reduceLE, Int.reduceLT, Int.reduceNeg, Int.reduceSub, Int.reduceToNat, Nat.reduceAdd, Nat.reduceEqDiff, Nat.reduceLT, Nat.reduceLeDiff, Nat.reduceMul, Nat.reduceSub, if_false, if_true, ite_false, ite_true, reduceIte, Ty.row, tyAll, e3]
  | .nat, .list => by
    have e3 : decide (Ty.nat = Ty.list) = false := by simp
    refine run_eq (run_of (pf := p83) rfl ?_)
    unfold p83
    simp only [R.loop_eq, wp0, wp1, wp2, wp3, wp4, PV.cellsT, appMax, dropSh, fillB, fillS, putD, splice, src, startSt, Int.reduceAdd, Int.reduceEq, Int.reduceLE, Int.reduceLT, Int.reduceNeg, Int.reduceSub, Int.reduceToNat, Nat.reduceAdd, Nat.reduceEqDiff, Nat.reduceLT, Nat.reduceLeDiff, Nat.reduceMul, Nat.reduceSub, if_false, if_true, ite_false, ite_true, reduceIte, Ty.row, tyAll, e3]
  | .nat, .unit => by
    have e3 : decide (Ty.nat = Ty.unit) = false := by simp
    refine run_eq (run_of (pf := p83) rfl ?_)
    unfold p83
    simp only [R.loop_eq, wp0, wp1, wp2, wp3, wp4, PV.cellsT, appMax, dropSh, fillB, fillS, putD, splice, src, startSt, Int.reduceAdd, Int.reduceEq, Int.reduceLE, Int.reduceLT, Int.reduceNeg, Int.reduceSub, Int.reduceToNat, Nat.reduceAdd, Nat.reduceEqDiff, Nat.reduceLT, Nat.reduceLeDiff, Nat.reduceMul, Nat.reduceSub, if_false, if_true, ite_false, ite_true, reduceIte, Ty.row, tyAll, e3]
  | .nat, (.pair c d) => by
    have e3 : decide (Ty.nat = (Ty.pair c d)) = false := by simp
    refine run_eq (run_of (pf := p83) rfl ?_)
    unfold p83
    simp only [R.loop_eq, wp0, wp1, wp2, wp3, wp4, PV.cellsT, appMax, dropSh, fillB, fillS, putD, splice, src, startSt, Int.reduceAdd, Int.reduceEq, Int.reduceLE, Int.reduceLT, Int.reduceNeg, Int.reduceSub, Int.reduceToNat, Nat.reduceAdd, Nat.reduceEqDiff, Nat.reduceLT, Nat.reduceLeDiff, Nat.reduceMul, Nat.reduceSub, if_false, if_true, ite_false, ite_true, reduceIte, Ty.row, tyAll, e3]
  | .nat, (.fn c d) => by
    have e3 : decide (Ty.nat = (Ty.fn c d)) = false := by simp
    refine run_eq (run_of (pf := p83) rfl ?_)
    unfold p83
    simp only [R.loop_eq, wp0, wp1, wp2, wp3, wp4, PV.cellsT, appMax, dropSh, fillB, fillS, putD, splice, src, startSt, Int.reduceAdd, Int.reduceEq, Int.reduceLE, Int.reduceLT, Int.reduceNeg, Int.reduceSub, Int.reduceToNat, Nat.reduceAdd, Nat.reduceEqDiff, Nat.reduceLT, Nat.reduceLeDiff, Nat.reduceMul, Nat.reduceSub, if_false, if_true, ite_false, ite_true, reduceIte, Ty.row, tyAll, e3]
  | .list, .nat => by
    have e3 : decide (Ty.list = Ty.nat) = false := by simp
    refine run_eq (run_of (pf := p83) rfl ?_)
    unfold p83
    simp only [R.loop_eq, wp0, wp1, wp2, wp3, wp4, PV.cellsT, appMax, dropSh, fillB, fillS, putD, splice, src, startSt, Int.reduceAdd, Int.reduceEq, Int.reduceLE, Int.reduceLT, Int.reduceNeg, Int.reduceSub, Int.reduceToNat, Nat.reduceAdd, Nat.reduceEqDiff, Nat.reduceLT, Nat.reduceLeDiff, Nat.reduceMul, Nat.reduceSub, if_false, if_true, ite_false, ite_true, reduceIte, Ty.row, tyAll, e3]
  | .list, .list => by
    have e3 : decide (Ty.list = Ty.list) = true := by simp
    refine run_eq (run_of (pf := p83) rfl ?_)
    unfold p83
    simp only [R.loop_eq, wp0, wp1, wp2, wp3, wp4, PV.cellsT, appMax, dropSh, fillB, fillS, putD, splice, src, startSt, Int.reduceAdd, Int.reduceEq, Int.reduceLE, Int.reduceLT, Int.reduceNeg, Int.reduceSub, Int.reduceToNat, Nat.reduceAdd, Nat.reduceEqDiff, Nat.reduceLT, Nat.reduceLeDiff, Nat.reduceMul, Nat.reduceSub, if_false, if_true, ite_false, ite_true, reduceIte, Ty.row, tyAll, e3]
  | .list, .unit => by
    have e3 : decide (Ty.list = Ty.unit) = false := by simp
    refine run_eq (run_of (pf := p83) rfl ?_)
    unfold p83
    simp only [R.loop_eq, wp0, wp1, wp2, wp3, wp4, PV.cellsT, appMax, dropSh, fillB, fillS, putD, splice, src, startSt, Int.reduceAdd, Int.reduceEq, Int.reduceLE, Int.reduceLT, Int.reduceNeg, Int.reduceSub, Int.reduceToNat, Nat.reduceAdd, Nat.reduceEqDiff, Nat.reduceLT, Nat.reduceLeDiff, Nat.reduceMul, Nat.reduceSub, if_false, if_true, ite_false, ite_true, reduceIte, Ty.row, tyAll, e3]
  | .list, (.pair c d) => by
    have e3 : decide (Ty.list = (Ty.pair c d)) = false := by simp
    refine run_eq (run_of (pf := p83) rfl ?_)
    unfold p83
    simp only [R.loop_eq, wp0, wp1, wp2, wp3, wp4, PV.cellsT, appMax, dropSh, fillB, fillS, putD, splice, src, startSt, Int.reduceAdd, Int.reduceEq, Int.reduceLE, Int.reduceLT, Int.reduceNeg, Int.reduceSub, Int.reduceToNat, Nat.reduceAdd, Nat.reduceEqDiff, Nat.reduceLT, Nat.reduceLeDiff, Nat.reduceMul, Nat.reduceSub, if_false, if_true, ite_false, ite_true, reduceIte, Ty.row, tyAll, e3]
  | .list, (.fn c d) => by
    have e3 : decide (Ty.list = (Ty.fn c d)) = false := by simp
    refine run_eq (run_of (pf := p83) rfl ?_)
    unfold p83
    simp only [R.loop_eq, wp0, wp1, wp2, wp3, wp4, PV.cellsT, appMax, dropSh, fillB, fillS, putD, splice, src, startSt, Int.reduceAdd, Int.reduceEq, Int.reduceLE, Int.reduceLT, Int.reduceNeg, Int.reduceSub, Int.reduceToNat, Nat.reduceAdd, Nat.reduceEqDiff, Nat.reduceLT, Nat.reduceLeDiff, Nat.reduceMul, Nat.reduceSub, if_false, if_true, ite_false, ite_true, reduceIte, Ty.row, tyAll, e3]
  | .unit, .nat => by
    have e3 : decide (Ty.unit = Ty.nat) = false := by simp
    refine run_eq (run_of (pf := p83) rfl ?_)
    unfold p83
    simp only [R.loop_eq, wp0, wp1, wp2, wp3, wp4, PV.cellsT, appMax, dropSh, fillB, fillS, putD, splice, src, startSt, Int.reduceAdd, Int.reduceEq, Int.reduceLE, Int.reduceLT, Int.reduceNeg, Int.reduceSub, Int.reduceToNat, Nat.reduceAdd, Nat.reduceEqDiff, Nat.reduceLT, Nat.reduceLeDiff, Nat.reduceMul, Nat.reduceSub, if_false, if_true, ite_false, ite_true, reduceIte, Ty.row, tyAll, e3]
  | .unit, .list => by
    have e3 : decide (Ty.unit = Ty.list) = false := by simp
    refine run_eq (run_of (pf := p83) rfl ?_)
    unfold p83
    simp only [R.loop_eq, wp0, wp1, wp2, wp3, wp4, PV.cellsT, appMax, dropSh, fillB, fillS, putD, splice, src, startSt, Int.reduceAdd, Int.reduceEq, Int.reduceLE, Int.reduceLT, Int.reduceNeg, Int.reduceSub, Int.reduceToNat, Nat.reduceAdd, Nat.reduceEqDiff, Nat.reduceLT, Nat.reduceLeDiff, Nat.reduceMul, Nat.reduceSub, if_false, if_true, ite_false, ite_true, reduceIte, Ty.row, tyAll, e3]
  | .unit, .unit => by
    have e3 : decide (Ty.unit = Ty.unit) = true := by simp
    refine run_eq (run_of (pf := p83) rfl ?_)
    unfold p83
    simp only [R.loop_eq, wp0, wp1, wp2, wp3, wp4, PV.cellsT, appMax, dropSh, fillB, fillS, putD, splice, src, startSt, Int.reduceAdd, Int.reduceEq, Int.reduceLE, Int.reduceLT, Int.reduceNeg, Int.reduceSub, Int.reduceToNat, Nat.reduceAdd, Nat.reduceEqDiff, Nat.reduceLT, Nat.reduceLeDiff, Nat.reduceMul, Nat.reduceSub, if_false, if_true, ite_false, ite_true, reduceIte, Ty.row, tyAll, e3]
  | .unit, (.pair c d) => by
    have e3 : decide (Ty.unit = (Ty.pair c d)) = false := by simp
    refine run_eq (run_of (pf := p83) rfl ?_)
    unfold p83
    simp only [R.loop_eq, wp0, wp1, wp2, wp3, wp4, PV.cellsT, appMax, dropSh, fillB, fillS, putD, splice, src, startSt, Int.reduceAdd, Int.reduceEq, Int.reduceLE, Int.reduceLT, Int.reduceNeg, Int.reduceSub, Int.reduceToNat, Nat.reduceAdd, Nat.reduceEqDiff, Nat.reduceLT, Nat.reduceLeDiff, Nat.reduceMul, Nat.reduceSub, if_false, if_true, ite_false, ite_true, reduceIte, Ty.row, tyAll, e3]
  | .unit, (.fn c d) => by
    have e3 : decide (Ty.unit = (Ty.fn c d)) = false := by simp
    refine run_eq (run_of (pf := p83) rfl ?_)
    unfold p83
    simp only [R.loop_eq, wp0, wp1, wp2, wp3, wp4, PV.cellsT, appMax, dropSh, fillB, fillS, putD, splice, src, startSt, Int.reduceAdd, Int.reduceEq, Int.reduceLE, Int.reduceLT, Int.reduceNeg, Int.reduceSub, Int.reduceToNat, Nat.reduceAdd, Nat.reduceEqDiff, Nat.reduceLT, Nat.reduceLeDiff, Nat.reduceMul, Nat.reduceSub, if_false, if_true, ite_false, ite_true, reduceIte, Ty.row, tyAll, e3]
  | (.pair a b), .nat => by
    have e3 : decide ((Ty.pair a b) = Ty.nat) = false := by simp
    refine run_eq (run_of (pf := p83) rfl ?_)
    unfold p83
    simp only [R.loop_eq, wp0, wp1, wp2, wp3, wp4, PV.cellsT, appMax, dropSh, fillB, fillS, putD, splice, src, startSt, Int.reduceAdd, Int.reduceEq, Int.reduceLE, Int.reduceLT, Int.reduceNeg, Int.reduceSub, Int.reduceToNat, Nat.reduceAdd, Nat.reduceEqDiff, Nat.reduceLT, Nat.reduceLeDiff, Nat.reduceMul, Nat.reduceSub, if_false, if_true, ite_false, ite_true, reduceIte, Ty.row, tyAll, e3]
  | (.pair a b), .list => by
    have e3 : decide ((Ty.pair a b) = Ty.list) = false := by simp
    refine run_eq (run_of (pf := p83) rfl ?_)
    unfold p83
    simp only [R.loop_eq, wp0, wp1, wp2, wp3, wp4, PV.cellsT, appMax, dropSh, fillB, fillS, putD, splice, src, startSt, Int.reduceAdd, Int.reduceEq, Int.reduceLE, Int.reduceLT, Int.reduceNeg, Int.reduceSub, Int.reduceToNat, Nat.reduceAdd, Nat.reduceEqDiff, Nat.reduceLT, Nat.reduceLeDiff, Nat.reduceMul, Nat.reduceSub, if_false, if_true, ite_false, ite_true, reduceIte, Ty.row, tyAll, e3]
  | (.pair a b), .unit => by
    have e3 : decide ((Ty.pair a b) = Ty.unit) = false := by simp
    refine run_eq (run_of (pf := p83) rfl ?_)
    unfold p83
    simp only [R.loop_eq, wp0, wp1, wp2, wp3, wp4, PV.cellsT, appMax, dropSh, fillB, fillS, putD, splice, src, startSt, Int.reduceAdd, Int.reduceEq, Int.reduceLE, Int.reduceLT, Int.reduceNeg, Int.reduceSub, Int.reduceToNat, Nat.reduceAdd, Nat.reduceEqDiff, Nat.reduceLT, Nat.reduceLeDiff, Nat.reduceMul, Nat.reduceSub, if_false, if_true, ite_false, ite_true, reduceIte, Ty.row, tyAll, e3]
  | (.pair a b), (.pair c d) => by
    by_cases h1 : a = c <;> by_cases h2 : b = d
    · have u0 := sameType sh a c
      have u1 := sameType sh b d
      try simp only [Ty.row] at u0 u1
      have u0' := clR.use u0
      have u1' := clR.use u1
      have e1 : decide (a = c) = true := by simp [h1]
      have e2 : decide (b = d) = true := by simp [h2]
      have e3 : decide ((Ty.pair a b) = (Ty.pair c d)) = true := by simp [h1, h2]
      refine run_eq (run_of (pf := p83) rfl ?_)
      unfold p83
      simp only [R.loop_eq, wp0, wp1, wp2, wp3, wp4, PV.cellsT, appMax, dropSh, fillB, fillS, putD, splice, src, startSt, Int.reduceAdd, Int.reduceEq, Int.reduceLE, Int.reduceLT, Int.reduceNeg, Int.reduceSub, Int.reduceToNat, Nat.reduceAdd, Nat.reduceEqDiff, Nat.reduceLT, Nat.reduceLeDiff, Nat.reduceMul, Nat.reduceSub, if_false, if_true, ite_false, ite_true, reduceIte, Ty.row, tyAll, u0', u1', e1, e2, e3]
    · have u0 := sameType sh a c
      have u1 := sameType sh b d
      try simp only [Ty.row] at u0 u1
      have u0' := clR.use u0
      have u1' := clR.use u1
      have e1 : decide (a = c) = true := by simp [h1]
      have e2 : decide (b = d) = false := by simp [h2]
      have e3 : decide ((Ty.pair a b) = (Ty.pair c d)) = false := by simp [h1, h2]
      refine run_eq (run_of (pf := p83) rfl ?_)
      unfold p83
      simp only [R.loop_eq, wp0, wp1, wp2, wp3, wp4, PV.cellsT, appMax, dropSh, fillB, fillS, putD, splice, src, startSt, Int.reduceAdd, Int.reduceEq, Int.reduceLE, Int.reduceLT, Int.reduceNeg, Int.reduceSub, Int.reduceToNat, Nat.reduceAdd, Nat.reduceEqDiff, Nat.reduceLT, Nat.reduceLeDiff, Nat.reduceMul, Nat.reduceSub, if_false, if_true, ite_false, ite_true, reduceIte, Ty.row, tyAll, u0', u1', e1, e2, e3]
    · have u0 := sameType sh a c
      have u1 := sameType sh b d
      try simp only [Ty.row] at u0 u1
      have u0' := clR.use u0
      have u1' := clR.use u1
      have e1 : decide (a = c) = false := by simp [h1]
      have e2 : decide (b = d) = true := by simp [h2]
      have e3 : decide ((Ty.pair a b) = (Ty.pair c d)) = false := by simp [h1, h2]
      refine run_eq (run_of (pf := p83) rfl ?_)
      unfold p83
      simp only [R.loop_eq, wp0, wp1, wp2, wp3, wp4, PV.cellsT, appMax, dropSh, fillB, fillS, putD, splice, src, startSt, Int.reduceAdd, Int.reduceEq, Int.reduceLE, Int.reduceLT, Int.reduceNeg, Int.reduceSub, Int.reduceToNat, Nat.reduceAdd, Nat.reduceEqDiff, Nat.reduceLT, Nat.reduceLeDiff, Nat.reduceMul, Nat.reduceSub, if_false, if_true, ite_false, ite_true, reduceIte, Ty.row, tyAll, u0', u1', e1, e2, e3]
    · have u0 := sameType sh a c
      have u1 := sameType sh b d
      try simp only [Ty.row] at u0 u1
      have u0' := clR.use u0
      have u1' := clR.use u1
      have e1 : decide (a = c) = false := by simp [h1]
      have e2 : decide (b = d) = false := by simp [h2]
      have e3 : decide ((Ty.pair a b) = (Ty.pair c d)) = false := by simp [h1, h2]
      refine run_eq (run_of (pf := p83) rfl ?_)
      unfold p83
      simp only [R.loop_eq, wp0, wp1, wp2, wp3, wp4, PV.cellsT, appMax, dropSh, fillB, fillS, putD, splice, src, startSt, Int.reduceAdd, Int.reduceEq, Int.reduceLE, Int.reduceLT, Int.reduceNeg, Int.reduceSub, Int.reduceToNat, Nat.reduceAdd, Nat.reduceEqDiff, Nat.reduceLT, Nat.reduceLeDiff, Nat.reduceMul, Nat.reduceSub, if_false, if_true, ite_false, ite_true, reduceIte, Ty.row, tyAll, u0', u1', e1, e2, e3]
  | (.pair a b), (.fn c d) => by
    have e3 : decide ((Ty.pair a b) = (Ty.fn c d)) = false := by simp
    refine run_eq (run_of (pf := p83) rfl ?_)
    unfold p83
    simp only [R.loop_eq, wp0, wp1, wp2, wp3, wp4, PV.cellsT, appMax, dropSh, fillB, fillS, putD, splice, src, startSt, Int.reduceAdd, Int.reduceEq, Int.reduceLE, Int.reduceLT, Int.reduceNeg, Int.reduceSub, Int.reduceToNat, Nat.reduceAdd, Nat.reduceEqDiff, Nat.reduceLT, Nat.reduceLeDiff, Nat.reduceMul, Nat.reduceSub, if_false, if_true, ite_false, ite_true, reduceIte, Ty.row, tyAll, e3]
  | (.fn a b), .nat => by
    have e3 : decide ((Ty.fn a b) = Ty.nat) = false := by simp
    refine run_eq (run_of (pf := p83) rfl ?_)
    unfold p83
    simp only [R.loop_eq, wp0, wp1, wp2, wp3, wp4, PV.cellsT, appMax, dropSh, fillB, fillS, putD, splice, src, startSt, Int.reduceAdd, Int.reduceEq, Int.reduceLE, Int.reduceLT, Int.reduceNeg, Int.reduceSub, Int.reduceToNat, Nat.reduceAdd, Nat.reduceEqDiff, Nat.reduceLT, Nat.reduceLeDiff, Nat.reduceMul, Nat.reduceSub, if_false, if_true, ite_false, ite_true, reduceIte, Ty.row, tyAll, e3]
  | (.fn a b), .list => by
    have e3 : decide ((Ty.fn a b) = Ty.list) = false := by simp
    refine run_eq (run_of (pf := p83) rfl ?_)
    unfold p83
    simp only [R.loop_eq, wp0, wp1, wp2, wp3, wp4, PV.cellsT, appMax, dropSh, fillB, fillS, putD, splice, src, startSt, Int.reduceAdd, Int.reduceEq, Int.reduceLE, Int.reduceLT, Int.reduceNeg, Int.reduceSub, Int.reduceToNat, Nat.reduceAdd, Nat.reduceEqDiff, Nat.reduceLT, Nat.reduceLeDiff, Nat.reduceMul, Nat.reduceSub, if_false, if_true, ite_false, ite_true, reduceIte, Ty.row, tyAll, e3]
  | (.fn a b), .unit => by
    have e3 : decide ((Ty.fn a b) = Ty.unit) = false := by simp
    refine run_eq (run_of (pf := p83) rfl ?_)
    unfold p83
    simp only [R.loop_eq, wp0, wp1, wp2, wp3, wp4, PV.cellsT, appMax, dropSh, fillB, fillS, putD, splice, src, startSt, Int.reduceAdd, Int.reduceEq, Int.reduceLE, Int.reduceLT, Int.reduceNeg, Int.reduceSub, Int.reduceToNat, Nat.reduceAdd, Nat.reduceEqDiff, Nat.reduceLT, Nat.reduceLeDiff, Nat.reduceMul, Nat.reduceSub, if_false, if_true, ite_false, ite_true, reduceIte, Ty.row, tyAll, e3]
  | (.fn a b), (.pair c d) => by
    have e3 : decide ((Ty.fn a b) = (Ty.pair c d)) = false := by simp
    refine run_eq (run_of (pf := p83) rfl ?_)
    unfold p83
    simp only [R.loop_eq, wp0, wp1, wp2, wp3, wp4, PV.cellsT, appMax, dropSh, fillB, fillS, putD, splice, src, startSt, Int.reduceAdd, Int.reduceEq, Int.reduceLE, Int.reduceLT, Int.reduceNeg, Int.reduceSub, Int.reduceToNat, Nat.reduceAdd, Nat.reduceEqDiff, Nat.reduceLT, Nat.reduceLeDiff, Nat.reduceMul, Nat.reduceSub, if_false, if_true, ite_false, ite_true, reduceIte, Ty.row, tyAll, e3]
  | (.fn a b), (.fn c d) => by
    by_cases h1 : a = c <;> by_cases h2 : b = d
    · have u0 := sameType sh a c
      have u1 := sameType sh b d
      try simp only [Ty.row] at u0 u1
      have u0' := clR.use u0
      have u1' := clR.use u1
      have e1 : decide (a = c) = true := by simp [h1]
      have e2 : decide (b = d) = true := by simp [h2]
      have e3 : decide ((Ty.fn a b) = (Ty.fn c d)) = true := by simp [h1, h2]
      refine run_eq (run_of (pf := p83) rfl ?_)
      unfold p83
      simp only [R.loop_eq, wp0, wp1, wp2, wp3, wp4, PV.cellsT, appMax, dropSh, fillB, fillS, putD, splice, src, startSt, Int.reduceAdd, Int.reduceEq, Int.reduceLE, Int.reduceLT, Int.reduceNeg, Int.reduceSub, Int.reduceToNat, Nat.reduceAdd, Nat.reduceEqDiff, Nat.reduceLT, Nat.reduceLeDiff, Nat.reduceMul, Nat.reduceSub, if_false, if_true, ite_false, ite_true, reduceIte, Ty.row, tyAll, u0', u1', e1, e2, e3]
    · have u0 := sameType sh a c
      have u1 := sameType sh b d
      try simp only [Ty.row] at u0 u1
      have u0' := clR.use u0
      have u1' := clR.use u1
      have e1 : decide (a = c) = true := by simp [h1]
      have e2 : decide (b = d) = false := by simp [h2]
      have e3 : decide ((Ty.fn a b) = (Ty.fn c d)) = false := by simp [h1, h2]
      refine run_eq (run_of (pf := p83) rfl ?_)
      unfold p83
      simp only [R.loop_eq, wp0, wp1, wp2, wp3, wp4, PV.cellsT, appMax, dropSh, fillB, fillS, putD, splice, src, startSt, Int.reduceAdd, Int.reduceEq, Int.reduceLE, Int.reduceLT, Int.reduceNeg, Int.reduceSub, Int.reduceToNat, Nat.reduceAdd, Nat.reduceEqDiff, Nat.reduceLT, Nat.reduceLeDiff, Nat.reduceMul, Nat.reduceSub, if_false, if_true, ite_false, ite_true, reduceIte, Ty.row, tyAll, u0', u1', e1, e2, e3]
    · have u0 := sameType sh a c
      have u1 := sameType sh b d
      try simp only [Ty.row] at u0 u1
      have u0' := clR.use u0
      have u1' := clR.use u1
      have e1 : decide (a = c) = false := by simp [h1]
      have e2 : decide (b = d) = true := by simp [h2]
      have e3 : decide ((Ty.fn a b) = (Ty.fn c d)) = false := by simp [h1, h2]
      refine run_eq (run_of (pf := p83) rfl ?_)
      unfold p83
      simp only [R.loop_eq, wp0, wp1, wp2, wp3, wp4, PV.cellsT, appMax, dropSh, fillB, fillS, putD, splice, src, startSt, Int.reduceAdd, Int.reduceEq, Int.reduceLE, Int.reduceLT, Int.reduceNeg, Int.reduceSub, Int.reduceToNat, Nat.reduceAdd, Nat.reduceEqDiff, Nat.reduceLT, Nat.reduceLeDiff, Nat.reduceMul, Nat.reduceSub, if_false, if_true, ite_false, ite_true, reduceIte, Ty.row, tyAll, u0', u1', e1, e2, e3]
    · have u0 := sameType sh a c
      have u1 := sameType sh b d
      try simp only [Ty.row] at u0 u1
      have u0' := clR.use u0
      have u1' := clR.use u1
      have e1 : decide (a = c) = false := by simp [h1]
      have e2 : decide (b = d) = false := by simp [h2]
      have e3 : decide ((Ty.fn a b) = (Ty.fn c d)) = false := by simp [h1, h2]
      refine run_eq (run_of (pf := p83) rfl ?_)
      unfold p83
      simp only [R.loop_eq, wp0, wp1, wp2, wp3, wp4, PV.cellsT, appMax, dropSh, fillB, fillS, putD, splice, src, startSt, Int.reduceAdd, Int.reduceEq, Int.reduceLE, Int.reduceLT, Int.reduceNeg, Int.reduceSub, Int.reduceToNat, Nat.reduceAdd, Nat.reduceEqDiff, Nat.reduceLT, Nat.reduceLeDiff, Nat.reduceMul, Nat.reduceSub, if_false, if_true, ite_false, ite_true, reduceIte, Ty.row, tyAll, u0', u1', e1, e2, e3]

theorem same15 (sh : Sh) : ∀ a b : Ty, ∃ n, callN T G n 15 [.ag a.row, .ag b.row] sh = some (.v (.bool (decide (a = b))), sh)
  | .nat, .nat => by
    have e3 : decide (Ty.nat = Ty.nat) = true := by simp
    refine run_eq (run_of (pf := p15) rfl ?_)
    unfold p15
    simp only [R.loop_eq, wp0, wp1, wp2, wp3, wp4, PV.cellsT, appMax, dropSh, fillB, fillS, putD, splice, src, startSt, Int.reduceAdd, Int.reduceEq, Int.reduceLE, Int.reduceLT, Int.reduceNeg, Int.reduceSub, Int.reduceToNat, Nat.reduceAdd, Nat.reduceEqDiff, Nat.reduceLT, Nat.reduceLeDiff, Nat.reduceMul, Nat.reduceSub, if_false, if_true, ite_false, ite_true, reduceIte, Ty.row, tyAll, e3]
  | .nat, .list => by
    have e3 : decide (Ty.nat = Ty.list) = false := by simp
    refine run_eq (run_of (pf := p15) rfl ?_)
    unfold p15
    simp only [R.loop_eq, wp0, wp1, wp2, wp3, wp4, PV.cellsT, appMax, dropSh, fillB, fillS, putD, splice, src, startSt, Int.reduceAdd, Int.reduceEq, Int.reduceLE, Int.reduceLT, Int.reduceNeg, Int.reduceSub, Int.reduceToNat, Nat.reduceAdd, Nat.reduceEqDiff, Nat.reduceLT, Nat.reduceLeDiff, Nat.reduceMul, Nat.reduceSub, if_false, if_true, ite_false, ite_true, reduceIte, Ty.row, tyAll, e3]
  | .nat, .unit => by
    have e3 : decide (Ty.nat = Ty.unit) = false := by simp
    refine run_eq (run_of (pf := p15) rfl ?_)
    unfold p15
    simp only [R.loop_eq, wp0, wp1, wp2, wp3, wp4, PV.cellsT, appMax, dropSh, fillB, fillS, putD, splice, src, startSt, Int.reduceAdd, Int.reduceEq, Int.reduceLE, Int.reduceLT, Int.reduceNeg, Int.reduceSub, Int.reduceToNat, Nat.reduceAdd, Nat.reduceEqDiff, Nat.reduceLT, Nat.reduceLeDiff, Nat.reduceMul, Nat.reduceSub, if_false, if_true, ite_false, ite_true, reduceIte, Ty.row, tyAll, e3]
  | .nat, (.pair c d) => by
    have e3 : decide (Ty.nat = (Ty.pair c d)) = false := by simp
    refine run_eq (run_of (pf := p15) rfl ?_)
    unfold p15
    simp only [R.loop_eq, wp0, wp1, wp2, wp3, wp4, PV.cellsT, appMax, dropSh, fillB, fillS, putD, splice, src, startSt, Int.reduceAdd, Int.reduceEq, Int.reduceLE, Int.reduceLT, Int.reduceNeg, Int.reduceSub, Int.reduceToNat, Nat.reduceAdd, Nat.reduceEqDiff, Nat.reduceLT, Nat.reduceLeDiff, Nat.reduceMul, Nat.reduceSub, if_false, if_true, ite_false, ite_true, reduceIte, Ty.row, tyAll, e3]
  | .nat, (.fn c d) => by
    have e3 : decide (Ty.nat = (Ty.fn c d)) = false := by simp
    refine run_eq (run_of (pf := p15) rfl ?_)
    unfold p15
    simp only [R.loop_eq, wp0, wp1, wp2, wp3, wp4, PV.cellsT, appMax, dropSh, fillB, fillS, putD, splice, src, startSt, Int.reduceAdd, Int.reduceEq, Int.reduceLE, Int.reduceLT, Int.reduceNeg, Int.reduceSub, Int.reduceToNat, Nat.reduceAdd, Nat.reduceEqDiff, Nat.reduceLT, Nat.reduceLeDiff, Nat.reduceMul, Nat.reduceSub, if_false, if_true, ite_false, ite_true, reduceIte, Ty.row, tyAll, e3]
  | .list, .nat => by
    have e3 : decide (Ty.list = Ty.nat) = false := by simp
    refine run_eq (run_of (pf := p15) rfl ?_)
    unfold p15
    simp only [R.loop_eq, wp0, wp1, wp2, wp3, wp4, PV.cellsT, appMax, dropSh, fillB, fillS, putD, splice, src, startSt, Int.reduceAdd, Int.reduceEq, Int.reduceLE, Int.reduceLT, Int.reduceNeg, Int.reduceSub, Int.reduceToNat, Nat.reduceAdd, Nat.reduceEqDiff, Nat.reduceLT, Nat.reduceLeDiff, Nat.reduceMul, Nat.reduceSub, if_false, if_true, ite_false, ite_true, reduceIte, Ty.row, tyAll, e3]
  | .list, .list => by
    have e3 : decide (Ty.list = Ty.list) = true := by simp
    refine run_eq (run_of (pf := p15) rfl ?_)
    unfold p15
    simp only [R.loop_eq, wp0, wp1, wp2, wp3, wp4, PV.cellsT, appMax, dropSh, fillB, fillS, putD, splice, src, startSt, Int.reduceAdd, Int.reduceEq, Int.reduceLE, Int.reduceLT, Int.reduceNeg, Int.reduceSub, Int.reduceToNat, Nat.reduceAdd, Nat.reduceEqDiff, Nat.reduceLT, Nat.reduceLeDiff, Nat.reduceMul, Nat.reduceSub, if_false, if_true, ite_false, ite_true, reduceIte, Ty.row, tyAll, e3]
  | .list, .unit => by
    have e3 : decide (Ty.list = Ty.unit) = false := by simp
    refine run_eq (run_of (pf := p15) rfl ?_)
    unfold p15
    simp only [R.loop_eq, wp0, wp1, wp2, wp3, wp4, PV.cellsT, appMax, dropSh, fillB, fillS, putD, splice, src, startSt, Int.reduceAdd, Int.reduceEq, Int.reduceLE, Int.reduceLT, Int.reduceNeg, Int.reduceSub, Int.reduceToNat, Nat.reduceAdd, Nat.reduceEqDiff, Nat.reduceLT, Nat.reduceLeDiff, Nat.reduceMul, Nat.reduceSub, if_false, if_true, ite_false, ite_true, reduceIte, Ty.row, tyAll, e3]
  | .list, (.pair c d) => by
    have e3 : decide (Ty.list = (Ty.pair c d)) = false := by simp
    refine run_eq (run_of (pf := p15) rfl ?_)
    unfold p15
    simp only [R.loop_eq, wp0, wp1, wp2, wp3, wp4, PV.cellsT, appMax, dropSh, fillB, fillS, putD, splice, src, startSt, Int.reduceAdd, Int.reduceEq, Int.reduceLE, Int.reduceLT, Int.reduceNeg, Int.reduceSub, Int.reduceToNat, Nat.reduceAdd, Nat.reduceEqDiff, Nat.reduceLT, Nat.reduceLeDiff, Nat.reduceMul, Nat.reduceSub, if_false, if_true, ite_false, ite_true, reduceIte, Ty.row, tyAll, e3]
  | .list, (.fn c d) => by
    have e3 : decide (Ty.list = (Ty.fn c d)) = false := by simp
    refine run_eq (run_of (pf := p15) rfl ?_)
    unfold p15
    simp only [R.loop_eq, wp0, wp1, wp2, wp3, wp4, PV.cellsT, appMax, dropSh, fillB, fillS, putD, splice, src, startSt, Int.reduceAdd, Int.reduceEq, Int.reduceLE, Int.reduceLT, Int.reduceNeg, Int.reduceSub, Int.reduceToNat, Nat.reduceAdd, Nat.reduceEqDiff, Nat.reduceLT, Nat.reduceLeDiff, Nat.reduceMul, Nat.reduceSub, if_false, if_true, ite_false, ite_true, reduceIte, Ty.row, tyAll, e3]
  | .unit, .nat => by
    have e3 : decide (Ty.unit = Ty.nat) = false := by simp
    refine run_eq (run_of (pf := p15) rfl ?_)
    unfold p15
    simp only [R.loop_eq, wp0, wp1, wp2, wp3, wp4, PV.cellsT, appMax, dropSh, fillB, fillS, putD, splice, src, startSt, Int.reduceAdd, Int.reduceEq, Int.reduceLE, Int.reduceLT, Int.reduceNeg, Int.reduceSub, Int.reduceToNat, Nat.reduceAdd, Nat.reduceEqDiff, Nat.reduceLT, Nat.reduceLeDiff, Nat.reduceMul, Nat.reduceSub, if_false, if_true, ite_false, ite_true, reduceIte, Ty.row, tyAll, e3]
  | .unit, .list => by
    have e3 : decide (Ty.unit = Ty.list) = false := by simp
    refine run_eq (run_of (pf := p15) rfl ?_)
    unfold p15
    simp only [R.loop_eq, wp0, wp1, wp2, wp3, wp4, PV.cellsT, appMax, dropSh, fillB, fillS, putD, splice, src, startSt, Int.reduceAdd, Int.reduceEq, Int.reduceLE, Int.reduceLT, Int.reduceNeg, Int.reduceSub, Int.reduceToNat, Nat.reduceAdd, Nat.reduceEqDiff, Nat.reduceLT, Nat.reduceLeDiff, Nat.reduceMul, Nat.reduceSub, if_false, if_true, ite_false, ite_true, reduceIte, Ty.row, tyAll, e3]
  | .unit, .unit => by
    have e3 : decide (Ty.unit = Ty.unit) = true := by simp
    refine run_eq (run_of (pf := p15) rfl ?_)
    unfold p15
    simp only [R.loop_eq, wp0, wp1, wp2, wp3, wp4, PV.cellsT, appMax, dropSh, fillB, fillS, putD, splice, src, startSt, Int.reduceAdd, Int.reduceEq, Int.reduceLE, Int.reduceLT, Int.reduceNeg, Int.reduceSub, Int.reduceToNat, Nat.reduceAdd, Nat.reduceEqDiff, Nat.reduceLT, Nat.reduceLeDiff, Nat.reduceMul, Nat.reduceSub, if_false, if_true, ite_false, ite_true, reduceIte, Ty.row, tyAll, e3]
  | .unit, (.pair c d) => by
    have e3 : decide (Ty.unit = (Ty.pair c d)) = false := by simp
    refine run_eq (run_of (pf := p15) rfl ?_)
    unfold p15
    simp only [R.loop_eq, wp0, wp1, wp2, wp3, wp4, PV.cellsT, appMax, dropSh, fillB, fillS, putD, splice, src, startSt, Int.reduceAdd, Int.reduceEq, Int.reduceLE, Int.reduceLT, Int.reduceNeg, Int.reduceSub, Int.reduceToNat, Nat.reduceAdd, Nat.reduceEqDiff, Nat.reduceLT, Nat.reduceLeDiff, Nat.reduceMul, Nat.reduceSub, if_false, if_true, ite_false, ite_true, reduceIte, Ty.row, tyAll, e3]
  | .unit, (.fn c d) => by
    have e3 : decide (Ty.unit = (Ty.fn c d)) = false := by simp
    refine run_eq (run_of (pf := p15) rfl ?_)
    unfold p15
    simp only [R.loop_eq, wp0, wp1, wp2, wp3, wp4, PV.cellsT, appMax, dropSh, fillB, fillS, putD, splice, src, startSt, Int.reduceAdd, Int.reduceEq, Int.reduceLE, Int.reduceLT, Int.reduceNeg, Int.reduceSub, Int.reduceToNat, Nat.reduceAdd, Nat.reduceEqDiff, Nat.reduceLT, Nat.reduceLeDiff, Nat.reduceMul, Nat.reduceSub, if_false, if_true, ite_false, ite_true, reduceIte, Ty.row, tyAll, e3]
  | (.pair a b), .nat => by
    have e3 : decide ((Ty.pair a b) = Ty.nat) = false := by simp
    refine run_eq (run_of (pf := p15) rfl ?_)
    unfold p15
    simp only [R.loop_eq, wp0, wp1, wp2, wp3, wp4, PV.cellsT, appMax, dropSh, fillB, fillS, putD, splice, src, startSt, Int.reduceAdd, Int.reduceEq, Int.reduceLE, Int.reduceLT, Int.reduceNeg, Int.reduceSub, Int.reduceToNat, Nat.reduceAdd, Nat.reduceEqDiff, Nat.reduceLT, Nat.reduceLeDiff, Nat.reduceMul, Nat.reduceSub, if_false, if_true, ite_false, ite_true, reduceIte, Ty.row, tyAll, e3]
  | (.pair a b), .list => by
    have e3 : decide ((Ty.pair a b) = Ty.list) = false := by simp
    refine run_eq (run_of (pf := p15) rfl ?_)
    unfold p15
    simp only [R.loop_eq, wp0, wp1, wp2, wp3, wp4, PV.cellsT, appMax, dropSh, fillB, fillS, putD, splice, src, startSt, Int.reduceAdd, Int.reduceEq, Int.reduceLE, Int.reduceLT, Int.reduceNeg, Int.reduceSub, Int.reduceToNat, Nat.reduceAdd, Nat.reduceEqDiff, Nat.reduceLT, Nat.reduceLeDiff, Nat.reduceMul, Nat.reduceSub, if_false, if_true, ite_false, ite_true, reduceIte, Ty.row, tyAll, e3]
  | (.pair a b), .unit => by
    have e3 : decide ((Ty.pair a b) = Ty.unit) = false := by simp
    refine run_eq (run_of (pf := p15) rfl ?_)
    unfold p15
    simp only [R.loop_eq, wp0, wp1, wp2, wp3, wp4, PV.cellsT, appMax, dropSh, fillB, fillS, putD, splice, src, startSt, Int.reduceAdd, Int.reduceEq, Int.reduceLE, Int.reduceLT, Int.reduceNeg, Int.reduceSub, Int.reduceToNat, Nat.reduceAdd, Nat.reduceEqDiff, Nat.reduceLT, Nat.reduceLeDiff, Nat.reduceMul, Nat.reduceSub, if_false, if_true, ite_false, ite_true, reduceIte, Ty.row, tyAll, e3]
  | (.pair a b), (.pair c d) => by
    by_cases h1 : a = c <;> by_cases h2 : b = d
    · have u0 := same15 sh a c
      have u1 := same15 sh b d
      try simp only [Ty.row] at u0 u1
      have u0' := clR.use u0
      have u1' := clR.use u1
      have e1 : decide (a = c) = true := by simp [h1]
      have e2 : decide (b = d) = true := by simp [h2]
      have e3 : decide ((Ty.pair a b) = (Ty.pair c d)) = true := by simp [h1, h2]
      refine run_eq (run_of (pf := p15) rfl ?_)
      unfold p15
      simp only [R.loop_eq, wp0, wp1, wp2, wp3, wp4, PV.cellsT, appMax, dropSh, fillB, fillS, putD, splice, src, startSt, Int.reduceAdd, Int.reduceEq, Int.reduceLE, Int.reduceLT, Int.reduceNeg, Int.reduceSub, Int.reduceToNat, Nat.reduceAdd, Nat.reduceEqDiff, Nat.reduceLT, Nat.reduceLeDiff, Nat.reduceMul, Nat.reduceSub, if_false, if_true, ite_false, ite_true, reduceIte, Ty.row, tyAll, u0', u1', e1, e2, e3]
    · have u0 := same15 sh a c
      have u1 := same15 sh b d
      try simp only [Ty.row] at u0 u1
      have u0' := clR.use u0
      have u1' := clR.use u1
      have e1 : decide (a = c) = true := by simp [h1]
      have e2 : decide (b = d) = false := by simp [h2]
      have e3 : decide ((Ty.pair a b) = (Ty.pair c d)) = false := by simp [h1, h2]
      refine run_eq (run_of (pf := p15) rfl ?_)
      unfold p15
      simp only [R.loop_eq, wp0, wp1, wp2, wp3, wp4, PV.cellsT, appMax, dropSh, fillB, fillS, putD, splice, src, startSt, Int.reduceAdd, Int.reduceEq, Int.reduceLE, Int.reduceLT, Int.reduceNeg, Int.reduceSub, Int.reduceToNat, Nat.reduceAdd, Nat.reduceEqDiff, Nat.reduceLT, Nat.reduceLeDiff, Nat.reduceMul, Nat.reduceSub, if_false, if_true, ite_false, ite_true, reduceIte, Ty.row, tyAll, u0', u1', e1, e2, e3]
    · have u0 := same15 sh a c
      have u1 := same15 sh b d
      try simp only [Ty.row] at u0 u1
      have u0' := clR.use u0
      have u1' := clR.use u1
      have e1 : decide (a = c) = false := by simp [h1]
      have e2 : decide (b = d) = true := by simp [h2]
      have e3 : decide ((Ty.pair a b) = (Ty.pair c d)) = false := by simp [h1, h2]
      refine run_eq (run_of (pf := p15) rfl ?_)
      unfold p15
      simp only [R.loop_eq, wp0, wp1, wp2, wp3, wp4, PV.cellsT, appMax, dropSh, fillB, fillS, putD, splice, src, startSt, Int.reduceAdd, Int.reduceEq, Int.reduceLE, Int.reduceLT, Int.reduceNeg, Int.reduceSub, Int.reduceToNat, Nat.reduceAdd, Nat.reduceEqDiff, Nat.reduceLT, Nat.reduceLeDiff, Nat.reduceMul, Nat.reduceSub, if_false, if_true, ite_false, ite_true, reduceIte, Ty.row, tyAll, u0', u1', e1, e2, e3]
    · have u0 := same15 sh a c
      have u1 := same15 sh b d
      try simp only [Ty.row] at u0 u1
      have u0' := clR.use u0
      have u1' := clR.use u1
      have e1 : decide (a = c) = false := by simp [h1]
      have e2 : decide (b = d) = false := by simp [h2]
      have e3 : decide ((Ty.pair a b) = (Ty.pair c d)) = false := by simp [h1, h2]
      refine run_eq (run_of (pf := p15) rfl ?_)
      unfold p15
      simp only [R.loop_eq, wp0, wp1, wp2, wp3, wp4, PV.cellsT, appMax, dropSh, fillB, fillS, putD, splice, src, startSt, Int.reduceAdd, Int.reduceEq, Int.reduceLE, Int.reduceLT, Int.reduceNeg, Int.reduceSub, Int.reduceToNat, Nat.reduceAdd, Nat.reduceEqDiff, Nat.reduceLT, Nat.reduceLeDiff, Nat.reduceMul, Nat.reduceSub, if_false, if_true, ite_false, ite_true, reduceIte, Ty.row, tyAll, u0', u1', e1, e2, e3]
  | (.pair a b), (.fn c d) => by
    have e3 : decide ((Ty.pair a b) = (Ty.fn c d)) = false := by simp
    refine run_eq (run_of (pf := p15) rfl ?_)
    unfold p15
    simp only [R.loop_eq, wp0, wp1, wp2, wp3, wp4, PV.cellsT, appMax, dropSh, fillB, fillS, putD, splice, src, startSt, Int.reduceAdd, Int.reduceEq, Int.reduceLE, Int.reduceLT, Int.reduceNeg, Int.reduceSub, Int.reduceToNat, Nat.reduceAdd, Nat.reduceEqDiff, Nat.reduceLT, Nat.reduceLeDiff, Nat.reduceMul, Nat.reduceSub, if_false, if_true, ite_false, ite_true, reduceIte, Ty.row, tyAll, e3]
  | (.fn a b), .nat => by
    have e3 : decide ((Ty.fn a b) = Ty.nat) = false := by simp
    refine run_eq (run_of (pf := p15) rfl ?_)
    unfold p15
    simp only [R.loop_eq, wp0, wp1, wp2, wp3, wp4, PV.cellsT, appMax, dropSh, fillB, fillS, putD, splice, src, startSt, Int.reduceAdd, Int.reduceEq, Int.reduceLE, Int.reduceLT, Int.reduceNeg, Int.reduceSub, Int.reduceToNat, Nat.reduceAdd, Nat.reduceEqDiff, Nat.reduceLT, Nat.reduceLeDiff, Nat.reduceMul, Nat.reduceSub, if_false, if_true, ite_false, ite_true, reduceIte, Ty.row, tyAll, e3]
  | (.fn a b), .list => by
    have e3 : decide ((Ty.fn a b) = Ty.list) = false := by simp
    refine run_eq (run_of (pf := p15) rfl ?_)
    unfold p15
    simp only [R.loop_eq, wp0, wp1, wp2, wp3, wp4, PV.cellsT, appMax, dropSh, fillB, fillS, putD, splice, src, startSt, Int.reduceAdd, Int.reduceEq, Int.reduceLE, Int.reduceLT, Int.reduceNeg, Int.reduceSub, Int.reduceToNat, Nat.reduceAdd, Nat.reduceEqDiff, Nat.reduceLT, Nat.reduceLeDiff, Nat.reduceMul, Nat.reduceSub, if_false, if_true, ite_false, ite_true, reduceIte, Ty.row, tyAll, e3]
  | (.fn a b), .unit => by
    have e3 : decide ((Ty.fn a b) = Ty.unit) = false := by simp
    refine run_eq (run_of (pf := p15) rfl ?_)
    unfold p15
    simp only [R.loop_eq, wp0, wp1, wp2, wp3, wp4, PV.cellsT, appMax, dropSh, fillB, fillS, putD, splice, src, startSt, Int.reduceAdd, Int.reduceEq, Int.reduceLE, Int.reduceLT, Int.reduceNeg, Int.reduceSub, Int.reduceToNat, Nat.reduceAdd, Nat.reduceEqDiff, Nat.reduceLT, Nat.reduceLeDiff, Nat.reduceMul, Nat.reduceSub, if_false, if_true, ite_false, ite_true, reduceIte, Ty.row, tyAll, e3]
  | (.fn a b), (.pair c d) => by
    have e3 : decide ((Ty.fn a b) = (Ty.pair c d)) = false := by simp
    refine run_eq (run_of (pf := p15) rfl ?_)
    unfold p15
    simp only [R.loop_eq, wp0, wp1, wp2, wp3, wp4, PV.cellsT, appMax, dropSh, fillB, fillS, putD, splice, src, startSt, Int.reduceAdd, Int.reduceEq, Int.reduceLE, Int.reduceLT, Int.reduceNeg, Int.reduceSub, Int.reduceToNat, Nat.reduceAdd, Nat.reduceEqDiff, Nat.reduceLT, Nat.reduceLeDiff, Nat.reduceMul, Nat.reduceSub, if_false, if_true, ite_false, ite_true, reduceIte, Ty.row, tyAll, e3]
  | (.fn a b), (.fn c d) => by
    by_cases h1 : a = c <;> by_cases h2 : b = d
    · have u0 := same15 sh a c
      have u1 := same15 sh b d
      try simp only [Ty.row] at u0 u1
      have u0' := clR.use u0
      have u1' := clR.use u1
      have e1 : decide (a = c) = true := by simp [h1]
      have e2 : decide (b = d) = true := by simp [h2]
      have e3 : decide ((Ty.fn a b) = (Ty.fn c d)) = true := by simp [h1, h2]
      refine run_eq (run_of (pf := p15) rfl ?_)
      unfold p15
      simp only [R.loop_eq, wp0, wp1, wp2, wp3, wp4, PV.cellsT, appMax, dropSh, fillB, fillS, putD, splice, src, startSt, Int.reduceAdd, Int.reduceEq, Int.reduceLE, Int.reduceLT, Int.reduceNeg, Int.reduceSub, Int.reduceToNat, Nat.reduceAdd, Nat.reduceEqDiff, Nat.reduceLT, Nat.reduceLeDiff, Nat.reduceMul, Nat.reduceSub, if_false, if_true, ite_false, ite_true, reduceIte, Ty.row, tyAll, u0', u1', e1, e2, e3]
    · have u0 := same15 sh a c
      have u1 := same15 sh b d
      try simp only [Ty.row] at u0 u1
      have u0' := clR.use u0
      have u1' := clR.use u1
      have e1 : decide (a = c) = true := by simp [h1]
      have e2 : decide (b = d) = false := by simp [h2]
      have e3 : decide ((Ty.fn a b) = (Ty.fn c d)) = false := by simp [h1, h2]
      refine run_eq (run_of (pf := p15) rfl ?_)
      unfold p15
      simp only [R.loop_eq, wp0, wp1, wp2, wp3, wp4, PV.cellsT, appMax, dropSh, fillB, fillS, putD, splice, src, startSt, Int.reduceAdd, Int.reduceEq, Int.reduceLE, Int.reduceLT, Int.reduceNeg, Int.reduceSub, Int.reduceToNat, Nat.reduceAdd, Nat.reduceEqDiff, Nat.reduceLT, Nat.reduceLeDiff, Nat.reduceMul, Nat.reduceSub, if_false, if_true, ite_false, ite_true, reduceIte, Ty.row, tyAll, u0', u1', e1, e2, e3]
    · have u0 := same15 sh a c
      have u1 := same15 sh b d
      try simp only [Ty.row] at u0 u1
      have u0' := clR.use u0
      have u1' := clR.use u1
      have e1 : decide (a = c) = false := by simp [h1]
      have e2 : decide (b = d) = true := by simp [h2]
      have e3 : decide ((Ty.fn a b) = (Ty.fn c d)) = false := by simp [h1, h2]
      refine run_eq (run_of (pf := p15) rfl ?_)
      unfold p15
      simp only [R.loop_eq, wp0, wp1, wp2, wp3, wp4, PV.cellsT, appMax, dropSh, fillB, fillS, putD, splice, src, startSt, Int.reduceAdd, Int.reduceEq, Int.reduceLE, Int.reduceLT, Int.reduceNeg, Int.reduceSub, Int.reduceToNat, Nat.reduceAdd, Nat.reduceEqDiff, Nat.reduceLT, Nat.reduceLeDiff, Nat.reduceMul, Nat.reduceSub, if_false, if_true, ite_false, ite_true, reduceIte, Ty.row, tyAll, u0', u1', e1, e2, e3]
    · have u0 := same15 sh a c
      have u1 := same15 sh b d
      try simp only [Ty.row] at u0 u1
      have u0' := clR.use u0
      have u1' := clR.use u1
      have e1 : decide (a = c) = false := by simp [h1]
      have e2 : decide (b = d) = false := by simp [h2]
      have e3 : decide ((Ty.fn a b) = (Ty.fn c d)) = false := by simp [h1, h2]
      refine run_eq (run_of (pf := p15) rfl ?_)
      unfold p15
      simp only [R.loop_eq, wp0, wp1, wp2, wp3, wp4, PV.cellsT, appMax, dropSh, fillB, fillS, putD, splice, src, startSt, Int.reduceAdd, Int.reduceEq, Int.reduceLE, Int.reduceLT, Int.reduceNeg, Int.reduceSub, Int.reduceToNat, Nat.reduceAdd, Nat.reduceEqDiff, Nat.reduceLT, Nat.reduceLeDiff, Nat.reduceMul, Nat.reduceSub, if_false, if_true, ite_false, ite_true, reduceIte, Ty.row, tyAll, u0', u1', e1, e2, e3]

end Go.Pi.Terms
