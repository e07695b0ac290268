import Derived.Test.YtckcklkbdbafbaaDoorTA
set_option maxRecDepth 100000
set_option maxHeartbeats 1000000
set_option linter.unusedSimpArgs false
set_option linter.unusedVariables false
namespace Go.Pi.Terms
open Go Go.Pi Go.Proofs.YtckcklkbdbafbaaDoor
theorem typeNodes (sh : Sh) : ∀ t : Ty, t.nodes ≤ 1000 → ∃ n, callN T G n 94 [.ag t.row] sh = some (.tup [i64 t.nodes, .v (.bool true)], sh)
  | .nat, _ => by
    refine run_eq (run_of (pf := p94) rfl ?_)
    unfold p94
    simp only [R.loop_eq, wp0, wp1, wp2, wp3, wp4, PV.cellsT, appMax, dropSh, fillB, fillS, putD, splice, src, startSt, Int.reduceAdd, Int.reduceEq, Int.reduceLE, Int.reduceLT, Int.reduceNeg, Int.reduceSub, Int.reduceToNat, Nat.reduceAdd, Nat.reduceEqDiff, Nat.reduceLT, Nat.reduceLeDiff, Nat.reduceMul, Nat.reduceSub, if_false, if_true, ite_false, ite_true, reduceIte, Ty.row, tyAll, Ty.nodes]
  | .list, _ => by
    refine run_eq (run_of (pf := p94) rfl ?_)
    unfold p94
    simp only [R.loop_eq, wp0, wp1, wp2, wp3, wp4, PV.cellsT, appMax, dropSh, fillB, fillS, putD, splice, src, startSt, Int.reduceAdd, Int.reduceEq, Int.reduceLE, Int.reduceLT, Int.reduceNeg, Int.reduceSub, Int.reduceToNat, Nat.reduceAdd, Nat.reduceEqDiff, Nat.reduceLT, Nat.reduceLeDiff, Nat.reduceMul, Nat.reduceSub, if_false, if_true, ite_false, ite_true, reduceIte, Ty.row, tyAll, Ty.nodes]
  | .unit, _ => by
    refine run_eq (run_of (pf := p94) rfl ?_)
    unfold p94
    simp only [R.loop_eq, wp0, wp1, wp2, wp3, wp4, PV.cellsT, appMax, dropSh, fillB, fillS, putD, splice, src, startSt, Int.reduceAdd, Int.reduceEq, Int.reduceLE, Int.reduceLT, Int.reduceNeg, Int.reduceSub, Int.reduceToNat, Nat.reduceAdd, Nat.reduceEqDiff, Nat.reduceLT, Nat.reduceLeDiff, Nat.reduceMul, Nat.reduceSub, if_false, if_true, ite_false, ite_true, reduceIte, Ty.row, tyAll, Ty.nodes]
  | .pair a b, h => by
    simp only [Ty.nodes] at h
    have u0 := typeNodes sh a (by omega)
    have u1 := typeNodes sh b (by omega)
    try simp only [Ty.row] at u0 u1
    have u0' := clR.use u0
    have u1' := clR.use u1
    have w1 : IntKind.i64.wrap (1 + (a.nodes : Int)) = 1 + (a.nodes : Int) := wrap_i64 (by omega)
    have w2 : IntKind.i64.wrap (1 + (a.nodes : Int) + (b.nodes : Int)) = 1 + (a.nodes : Int) + (b.nodes : Int) := wrap_i64 (by omega)
    refine run_eq (run_of (pf := p94) rfl ?_)
    unfold p94
    simp only [R.loop_eq, wp0, wp1, wp2, wp3, wp4, PV.cellsT, appMax, dropSh, fillB, fillS, putD, splice, src, startSt, Int.reduceAdd, Int.reduceEq, Int.reduceLE, Int.reduceLT, Int.reduceNeg, Int.reduceSub, Int.reduceToNat, Nat.reduceAdd, Nat.reduceEqDiff, Nat.reduceLT, Nat.reduceLeDiff, Nat.reduceMul, Nat.reduceSub, if_false, if_true, ite_false, ite_true, reduceIte, Ty.row, tyAll, u0', u1', w1, w2, Ty.nodes, Int.natCast_add]
  | .fn a b, h => by
    simp only [Ty.nodes] at h
    have u0 := typeNodes sh a (by omega)
    have u1 := typeNodes sh b (by omega)
    try simp only [Ty.row] at u0 u1
    have u0' := clR.use u0
    have u1' := clR.use u1
    have w1 : IntKind.i64.wrap (1 + (a.nodes : Int)) = 1 + (a.nodes : Int) := wrap_i64 (by omega)
    have w2 : IntKind.i64.wrap (1 + (a.nodes : Int) + (b.nodes : Int)) = 1 + (a.nodes : Int) + (b.nodes : Int) := wrap_i64 (by omega)
    refine run_eq (run_of (pf := p94) rfl ?_)
    unfold p94
    simp only [R.loop_eq, wp0, wp1, wp2, wp3, wp4, PV.cellsT, appMax, dropSh, fillB, fillS, putD, splice, src, startSt, Int.reduceAdd, Int.reduceEq, Int.reduceLE, Int.reduceLT, Int.reduceNeg, Int.reduceSub, Int.reduceToNat, Nat.reduceAdd, Nat.reduceEqDiff, Nat.reduceLT, Nat.reduceLeDiff, Nat.reduceMul, Nat.reduceSub, if_false, if_true, ite_false, ite_true, reduceIte, Ty.row, tyAll, u0', u1', w1, w2, Ty.nodes, Int.natCast_add]

theorem checkType (sh : Sh) (t : Ty) (h : t.nodes ≤ 64) : ∃ n, callN T G n 76 [.ag t.row] sh = some (.tup [i64 t.nodes, .v (.int .i64 0)], sh) := by
  have u0 := typeNodes sh t (by omega)
  try simp only [Ty.row] at u0
  have u0' := clR.use u0
  have h1 : ¬ (64 : Int) < (t.nodes : Int) := by omega
  refine run_eq (run_of (pf := p76) rfl ?_)
  unfold p76
  simp only [R.loop_eq, wp0, wp1, wp2, wp3, wp4, PV.cellsT, appMax, dropSh, fillB, fillS, putD, splice, src, startSt, Int.reduceAdd, Int.reduceEq, Int.reduceLE, Int.reduceLT, Int.reduceNeg, Int.reduceSub, Int.reduceToNat, Nat.reduceAdd, Nat.reduceEqDiff, Nat.reduceLT, Nat.reduceLeDiff, Nat.reduceMul, Nat.reduceSub, if_false, if_true, ite_false, ite_true, reduceIte, Ty.row, tyAll, u0', h1]
theorem typesCheck (sh : Sh) (t : Ty) (h : t.nodes ≤ 64) : ∃ n, callN T G n 55 [.ag t.row] sh = some (i64 0, sh) := by
  have u0 := checkType sh t h
  try simp only [Ty.row] at u0
  have u0' := clR.use u0
  refine run_eq (run_of (pf := p55) rfl ?_)
  unfold p55
  simp only [R.loop_eq, wp0, wp1, wp2, wp3, wp4, PV.cellsT, appMax, dropSh, fillB, fillS, putD, splice, src, startSt, Int.reduceAdd, Int.reduceEq, Int.reduceLE, Int.reduceLT, Int.reduceNeg, Int.reduceSub, Int.reduceToNat, Nat.reduceAdd, Nat.reduceEqDiff, Nat.reduceLT, Nat.reduceLeDiff, Nat.reduceMul, Nat.reduceSub, if_false, if_true, ite_false, ite_true, reduceIte, Ty.row, tyAll, u0']
theorem noType (sh : Sh)  : ∃ n, callN T G n 93 [(.ag [i64 0, .sl 0 0 []])] sh = some (.v (.bool true), sh) := by
  refine run_eq (run_of (pf := p93) rfl ?_)
  unfold p93
  simp only [R.loop_eq, wp0, wp1, wp2, wp3, wp4, PV.cellsT, appMax, dropSh, fillB, fillS, putD, splice, src, startSt, Int.reduceAdd, Int.reduceEq, Int.reduceLE, Int.reduceLT, Int.reduceNeg, Int.reduceSub, Int.reduceToNat, Nat.reduceAdd, Nat.reduceEqDiff, Nat.reduceLT, Nat.reduceLeDiff, Nat.reduceMul, Nat.reduceSub, if_false, if_true, ite_false, ite_true, reduceIte, Ty.row, tyAll]
theorem typedK (sh : Sh) (x : Int) (h : 1 ≤ x ∧ x < 14) : ∃ n, callN T G n 92 [i64 x] sh = some (.v (.bool (decide (x = 2 ∨ x = 6 ∨ x = 9))), sh) := by
  have hx : x = 1 ∨ x = 2 ∨ x = 3 ∨ x = 4 ∨ x = 5 ∨ x = 6 ∨ x = 7 ∨ x = 8 ∨ x = 9 ∨ x = 10 ∨ x = 11 ∨ x = 12 ∨ x = 13 := by omega
  rcases hx with rfl | rfl | rfl | rfl | rfl | rfl | rfl | rfl | rfl | rfl | rfl | rfl | rfl
  all_goals
    refine run_eq (run_of (pf := p92) rfl ?_)
    unfold p92
    simp only [R.loop_eq, wp0, wp1, wp2, wp3, wp4, PV.cellsT, appMax, dropSh, fillB, fillS, putD, splice, src, startSt, Int.reduceAdd, Int.reduceEq, Int.reduceLE, Int.reduceLT, Int.reduceNeg, Int.reduceSub, Int.reduceToNat, Nat.reduceAdd, Nat.reduceEqDiff, Nat.reduceLT, Nat.reduceLeDiff, Nat.reduceMul, Nat.reduceSub, if_false, if_true, ite_false, ite_true, reduceIte, Ty.row, tyAll]
theorem arity (sh : Sh) (x : Int) (h : 1 ≤ x ∧ x < 14) : ∃ n, callN T G n 91 [i64 x] sh = some (.tup [i64 (arT.getD x.toNat 0), .v (.bool true)], sh) := by
  have hx : x = 1 ∨ x = 2 ∨ x = 3 ∨ x = 4 ∨ x = 5 ∨ x = 6 ∨ x = 7 ∨ x = 8 ∨ x = 9 ∨ x = 10 ∨ x = 11 ∨ x = 12 ∨ x = 13 := by omega
  rcases hx with rfl | rfl | rfl | rfl | rfl | rfl | rfl | rfl | rfl | rfl | rfl | rfl | rfl
  all_goals
    refine run_eq (run_of (pf := p91) rfl ?_)
    unfold p91
    simp only [R.loop_eq, wp0, wp1, wp2, wp3, wp4, PV.cellsT, appMax, dropSh, fillB, fillS, putD, splice, src, startSt, Int.reduceAdd, Int.reduceEq, Int.reduceLE, Int.reduceLT, Int.reduceNeg, Int.reduceSub, Int.reduceToNat, Nat.reduceAdd, Nat.reduceEqDiff, Nat.reduceLT, Nat.reduceLeDiff, Nat.reduceMul, Nat.reduceSub, if_false, if_true, ite_false, ite_true, reduceIte, Ty.row, tyAll, G, arT]
end Go.Pi.Terms
