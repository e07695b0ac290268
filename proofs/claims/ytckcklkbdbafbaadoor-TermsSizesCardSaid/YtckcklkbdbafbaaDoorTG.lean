import Derived.Test.YtckcklkbdbafbaaDoorTF
set_option maxRecDepth 100000
set_option maxHeartbeats 1000000
set_option linter.unusedSimpArgs false
set_option linter.unusedVariables false
namespace Go.Pi.Terms
open Go Go.Pi Go.Proofs.YtckcklkbdbafbaaDoor
theorem n0 (sh : Sh) (k : Int) : ∃ n, callN T G n 17 [i64 k, .sl 0 0 []] sh = some (.ag [i64 k, i64 0, i64 0, .sl 0 0 [], .sl 0 0 []], sh) := by
  refine run_eq (run_of (pf := p17) rfl ?_)
  unfold p17
  simp only [R.loop_eq, wp0, wp1, wp2, wp3, wp4, PV.cellsT, appMax, dropSh, fillB, fillS, putD, splice, src, startSt, Int.reduceAdd, Int.reduceEq, Int.reduceLE, Int.reduceLT, Int.reduceNeg, Int.reduceSub, Int.reduceToNat, Nat.reduceAdd, Nat.reduceEqDiff, Nat.reduceLT, Nat.reduceLeDiff, Nat.reduceMul, Nat.reduceSub, if_false, if_true, ite_false, ite_true, reduceIte, Ty.row, tyAll, Tm.row, tmAll]
theorem n1 (sh : Sh) (k : Int) (x : Tm) : ∃ n, callN T G n 17 [i64 k, .sl 0 5 [x.row]] sh = some (.ag [i64 k, i64 0, i64 0, .sl 0 0 [], .sl 0 5 [x.row]], sh) := by
  have u0 := copyTm sh x
  try simp only [Ty.row, tyAll, Tm.row, tmAll, Int.cast_ofNat_Int] at u0
  have u0' := clR.use u0
  refine run_eq (run_of (pf := p17) rfl ?_)
  unfold p17
  simp only [R.loop_eq, wp0, wp1, wp2, wp3, wp4, PV.cellsT, appMax, dropSh, fillB, fillS, putD, splice, src, startSt, Int.reduceAdd, Int.reduceEq, Int.reduceLE, Int.reduceLT, Int.reduceNeg, Int.reduceSub, Int.reduceToNat, Nat.reduceAdd, Nat.reduceEqDiff, Nat.reduceLT, Nat.reduceLeDiff, Nat.reduceMul, Nat.reduceSub, if_false, if_true, ite_false, ite_true, reduceIte, Ty.row, tyAll, u0', Tm.row, tmAll]
theorem t1 (sh : Sh) (k : Int) (x : Tm) (s : Ty) : ∃ n, callN T G n 16 [i64 k, .ag s.row, .sl 0 5 [x.row]] sh = some (.ag [i64 k, i64 0, i64 s.kind, .sl 0 s.asz s.arows, .sl 0 5 [x.row]], sh) := by
  have u0 := n1 sh k x
  have u1 := copy50 sh s
  try simp only [Ty.row, tyAll, Tm.row, tmAll, Int.cast_ofNat_Int] at u0 u1
  have u0' := clR.use u0
  have u1' := clR.use u1
  refine run_eq (run_of (pf := p16) rfl ?_)
  unfold p16
  simp only [R.loop_eq, wp0, wp1, wp2, wp3, wp4, PV.cellsT, appMax, dropSh, fillB, fillS, putD, splice, src, startSt, Int.reduceAdd, Int.reduceEq, Int.reduceLE, Int.reduceLT, Int.reduceNeg, Int.reduceSub, Int.reduceToNat, Nat.reduceAdd, Nat.reduceEqDiff, Nat.reduceLT, Nat.reduceLeDiff, Nat.reduceMul, Nat.reduceSub, if_false, if_true, ite_false, ite_true, reduceIte, Ty.row, tyAll, u0', u1', Tm.row, tmAll]
theorem n2 (sh : Sh) (k : Int) (x : Tm) (y : Tm) : ∃ n, callN T G n 17 [i64 k, .sl 0 5 [x.row, y.row]] sh = some (.ag [i64 k, i64 0, i64 0, .sl 0 0 [], .sl 0 5 [x.row, y.row]], sh) := by
  have u0 := copyTm sh x
  have u1 := copyTm sh y
  try simp only [Ty.row, tyAll, Tm.row, tmAll, Int.cast_ofNat_Int] at u0 u1
  have u0' := clR.use u0
  have u1' := clR.use u1
  refine run_eq (run_of (pf := p17) rfl ?_)
  unfold p17
  simp only [R.loop_eq, wp0, wp1, wp2, wp3, wp4, PV.cellsT, appMax, dropSh, fillB, fillS, putD, splice, src, startSt, Int.reduceAdd, Int.reduceEq, Int.reduceLE, Int.reduceLT, Int.reduceNeg, Int.reduceSub, Int.reduceToNat, Nat.reduceAdd, Nat.reduceEqDiff, Nat.reduceLT, Nat.reduceLeDiff, Nat.reduceMul, Nat.reduceSub, if_false, if_true, ite_false, ite_true, reduceIte, Ty.row, tyAll, u0', u1', Tm.row, tmAll]
theorem t2 (sh : Sh) (k : Int) (x : Tm) (y : Tm) (s : Ty) : ∃ n, callN T G n 16 [i64 k, .ag s.row, .sl 0 5 [x.row, y.row]] sh = some (.ag [i64 k, i64 0, i64 s.kind, .sl 0 s.asz s.arows, .sl 0 5 [x.row, y.row]], sh) := by
  have u0 := n2 sh k x y
  have u1 := copy50 sh s
  try simp only [Ty.row, tyAll, Tm.row, tmAll, Int.cast_ofNat_Int] at u0 u1
  have u0' := clR.use u0
  have u1' := clR.use u1
  refine run_eq (run_of (pf := p16) rfl ?_)
  unfold p16
  simp only [R.loop_eq, wp0, wp1, wp2, wp3, wp4, PV.cellsT, appMax, dropSh, fillB, fillS, putD, splice, src, startSt, Int.reduceAdd, Int.reduceEq, Int.reduceLE, Int.reduceLT, Int.reduceNeg, Int.reduceSub, Int.reduceToNat, Nat.reduceAdd, Nat.reduceEqDiff, Nat.reduceLT, Nat.reduceLeDiff, Nat.reduceMul, Nat.reduceSub, if_false, if_true, ite_false, ite_true, reduceIte, Ty.row, tyAll, u0', u1', Tm.row, tmAll]
theorem n3 (sh : Sh) (k : Int) (x : Tm) (y : Tm) (z : Tm) : ∃ n, callN T G n 17 [i64 k, .sl 0 5 [x.row, y.row, z.row]] sh = some (.ag [i64 k, i64 0, i64 0, .sl 0 0 [], .sl 0 5 [x.row, y.row, z.row]], sh) := by
  have u0 := copyTm sh x
  have u1 := copyTm sh y
  have u2 := copyTm sh z
  try simp only [Ty.row, tyAll, Tm.row, tmAll, Int.cast_ofNat_Int] at u0 u1 u2
  have u0' := clR.use u0
  have u1' := clR.use u1
  have u2' := clR.use u2
  refine run_eq (run_of (pf := p17) rfl ?_)
  unfold p17
  simp only [R.loop_eq, wp0, wp1, wp2, wp3, wp4, PV.cellsT, appMax, dropSh, fillB, fillS, putD, splice, src, startSt, Int.reduceAdd, Int.reduceEq, Int.reduceLE, Int.reduceLT, Int.reduceNeg, Int.reduceSub, Int.reduceToNat, Nat.reduceAdd, Nat.reduceEqDiff, Nat.reduceLT, Nat.reduceLeDiff, Nat.reduceMul, Nat.reduceSub, if_false, if_true, ite_false, ite_true, reduceIte, Ty.row, tyAll, u0', u1', u2', Tm.row, tmAll]
theorem t3 (sh : Sh) (k : Int) (x : Tm) (y : Tm) (z : Tm) (s : Ty) : ∃ n, callN T G n 16 [i64 k, .ag s.row, .sl 0 5 [x.row, y.row, z.row]] sh = some (.ag [i64 k, i64 0, i64 s.kind, .sl 0 s.asz s.arows, .sl 0 5 [x.row, y.row, z.row]], sh) := by
  have u0 := n3 sh k x y z
  have u1 := copy50 sh s
  try simp only [Ty.row, tyAll, Tm.row, tmAll, Int.cast_ofNat_Int] at u0 u1
  have u0' := clR.use u0
  have u1' := clR.use u1
  refine run_eq (run_of (pf := p16) rfl ?_)
  unfold p16
  simp only [R.loop_eq, wp0, wp1, wp2, wp3, wp4, PV.cellsT, appMax, dropSh, fillB, fillS, putD, splice, src, startSt, Int.reduceAdd, Int.reduceEq, Int.reduceLE, Int.reduceLT, Int.reduceNeg, Int.reduceSub, Int.reduceToNat, Nat.reduceAdd, Nat.reduceEqDiff, Nat.reduceLT, Nat.reduceLeDiff, Nat.reduceMul, Nat.reduceSub, if_false, if_true, ite_false, ite_true, reduceIte, Ty.row, tyAll, u0', u1', Tm.row, tmAll]
theorem var18 (sh : Sh) (i : Nat) : ∃ n, callN T G n 18 [i64 (i : Int)] sh = some (.ag (Tm.var i).row, sh) := by
  refine run_eq (run_of (pf := p18) rfl ?_)
  unfold p18
  simp only [R.loop_eq, wp0, wp1, wp2, wp3, wp4, PV.cellsT, appMax, dropSh, fillB, fillS, putD, splice, src, startSt, Int.reduceAdd, Int.reduceEq, Int.reduceLE, Int.reduceLT, Int.reduceNeg, Int.reduceSub, Int.reduceToNat, Nat.reduceAdd, Nat.reduceEqDiff, Nat.reduceLT, Nat.reduceLeDiff, Nat.reduceMul, Nat.reduceSub, if_false, if_true, ite_false, ite_true, reduceIte, Ty.row, tyAll, Tm.row, tmAll]
def Tm.num : Nat → Tm
  | 0 => .zero
  | n + 1 => .succ (Tm.num n)
theorem numeral_0 (sh : Sh)  : ∃ n, callN T G n 85 [i64 0] sh = some (.ag Tm.zero.row, sh) := by
  have u0 := n0 sh 4
  try simp only [Ty.row, tyAll, Tm.row, tmAll, Int.cast_ofNat_Int] at u0
  have u0' := clR.use u0
  refine run_eq (run_of (pf := p85) rfl ?_)
  unfold p85
  simp only [R.loop_eq, wp0, wp1, wp2, wp3, wp4, PV.cellsT, appMax, dropSh, fillB, fillS, putD, splice, src, startSt, Int.reduceAdd, Int.reduceEq, Int.reduceLE, Int.reduceLT, Int.reduceNeg, Int.reduceSub, Int.reduceToNat, Nat.reduceAdd, Nat.reduceEqDiff, Nat.reduceLT, Nat.reduceLeDiff, Nat.reduceMul, Nat.reduceSub, if_false, if_true, ite_false, ite_true, reduceIte, Ty.row, tyAll, u0', Tm.row, tmAll]
theorem number_0 (sh : Sh)  : ∃ n, callN T G n 67 [i64 0] sh = some (.tup [.ag Tm.zero.row, i64 0], sh) := by
  have u0 := numeral_0 sh
  try simp only [Ty.row, tyAll, Tm.row, tmAll, Int.cast_ofNat_Int] at u0
  have u0' := clR.use u0
  refine run_eq (run_of (pf := p67) rfl ?_)
  unfold p67
  simp only [R.loop_eq, wp0, wp1, wp2, wp3, wp4, PV.cellsT, appMax, dropSh, fillB, fillS, putD, splice, src, startSt, Int.reduceAdd, Int.reduceEq, Int.reduceLE, Int.reduceLT, Int.reduceNeg, Int.reduceSub, Int.reduceToNat, Nat.reduceAdd, Nat.reduceEqDiff, Nat.reduceLT, Nat.reduceLeDiff, Nat.reduceMul, Nat.reduceSub, if_false, if_true, ite_false, ite_true, reduceIte, Ty.row, tyAll, u0', Tm.row, tmAll]
theorem num_0 (sh : Sh)  : ∃ n, callN T G n 42 [i64 0] sh = some (.ag Tm.zero.row, sh) := by
  have u0 := number_0 sh
  try simp only [Ty.row, tyAll, Tm.row, tmAll, Int.cast_ofNat_Int] at u0
  have u0' := clR.use u0
  refine run_eq (run_of (pf := p42) rfl ?_)
  unfold p42
  simp only [R.loop_eq, wp0, wp1, wp2, wp3, wp4, PV.cellsT, appMax, dropSh, fillB, fillS, putD, splice, src, startSt, Int.reduceAdd, Int.reduceEq, Int.reduceLE, Int.reduceLT, Int.reduceNeg, Int.reduceSub, Int.reduceToNat, Nat.reduceAdd, Nat.reduceEqDiff, Nat.reduceLT, Nat.reduceLeDiff, Nat.reduceMul, Nat.reduceSub, if_false, if_true, ite_false, ite_true, reduceIte, Ty.row, tyAll, u0', Tm.row, tmAll]
theorem numeral_1 (sh : Sh)  : ∃ n, callN T G n 85 [i64 1] sh = some (.ag (Tm.succ Tm.zero).row, sh) := by
  have u0 := n0 sh 4
  try simp only [Ty.row, tyAll, Tm.row, tmAll, Int.cast_ofNat_Int] at u0
  have u0' := clR.use u0
  refine run_eq (run_of (pf := p85) rfl ?_)
  unfold p85
  simp only [R.loop_eq, wp0, wp1, wp2, wp3, wp4, PV.cellsT, appMax, dropSh, fillB, fillS, putD, splice, src, startSt, Int.reduceAdd, Int.reduceEq, Int.reduceLE, Int.reduceLT, Int.reduceNeg, Int.reduceSub, Int.reduceToNat, Nat.reduceAdd, Nat.reduceEqDiff, Nat.reduceLT, Nat.reduceLeDiff, Nat.reduceMul, Nat.reduceSub, if_false, if_true, ite_false, ite_true, reduceIte, Ty.row, tyAll, u0', Tm.row, tmAll]
theorem number_1 (sh : Sh)  : ∃ n, callN T G n 67 [i64 1] sh = some (.tup [.ag (Tm.succ Tm.zero).row, i64 0], sh) := by
  have u0 := numeral_1 sh
  try simp only [Ty.row, tyAll, Tm.row, tmAll, Int.cast_ofNat_Int] at u0
  have u0' := clR.use u0
  refine run_eq (run_of (pf := p67) rfl ?_)
  unfold p67
  simp only [R.loop_eq, wp0, wp1, wp2, wp3, wp4, PV.cellsT, appMax, dropSh, fillB, fillS, putD, splice, src, startSt, Int.reduceAdd, Int.reduceEq, Int.reduceLE, Int.reduceLT, Int.reduceNeg, Int.reduceSub, Int.reduceToNat, Nat.reduceAdd, Nat.reduceEqDiff, Nat.reduceLT, Nat.reduceLeDiff, Nat.reduceMul, Nat.reduceSub, if_false, if_true, ite_false, ite_true, reduceIte, Ty.row, tyAll, u0', Tm.row, tmAll]
theorem num_1 (sh : Sh)  : ∃ n, callN T G n 42 [i64 1] sh = some (.ag (Tm.succ Tm.zero).row, sh) := by
  have u0 := number_1 sh
  try simp only [Ty.row, tyAll, Tm.row, tmAll, Int.cast_ofNat_Int] at u0
  have u0' := clR.use u0
  refine run_eq (run_of (pf := p42) rfl ?_)
  unfold p42
  simp only [R.loop_eq, wp0, wp1, wp2, wp3, wp4, PV.cellsT, appMax, dropSh, fillB, fillS, putD, splice, src, startSt, Int.reduceAdd, Int.reduceEq, Int.reduceLE, Int.reduceLT, Int.reduceNeg, Int.reduceSub, Int.reduceToNat, Nat.reduceAdd, Nat.reduceEqDiff, Nat.reduceLT, Nat.reduceLeDiff, Nat.reduceMul, Nat.reduceSub, if_false, if_true, ite_false, ite_true, reduceIte, Ty.row, tyAll, u0', Tm.row, tmAll]
theorem numeral_2 (sh : Sh)  : ∃ n, callN T G n 85 [i64 2] sh = some (.ag (Tm.succ (Tm.succ Tm.zero)).row, sh) := by
  have u0 := n0 sh 4
  try simp only [Ty.row, tyAll, Tm.row, tmAll, Int.cast_ofNat_Int] at u0
  have u0' := clR.use u0
  refine run_eq (run_of (pf := p85) rfl ?_)
  unfold p85
  simp only [R.loop_eq, wp0, wp1, wp2, wp3, wp4, PV.cellsT, appMax, dropSh, fillB, fillS, putD, splice, src, startSt, Int.reduceAdd, Int.reduceEq, Int.reduceLE, Int.reduceLT, Int.reduceNeg, Int.reduceSub, Int.reduceToNat, Nat.reduceAdd, Nat.reduceEqDiff, Nat.reduceLT, Nat.reduceLeDiff, Nat.reduceMul, Nat.reduceSub, if_false, if_true, ite_false, ite_true, reduceIte, Ty.row, tyAll, u0', Tm.row, tmAll]
theorem number_2 (sh : Sh)  : ∃ n, callN T G n 67 [i64 2] sh = some (.tup [.ag (Tm.succ (Tm.succ Tm.zero)).row, i64 0], sh) := by
  have u0 := numeral_2 sh
  try simp only [Ty.row, tyAll, Tm.row, tmAll, Int.cast_ofNat_Int] at u0
  have u0' := clR.use u0
  refine run_eq (run_of (pf := p67) rfl ?_)
  unfold p67
  simp only [R.loop_eq, wp0, wp1, wp2, wp3, wp4, PV.cellsT, appMax, dropSh, fillB, fillS, putD, splice, src, startSt, Int.reduceAdd, Int.reduceEq, Int.reduceLE, Int.reduceLT, Int.reduceNeg, Int.reduceSub, Int.reduceToNat, Nat.reduceAdd, Nat.reduceEqDiff, Nat.reduceLT, Nat.reduceLeDiff, Nat.reduceMul, Nat.reduceSub, if_false, if_true, ite_false, ite_true, reduceIte, Ty.row, tyAll, u0', Tm.row, tmAll]
theorem num_2 (sh : Sh)  : ∃ n, callN T G n 42 [i64 2] sh = some (.ag (Tm.succ (Tm.succ Tm.zero)).row, sh) := by
  have u0 := number_2 sh
  try simp only [Ty.row, tyAll, Tm.row, tmAll, Int.cast_ofNat_Int] at u0
  have u0' := clR.use u0
  refine run_eq (run_of (pf := p42) rfl ?_)
  unfold p42
  simp only [R.loop_eq, wp0, wp1, wp2, wp3, wp4, PV.cellsT, appMax, dropSh, fillB, fillS, putD, splice, src, startSt, Int.reduceAdd, Int.reduceEq, Int.reduceLE, Int.reduceLT, Int.reduceNeg, Int.reduceSub, Int.reduceToNat, Nat.reduceAdd, Nat.reduceEqDiff, Nat.reduceLT, Nat.reduceLeDiff, Nat.reduceMul, Nat.reduceSub, if_false, if_true, ite_false, ite_true, reduceIte, Ty.row, tyAll, u0', Tm.row, tmAll]
theorem app43 (sh : Sh) (f a b : Tm) : ∃ n, callN T G n 43 [.ag f.row, .sl 0 5 [a.row, b.row]] sh = some (.ag (Tm.app (Tm.app f a) b).row, sh) := by
  have u0 := n2 sh 3 f a
  have u1 := n2 sh 3 (Tm.app f a) b
  try simp only [Ty.row, tyAll, Tm.row, tmAll, Int.cast_ofNat_Int] at u0 u1
  have u0' := clR.use u0
  have u1' := clR.use u1
  refine run_eq (run_of (pf := p43) rfl ?_)
  unfold p43
  simp only [R.loop_eq, wp0, wp1, wp2, wp3, wp4, PV.cellsT, appMax, dropSh, fillB, fillS, putD, splice, src, startSt, Int.reduceAdd, Int.reduceEq, Int.reduceLE, Int.reduceLT, Int.reduceNeg, Int.reduceSub, Int.reduceToNat, Nat.reduceAdd, Nat.reduceEqDiff, Nat.reduceLT, Nat.reduceLeDiff, Nat.reduceMul, Nat.reduceSub, if_false, if_true, ite_false, ite_true, reduceIte, Ty.row, tyAll, u0', u1', Tm.row, tmAll]
theorem lam68 (sh : Sh) (a : Tm) : ∃ n, callN T G n 68 [.ag a.row] sh = some (.ag (Tm.lam .nat a).row, sh) := by
  have u0 := nat34 sh
  have u1 := t1 sh 2 a .nat
  try simp only [Ty.row, tyAll, Tm.row, tmAll, Int.cast_ofNat_Int] at u0 u1
  have u0' := clR.use u0
  have u1' := clR.use u1
  refine run_eq (run_of (pf := p68) rfl ?_)
  unfold p68
  simp only [R.loop_eq, wp0, wp1, wp2, wp3, wp4, PV.cellsT, appMax, dropSh, fillB, fillS, putD, splice, src, startSt, Int.reduceAdd, Int.reduceEq, Int.reduceLE, Int.reduceLT, Int.reduceNeg, Int.reduceSub, Int.reduceToNat, Nat.reduceAdd, Nat.reduceEqDiff, Nat.reduceLT, Nat.reduceLeDiff, Nat.reduceMul, Nat.reduceSub, if_false, if_true, ite_false, ite_true, reduceIte, Ty.row, tyAll, u0', u1', Tm.row, tmAll]
theorem rec69 (sh : Sh) (a b c : Tm) : ∃ n, callN T G n 69 [.ag a.row, .ag b.row, .ag c.row] sh = some (.ag (Tm.recu .nat a b c).row, sh) := by
  have u0 := nat34 sh
  have u1 := t3 sh 6 a b c .nat
  try simp only [Ty.row, tyAll, Tm.row, tmAll, Int.cast_ofNat_Int] at u0 u1
  have u0' := clR.use u0
  have u1' := clR.use u1
  refine run_eq (run_of (pf := p69) rfl ?_)
  unfold p69
  simp only [R.loop_eq, wp0, wp1, wp2, wp3, wp4, PV.cellsT, appMax, dropSh, fillB, fillS, putD, splice, src, startSt, Int.reduceAdd, Int.reduceEq, Int.reduceLE, Int.reduceLT, Int.reduceNeg, Int.reduceSub, Int.reduceToNat, Nat.reduceAdd, Nat.reduceEqDiff, Nat.reduceLT, Nat.reduceLeDiff, Nat.reduceMul, Nat.reduceSub, if_false, if_true, ite_false, ite_true, reduceIte, Ty.row, tyAll, u0', u1', Tm.row, tmAll]
def predTm : Tm := .lam .nat (.recu .nat .zero (.lam .nat (.lam .nat (.var 1))) (.var 0))
def plusTm : Tm := .lam .nat (.lam .nat (.recu .nat (.var 1) (.lam .nat (.lam .nat (.succ (.var 0)))) (.var 0)))
def subTm : Tm := .lam .nat (.lam .nat (.recu .nat (.var 1) (.lam .nat (.lam .nat (.app predTm (.var 0)))) (.var 0)))
theorem pred70 (sh : Sh)  : ∃ n, callN T G n 70 [] sh = some (.ag predTm.row, sh) := by
  have u0 := n0 sh 4
  have u1 := var18 sh 0
  have u2 := var18 sh 1
  have u3 := lam68 sh (Tm.var 1)
  have u4 := lam68 sh (Tm.lam .nat (Tm.var 1))
  have u5 := rec69 sh .zero (Tm.lam .nat (Tm.lam .nat (Tm.var 1))) (Tm.var 0)
  have u6 := lam68 sh (Tm.recu .nat .zero (Tm.lam .nat (Tm.lam .nat (Tm.var 1))) (Tm.var 0))
  try simp only [Ty.row, tyAll, Tm.row, tmAll, Int.cast_ofNat_Int] at u0 u1 u2 u3 u4 u5 u6
  have u0' := clR.use u0
  have u1' := clR.use u1
  have u2' := clR.use u2
  have u3' := clR.use u3
  have u4' := clR.use u4
  have u5' := clR.use u5
  have u6' := clR.use u6
  refine run_eq (run_of (pf := p70) rfl ?_)
  unfold p70
  simp only [R.loop_eq, wp0, wp1, wp2, wp3, wp4, PV.cellsT, appMax, dropSh, fillB, fillS, putD, splice, src, startSt, Int.reduceAdd, Int.reduceEq, Int.reduceLE, Int.reduceLT, Int.reduceNeg, Int.reduceSub, Int.reduceToNat, Nat.reduceAdd, Nat.reduceEqDiff, Nat.reduceLT, Nat.reduceLeDiff, Nat.reduceMul, Nat.reduceSub, if_false, if_true, ite_false, ite_true, reduceIte, Ty.row, tyAll, u0', u1', u2', u3', u4', u5', u6', Tm.row, tmAll, predTm]
theorem plus44 (sh : Sh)  : ∃ n, callN T G n 44 [] sh = some (.ag plusTm.row, sh) := by
  have u0 := var18 sh 0
  have u1 := var18 sh 1
  have u2 := n1 sh 5 (Tm.var 0)
  have u3 := lam68 sh (Tm.succ (.var 0))
  have u4 := lam68 sh (Tm.lam .nat (Tm.succ (.var 0)))
  have u5 := rec69 sh (Tm.var 1) (Tm.lam .nat (Tm.lam .nat (Tm.succ (.var 0)))) (Tm.var 0)
  have u6 := lam68 sh (Tm.recu .nat (.var 1) (Tm.lam .nat (Tm.lam .nat (Tm.succ (.var 0)))) (Tm.var 0))
  have u7 := lam68 sh (Tm.lam .nat (Tm.recu .nat (.var 1) (Tm.lam .nat (Tm.lam .nat (Tm.succ (.var 0)))) (Tm.var 0)))
  try simp only [Ty.row, tyAll, Tm.row, tmAll, Int.cast_ofNat_Int] at u0 u1 u2 u3 u4 u5 u6 u7
  have u0' := clR.use u0
  have u1' := clR.use u1
  have u2' := clR.use u2
  have u3' := clR.use u3
  have u4' := clR.use u4
  have u5' := clR.use u5
  have u6' := clR.use u6
  have u7' := clR.use u7
  refine run_eq (run_of (pf := p44) rfl ?_)
  unfold p44
  simp only [R.loop_eq, wp0, wp1, wp2, wp3, wp4, PV.cellsT, appMax, dropSh, fillB, fillS, putD, splice, src, startSt, Int.reduceAdd, Int.reduceEq, Int.reduceLE, Int.reduceLT, Int.reduceNeg, Int.reduceSub, Int.reduceToNat, Nat.reduceAdd, Nat.reduceEqDiff, Nat.reduceLT, Nat.reduceLeDiff, Nat.reduceMul, Nat.reduceSub, if_false, if_true, ite_false, ite_true, reduceIte, Ty.row, tyAll, u0', u1', u2', u3', u4', u5', u6', u7', Tm.row, tmAll, plusTm]
theorem sub45 (sh : Sh)  : ∃ n, callN T G n 45 [] sh = some (.ag subTm.row, sh) := by
  have u0 := (show ∃ n, callN T G n 70 [] sh = some (.ag ((Tm.lam .nat (.recu .nat .zero (.lam .nat (.lam .nat (.var 1))) (.var 0)))).row, sh) from pred70 sh)
  have u1 := var18 sh 0
  have u2 := var18 sh 1
  have u3 := n2 sh 3 (Tm.lam .nat (.recu .nat .zero (.lam .nat (.lam .nat (.var 1))) (.var 0))) (Tm.var 0)
  have u4 := lam68 sh (Tm.app (Tm.lam .nat (.recu .nat .zero (.lam .nat (.lam .nat (.var 1))) (.var 0))) (.var 0))
  have u5 := lam68 sh (Tm.lam .nat (Tm.app (Tm.lam .nat (.recu .nat .zero (.lam .nat (.lam .nat (.var 1))) (.var 0))) (.var 0)))
  have u6 := rec69 sh (Tm.var 1) (Tm.lam .nat (Tm.lam .nat (Tm.app (Tm.lam .nat (.recu .nat .zero (.lam .nat (.lam .nat (.var 1))) (.var 0))) (.var 0)))) (Tm.var 0)
  have u7 := lam68 sh (Tm.recu .nat (.var 1) (Tm.lam .nat (Tm.lam .nat (Tm.app (Tm.lam .nat (.recu .nat .zero (.lam .nat (.lam .nat (.var 1))) (.var 0))) (.var 0)))) (Tm.var 0))
  have u8 := lam68 sh (Tm.lam .nat (Tm.recu .nat (.var 1) (Tm.lam .nat (Tm.lam .nat (Tm.app (Tm.lam .nat (.recu .nat .zero (.lam .nat (.lam .nat (.var 1))) (.var 0))) (.var 0)))) (Tm.var 0)))
  try simp only [Ty.row, tyAll, Tm.row, tmAll, Int.cast_ofNat_Int] at u0 u1 u2 u3 u4 u5 u6 u7 u8
  have u0' := clR.use u0
  have u1' := clR.use u1
  have u2' := clR.use u2
  have u3' := clR.use u3
  have u4' := clR.use u4
  have u5' := clR.use u5
  have u6' := clR.use u6
  have u7' := clR.use u7
  have u8' := clR.use u8
  refine run_eq (run_of (pf := p45) rfl ?_)
  unfold p45
  simp only [R.loop_eq, wp0, wp1, wp2, wp3, wp4, PV.cellsT, appMax, dropSh, fillB, fillS, putD, splice, src, startSt, Int.reduceAdd, Int.reduceEq, Int.reduceLE, Int.reduceLT, Int.reduceNeg, Int.reduceSub, Int.reduceToNat, Nat.reduceAdd, Nat.reduceEqDiff, Nat.reduceLT, Nat.reduceLeDiff, Nat.reduceMul, Nat.reduceSub, if_false, if_true, ite_false, ite_true, reduceIte, Ty.row, tyAll, u0', u1', u2', u3', u4', u5', u6', u7', u8', Tm.row, tmAll, subTm, predTm]
end Go.Pi.Terms
