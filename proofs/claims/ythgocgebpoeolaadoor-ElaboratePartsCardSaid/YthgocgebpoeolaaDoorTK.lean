import Derived.Test.YthgocgebpoeolaaDoorTF
set_option maxRecDepth 100000
set_option maxHeartbeats 1000000
set_option linter.unusedSimpArgs false
set_option linter.unusedVariables false
namespace Go.Pi.Terms
open Go Go.Pi Go.Proofs.YthgocgebpoeolaaDoor
theorem n0 (sh : Sh) (k : Int) : ∃ n, callN T G n 17 [i64 k, .sl 0 0 []] sh = some (.ag [i64 k, i64 0, i64 0, .sl 0 0 [], .sl 0 0 []], sh) := by
  refine run_eq (run_of (pf := p17) rfl ?_)
  unfold p17
  simp only [R.loop_eq, wp0, wp1, wp2, wp3, wp4, wp5, Int.reduceAdd, Int.reduceEq, Int.reduceLE, Int.reduceLT, Int.reduceNeg, Int.reduceSub, Int.reduceToNat, Nat.reduceAdd, Nat.reduceDiv, Nat.reduceEqDiff, Nat.reduceLT, Nat.reduceLeDiff, Nat.reduceMod, Nat.reduceMul, Nat.reduceSub, eq_self, reduceIte, Ty.row, tyAll, Tm.row, tmAll]
theorem n1 (sh : Sh) (k : Int) (x : Tm) : ∃ n, callN T G n 17 [i64 k, .sl 0 5 [x.row]] sh = some (.ag [i64 k, i64 0, i64 0, .sl 0 0 [], .sl 0 5 [x.row]], sh) := by
  have u0 := copyTm sh x
  try simp only [Ty.row, tyAll, Tm.row, tmAll, Int.cast_ofNat_Int] at u0
  have u0' := clR.use u0
  refine run_eq (run_of (pf := p17) rfl ?_)
  unfold p17
  simp only [R.loop_eq, wp0, wp1, wp2, wp3, wp4, wp5, Int.reduceAdd, Int.reduceEq, Int.reduceLE, Int.reduceLT, Int.reduceNeg, Int.reduceSub, Int.reduceToNat, Nat.reduceAdd, Nat.reduceDiv, Nat.reduceEqDiff, Nat.reduceLT, Nat.reduceLeDiff, Nat.reduceMod, Nat.reduceMul, Nat.reduceSub, eq_self, reduceIte, Ty.row, tyAll, u0', Tm.row, tmAll]
theorem t1 (sh : Sh) (k : Int) (x : Tm) (s : Ty) : ∃ n, callN T G n 44 [i64 k, .ag s.row, .sl 0 5 [x.row]] sh = some (.ag [i64 k, i64 0, i64 s.kind, .sl 0 s.asz s.arows, .sl 0 5 [x.row]], sh) := by
  have u0 := n1 sh k x
  have u1 := copy50 sh s
  try simp only [Ty.row, tyAll, Tm.row, tmAll, Int.cast_ofNat_Int] at u0 u1
  have u0' := clR.use u0
  have u1' := clR.use u1
  refine run_eq (run_of (pf := p44) rfl ?_)
  unfold p44
  simp only [R.loop_eq, wp0, wp1, wp2, wp3, wp4, wp5, Int.reduceAdd, Int.reduceEq, Int.reduceLE, Int.reduceLT, Int.reduceNeg, Int.reduceSub, Int.reduceToNat, Nat.reduceAdd, Nat.reduceDiv, Nat.reduceEqDiff, Nat.reduceLT, Nat.reduceLeDiff, Nat.reduceMod, Nat.reduceMul, Nat.reduceSub, eq_self, reduceIte, Ty.row, tyAll, u0', u1', Tm.row, tmAll]
theorem n2 (sh : Sh) (k : Int) (x : Tm) (y : Tm) : ∃ n, callN T G n 17 [i64 k, .sl 0 5 [x.row, y.row]] sh = some (.ag [i64 k, i64 0, i64 0, .sl 0 0 [], .sl 0 5 [x.row, y.row]], sh) := by
  have u0 := copyTm sh x
  have u1 := copyTm sh y
  try simp only [Ty.row, tyAll, Tm.row, tmAll, Int.cast_ofNat_Int] at u0 u1
  have u0' := clR.use u0
  have u1' := clR.use u1
  refine run_eq (run_of (pf := p17) rfl ?_)
  unfold p17
  simp only [R.loop_eq, wp0, wp1, wp2, wp3, wp4, wp5, Int.reduceAdd, Int.reduceEq, Int.reduceLE, Int.reduceLT, Int.reduceNeg, Int.reduceSub, Int.reduceToNat, Nat.reduceAdd, Nat.reduceDiv, Nat.reduceEqDiff, Nat.reduceLT, Nat.reduceLeDiff, Nat.reduceMod, Nat.reduceMul, Nat.reduceSub, eq_self, reduceIte, Ty.row, tyAll, u0', u1', Tm.row, tmAll]
theorem t2 (sh : Sh) (k : Int) (x : Tm) (y : Tm) (s : Ty) : ∃ n, callN T G n 44 [i64 k, .ag s.row, .sl 0 5 [x.row, y.row]] sh = some (.ag [i64 k, i64 0, i64 s.kind, .sl 0 s.asz s.arows, .sl 0 5 [x.row, y.row]], sh) := by
  have u0 := n2 sh k x y
  have u1 := copy50 sh s
  try simp only [Ty.row, tyAll, Tm.row, tmAll, Int.cast_ofNat_Int] at u0 u1
  have u0' := clR.use u0
  have u1' := clR.use u1
  refine run_eq (run_of (pf := p44) rfl ?_)
  unfold p44
  simp only [R.loop_eq, wp0, wp1, wp2, wp3, wp4, wp5, Int.reduceAdd, Int.reduceEq, Int.reduceLE, Int.reduceLT, Int.reduceNeg, Int.reduceSub, Int.reduceToNat, Nat.reduceAdd, Nat.reduceDiv, Nat.reduceEqDiff, Nat.reduceLT, Nat.reduceLeDiff, Nat.reduceMod, Nat.reduceMul, Nat.reduceSub, eq_self, reduceIte, Ty.row, tyAll, u0', u1', Tm.row, tmAll]
theorem n3 (sh : Sh) (k : Int) (x : Tm) (y : Tm) (z : Tm) : ∃ n, callN T G n 17 [i64 k, .sl 0 5 [x.row, y.row, z.row]] sh = some (.ag [i64 k, i64 0, i64 0, .sl 0 0 [], .sl 0 5 [x.row, y.row, z.row]], sh) := by
  have u0 := copyTm sh x
  have u1 := copyTm sh y
  have u2 := copyTm sh z
  try simp only [Ty.row, tyAll, Tm.row, tmAll, Int.cast_ofNat_Int] at u0 u1 u2
  have u0' := clR.use u0
  have u1' := clR.use u1
  have u2' := clR.use u2
  refine run_eq (run_of (pf := p17) rfl ?_)
  unfold p17
  simp only [R.loop_eq, wp0, wp1, wp2, wp3, wp4, wp5, Int.reduceAdd, Int.reduceEq, Int.reduceLE, Int.reduceLT, Int.reduceNeg, Int.reduceSub, Int.reduceToNat, Nat.reduceAdd, Nat.reduceDiv, Nat.reduceEqDiff, Nat.reduceLT, Nat.reduceLeDiff, Nat.reduceMod, Nat.reduceMul, Nat.reduceSub, eq_self, reduceIte, Ty.row, tyAll, u0', u1', u2', Tm.row, tmAll]
theorem t3 (sh : Sh) (k : Int) (x : Tm) (y : Tm) (z : Tm) (s : Ty) : ∃ n, callN T G n 44 [i64 k, .ag s.row, .sl 0 5 [x.row, y.row, z.row]] sh = some (.ag [i64 k, i64 0, i64 s.kind, .sl 0 s.asz s.arows, .sl 0 5 [x.row, y.row, z.row]], sh) := by
  have u0 := n3 sh k x y z
  have u1 := copy50 sh s
  try simp only [Ty.row, tyAll, Tm.row, tmAll, Int.cast_ofNat_Int] at u0 u1
  have u0' := clR.use u0
  have u1' := clR.use u1
  refine run_eq (run_of (pf := p44) rfl ?_)
  unfold p44
  simp only [R.loop_eq, wp0, wp1, wp2, wp3, wp4, wp5, Int.reduceAdd, Int.reduceEq, Int.reduceLE, Int.reduceLT, Int.reduceNeg, Int.reduceSub, Int.reduceToNat, Nat.reduceAdd, Nat.reduceDiv, Nat.reduceEqDiff, Nat.reduceLT, Nat.reduceLeDiff, Nat.reduceMod, Nat.reduceMul, Nat.reduceSub, eq_self, reduceIte, Ty.row, tyAll, u0', u1', Tm.row, tmAll]
theorem var18 (sh : Sh) (i : Nat) : ∃ n, callN T G n 15 [i64 (i : Int)] sh = some (.ag (Tm.var i).row, sh) := by
  refine run_eq (run_of (pf := p15) rfl ?_)
  unfold p15
  simp only [R.loop_eq, wp0, wp1, wp2, wp3, wp4, wp5, Int.reduceAdd, Int.reduceEq, Int.reduceLE, Int.reduceLT, Int.reduceNeg, Int.reduceSub, Int.reduceToNat, Nat.reduceAdd, Nat.reduceDiv, Nat.reduceEqDiff, Nat.reduceLT, Nat.reduceLeDiff, Nat.reduceMod, Nat.reduceMul, Nat.reduceSub, eq_self, reduceIte, Ty.row, tyAll, Tm.row, tmAll]
def Tm.num : Nat → Tm
  | 0 => .zero
  | n + 1 => .succ (Tm.num n)
theorem numeral_0 (sh : Sh)  : ∃ n, callN T G n 61 [i64 0] sh = some (.ag Tm.zero.row, sh) := by
  have u0 := n0 sh 4
  try simp only [Ty.row, tyAll, Tm.row, tmAll, Int.cast_ofNat_Int] at u0
  have u0' := clR.use u0
  refine run_eq (run_of (pf := p61) rfl ?_)
  unfold p61
  simp only [R.loop_eq, wp0, wp1, wp2, wp3, wp4, wp5, Int.reduceAdd, Int.reduceEq, Int.reduceLE, Int.reduceLT, Int.reduceNeg, Int.reduceSub, Int.reduceToNat, Nat.reduceAdd, Nat.reduceDiv, Nat.reduceEqDiff, Nat.reduceLT, Nat.reduceLeDiff, Nat.reduceMod, Nat.reduceMul, Nat.reduceSub, eq_self, reduceIte, Ty.row, tyAll, u0', Tm.row, tmAll]
theorem number_0 (sh : Sh)  : ∃ n, callN T G n 36 [i64 0] sh = some (.tup [.ag Tm.zero.row, i64 0], sh) := by
  have u0 := numeral_0 sh
  try simp only [Ty.row, tyAll, Tm.row, tmAll, Int.cast_ofNat_Int] at u0
  have u0' := clR.use u0
  refine run_eq (run_of (pf := p36) rfl ?_)
  unfold p36
  simp only [R.loop_eq, wp0, wp1, wp2, wp3, wp4, wp5, Int.reduceAdd, Int.reduceEq, Int.reduceLE, Int.reduceLT, Int.reduceNeg, Int.reduceSub, Int.reduceToNat, Nat.reduceAdd, Nat.reduceDiv, Nat.reduceEqDiff, Nat.reduceLT, Nat.reduceLeDiff, Nat.reduceMod, Nat.reduceMul, Nat.reduceSub, eq_self, reduceIte, Ty.row, tyAll, u0', Tm.row, tmAll]
theorem num_0 (sh : Sh)  : ∃ n, callN T G n 16 [i64 0] sh = some (.ag Tm.zero.row, sh) := by
  have u0 := number_0 sh
  try simp only [Ty.row, tyAll, Tm.row, tmAll, Int.cast_ofNat_Int] at u0
  have u0' := clR.use u0
  refine run_eq (run_of (pf := p16) rfl ?_)
  unfold p16
  simp only [R.loop_eq, wp0, wp1, wp2, wp3, wp4, wp5, Int.reduceAdd, Int.reduceEq, Int.reduceLE, Int.reduceLT, Int.reduceNeg, Int.reduceSub, Int.reduceToNat, Nat.reduceAdd, Nat.reduceDiv, Nat.reduceEqDiff, Nat.reduceLT, Nat.reduceLeDiff, Nat.reduceMod, Nat.reduceMul, Nat.reduceSub, eq_self, reduceIte, Ty.row, tyAll, u0', Tm.row, tmAll]
theorem numeral_1 (sh : Sh)  : ∃ n, callN T G n 61 [i64 1] sh = some (.ag (Tm.succ Tm.zero).row, sh) := by
  have u0 := n0 sh 4
  try simp only [Ty.row, tyAll, Tm.row, tmAll, Int.cast_ofNat_Int] at u0
  have u0' := clR.use u0
  refine run_eq (run_of (pf := p61) rfl ?_)
  unfold p61
  simp only [R.loop_eq, wp0, wp1, wp2, wp3, wp4, wp5, Int.reduceAdd, Int.reduceEq, Int.reduceLE, Int.reduceLT, Int.reduceNeg, Int.reduceSub, Int.reduceToNat, Nat.reduceAdd, Nat.reduceDiv, Nat.reduceEqDiff, Nat.reduceLT, Nat.reduceLeDiff, Nat.reduceMod, Nat.reduceMul, Nat.reduceSub, eq_self, reduceIte, Ty.row, tyAll, u0', Tm.row, tmAll]
theorem number_1 (sh : Sh)  : ∃ n, callN T G n 36 [i64 1] sh = some (.tup [.ag (Tm.succ Tm.zero).row, i64 0], sh) := by
  have u0 := numeral_1 sh
  try simp only [Ty.row, tyAll, Tm.row, tmAll, Int.cast_ofNat_Int] at u0
  have u0' := clR.use u0
  refine run_eq (run_of (pf := p36) rfl ?_)
  unfold p36
  simp only [R.loop_eq, wp0, wp1, wp2, wp3, wp4, wp5, Int.reduceAdd, Int.reduceEq, Int.reduceLE, Int.reduceLT, Int.reduceNeg, Int.reduceSub, Int.reduceToNat, Nat.reduceAdd, Nat.reduceDiv, Nat.reduceEqDiff, Nat.reduceLT, Nat.reduceLeDiff, Nat.reduceMod, Nat.reduceMul, Nat.reduceSub, eq_self, reduceIte, Ty.row, tyAll, u0', Tm.row, tmAll]
theorem num_1 (sh : Sh)  : ∃ n, callN T G n 16 [i64 1] sh = some (.ag (Tm.succ Tm.zero).row, sh) := by
  have u0 := number_1 sh
  try simp only [Ty.row, tyAll, Tm.row, tmAll, Int.cast_ofNat_Int] at u0
  have u0' := clR.use u0
  refine run_eq (run_of (pf := p16) rfl ?_)
  unfold p16
  simp only [R.loop_eq, wp0, wp1, wp2, wp3, wp4, wp5, Int.reduceAdd, Int.reduceEq, Int.reduceLE, Int.reduceLT, Int.reduceNeg, Int.reduceSub, Int.reduceToNat, Nat.reduceAdd, Nat.reduceDiv, Nat.reduceEqDiff, Nat.reduceLT, Nat.reduceLeDiff, Nat.reduceMod, Nat.reduceMul, Nat.reduceSub, eq_self, reduceIte, Ty.row, tyAll, u0', Tm.row, tmAll]
theorem numeral_2 (sh : Sh)  : ∃ n, callN T G n 61 [i64 2] sh = some (.ag (Tm.succ (Tm.succ Tm.zero)).row, sh) := by
  have u0 := n0 sh 4
  try simp only [Ty.row, tyAll, Tm.row, tmAll, Int.cast_ofNat_Int] at u0
  have u0' := clR.use u0
  refine run_eq (run_of (pf := p61) rfl ?_)
  unfold p61
  simp only [R.loop_eq, wp0, wp1, wp2, wp3, wp4, wp5, Int.reduceAdd, Int.reduceEq, Int.reduceLE, Int.reduceLT, Int.reduceNeg, Int.reduceSub, Int.reduceToNat, Nat.reduceAdd, Nat.reduceDiv, Nat.reduceEqDiff, Nat.reduceLT, Nat.reduceLeDiff, Nat.reduceMod, Nat.reduceMul, Nat.reduceSub, eq_self, reduceIte, Ty.row, tyAll, u0', Tm.row, tmAll]
theorem number_2 (sh : Sh)  : ∃ n, callN T G n 36 [i64 2] sh = some (.tup [.ag (Tm.succ (Tm.succ Tm.zero)).row, i64 0], sh) := by
  have u0 := numeral_2 sh
  try simp only [Ty.row, tyAll, Tm.row, tmAll, Int.cast_ofNat_Int] at u0
  have u0' := clR.use u0
  refine run_eq (run_of (pf := p36) rfl ?_)
  unfold p36
  simp only [R.loop_eq, wp0, wp1, wp2, wp3, wp4, wp5, Int.reduceAdd, Int.reduceEq, Int.reduceLE, Int.reduceLT, Int.reduceNeg, Int.reduceSub, Int.reduceToNat, Nat.reduceAdd, Nat.reduceDiv, Nat.reduceEqDiff, Nat.reduceLT, Nat.reduceLeDiff, Nat.reduceMod, Nat.reduceMul, Nat.reduceSub, eq_self, reduceIte, Ty.row, tyAll, u0', Tm.row, tmAll]
theorem num_2 (sh : Sh)  : ∃ n, callN T G n 16 [i64 2] sh = some (.ag (Tm.succ (Tm.succ Tm.zero)).row, sh) := by
  have u0 := number_2 sh
  try simp only [Ty.row, tyAll, Tm.row, tmAll, Int.cast_ofNat_Int] at u0
  have u0' := clR.use u0
  refine run_eq (run_of (pf := p16) rfl ?_)
  unfold p16
  simp only [R.loop_eq, wp0, wp1, wp2, wp3, wp4, wp5, Int.reduceAdd, Int.reduceEq, Int.reduceLE, Int.reduceLT, Int.reduceNeg, Int.reduceSub, Int.reduceToNat, Nat.reduceAdd, Nat.reduceDiv, Nat.reduceEqDiff, Nat.reduceLT, Nat.reduceLeDiff, Nat.reduceMod, Nat.reduceMul, Nat.reduceSub, eq_self, reduceIte, Ty.row, tyAll, u0', Tm.row, tmAll]
theorem app43 (sh : Sh) (f a b : Tm) : ∃ n, callN T G n 45 [.ag f.row, .sl 0 5 [a.row, b.row]] sh = some (.ag (Tm.app (Tm.app f a) b).row, sh) := by
  have u0 := n2 sh 3 f a
  have u1 := n2 sh 3 (Tm.app f a) b
  try simp only [Ty.row, tyAll, Tm.row, tmAll, Int.cast_ofNat_Int] at u0 u1
  have u0' := clR.use u0
  have u1' := clR.use u1
  refine run_eq (run_of (pf := p45) rfl ?_)
  unfold p45
  simp only [R.loop_eq, wp0, wp1, wp2, wp3, wp4, wp5, Int.reduceAdd, Int.reduceEq, Int.reduceLE, Int.reduceLT, Int.reduceNeg, Int.reduceSub, Int.reduceToNat, Nat.reduceAdd, Nat.reduceDiv, Nat.reduceEqDiff, Nat.reduceLT, Nat.reduceLeDiff, Nat.reduceMod, Nat.reduceMul, Nat.reduceSub, eq_self, reduceIte, Ty.row, tyAll, u0', u1', Tm.row, tmAll]
theorem lam68 (sh : Sh) (a : Tm) : ∃ n, callN T G n 62 [.ag a.row] sh = some (.ag (Tm.lam .nat a).row, sh) := by
  have u0 := nat34 sh
  have u1 := t1 sh 2 a .nat
  try simp only [Ty.row, tyAll, Tm.row, tmAll, Int.cast_ofNat_Int] at u0 u1
  have u0' := clR.use u0
  have u1' := clR.use u1
  refine run_eq (run_of (pf := p62) rfl ?_)
  unfold p62
  simp only [R.loop_eq, wp0, wp1, wp2, wp3, wp4, wp5, Int.reduceAdd, Int.reduceEq, Int.reduceLE, Int.reduceLT, Int.reduceNeg, Int.reduceSub, Int.reduceToNat, Nat.reduceAdd, Nat.reduceDiv, Nat.reduceEqDiff, Nat.reduceLT, Nat.reduceLeDiff, Nat.reduceMod, Nat.reduceMul, Nat.reduceSub, eq_self, reduceIte, Ty.row, tyAll, u0', u1', Tm.row, tmAll]
theorem rec69 (sh : Sh) (a b c : Tm) : ∃ n, callN T G n 63 [.ag a.row, .ag b.row, .ag c.row] sh = some (.ag (Tm.recu .nat a b c).row, sh) := by
  have u0 := nat34 sh
  have u1 := t3 sh 6 a b c .nat
  try simp only [Ty.row, tyAll, Tm.row, tmAll, Int.cast_ofNat_Int] at u0 u1
  have u0' := clR.use u0
  have u1' := clR.use u1
  refine run_eq (run_of (pf := p63) rfl ?_)
  unfold p63
  simp only [R.loop_eq, wp0, wp1, wp2, wp3, wp4, wp5, Int.reduceAdd, Int.reduceEq, Int.reduceLE, Int.reduceLT, Int.reduceNeg, Int.reduceSub, Int.reduceToNat, Nat.reduceAdd, Nat.reduceDiv, Nat.reduceEqDiff, Nat.reduceLT, Nat.reduceLeDiff, Nat.reduceMod, Nat.reduceMul, Nat.reduceSub, eq_self, reduceIte, Ty.row, tyAll, u0', u1', Tm.row, tmAll]
def predTm : Tm := .lam .nat (.recu .nat .zero (.lam .nat (.lam .nat (.var 1))) (.var 0))
def plusTm : Tm := .lam .nat (.lam .nat (.recu .nat (.var 1) (.lam .nat (.lam .nat (.succ (.var 0)))) (.var 0)))
def subTm : Tm := .lam .nat (.lam .nat (.recu .nat (.var 1) (.lam .nat (.lam .nat (.app predTm (.var 0)))) (.var 0)))
theorem pred70 (sh : Sh)  : ∃ n, callN T G n 64 [] sh = some (.ag predTm.row, sh) := by
  have u0 := n0 sh 4
  have u1 := var18 sh 0
  have u2 := var18 sh 1
  have u3 := lam68 sh (Tm.var 1)
  have u4 := lam68 sh (Tm.lam .nat (Tm.var 1))
  have u5 := rec69 sh .zero (Tm.lam .nat (Tm.lam .nat (Tm.var 1))) (Tm.var 0)
  have u6 := lam68 sh (Tm.recu .nat .zero (Tm.lam .nat (Tm.lam .nat (Tm.var 1))) (Tm.var 0))
  try simp only [Ty.row, tyAll, Tm.row, tmAll, Int.cast_ofNat_Int] at u0 u1 u2 u3 u4 u5 u6
  have u0' := clR.use u0
  have u1' := clR.use u1
  have u2' := clR.use u2
  have u3' := clR.use u3
  have u4' := clR.use u4
  have u5' := clR.use u5
  have u6' := clR.use u6
  refine run_eq (run_of (pf := p64) rfl ?_)
  unfold p64
  simp only [R.loop_eq, wp0, wp1, wp2, wp3, wp4, wp5, Int.reduceAdd, Int.reduceEq, Int.reduceLE, Int.reduceLT, Int.reduceNeg, Int.reduceSub, Int.reduceToNat, Nat.reduceAdd, Nat.reduceDiv, Nat.reduceEqDiff, Nat.reduceLT, Nat.reduceLeDiff, Nat.reduceMod, Nat.reduceMul, Nat.reduceSub, eq_self, reduceIte, Ty.row, tyAll, u0', u1', u2', u3', u4', u5', u6', Tm.row, tmAll, predTm]
theorem plus44 (sh : Sh)  : ∃ n, callN T G n 46 [] sh = some (.ag plusTm.row, sh) := by
  have u0 := var18 sh 0
  have u1 := var18 sh 1
  have u2 := n1 sh 5 (Tm.var 0)
  have u3 := lam68 sh (Tm.succ (.var 0))
  have u4 := lam68 sh (Tm.lam .nat (Tm.succ (.var 0)))
  have u5 := rec69 sh (Tm.var 1) (Tm.lam .nat (Tm.lam .nat (Tm.succ (.var 0)))) (Tm.var 0)
  have u6 := lam68 sh (Tm.recu .nat (.var 1) (Tm.lam .nat (Tm.lam .nat (Tm.succ (.var 0)))) (Tm.var 0))
  have u7 := lam68 sh (Tm.lam .nat (Tm.recu .nat (.var 1) (Tm.lam .nat (Tm.lam .nat (Tm.succ (.var 0)))) (Tm.var 0)))
  try simp only [Ty.row, tyAll, Tm.row, tmAll, Int.cast_ofNat_Int] at u0 u1 u2 u3 u4 u5 u6 u7
  have u0' := clR.use u0
  have u1' := clR.use u1
  have u2' := clR.use u2
  have u3' := clR.use u3
  have u4' := clR.use u4
  have u5' := clR.use u5
  have u6' := clR.use u6
  have u7' := clR.use u7
  refine run_eq (run_of (pf := p46) rfl ?_)
  unfold p46
  simp only [R.loop_eq, wp0, wp1, wp2, wp3, wp4, wp5, Int.reduceAdd, Int.reduceEq, Int.reduceLE, Int.reduceLT, Int.reduceNeg, Int.reduceSub, Int.reduceToNat, Nat.reduceAdd, Nat.reduceDiv, Nat.reduceEqDiff, Nat.reduceLT, Nat.reduceLeDiff, Nat.reduceMod, Nat.reduceMul, Nat.reduceSub, eq_self, reduceIte, Ty.row, tyAll, u0', u1', u2', u3', u4', u5', u6', u7', Tm.row, tmAll, plusTm]
theorem sub45 (sh : Sh)  : ∃ n, callN T G n 47 [] sh = some (.ag subTm.row, sh) := by
  have u0 := (show ∃ n, callN T G n 64 [] sh = some (.ag ((Tm.lam .nat (.recu .nat .zero (.lam .nat (.lam .nat (.var 1))) (.var 0)))).row, sh) from pred70 sh)
  have u1 := var18 sh 0
  have u2 := var18 sh 1
  have u3 := n2 sh 3 (Tm.lam .nat (.recu .nat .zero (.lam .nat (.lam .nat (.var 1))) (.var 0))) (Tm.var 0)
  have u4 := lam68 sh (Tm.app (Tm.lam .nat (.recu .nat .zero (.lam .nat (.lam .nat (.var 1))) (.var 0))) (.var 0))
  have u5 := lam68 sh (Tm.lam .nat (Tm.app (Tm.lam .nat (.recu .nat .zero (.lam .nat (.lam .nat (.var 1))) (.var 0))) (.var 0)))
  have u6 := rec69 sh (Tm.var 1) (Tm.lam .nat (Tm.lam .nat (Tm.app (Tm.lam .nat (.recu .nat .zero (.lam .nat (.lam .nat (.var 1))) (.var 0))) (.var 0)))) (Tm.var 0)
  have u7 := lam68 sh (Tm.recu .nat (.var 1) (Tm.lam .nat (Tm.lam .nat (Tm.app (Tm.lam .nat (.recu .nat .zero (.lam .nat (.lam .nat (.var 1))) (.var 0))) (.var 0)))) (Tm.var 0))
  have u8 := lam68 sh (Tm.lam .nat (Tm.recu .nat (.var 1) (Tm.lam .nat (Tm.lam .nat (Tm.app (Tm.lam .nat (.recu .nat .zero (.lam .nat (.lam .nat (.var 1))) (.var 0))) (.var 0)))) (Tm.var 0)))
  try simp only [Ty.row, tyAll, Tm.row, tmAll, Int.cast_ofNat_Int] at u0 u1 u2 u3 u4 u5 u6 u7 u8
  have u0' := clR.use u0
  have u1' := clR.use u1
  have u2' := clR.use u2
  have u3' := clR.use u3
  have u4' := clR.use u4
  have u5' := clR.use u5
  have u6' := clR.use u6
  have u7' := clR.use u7
  have u8' := clR.use u8
  refine run_eq (run_of (pf := p47) rfl ?_)
  unfold p47
  simp only [R.loop_eq, wp0, wp1, wp2, wp3, wp4, wp5, Int.reduceAdd, Int.reduceEq, Int.reduceLE, Int.reduceLT, Int.reduceNeg, Int.reduceSub, Int.reduceToNat, Nat.reduceAdd, Nat.reduceDiv, Nat.reduceEqDiff, Nat.reduceLT, Nat.reduceLeDiff, Nat.reduceMod, Nat.reduceMul, Nat.reduceSub, eq_self, reduceIte, Ty.row, tyAll, u0', u1', u2', u3', u4', u5', u6', u7', u8', Tm.row, tmAll, subTm, predTm]
end Go.Pi.Terms

set_option maxRecDepth 100000
set_option maxHeartbeats 1000000
set_option linter.unusedSimpArgs false
set_option linter.unusedVariables false
namespace Go.Pi.Terms
open Go Go.Pi Go.Proofs.YthgocgebpoeolaaDoor

/-- The name of the deck's box. -/
structure DkT where
  m : Nat
def mm [Inhabited DkT] : Nat := (default : DkT).m
/-- The deck in its box. -/
def dk [Inhabited DkT] (l : List Int) (at_ : Nat) : Sh := ⟨[(mm, [.sl 0 1 (l.map fun x => [.v (.int .i64 x)]), i64 at_])], mm + 1⟩
theorem new10 (l : List Int) (nx : Nat) : ∃ n, callN T G n 6 [ints .i64 l] ⟨[], nx⟩ = some (.sp nx 0, @dk ⟨⟨nx⟩⟩ l 0) := by
  refine run_eq (run_of (pf := p6) rfl ?_)
  unfold p6 ints dk mm
  simp only [R.loop_eq, wp0, wp1, wp2, wp3, wp4, wp5, Int.reduceAdd, Int.reduceEq, Int.reduceLE, Int.reduceLT, Int.reduceNeg, Int.reduceSub, Int.reduceToNat, Nat.reduceAdd, Nat.reduceDiv, Nat.reduceEqDiff, Nat.reduceLT, Nat.reduceLeDiff, Nat.reduceMod, Nat.reduceMul, Nat.reduceSub, eq_self, reduceIte, getB, setB]

theorem lt_tmod (x : Int) {k : Int} (h : 0 < k) : -k < x.tmod k := by
  by_cases hx : 0 ≤ x
  · have := Int.tmod_nonneg k hx
    omega
  · have h1 : (-(-x)).tmod k = -((-x).tmod k) := Int.neg_tmod _ _
    rw [Int.neg_neg] at h1
    have h2 := Int.tmod_lt_of_pos (-x) h
    omega

theorem mod66 (sh : Sh) (x k : Int) (h : 1 ≤ k ∧ k ≤ 1000) : ∃ n, callN T G n 37 [i64 x, i64 k] sh = some (i64 ((x.tmod k + k).tmod k), sh) := by
  have h0 : ¬ k = 0 := by omega
  have hm : -k < x.tmod k ∧ x.tmod k < k := ⟨lt_tmod _ (by omega), Int.tmod_lt_of_pos x (by omega)⟩
  have w : IntKind.i64.wrap (x.tmod k + k) = x.tmod k + k := wrap_i64 (by omega)
  refine run_eq (run_of (pf := p37) rfl ?_)
  unfold p37
  simp only [R.loop_eq, wp0, wp1, wp2, wp3, wp4, wp5, Int.reduceAdd, Int.reduceEq, Int.reduceLE, Int.reduceLT, Int.reduceNeg, Int.reduceSub, Int.reduceToNat, Nat.reduceAdd, Nat.reduceDiv, Nat.reduceEqDiff, Nat.reduceLT, Nat.reduceLeDiff, Nat.reduceMod, Nat.reduceMul, Nat.reduceSub, eq_self, reduceIte, h0, w]

theorem few9 (sh : Sh) (l : List Int) : ∃ n, callN T G n 5 [ints .i64 l] sh = some (.v (.bool (decide (l.length ≤ 500))), sh) := by
  refine run_eq (run_of (pf := p5) rfl ?_)
  unfold p5 ints
  have h1 : ((l.length : Int) ≤ 500) = (l.length ≤ 500) := by simp only [eq_iff_iff]; omega
  simp only [R.loop_eq, wp0, wp1, wp2, wp3, wp4, wp5, Int.reduceAdd, Int.reduceEq, Int.reduceLE, Int.reduceLT, Int.reduceNeg, Int.reduceSub, Int.reduceToNat, Nat.reduceAdd, Nat.reduceDiv, Nat.reduceEqDiff, Nat.reduceLT, Nat.reduceLeDiff, Nat.reduceMod, Nat.reduceMul, Nat.reduceSub, eq_self, reduceIte, List.length_map, h1]

variable [Inhabited DkT]
theorem next36 (l : List Int) (at_ : Nat) (k : Int) (h : 1 ≤ k ∧ k ≤ 1000) (ha : at_ ≤ l.length) (hl : l.length ≤ 500) :
    ∃ r at', (0 ≤ r ∧ r < k) ∧ at' ≤ l.length ∧ ∃ n, callN T G n 19 [.sp mm 0, i64 k] (dk l at_) = some (i64 r, dk l at') := by
  have hk : ¬ k < 1 := by omega
  by_cases h1 : at_ < l.length
  · have hm : -k < (l.getD at_ 0).tmod k ∧ (l.getD at_ 0).tmod k < k := ⟨lt_tmod _ (by omega), Int.tmod_lt_of_pos _ (by omega)⟩
    refine ⟨((l.getD at_ 0).tmod k + k).tmod k, at_ + 1, ⟨Int.tmod_nonneg _ (by omega), Int.tmod_lt_of_pos _ (by omega)⟩, by omega, ?_⟩
    have u := fun sh => clR.use (mod66 sh (l.getD at_ 0) k h)
    have c1 : ¬ ((l.length : Int) ≤ (at_ : Int)) := by omega
    have c2 : (at_ : Int) < (l.length : Int) := by omega
    have c3 : (0 : Int) ≤ (at_ : Int) := by omega
    have c4 : ((l.map fun x => [PV.v (.int .i64 x)]).getD at_ []) = [PV.v (.int .i64 (l.getD at_ 0))] := by
      simp [List.getD_eq_getElem?_getD, h1]
    have w : IntKind.i64.wrap ((at_ : Int) + 1) = ((at_ + 1 : Nat) : Int) := by rw [wrap_i64 (by omega)]; omega
    refine run_eq (run_of (pf := p19) rfl ?_)
    unfold p19 dk
    simp only [R.loop_eq, wp0, wp1, wp2, wp3, wp4, wp5, Int.reduceAdd, Int.reduceEq, Int.reduceLE, Int.reduceLT, Int.reduceNeg, Int.reduceSub, Int.reduceToNat, Nat.reduceAdd, Nat.reduceDiv, Nat.reduceEqDiff, Nat.reduceLT, Nat.reduceLeDiff, Nat.reduceMod, Nat.reduceMul, Nat.reduceSub, eq_self, reduceIte, hk, u, c1, c2, c3, c4, w, List.length_map, getB, setB, Int.toNat_natCast]
  · refine ⟨0, at_, by omega, ha, ?_⟩
    have c1 : ((l.length : Int) ≤ (at_ : Int)) := by omega
    refine run_eq (run_of (pf := p19) rfl ?_)
    unfold p19 dk
    simp only [R.loop_eq, wp0, wp1, wp2, wp3, wp4, wp5, Int.reduceAdd, Int.reduceEq, Int.reduceLE, Int.reduceLT, Int.reduceNeg, Int.reduceSub, Int.reduceToNat, Nat.reduceAdd, Nat.reduceDiv, Nat.reduceEqDiff, Nat.reduceLT, Nat.reduceLeDiff, Nat.reduceMod, Nat.reduceMul, Nat.reduceSub, eq_self, reduceIte, hk, c1, List.length_map, getB, setB]

end Go.Pi.Terms

set_option maxRecDepth 100000
set_option maxHeartbeats 1000000
set_option linter.unusedSimpArgs false
set_option linter.unusedVariables false
namespace Go.Pi.Terms
open Go Go.Pi Go.Proofs.YthgocgebpoeolaaDoor
variable [Inhabited DkT]

theorem type12 (l : List Int) (hl : l.length ≤ 500) : ∀ (depth at_ : Nat), depth ≤ 4 → at_ ≤ l.length →
    ∃ (t : Ty) (at' : Nat), t.nodes + 1 ≤ 2 ^ (depth + 1) ∧ at' ≤ l.length ∧ ∃ n, callN T G n 20 [.sp mm 0, i64 (depth : Int)] (dk l at_) = some (.ag t.row, dk l at') := by
  intro depth
  induction depth with
  | zero =>
    intro at_ hd ha
    obtain ⟨r, a1, hr, ha1, hn⟩ := next36 l at_ 7 (by omega) ha hl
    have hx : r = 0 ∨ r = 1 ∨ r = 2 ∨ r = 3 ∨ r = 4 ∨ r = 5 ∨ r = 6 := by omega
    have u0 := clR.use (nat34 (dk l a1))
    have u1 := clR.use (list37 (dk l a1))
    have u2 := clR.use (unit38 (dk l a1))
    simp only [Ty.row, tyAll] at u0 u1 u2
    have b1 : Ty.nat.nodes + 1 ≤ 2 ^ (0 + 1) := by decide
    have b2 : Ty.list.nodes + 1 ≤ 2 ^ (0 + 1) := by decide
    have b3 : Ty.unit.nodes + 1 ≤ 2 ^ (0 + 1) := by decide
    rcases hx with rfl | rfl | rfl | rfl | rfl | rfl | rfl
    all_goals
      have u := clR.use hn
      first
      | refine ⟨.nat, a1, b1, ha1, ?_⟩
        refine run_eq (run_of (pf := p20) rfl ?_)
        unfold p20
        simp only [R.loop_eq, wp0, wp1, wp2, wp3, wp4, wp5, Int.reduceAdd, Int.reduceEq, Int.reduceLE, Int.reduceLT, Int.reduceNeg, Int.reduceSub, Int.reduceToNat, Nat.reduceAdd, Nat.reduceDiv, Nat.reduceEqDiff, Nat.reduceLT, Nat.reduceLeDiff, Nat.reduceMod, Nat.reduceMul, Nat.reduceSub, eq_self, reduceIte, Ty.row, tyAll, u, u0, u1, u2]
        done
      | refine ⟨.list, a1, b2, ha1, ?_⟩
        refine run_eq (run_of (pf := p20) rfl ?_)
        unfold p20
        simp only [R.loop_eq, wp0, wp1, wp2, wp3, wp4, wp5, Int.reduceAdd, Int.reduceEq, Int.reduceLE, Int.reduceLT, Int.reduceNeg, Int.reduceSub, Int.reduceToNat, Nat.reduceAdd, Nat.reduceDiv, Nat.reduceEqDiff, Nat.reduceLT, Nat.reduceLeDiff, Nat.reduceMod, Nat.reduceMul, Nat.reduceSub, eq_self, reduceIte, Ty.row, tyAll, u, u0, u1, u2]
        done
      | refine ⟨.unit, a1, b3, ha1, ?_⟩
        refine run_eq (run_of (pf := p20) rfl ?_)
        unfold p20
        simp only [R.loop_eq, wp0, wp1, wp2, wp3, wp4, wp5, Int.reduceAdd, Int.reduceEq, Int.reduceLE, Int.reduceLT, Int.reduceNeg, Int.reduceSub, Int.reduceToNat, Nat.reduceAdd, Nat.reduceDiv, Nat.reduceEqDiff, Nat.reduceLT, Nat.reduceLeDiff, Nat.reduceMod, Nat.reduceMul, Nat.reduceSub, eq_self, reduceIte, Ty.row, tyAll, u, u0, u1, u2]
        done
  | succ depth ih =>
    intro at_ hd ha
    obtain ⟨r, a1, hr, ha1, hn⟩ := next36 l at_ 7 (by omega) ha hl
    have hx : r = 0 ∨ r = 1 ∨ r = 2 ∨ r = 3 ∨ r = 4 ∨ r = 5 ∨ r = 6 := by omega
    obtain ⟨t1, a2, hb1, ha2, h1⟩ := ih a1 (by omega) ha1
    obtain ⟨t2, a3, hb2, ha3, h2⟩ := ih a2 (by omega) ha2
    have p1 : 2 ≤ 2 ^ (depth + 1) := by have := Nat.one_le_two_pow (n := depth); omega
    have p2 : 2 ^ (depth + 1 + 1) = 2 ^ (depth + 1) + 2 ^ (depth + 1) := by omega
    have u0 := clR.use (nat34 (dk l a1))
    have u1 := clR.use (list37 (dk l a1))
    have u2 := clR.use (unit38 (dk l a1))
    have v1 := clR.use h1
    have v2 := clR.use h2
    have v3 := clR.use (two39 (dk l a3) t1 t2)
    have v4 := clR.use (fun35 (dk l a3) t1 t2)
    simp only [Ty.row, tyAll] at u0 u1 u2 v1 v2 v3 v4
    have d1 : (0 : Int) < ((depth + 1 : Nat) : Int) := by omega
    have d2 : IntKind.i64.wrap (((depth + 1 : Nat) : Int) - 1) = (depth : Int) := by rw [wrap_i64 (by omega)]; omega
    have b1 : Ty.nat.nodes + 1 ≤ 2 ^ (depth + 1 + 1) := by simp only [Ty.nodes]; omega
    have b2 : Ty.list.nodes + 1 ≤ 2 ^ (depth + 1 + 1) := by simp only [Ty.nodes]; omega
    have b3 : Ty.unit.nodes + 1 ≤ 2 ^ (depth + 1 + 1) := by simp only [Ty.nodes]; omega
    have b4 : (Ty.pair t1 t2).nodes + 1 ≤ 2 ^ (depth + 1 + 1) := by simp only [Ty.nodes]; omega
    have b5 : (Ty.fn t1 t2).nodes + 1 ≤ 2 ^ (depth + 1 + 1) := by simp only [Ty.nodes]; omega
    rcases hx with rfl | rfl | rfl | rfl | rfl | rfl | rfl
    all_goals
      have u := clR.use hn
      first
      | refine ⟨.nat, a1, b1, ha1, ?_⟩
        refine run_eq (run_of (pf := p20) rfl ?_)
        unfold p20
        simp only [R.loop_eq, wp0, wp1, wp2, wp3, wp4, wp5, Int.reduceAdd, Int.reduceEq, Int.reduceLE, Int.reduceLT, Int.reduceNeg, Int.reduceSub, Int.reduceToNat, Nat.reduceAdd, Nat.reduceDiv, Nat.reduceEqDiff, Nat.reduceLT, Nat.reduceLeDiff, Nat.reduceMod, Nat.reduceMul, Nat.reduceSub, eq_self, reduceIte, Ty.row, tyAll, u, u0, u1, u2, v1, v2, v3, v4, d1, d2]
        done
      | refine ⟨.list, a1, b2, ha1, ?_⟩
        refine run_eq (run_of (pf := p20) rfl ?_)
        unfold p20
        simp only [R.loop_eq, wp0, wp1, wp2, wp3, wp4, wp5, Int.reduceAdd, Int.reduceEq, Int.reduceLE, Int.reduceLT, Int.reduceNeg, Int.reduceSub, Int.reduceToNat, Nat.reduceAdd, Nat.reduceDiv, Nat.reduceEqDiff, Nat.reduceLT, Nat.reduceLeDiff, Nat.reduceMod, Nat.reduceMul, Nat.reduceSub, eq_self, reduceIte, Ty.row, tyAll, u, u0, u1, u2, v1, v2, v3, v4, d1, d2]
        done
      | refine ⟨.unit, a1, b3, ha1, ?_⟩
        refine run_eq (run_of (pf := p20) rfl ?_)
        unfold p20
        simp only [R.loop_eq, wp0, wp1, wp2, wp3, wp4, wp5, Int.reduceAdd, Int.reduceEq, Int.reduceLE, Int.reduceLT, Int.reduceNeg, Int.reduceSub, Int.reduceToNat, Nat.reduceAdd, Nat.reduceDiv, Nat.reduceEqDiff, Nat.reduceLT, Nat.reduceLeDiff, Nat.reduceMod, Nat.reduceMul, Nat.reduceSub, eq_self, reduceIte, Ty.row, tyAll, u, u0, u1, u2, v1, v2, v3, v4, d1, d2]
        done
      | refine ⟨.pair t1 t2, a3, b4, ha3, ?_⟩
        refine run_eq (run_of (pf := p20) rfl ?_)
        unfold p20
        simp only [R.loop_eq, wp0, wp1, wp2, wp3, wp4, wp5, Int.reduceAdd, Int.reduceEq, Int.reduceLE, Int.reduceLT, Int.reduceNeg, Int.reduceSub, Int.reduceToNat, Nat.reduceAdd, Nat.reduceDiv, Nat.reduceEqDiff, Nat.reduceLT, Nat.reduceLeDiff, Nat.reduceMod, Nat.reduceMul, Nat.reduceSub, eq_self, reduceIte, Ty.row, tyAll, u, u0, u1, u2, v1, v2, v3, v4, d1, d2]
        done
      | refine ⟨.fn t1 t2, a3, b5, ha3, ?_⟩
        refine run_eq (run_of (pf := p20) rfl ?_)
        unfold p20
        simp only [R.loop_eq, wp0, wp1, wp2, wp3, wp4, wp5, Int.reduceAdd, Int.reduceEq, Int.reduceLE, Int.reduceLT, Int.reduceNeg, Int.reduceSub, Int.reduceToNat, Nat.reduceAdd, Nat.reduceDiv, Nat.reduceEqDiff, Nat.reduceLT, Nat.reduceLeDiff, Nat.reduceMod, Nat.reduceMul, Nat.reduceSub, eq_self, reduceIte, Ty.row, tyAll, u, u0, u1, u2, v1, v2, v3, v4, d1, d2]
        done
end Go.Pi.Terms

set_option maxRecDepth 100000
set_option maxHeartbeats 1000000
set_option linter.unusedSimpArgs false
set_option linter.unusedVariables false
namespace Go.Pi.Terms
open Go Go.Pi Go.Proofs.YthgocgebpoeolaaDoor
theorem getD_row (g : List Ty) {i : Nat} (h : i < g.length) : (g.map Ty.row).getD i [] = (g.getD i .nat).row := by
  simp [List.getD_eq_getElem?_getD, h]
theorem e_appS {c sz z t t' rows rows' sh lv tk} (h : Tok lv tk t) (hs : t = 1 → rows = []) (h2 : t ≠ 1 → z = sz) :
    evalE c (.app sz) [.sl t z rows, .sl t' sz rows'] ⟨sh, lv, tk⟩ = if rows.length + rows'.length ≤ appMax then some (.sl tk sz (rows ++ rows'), ⟨sh, lvApp lv tk t, tk + 1⟩) else none := by
  rw [e_appG h (fun e => .inr (hs e)) h2]
  simp
def b40_0 : PC := (.seq (.ops [⟨.bin .lss,[.s 9,.s 8],some 10,none,none⟩]) (.seq (.cond (.s 10) .skip (.exit 0)) (.seq (.block 1 (.seq (.ops [⟨.mv,[.s 9],some 11,none,none⟩,⟨.mv,[.s 11],some 6,none,none⟩]) (.seq (.ops [⟨.mv,[.s 0],some 12,none,none⟩,⟨.mv,[.s 0],some 13,none,none⟩,⟨.len,[.s 13],some 14,none,none⟩,⟨.bin .sub,[.s 14,.c (.v (.int .i64 1))],some 15,none,none⟩,⟨.mv,[.s 6],some 16,none,none⟩,⟨.bin .sub,[.s 15,.s 16],some 17,none,none⟩,⟨.ia 2,[.s 12,.s 17],some 18,none,none⟩,⟨.ldE 2 true,[.s 18],some 19,none,none⟩,⟨.ldL 2 true,[.s 3],some 20,some 3,none⟩,⟨.callF 11,[.s 19,.s 20],some 21,none,none⟩]) (.cond (.s 21) (.ops [⟨.mv,[.s 5],some 22,none,none⟩,⟨.mv,[.s 6],some 23,none,none⟩,⟨.bslice [.v (.int .i64 0)] 1 1 [0],[.s 23],some 24,none,none⟩,⟨.app 1,[.s 22,.s 24],some 25,none,none⟩,⟨.mv,[.s 25],some 5,none,none⟩]) .skip)))) (.ops [⟨.bin .add,[.s 9,.c (.v (.int .i64 1))],some 26,none,none⟩,⟨.mv,[.s 26],some 9,none,none⟩]))))
theorem vars_loop (g : List Ty) (t : Ty) (zg gen : Nat) (hz : g ≠ [] → zg = 2) (hg : g.length ≤ 1000) (sh : Sh) (k : List Fr) (Q : Out → Prop) ( x1 x2 x4 x7 x27 : PV)
    (hk : ∀ (is : List Nat) (tok z : Nat) (lv : Nat → Bool) (tk : Nat) ( y6 y10 y11 y12 y13 y14 y15 y16 y17 y18 y19 y20 y21 y22 y23 y24 y25 y26 : PV), (is ≠ [] → z = 1) → is.length ≤ g.length → (∀ j ∈ is, j < g.length ∧ g.getD (g.length - 1 - j) .nat = t) → R T G [] k ⟨[.sl 0 zg (g.map Ty.row), x1, x2, .bx gen [i64 t.kind, .sl 0 t.asz t.arows], x4, .sl tok z (is.map fun j : Nat => [i64 (j : Int)]), y6, x7, i64 (g.length : Int), i64 (g.length : Int), y10, y11, y12, y13, y14, y15, y16, y17, y18, y19, y20, y21, y22, y23, y24, y25, y26, x27], ⟨sh, lv, tk⟩⟩ Q) :
    ∀ (m i : Nat) (is : List Nat) (tok z : Nat) (lv : Nat → Bool) (tk : Nat) ( x6 x10 x11 x12 x13 x14 x15 x16 x17 x18 x19 x20 x21 x22 x23 x24 x25 x26 : PV), i + m = g.length → 2 ≤ tk → Tok lv tk tok → (tok = 1 → is = []) → (tok ≠ 1 → z = 1) → is.length ≤ i → (∀ j ∈ is, j < g.length ∧ g.getD (g.length - 1 - j) .nat = t) →
      R T G [] (.pc (.loop b40_0) :: .blk 0 :: k) ⟨[.sl 0 zg (g.map Ty.row), x1, x2, .bx gen [i64 t.kind, .sl 0 t.asz t.arows], x4, .sl tok z (is.map fun j : Nat => [i64 (j : Int)]), x6, x7, i64 (g.length : Int), i64 (i : Int), x10, x11, x12, x13, x14, x15, x16, x17, x18, x19, x20, x21, x22, x23, x24, x25, x26, x27], ⟨sh, lv, tk⟩⟩ Q := by
  intro m
  induction m with
  | zero =>
    intro i is tok z lv tk  x6 x10 x11 x12 x13 x14 x15 x16 x17 x18 x19 x20 x21 x22 x23 x24 x25 x26 hi htk ht h1 h2 hl ha
    have hi' : i = g.length := by omega
    subst hi'
    rw [R.loop_eq]
    unfold b40_0
    simp only [wp0, wp1, wp2, wp3, wp4, wp5, Int.reduceAdd, Int.reduceEq, Int.reduceLE, Int.reduceLT, Int.reduceNeg, Int.reduceSub, Int.reduceToNat, Nat.reduceAdd, Nat.reduceDiv, Nat.reduceEqDiff, Nat.reduceLT, Nat.reduceLeDiff, Nat.reduceMod, Nat.reduceMul, Nat.reduceSub, eq_self, reduceIte, Int.lt_irrefl]
    exact hk is tok z lv tk _ _ _ _ _ _ _ _ _ _ _ _ _ _ _ _ _ _ (fun h => h2 fun e => h (h1 e)) hl ha
  | succ m ih =>
    intro i is tok z lv tk  x6 x10 x11 x12 x13 x14 x15 x16 x17 x18 x19 x20 x21 x22 x23 x24 x25 x26 hi htk ht h1 h2 hl ha
    have hne : g ≠ [] := by intro e; subst e; simp at hi
    obtain rfl := hz hne
    have c1 : (i : Int) < (g.length : Int) := by omega
    have w1 : IntKind.i64.wrap ((g.length : Int) - 1) = (g.length : Int) - 1 := wrap_i64 (by omega)
    have w2 : IntKind.i64.wrap ((g.length : Int) - 1 - (i : Int)) = ((g.length - 1 - i : Nat) : Int) := by rw [wrap_i64 (by omega)]; omega
    have w3 : IntKind.i64.wrap ((i : Int) + 1) = ((i + 1 : Nat) : Int) := by rw [wrap_i64 (by omega)]; omega
    have c2 : ((g.length - 1 - i : Nat) : Int) < (g.length : Int) := by omega
    have c3 : (0 : Int) ≤ ((g.length - 1 - i : Nat) : Int) := by omega
    have c4 := getD_row g (i := g.length - 1 - i) (by omega)
    have u := clR.use (same15 sh (g.getD (g.length - 1 - i) .nat) t)
    simp only [Ty.row, tyAll] at u c4
    have ha1 : is.length ≤ 4294967295 := by omega
    have ha2 := @e_appS noCall 1 z tok 1 (is.map fun j : Nat => [i64 (j : Int)]) [[i64 (i : Int)]] sh lv tk ht (fun e => by rw [h1 e]; rfl) h2
    have ha3 : (is.map fun j : Nat => [i64 (j : Int)]) ++ [[i64 (i : Int)]] = (is ++ [i]).map fun j : Nat => [i64 (j : Int)] := by simp
    rw [R.loop_eq]
    unfold b40_0
    by_cases h : g.getD (g.length - 1 - i) .nat = t
    · have e : decide (g.getD (g.length - 1 - i) .nat = t) = true := decide_eq_true h
      simp only [wp0, wp1, wp2, wp3, wp4, wp5, Int.reduceAdd, Int.reduceEq, Int.reduceLE, Int.reduceLT, Int.reduceNeg, Int.reduceSub, Int.reduceToNat, Nat.reduceAdd, Nat.reduceDiv, Nat.reduceEqDiff, Nat.reduceLT, Nat.reduceLeDiff, Nat.reduceMod, Nat.reduceMul, Nat.reduceSub, eq_self, reduceIte, List.length_map, c1, w1, w2, w3, c2, c3, c4, u, e, ha2, ha1, Int.toNat_natCast, ha3]
      refine ih (i + 1) (is ++ [i]) tk 1 (lvApp lv tk tok) (tk + 1) _ _ _ _ _ _ _ _ _ _ _ _ _ _ _ _ _ _ (by omega) (by omega) (.app htk) (fun e => by omega) (fun _ => rfl) (by simp; omega) ?_
      intro j hj
      rcases List.mem_append.1 hj with hj | hj
      · exact ha j hj
      · obtain rfl := List.mem_singleton.1 hj
        exact ⟨by omega, h⟩
    · have e : decide (g.getD (g.length - 1 - i) .nat = t) = false := decide_eq_false h
      simp only [wp0, wp1, wp2, wp3, wp4, wp5, Int.reduceAdd, Int.reduceEq, Int.reduceLE, Int.reduceLT, Int.reduceNeg, Int.reduceSub, Int.reduceToNat, Nat.reduceAdd, Nat.reduceDiv, Nat.reduceEqDiff, Nat.reduceLT, Nat.reduceLeDiff, Nat.reduceMod, Nat.reduceMul, Nat.reduceSub, eq_self, reduceIte, List.length_map, c1, w1, w2, w3, c2, c3, c4, u, e, Int.toNat_natCast]
      exact ih (i + 1) is tok z lv tk _ _ _ _ _ _ _ _ _ _ _ _ _ _ _ _ _ _ (by omega) htk ht h1 h2 (by omega) ha
end Go.Pi.Terms

set_option maxRecDepth 100000
set_option maxHeartbeats 1000000
set_option linter.unusedSimpArgs false
set_option linter.unusedVariables false
namespace Go.Pi.Terms
open Go Go.Pi Go.Proofs.YthgocgebpoeolaaDoor
theorem vars40 (g : List Ty) (t : Ty) (zg : Nat) (hz : g ≠ [] → zg = 2) (hg : g.length ≤ 1000) (sh : Sh) :
    ∃ (is : List Nat) (z : Nat), (is ≠ [] → z = 1) ∧ is.length ≤ g.length ∧ (∀ j ∈ is, j < g.length ∧ g.getD (g.length - 1 - j) .nat = t) ∧
      ∃ n, callN T G n 43 [.sl 0 zg (g.map Ty.row), .ag t.row] sh = some (.sl 0 z (is.map fun j : Nat => [i64 (j : Int)]), sh) := by
  have key : Runs T G 43 [.sl 0 zg (g.map Ty.row), .ag t.row] sh fun r s' => ∃ (is : List Nat) (z : Nat), (is ≠ [] → z = 1) ∧ is.length ≤ g.length ∧ (∀ j ∈ is, j < g.length ∧ g.getD (g.length - 1 - j) .nat = t) ∧ r = .sl 0 z (is.map fun j : Nat => [i64 (j : Int)]) ∧ s' = sh := by
    refine run_of (pf := p43) rfl ?_
    unfold p43
    simp only [wp0, wp1, wp2, wp3, wp4, wp5, Int.reduceAdd, Int.reduceEq, Int.reduceLE, Int.reduceLT, Int.reduceNeg, Int.reduceSub, Int.reduceToNat, Nat.reduceAdd, Nat.reduceDiv, Nat.reduceEqDiff, Nat.reduceLT, Nat.reduceLeDiff, Nat.reduceMod, Nat.reduceMul, Nat.reduceSub, eq_self, reduceIte, List.length_map, show t.row = [i64 t.kind, .sl 0 t.asz t.arows] from rfl]
    refine vars_loop g t zg _ hz hg sh _ _ _ _ _ _ _ ?_ g.length 0 [] 1 0 _ _ _ _ _ _ _ _ _ _ _ _ _ _ _ _ _ _ _ _ (by omega) (Nat.le_refl _) .one (fun _ => rfl) (fun h => (h rfl).elim) (Nat.zero_le _) (fun j hj => by cases hj)
    intro is tok z lv tk y6 y10 y11 y12 y13 y14 y15 y16 y17 y18 y19 y20 y21 y22 y23 y24 y25 y26 h1 h2 h3
    simp only [wp0, wp1, wp2, wp3, wp4, wp5, Int.reduceAdd, Int.reduceEq, Int.reduceLE, Int.reduceLT, Int.reduceNeg, Int.reduceSub, Int.reduceToNat, Nat.reduceAdd, Nat.reduceDiv, Nat.reduceEqDiff, Nat.reduceLT, Nat.reduceLeDiff, Nat.reduceMod, Nat.reduceMul, Nat.reduceSub, eq_self, reduceIte]
    first | exact ⟨is, z, h1, h2, h3, rfl, rfl⟩ | exact ⟨is, z, h1, h2, h3, rfl⟩
  obtain ⟨n, r, s', h, is, z, h1, h2, h3, rfl, rfl⟩ := key
  exact ⟨is, z, h1, h2, h3, n, h⟩

theorem longer41 (g l : List Ty) (zg zl : Nat) (hz : g ≠ [] → zg = 2) (hl : l ≠ [] → zl = 2) (h1 : g.length ≤ 1000) (h2 : l.length ≤ 1000) (sh : Sh) :
    ∃ n, callN T G n 22 [.sl 0 zg (g.map Ty.row), .sl 0 zl (l.map Ty.row)] sh = some (.sl 0 2 ((g ++ l).map Ty.row), sh) := by
  have a1 : (zg = 2 ∨ g = []) = True := by
    simp only [eq_iff_iff, iff_true]
    by_cases e : g = []
    · exact .inr e
    · exact .inl (hz e)
  have a2 : (zl = 2 ∨ l = []) = True := by
    simp only [eq_iff_iff, iff_true]
    by_cases e : l = []
    · exact .inr e
    · exact .inl (hl e)
  have b1 : g.length ≤ 4294967296 := by omega
  have b2 : g.length + l.length ≤ 4294967296 := by omega
  refine run_eq (run_of (pf := p22) rfl ?_)
  unfold p22
  simp only [R.loop_eq, wp0, wp1, wp2, wp3, wp4, wp5, Int.reduceAdd, Int.reduceEq, Int.reduceLE, Int.reduceLT, Int.reduceNeg, Int.reduceSub, Int.reduceToNat, Nat.reduceAdd, Nat.reduceDiv, Nat.reduceEqDiff, Nat.reduceLT, Nat.reduceLeDiff, Nat.reduceMod, Nat.reduceMul, Nat.reduceSub, eq_self, reduceIte, List.length_map, List.map_eq_nil_iff, a1, a2, b1, b2, List.map_append]
def Ty.srow (t : Ty) : List PV := [i64 t.kind, .sl 0 t.asz t.arows, i64 (t.nodes : Int)]
variable [Inhabited DkT]
theorem context11 (l : List Int) (hl : l.length ≤ 500) (at_ : Nat) (ha : at_ ≤ l.length) :
    ∃ (g : List Ty) (zg at' : Nat), (g ≠ [] → zg = 2) ∧ g.length ≤ 3 ∧ (∀ t ∈ g, t.nodes ≤ 3) ∧ at' ≤ l.length ∧ ∃ n, callN T G n 7 [.sp mm 0] (dk l at_) = some (.sl 0 zg (g.map Ty.row), dk l at') := by
  obtain ⟨r, a0, hr, ha0, hn⟩ := next36 l at_ 4 (by omega) ha hl
  obtain ⟨t1, a1, hb1, ha1, h1⟩ := type12 l hl 1 a0 (by omega) ha0
  obtain ⟨t2, a2, hb2, ha2, h2⟩ := type12 l hl 1 a1 (by omega) ha1
  obtain ⟨t3, a3, hb3, ha3, h3⟩ := type12 l hl 1 a2 (by omega) ha2
  have v1 := clR.use h1
  have v2 := clR.use h2
  have v3 := clR.use h3
  simp only [Ty.row, tyAll, Int.cast_ofNat_Int] at v1 v2 v3
  have hb1 : t1.nodes ≤ 3 := by omega
  have hb2 : t2.nodes ≤ 3 := by omega
  have hb3 : t3.nodes ≤ 3 := by omega
  have hx : r = 0 ∨ r = 1 ∨ r = 2 ∨ r = 3 := by omega
  rcases hx with rfl | rfl | rfl | rfl
  · have u := clR.use hn
    refine ⟨[], 0, a0, fun h => (h rfl).elim, by simp, by simp, ha0, ?_⟩
    refine run_eq (run_of (pf := p7) rfl ?_)
    unfold p7
    simp only [R.loop_eq, wp0, wp1, wp2, wp3, wp4, wp5, Int.reduceAdd, Int.reduceEq, Int.reduceLE, Int.reduceLT, Int.reduceNeg, Int.reduceSub, Int.reduceToNat, Nat.reduceAdd, Nat.reduceDiv, Nat.reduceEqDiff, Nat.reduceLT, Nat.reduceLeDiff, Nat.reduceMod, Nat.reduceMul, Nat.reduceSub, eq_self, reduceIte, Ty.row, tyAll, u]
  · have u := clR.use hn
    refine ⟨[t1], 2, a1, fun _ => rfl, by simp, by simp; omega, ha1, ?_⟩
    refine run_eq (run_of (pf := p7) rfl ?_)
    unfold p7
    simp only [R.loop_eq, wp0, wp1, wp2, wp3, wp4, wp5, Int.reduceAdd, Int.reduceEq, Int.reduceLE, Int.reduceLT, Int.reduceNeg, Int.reduceSub, Int.reduceToNat, Nat.reduceAdd, Nat.reduceDiv, Nat.reduceEqDiff, Nat.reduceLT, Nat.reduceLeDiff, Nat.reduceMod, Nat.reduceMul, Nat.reduceSub, eq_self, reduceIte, Ty.row, tyAll, u, v1, v2, v3]
  · have u := clR.use hn
    refine ⟨[t1, t2], 2, a2, fun _ => rfl, by simp, by simp; omega, ha2, ?_⟩
    refine run_eq (run_of (pf := p7) rfl ?_)
    unfold p7
    simp only [R.loop_eq, wp0, wp1, wp2, wp3, wp4, wp5, Int.reduceAdd, Int.reduceEq, Int.reduceLE, Int.reduceLT, Int.reduceNeg, Int.reduceSub, Int.reduceToNat, Nat.reduceAdd, Nat.reduceDiv, Nat.reduceEqDiff, Nat.reduceLT, Nat.reduceLeDiff, Nat.reduceMod, Nat.reduceMul, Nat.reduceSub, eq_self, reduceIte, Ty.row, tyAll, u, v1, v2, v3]
  · have u := clR.use hn
    refine ⟨[t1, t2, t3], 2, a3, fun _ => rfl, by simp, by simp; omega, ha3, ?_⟩
    refine run_eq (run_of (pf := p7) rfl ?_)
    unfold p7
    simp only [R.loop_eq, wp0, wp1, wp2, wp3, wp4, wp5, Int.reduceAdd, Int.reduceEq, Int.reduceLE, Int.reduceLT, Int.reduceNeg, Int.reduceSub, Int.reduceToNat, Nat.reduceAdd, Nat.reduceDiv, Nat.reduceEqDiff, Nat.reduceLT, Nat.reduceLeDiff, Nat.reduceMod, Nat.reduceMul, Nat.reduceSub, eq_self, reduceIte, Ty.row, tyAll, u, v1, v2, v3]
end Go.Pi.Terms
