import Derived.Test.YtoljfmfmdghoeaaGreatDoorSB
set_option maxRecDepth 100000
set_option maxHeartbeats 1000000
set_option linter.unusedSimpArgs false
set_option linter.unusedVariables false
namespace Go.Pi.Terms
open Go Go.Pi Go.Proofs.YtoljfmfmdghoeaaGreatDoor
theorem below_lam (sh : Sh) (s : Ty) (a : Tm) : ∃ n, callN T G n 159 [.ag (Tm.lam s a).row] sh = some (i64 1, sh) := by
  refine run_eq (run_of (pf := p159) rfl ?_)
  unfold p159
  simp only [R.loop_eq, wp0, wp1, wp2, wp3, wp4, PV.cellsT, appMax, dropSh, fillB, fillS, putD, splice, src, startSt, Int.reduceAdd, Int.reduceEq, Int.reduceLE, Int.reduceLT, Int.reduceNeg, Int.reduceSub, Int.reduceToNat, Nat.reduceAdd, Nat.reduceDiv, Nat.reduceEqDiff, Nat.reduceLT, Nat.reduceLeDiff, Nat.reduceMod, Nat.reduceMul, Nat.reduceSub, eq_self, if_false, if_true, ite_false, ite_true, reduceIte, Ty.row, tyAll, Tm.row, tmAll]
theorem below_var (sh : Sh) (i : Nat) : ∃ n, callN T G n 159 [.ag (Tm.var i).row] sh = some (i64 0, sh) := by
  refine run_eq (run_of (pf := p159) rfl ?_)
  unfold p159
  simp only [R.loop_eq, wp0, wp1, wp2, wp3, wp4, PV.cellsT, appMax, dropSh, fillB, fillS, putD, splice, src, startSt, Int.reduceAdd, Int.reduceEq, Int.reduceLE, Int.reduceLT, Int.reduceNeg, Int.reduceSub, Int.reduceToNat, Nat.reduceAdd, Nat.reduceDiv, Nat.reduceEqDiff, Nat.reduceLT, Nat.reduceLeDiff, Nat.reduceMod, Nat.reduceMul, Nat.reduceSub, eq_self, if_false, if_true, ite_false, ite_true, reduceIte, Ty.row, tyAll, Tm.row, tmAll]
theorem below_app (sh : Sh) (a : Tm) (b : Tm) : ∃ n, callN T G n 159 [.ag (Tm.app a b).row] sh = some (i64 0, sh) := by
  refine run_eq (run_of (pf := p159) rfl ?_)
  unfold p159
  simp only [R.loop_eq, wp0, wp1, wp2, wp3, wp4, PV.cellsT, appMax, dropSh, fillB, fillS, putD, splice, src, startSt, Int.reduceAdd, Int.reduceEq, Int.reduceLE, Int.reduceLT, Int.reduceNeg, Int.reduceSub, Int.reduceToNat, Nat.reduceAdd, Nat.reduceDiv, Nat.reduceEqDiff, Nat.reduceLT, Nat.reduceLeDiff, Nat.reduceMod, Nat.reduceMul, Nat.reduceSub, eq_self, if_false, if_true, ite_false, ite_true, reduceIte, Ty.row, tyAll, Tm.row, tmAll]
theorem below_zero (sh : Sh) : ∃ n, callN T G n 159 [.ag (Tm.zero).row] sh = some (i64 0, sh) := by
  refine run_eq (run_of (pf := p159) rfl ?_)
  unfold p159
  simp only [R.loop_eq, wp0, wp1, wp2, wp3, wp4, PV.cellsT, appMax, dropSh, fillB, fillS, putD, splice, src, startSt, Int.reduceAdd, Int.reduceEq, Int.reduceLE, Int.reduceLT, Int.reduceNeg, Int.reduceSub, Int.reduceToNat, Nat.reduceAdd, Nat.reduceDiv, Nat.reduceEqDiff, Nat.reduceLT, Nat.reduceLeDiff, Nat.reduceMod, Nat.reduceMul, Nat.reduceSub, eq_self, if_false, if_true, ite_false, ite_true, reduceIte, Ty.row, tyAll, Tm.row, tmAll]
theorem below_succ (sh : Sh) (a : Tm) : ∃ n, callN T G n 159 [.ag (Tm.succ a).row] sh = some (i64 0, sh) := by
  refine run_eq (run_of (pf := p159) rfl ?_)
  unfold p159
  simp only [R.loop_eq, wp0, wp1, wp2, wp3, wp4, PV.cellsT, appMax, dropSh, fillB, fillS, putD, splice, src, startSt, Int.reduceAdd, Int.reduceEq, Int.reduceLE, Int.reduceLT, Int.reduceNeg, Int.reduceSub, Int.reduceToNat, Nat.reduceAdd, Nat.reduceDiv, Nat.reduceEqDiff, Nat.reduceLT, Nat.reduceLeDiff, Nat.reduceMod, Nat.reduceMul, Nat.reduceSub, eq_self, if_false, if_true, ite_false, ite_true, reduceIte, Ty.row, tyAll, Tm.row, tmAll]
theorem below_recu (sh : Sh) (s : Ty) (a : Tm) (b : Tm) (c : Tm) : ∃ n, callN T G n 159 [.ag (Tm.recu s a b c).row] sh = some (i64 0, sh) := by
  refine run_eq (run_of (pf := p159) rfl ?_)
  unfold p159
  simp only [R.loop_eq, wp0, wp1, wp2, wp3, wp4, PV.cellsT, appMax, dropSh, fillB, fillS, putD, splice, src, startSt, Int.reduceAdd, Int.reduceEq, Int.reduceLE, Int.reduceLT, Int.reduceNeg, Int.reduceSub, Int.reduceToNat, Nat.reduceAdd, Nat.reduceDiv, Nat.reduceEqDiff, Nat.reduceLT, Nat.reduceLeDiff, Nat.reduceMod, Nat.reduceMul, Nat.reduceSub, eq_self, if_false, if_true, ite_false, ite_true, reduceIte, Ty.row, tyAll, Tm.row, tmAll]
theorem below_nil (sh : Sh) : ∃ n, callN T G n 159 [.ag (Tm.nil).row] sh = some (i64 0, sh) := by
  refine run_eq (run_of (pf := p159) rfl ?_)
  unfold p159
  simp only [R.loop_eq, wp0, wp1, wp2, wp3, wp4, PV.cellsT, appMax, dropSh, fillB, fillS, putD, splice, src, startSt, Int.reduceAdd, Int.reduceEq, Int.reduceLE, Int.reduceLT, Int.reduceNeg, Int.reduceSub, Int.reduceToNat, Nat.reduceAdd, Nat.reduceDiv, Nat.reduceEqDiff, Nat.reduceLT, Nat.reduceLeDiff, Nat.reduceMod, Nat.reduceMul, Nat.reduceSub, eq_self, if_false, if_true, ite_false, ite_true, reduceIte, Ty.row, tyAll, Tm.row, tmAll]
theorem below_cons (sh : Sh) (a : Tm) (b : Tm) : ∃ n, callN T G n 159 [.ag (Tm.cons a b).row] sh = some (i64 0, sh) := by
  refine run_eq (run_of (pf := p159) rfl ?_)
  unfold p159
  simp only [R.loop_eq, wp0, wp1, wp2, wp3, wp4, PV.cellsT, appMax, dropSh, fillB, fillS, putD, splice, src, startSt, Int.reduceAdd, Int.reduceEq, Int.reduceLE, Int.reduceLT, Int.reduceNeg, Int.reduceSub, Int.reduceToNat, Nat.reduceAdd, Nat.reduceDiv, Nat.reduceEqDiff, Nat.reduceLT, Nat.reduceLeDiff, Nat.reduceMod, Nat.reduceMul, Nat.reduceSub, eq_self, if_false, if_true, ite_false, ite_true, reduceIte, Ty.row, tyAll, Tm.row, tmAll]
theorem below_fold (sh : Sh) (s : Ty) (a : Tm) (b : Tm) (c : Tm) : ∃ n, callN T G n 159 [.ag (Tm.fold s a b c).row] sh = some (i64 0, sh) := by
  refine run_eq (run_of (pf := p159) rfl ?_)
  unfold p159
  simp only [R.loop_eq, wp0, wp1, wp2, wp3, wp4, PV.cellsT, appMax, dropSh, fillB, fillS, putD, splice, src, startSt, Int.reduceAdd, Int.reduceEq, Int.reduceLE, Int.reduceLT, Int.reduceNeg, Int.reduceSub, Int.reduceToNat, Nat.reduceAdd, Nat.reduceDiv, Nat.reduceEqDiff, Nat.reduceLT, Nat.reduceLeDiff, Nat.reduceMod, Nat.reduceMul, Nat.reduceSub, eq_self, if_false, if_true, ite_false, ite_true, reduceIte, Ty.row, tyAll, Tm.row, tmAll]
theorem below_pair (sh : Sh) (a : Tm) (b : Tm) : ∃ n, callN T G n 159 [.ag (Tm.pair a b).row] sh = some (i64 0, sh) := by
  refine run_eq (run_of (pf := p159) rfl ?_)
  unfold p159
  simp only [R.loop_eq, wp0, wp1, wp2, wp3, wp4, PV.cellsT, appMax, dropSh, fillB, fillS, putD, splice, src, startSt, Int.reduceAdd, Int.reduceEq, Int.reduceLE, Int.reduceLT, Int.reduceNeg, Int.reduceSub, Int.reduceToNat, Nat.reduceAdd, Nat.reduceDiv, Nat.reduceEqDiff, Nat.reduceLT, Nat.reduceLeDiff, Nat.reduceMod, Nat.reduceMul, Nat.reduceSub, eq_self, if_false, if_true, ite_false, ite_true, reduceIte, Ty.row, tyAll, Tm.row, tmAll]
theorem below_fst (sh : Sh) (a : Tm) : ∃ n, callN T G n 159 [.ag (Tm.fst a).row] sh = some (i64 0, sh) := by
  refine run_eq (run_of (pf := p159) rfl ?_)
  unfold p159
  simp only [R.loop_eq, wp0, wp1, wp2, wp3, wp4, PV.cellsT, appMax, dropSh, fillB, fillS, putD, splice, src, startSt, Int.reduceAdd, Int.reduceEq, Int.reduceLE, Int.reduceLT, Int.reduceNeg, Int.reduceSub, Int.reduceToNat, Nat.reduceAdd, Nat.reduceDiv, Nat.reduceEqDiff, Nat.reduceLT, Nat.reduceLeDiff, Nat.reduceMod, Nat.reduceMul, Nat.reduceSub, eq_self, if_false, if_true, ite_false, ite_true, reduceIte, Ty.row, tyAll, Tm.row, tmAll]
theorem below_snd (sh : Sh) (a : Tm) : ∃ n, callN T G n 159 [.ag (Tm.snd a).row] sh = some (i64 0, sh) := by
  refine run_eq (run_of (pf := p159) rfl ?_)
  unfold p159
  simp only [R.loop_eq, wp0, wp1, wp2, wp3, wp4, PV.cellsT, appMax, dropSh, fillB, fillS, putD, splice, src, startSt, Int.reduceAdd, Int.reduceEq, Int.reduceLE, Int.reduceLT, Int.reduceNeg, Int.reduceSub, Int.reduceToNat, Nat.reduceAdd, Nat.reduceDiv, Nat.reduceEqDiff, Nat.reduceLT, Nat.reduceLeDiff, Nat.reduceMod, Nat.reduceMul, Nat.reduceSub, eq_self, if_false, if_true, ite_false, ite_true, reduceIte, Ty.row, tyAll, Tm.row, tmAll]
theorem below_unit (sh : Sh) : ∃ n, callN T G n 159 [.ag (Tm.unit).row] sh = some (i64 0, sh) := by
  refine run_eq (run_of (pf := p159) rfl ?_)
  unfold p159
  simp only [R.loop_eq, wp0, wp1, wp2, wp3, wp4, PV.cellsT, appMax, dropSh, fillB, fillS, putD, splice, src, startSt, Int.reduceAdd, Int.reduceEq, Int.reduceLE, Int.reduceLT, Int.reduceNeg, Int.reduceSub, Int.reduceToNat, Nat.reduceAdd, Nat.reduceDiv, Nat.reduceEqDiff, Nat.reduceLT, Nat.reduceLeDiff, Nat.reduceMod, Nat.reduceMul, Nat.reduceSub, eq_self, if_false, if_true, ite_false, ite_true, reduceIte, Ty.row, tyAll, Tm.row, tmAll]
theorem least57 (sh : Sh) (B : Nat) : ∀ t : Tm, t.low B → ∃ n, callN T G n 57 [.ag t.row, i64 (B : Int)] sh = some (.v (.bool true), sh) := by
  intro t
  induction t with
  | var i =>
    intro hl
    have c1 : ¬ (B : Int) < (i : Int) := by have h' : i ≤ B := hl; omega
    refine run_eq (run_of (pf := p57) rfl ?_)
    unfold p57
    simp only [R.loop_eq, wp0, wp1, wp2, wp3, wp4, PV.cellsT, appMax, dropSh, fillB, fillS, putD, splice, src, startSt, Int.reduceAdd, Int.reduceEq, Int.reduceLE, Int.reduceLT, Int.reduceNeg, Int.reduceSub, Int.reduceToNat, Nat.reduceAdd, Nat.reduceDiv, Nat.reduceEqDiff, Nat.reduceLT, Nat.reduceLeDiff, Nat.reduceMod, Nat.reduceMul, Nat.reduceSub, eq_self, if_false, if_true, ite_false, ite_true, reduceIte, Ty.row, tyAll, Tm.row, tmAll, c1]
  | lam s a iha =>
    intro hl
    have c1 : ¬ (B : Int) < 0 := by omega
    have u0 := iha hl
    try simp only [Ty.row, tyAll, Tm.row, tmAll, Int.cast_ofNat_Int] at u0
    have u0' := clR.use u0
    refine run_eq (run_of (pf := p57) rfl ?_)
    unfold p57
    simp only [R.loop_eq, wp0, wp1, wp2, wp3, wp4, PV.cellsT, appMax, dropSh, fillB, fillS, putD, splice, src, startSt, Int.reduceAdd, Int.reduceEq, Int.reduceLE, Int.reduceLT, Int.reduceNeg, Int.reduceSub, Int.reduceToNat, Nat.reduceAdd, Nat.reduceDiv, Nat.reduceEqDiff, Nat.reduceLT, Nat.reduceLeDiff, Nat.reduceMod, Nat.reduceMul, Nat.reduceSub, eq_self, if_false, if_true, ite_false, ite_true, reduceIte, Ty.row, tyAll, Tm.row, tmAll, u0', c1]
  | app a b iha ihb =>
    intro hl
    have c1 : ¬ (B : Int) < 0 := by omega
    have u0 := iha hl.1
    have u1 := ihb hl.2
    try simp only [Ty.row, tyAll, Tm.row, tmAll, Int.cast_ofNat_Int] at u0 u1
    have u0' := clR.use u0
    have u1' := clR.use u1
    refine run_eq (run_of (pf := p57) rfl ?_)
    unfold p57
    simp only [R.loop_eq, wp0, wp1, wp2, wp3, wp4, PV.cellsT, appMax, dropSh, fillB, fillS, putD, splice, src, startSt, Int.reduceAdd, Int.reduceEq, Int.reduceLE, Int.reduceLT, Int.reduceNeg, Int.reduceSub, Int.reduceToNat, Nat.reduceAdd, Nat.reduceDiv, Nat.reduceEqDiff, Nat.reduceLT, Nat.reduceLeDiff, Nat.reduceMod, Nat.reduceMul, Nat.reduceSub, eq_self, if_false, if_true, ite_false, ite_true, reduceIte, Ty.row, tyAll, Tm.row, tmAll, u0', u1', c1]
  | zero =>
    intro hl
    have c1 : ¬ (B : Int) < 0 := by omega
    refine run_eq (run_of (pf := p57) rfl ?_)
    unfold p57
    simp only [R.loop_eq, wp0, wp1, wp2, wp3, wp4, PV.cellsT, appMax, dropSh, fillB, fillS, putD, splice, src, startSt, Int.reduceAdd, Int.reduceEq, Int.reduceLE, Int.reduceLT, Int.reduceNeg, Int.reduceSub, Int.reduceToNat, Nat.reduceAdd, Nat.reduceDiv, Nat.reduceEqDiff, Nat.reduceLT, Nat.reduceLeDiff, Nat.reduceMod, Nat.reduceMul, Nat.reduceSub, eq_self, if_false, if_true, ite_false, ite_true, reduceIte, Ty.row, tyAll, Tm.row, tmAll, c1]
  | succ a iha =>
    intro hl
    have c1 : ¬ (B : Int) < 0 := by omega
    have u0 := iha hl
    try simp only [Ty.row, tyAll, Tm.row, tmAll, Int.cast_ofNat_Int] at u0
    have u0' := clR.use u0
    refine run_eq (run_of (pf := p57) rfl ?_)
    unfold p57
    simp only [R.loop_eq, wp0, wp1, wp2, wp3, wp4, PV.cellsT, appMax, dropSh, fillB, fillS, putD, splice, src, startSt, Int.reduceAdd, Int.reduceEq, Int.reduceLE, Int.reduceLT, Int.reduceNeg, Int.reduceSub, Int.reduceToNat, Nat.reduceAdd, Nat.reduceDiv, Nat.reduceEqDiff, Nat.reduceLT, Nat.reduceLeDiff, Nat.reduceMod, Nat.reduceMul, Nat.reduceSub, eq_self, if_false, if_true, ite_false, ite_true, reduceIte, Ty.row, tyAll, Tm.row, tmAll, u0', c1]
  | recu s a b c iha ihb ihc =>
    intro hl
    have c1 : ¬ (B : Int) < 0 := by omega
    have u0 := iha hl.1
    have u1 := ihb hl.2.1
    have u2 := ihc hl.2.2
    try simp only [Ty.row, tyAll, Tm.row, tmAll, Int.cast_ofNat_Int] at u0 u1 u2
    have u0' := clR.use u0
    have u1' := clR.use u1
    have u2' := clR.use u2
    refine run_eq (run_of (pf := p57) rfl ?_)
    unfold p57
    simp only [R.loop_eq, wp0, wp1, wp2, wp3, wp4, PV.cellsT, appMax, dropSh, fillB, fillS, putD, splice, src, startSt, Int.reduceAdd, Int.reduceEq, Int.reduceLE, Int.reduceLT, Int.reduceNeg, Int.reduceSub, Int.reduceToNat, Nat.reduceAdd, Nat.reduceDiv, Nat.reduceEqDiff, Nat.reduceLT, Nat.reduceLeDiff, Nat.reduceMod, Nat.reduceMul, Nat.reduceSub, eq_self, if_false, if_true, ite_false, ite_true, reduceIte, Ty.row, tyAll, Tm.row, tmAll, u0', u1', u2', c1]
  | nil =>
    intro hl
    have c1 : ¬ (B : Int) < 0 := by omega
    refine run_eq (run_of (pf := p57) rfl ?_)
    unfold p57
    simp only [R.loop_eq, wp0, wp1, wp2, wp3, wp4, PV.cellsT, appMax, dropSh, fillB, fillS, putD, splice, src, startSt, Int.reduceAdd, Int.reduceEq, Int.reduceLE, Int.reduceLT, Int.reduceNeg, Int.reduceSub, Int.reduceToNat, Nat.reduceAdd, Nat.reduceDiv, Nat.reduceEqDiff, Nat.reduceLT, Nat.reduceLeDiff, Nat.reduceMod, Nat.reduceMul, Nat.reduceSub, eq_self, if_false, if_true, ite_false, ite_true, reduceIte, Ty.row, tyAll, Tm.row, tmAll, c1]
  | cons a b iha ihb =>
    intro hl
    have c1 : ¬ (B : Int) < 0 := by omega
    have u0 := iha hl.1
    have u1 := ihb hl.2
    try simp only [Ty.row, tyAll, Tm.row, tmAll, Int.cast_ofNat_Int] at u0 u1
    have u0' := clR.use u0
    have u1' := clR.use u1
    refine run_eq (run_of (pf := p57) rfl ?_)
    unfold p57
    simp only [R.loop_eq, wp0, wp1, wp2, wp3, wp4, PV.cellsT, appMax, dropSh, fillB, fillS, putD, splice, src, startSt, Int.reduceAdd, Int.reduceEq, Int.reduceLE, Int.reduceLT, Int.reduceNeg, Int.reduceSub, Int.reduceToNat, Nat.reduceAdd, Nat.reduceDiv, Nat.reduceEqDiff, Nat.reduceLT, Nat.reduceLeDiff, Nat.reduceMod, Nat.reduceMul, Nat.reduceSub, eq_self, if_false, if_true, ite_false, ite_true, reduceIte, Ty.row, tyAll, Tm.row, tmAll, u0', u1', c1]
  | fold s a b c iha ihb ihc =>
    intro hl
    have c1 : ¬ (B : Int) < 0 := by omega
    have u0 := iha hl.1
    have u1 := ihb hl.2.1
    have u2 := ihc hl.2.2
    try simp only [Ty.row, tyAll, Tm.row, tmAll, Int.cast_ofNat_Int] at u0 u1 u2
    have u0' := clR.use u0
    have u1' := clR.use u1
    have u2' := clR.use u2
    refine run_eq (run_of (pf := p57) rfl ?_)
    unfold p57
    simp only [R.loop_eq, wp0, wp1, wp2, wp3, wp4, PV.cellsT, appMax, dropSh, fillB, fillS, putD, splice, src, startSt, Int.reduceAdd, Int.reduceEq, Int.reduceLE, Int.reduceLT, Int.reduceNeg, Int.reduceSub, Int.reduceToNat, Nat.reduceAdd, Nat.reduceDiv, Nat.reduceEqDiff, Nat.reduceLT, Nat.reduceLeDiff, Nat.reduceMod, Nat.reduceMul, Nat.reduceSub, eq_self, if_false, if_true, ite_false, ite_true, reduceIte, Ty.row, tyAll, Tm.row, tmAll, u0', u1', u2', c1]
  | pair a b iha ihb =>
    intro hl
    have c1 : ¬ (B : Int) < 0 := by omega
    have u0 := iha hl.1
    have u1 := ihb hl.2
    try simp only [Ty.row, tyAll, Tm.row, tmAll, Int.cast_ofNat_Int] at u0 u1
    have u0' := clR.use u0
    have u1' := clR.use u1
    refine run_eq (run_of (pf := p57) rfl ?_)
    unfold p57
    simp only [R.loop_eq, wp0, wp1, wp2, wp3, wp4, PV.cellsT, appMax, dropSh, fillB, fillS, putD, splice, src, startSt, Int.reduceAdd, Int.reduceEq, Int.reduceLE, Int.reduceLT, Int.reduceNeg, Int.reduceSub, Int.reduceToNat, Nat.reduceAdd, Nat.reduceDiv, Nat.reduceEqDiff, Nat.reduceLT, Nat.reduceLeDiff, Nat.reduceMod, Nat.reduceMul, Nat.reduceSub, eq_self, if_false, if_true, ite_false, ite_true, reduceIte, Ty.row, tyAll, Tm.row, tmAll, u0', u1', c1]
  | fst a iha =>
    intro hl
    have c1 : ¬ (B : Int) < 0 := by omega
    have u0 := iha hl
    try simp only [Ty.row, tyAll, Tm.row, tmAll, Int.cast_ofNat_Int] at u0
    have u0' := clR.use u0
    refine run_eq (run_of (pf := p57) rfl ?_)
    unfold p57
    simp only [R.loop_eq, wp0, wp1, wp2, wp3, wp4, PV.cellsT, appMax, dropSh, fillB, fillS, putD, splice, src, startSt, Int.reduceAdd, Int.reduceEq, Int.reduceLE, Int.reduceLT, Int.reduceNeg, Int.reduceSub, Int.reduceToNat, Nat.reduceAdd, Nat.reduceDiv, Nat.reduceEqDiff, Nat.reduceLT, Nat.reduceLeDiff, Nat.reduceMod, Nat.reduceMul, Nat.reduceSub, eq_self, if_false, if_true, ite_false, ite_true, reduceIte, Ty.row, tyAll, Tm.row, tmAll, u0', c1]
  | snd a iha =>
    intro hl
    have c1 : ¬ (B : Int) < 0 := by omega
    have u0 := iha hl
    try simp only [Ty.row, tyAll, Tm.row, tmAll, Int.cast_ofNat_Int] at u0
    have u0' := clR.use u0
    refine run_eq (run_of (pf := p57) rfl ?_)
    unfold p57
    simp only [R.loop_eq, wp0, wp1, wp2, wp3, wp4, PV.cellsT, appMax, dropSh, fillB, fillS, putD, splice, src, startSt, Int.reduceAdd, Int.reduceEq, Int.reduceLE, Int.reduceLT, Int.reduceNeg, Int.reduceSub, Int.reduceToNat, Nat.reduceAdd, Nat.reduceDiv, Nat.reduceEqDiff, Nat.reduceLT, Nat.reduceLeDiff, Nat.reduceMod, Nat.reduceMul, Nat.reduceSub, eq_self, if_false, if_true, ite_false, ite_true, reduceIte, Ty.row, tyAll, Tm.row, tmAll, u0', c1]
  | unit =>
    intro hl
    have c1 : ¬ (B : Int) < 0 := by omega
    refine run_eq (run_of (pf := p57) rfl ?_)
    unfold p57
    simp only [R.loop_eq, wp0, wp1, wp2, wp3, wp4, PV.cellsT, appMax, dropSh, fillB, fillS, putD, splice, src, startSt, Int.reduceAdd, Int.reduceEq, Int.reduceLE, Int.reduceLT, Int.reduceNeg, Int.reduceSub, Int.reduceToNat, Nat.reduceAdd, Nat.reduceDiv, Nat.reduceEqDiff, Nat.reduceLT, Nat.reduceLeDiff, Nat.reduceMod, Nat.reduceMul, Nat.reduceSub, eq_self, if_false, if_true, ite_false, ite_true, reduceIte, Ty.row, tyAll, Tm.row, tmAll, c1]
theorem up160 (sh : Sh) (m : Nat) (hm : m ≤ 1000000) : ∀ (t : Tm) (k : Nat), k + t.size ≤ 1000000 → t.low 1073741824 → ∃ n, callN T G n 160 [.ag t.row, i64 (k : Int), i64 (m : Int)] sh = some (.ag (t.up k m).row, sh) := by
  intro t
  induction t with
  | var i =>
    intro k hs hl
    simp only [Tm.size] at hs
    have hi : i ≤ 1073741824 := hl
    rw [up_var]
    by_cases h : k ≤ i
    · have c1 : (k : Int) ≤ (i : Int) := by omega
      have w1 : IntKind.i64.wrap ((i : Int) + (m : Int)) = ((i + m : Nat) : Int) := by rw [wrap_i64 (by omega)]; omega
      rw [if_pos h]
      refine run_eq (run_of (pf := p160) rfl ?_)
      unfold p160
      simp only [R.loop_eq, wp0, wp1, wp2, wp3, wp4, PV.cellsT, appMax, dropSh, fillB, fillS, putD, splice, src, startSt, Int.reduceAdd, Int.reduceEq, Int.reduceLE, Int.reduceLT, Int.reduceNeg, Int.reduceSub, Int.reduceToNat, Nat.reduceAdd, Nat.reduceDiv, Nat.reduceEqDiff, Nat.reduceLT, Nat.reduceLeDiff, Nat.reduceMod, Nat.reduceMul, Nat.reduceSub, eq_self, if_false, if_true, ite_false, ite_true, reduceIte, Ty.row, tyAll, Tm.row, tmAll, c1, w1]
    · have c1 : ¬ (k : Int) ≤ (i : Int) := by omega
      rw [if_neg h]
      refine run_eq (run_of (pf := p160) rfl ?_)
      unfold p160
      simp only [R.loop_eq, wp0, wp1, wp2, wp3, wp4, PV.cellsT, appMax, dropSh, fillB, fillS, putD, splice, src, startSt, Int.reduceAdd, Int.reduceEq, Int.reduceLE, Int.reduceLT, Int.reduceNeg, Int.reduceSub, Int.reduceToNat, Nat.reduceAdd, Nat.reduceDiv, Nat.reduceEqDiff, Nat.reduceLT, Nat.reduceLeDiff, Nat.reduceMod, Nat.reduceMul, Nat.reduceSub, eq_self, if_false, if_true, ite_false, ite_true, reduceIte, Ty.row, tyAll, Tm.row, tmAll, c1]
  | lam s a iha =>
    intro k hs hl
    simp only [Tm.size] at hs
    have w1 : IntKind.i64.wrap ((k : Int) + 1) = ((k + 1 : Nat) : Int) := by rw [wrap_i64 (by omega)]; omega
    rw [up_lam]
    have u0 := iha (k + 1) (by omega) hl
    have u1 := below_lam sh s a
    try simp only [Ty.row, tyAll, Tm.row, tmAll, Int.cast_ofNat_Int] at u0 u1
    have u0' := clR.use u0
    have u1' := clR.use u1
    refine run_eq (run_of (pf := p160) rfl ?_)
    unfold p160
    simp only [R.loop_eq, wp0, wp1, wp2, wp3, wp4, PV.cellsT, appMax, dropSh, fillB, fillS, putD, splice, src, startSt, Int.reduceAdd, Int.reduceEq, Int.reduceLE, Int.reduceLT, Int.reduceNeg, Int.reduceSub, Int.reduceToNat, Nat.reduceAdd, Nat.reduceDiv, Nat.reduceEqDiff, Nat.reduceLT, Nat.reduceLeDiff, Nat.reduceMod, Nat.reduceMul, Nat.reduceSub, eq_self, if_false, if_true, ite_false, ite_true, reduceIte, Ty.row, tyAll, Tm.row, tmAll, u0', u1', w1]
  | app a b iha ihb =>
    intro k hs hl
    simp only [Tm.size] at hs
    have w1 : IntKind.i64.wrap ((k : Int) + 0) = (k : Int) := by rw [wrap_i64 (by omega)]; omega
    rw [up_app]
    have u0 := iha k (by omega) hl.1
    have u1 := ihb k (by omega) hl.2
    have u2 := below_app sh a b
    try simp only [Ty.row, tyAll, Tm.row, tmAll, Int.cast_ofNat_Int] at u0 u1 u2
    have u0' := clR.use u0
    have u1' := clR.use u1
    have u2' := clR.use u2
    refine run_eq (run_of (pf := p160) rfl ?_)
    unfold p160
    simp only [R.loop_eq, wp0, wp1, wp2, wp3, wp4, PV.cellsT, appMax, dropSh, fillB, fillS, putD, splice, src, startSt, Int.reduceAdd, Int.reduceEq, Int.reduceLE, Int.reduceLT, Int.reduceNeg, Int.reduceSub, Int.reduceToNat, Nat.reduceAdd, Nat.reduceDiv, Nat.reduceEqDiff, Nat.reduceLT, Nat.reduceLeDiff, Nat.reduceMod, Nat.reduceMul, Nat.reduceSub, eq_self, if_false, if_true, ite_false, ite_true, reduceIte, Ty.row, tyAll, Tm.row, tmAll, u0', u1', u2', w1]
  | zero =>
    intro k hs hl
    simp only [Tm.size] at hs
    have w1 : IntKind.i64.wrap ((k : Int) + 0) = (k : Int) := by rw [wrap_i64 (by omega)]; omega
    rw [up_zero']
    refine run_eq (run_of (pf := p160) rfl ?_)
    unfold p160
    simp only [R.loop_eq, wp0, wp1, wp2, wp3, wp4, PV.cellsT, appMax, dropSh, fillB, fillS, putD, splice, src, startSt, Int.reduceAdd, Int.reduceEq, Int.reduceLE, Int.reduceLT, Int.reduceNeg, Int.reduceSub, Int.reduceToNat, Nat.reduceAdd, Nat.reduceDiv, Nat.reduceEqDiff, Nat.reduceLT, Nat.reduceLeDiff, Nat.reduceMod, Nat.reduceMul, Nat.reduceSub, eq_self, if_false, if_true, ite_false, ite_true, reduceIte, Ty.row, tyAll, Tm.row, tmAll, w1]
  | succ a iha =>
    intro k hs hl
    simp only [Tm.size] at hs
    have w1 : IntKind.i64.wrap ((k : Int) + 0) = (k : Int) := by rw [wrap_i64 (by omega)]; omega
    rw [up_succ]
    have u0 := iha k (by omega) hl
    have u1 := below_succ sh a
    try simp only [Ty.row, tyAll, Tm.row, tmAll, Int.cast_ofNat_Int] at u0 u1
    have u0' := clR.use u0
    have u1' := clR.use u1
    refine run_eq (run_of (pf := p160) rfl ?_)
    unfold p160
    simp only [R.loop_eq, wp0, wp1, wp2, wp3, wp4, PV.cellsT, appMax, dropSh, fillB, fillS, putD, splice, src, startSt, Int.reduceAdd, Int.reduceEq, Int.reduceLE, Int.reduceLT, Int.reduceNeg, Int.reduceSub, Int.reduceToNat, Nat.reduceAdd, Nat.reduceDiv, Nat.reduceEqDiff, Nat.reduceLT, Nat.reduceLeDiff, Nat.reduceMod, Nat.reduceMul, Nat.reduceSub, eq_self, if_false, if_true, ite_false, ite_true, reduceIte, Ty.row, tyAll, Tm.row, tmAll, u0', u1', w1]
  | recu s a b c iha ihb ihc =>
    intro k hs hl
    simp only [Tm.size] at hs
    have w1 : IntKind.i64.wrap ((k : Int) + 0) = (k : Int) := by rw [wrap_i64 (by omega)]; omega
    rw [up_recu]
    have u0 := iha k (by omega) hl.1
    have u1 := ihb k (by omega) hl.2.1
    have u2 := ihc k (by omega) hl.2.2
    have u3 := below_recu sh s a b c
    try simp only [Ty.row, tyAll, Tm.row, tmAll, Int.cast_ofNat_Int] at u0 u1 u2 u3
    have u0' := clR.use u0
    have u1' := clR.use u1
    have u2' := clR.use u2
    have u3' := clR.use u3
    refine run_eq (run_of (pf := p160) rfl ?_)
    unfold p160
    simp only [R.loop_eq, wp0, wp1, wp2, wp3, wp4, PV.cellsT, appMax, dropSh, fillB, fillS, putD, splice, src, startSt, Int.reduceAdd, Int.reduceEq, Int.reduceLE, Int.reduceLT, Int.reduceNeg, Int.reduceSub, Int.reduceToNat, Nat.reduceAdd, Nat.reduceDiv, Nat.reduceEqDiff, Nat.reduceLT, Nat.reduceLeDiff, Nat.reduceMod, Nat.reduceMul, Nat.reduceSub, eq_self, if_false, if_true, ite_false, ite_true, reduceIte, Ty.row, tyAll, Tm.row, tmAll, u0', u1', u2', u3', w1]
  | nil =>
    intro k hs hl
    simp only [Tm.size] at hs
    have w1 : IntKind.i64.wrap ((k : Int) + 0) = (k : Int) := by rw [wrap_i64 (by omega)]; omega
    rw [up_nil]
    refine run_eq (run_of (pf := p160) rfl ?_)
    unfold p160
    simp only [R.loop_eq, wp0, wp1, wp2, wp3, wp4, PV.cellsT, appMax, dropSh, fillB, fillS, putD, splice, src, startSt, Int.reduceAdd, Int.reduceEq, Int.reduceLE, Int.reduceLT, Int.reduceNeg, Int.reduceSub, Int.reduceToNat, Nat.reduceAdd, Nat.reduceDiv, Nat.reduceEqDiff, Nat.reduceLT, Nat.reduceLeDiff, Nat.reduceMod, Nat.reduceMul, Nat.reduceSub, eq_self, if_false, if_true, ite_false, ite_true, reduceIte, Ty.row, tyAll, Tm.row, tmAll, w1]
  | cons a b iha ihb =>
    intro k hs hl
    simp only [Tm.size] at hs
    have w1 : IntKind.i64.wrap ((k : Int) + 0) = (k : Int) := by rw [wrap_i64 (by omega)]; omega
    rw [up_cons]
    have u0 := iha k (by omega) hl.1
    have u1 := ihb k (by omega) hl.2
    have u2 := below_cons sh a b
    try simp only [Ty.row, tyAll, Tm.row, tmAll, Int.cast_ofNat_Int] at u0 u1 u2
    have u0' := clR.use u0
    have u1' := clR.use u1
    have u2' := clR.use u2
    refine run_eq (run_of (pf := p160) rfl ?_)
    unfold p160
    simp only [R.loop_eq, wp0, wp1, wp2, wp3, wp4, PV.cellsT, appMax, dropSh, fillB, fillS, putD, splice, src, startSt, Int.reduceAdd, Int.reduceEq, Int.reduceLE, Int.reduceLT, Int.reduceNeg, Int.reduceSub, Int.reduceToNat, Nat.reduceAdd, Nat.reduceDiv, Nat.reduceEqDiff, Nat.reduceLT, Nat.reduceLeDiff, Nat.reduceMod, Nat.reduceMul, Nat.reduceSub, eq_self, if_false, if_true, ite_false, ite_true, reduceIte, Ty.row, tyAll, Tm.row, tmAll, u0', u1', u2', w1]
  | fold s a b c iha ihb ihc =>
    intro k hs hl
    simp only [Tm.size] at hs
    have w1 : IntKind.i64.wrap ((k : Int) + 0) = (k : Int) := by rw [wrap_i64 (by omega)]; omega
    rw [up_fold]
    have u0 := iha k (by omega) hl.1
    have u1 := ihb k (by omega) hl.2.1
    have u2 := ihc k (by omega) hl.2.2
    have u3 := below_fold sh s a b c
    try simp only [Ty.row, tyAll, Tm.row, tmAll, Int.cast_ofNat_Int] at u0 u1 u2 u3
    have u0' := clR.use u0
    have u1' := clR.use u1
    have u2' := clR.use u2
    have u3' := clR.use u3
    refine run_eq (run_of (pf := p160) rfl ?_)
    unfold p160
    simp only [R.loop_eq, wp0, wp1, wp2, wp3, wp4, PV.cellsT, appMax, dropSh, fillB, fillS, putD, splice, src, startSt, Int.reduceAdd, Int.reduceEq, Int.reduceLE, Int.reduceLT, Int.reduceNeg, Int.reduceSub, Int.reduceToNat, Nat.reduceAdd, Nat.reduceDiv, Nat.reduceEqDiff, Nat.reduceLT, Nat.reduceLeDiff, Nat.reduceMod, Nat.reduceMul, Nat.reduceSub, eq_self, if_false, if_true, ite_false, ite_true, reduceIte, Ty.row, tyAll, Tm.row, tmAll, u0', u1', u2', u3', w1]
  | pair a b iha ihb =>
    intro k hs hl
    simp only [Tm.size] at hs
    have w1 : IntKind.i64.wrap ((k : Int) + 0) = (k : Int) := by rw [wrap_i64 (by omega)]; omega
    rw [up_pair]
    have u0 := iha k (by omega) hl.1
    have u1 := ihb k (by omega) hl.2
    have u2 := below_pair sh a b
    try simp only [Ty.row, tyAll, Tm.row, tmAll, Int.cast_ofNat_Int] at u0 u1 u2
    have u0' := clR.use u0
    have u1' := clR.use u1
    have u2' := clR.use u2
    refine run_eq (run_of (pf := p160) rfl ?_)
    unfold p160
    simp only [R.loop_eq, wp0, wp1, wp2, wp3, wp4, PV.cellsT, appMax, dropSh, fillB, fillS, putD, splice, src, startSt, Int.reduceAdd, Int.reduceEq, Int.reduceLE, Int.reduceLT, Int.reduceNeg, Int.reduceSub, Int.reduceToNat, Nat.reduceAdd, Nat.reduceDiv, Nat.reduceEqDiff, Nat.reduceLT, Nat.reduceLeDiff, Nat.reduceMod, Nat.reduceMul, Nat.reduceSub, eq_self, if_false, if_true, ite_false, ite_true, reduceIte, Ty.row, tyAll, Tm.row, tmAll, u0', u1', u2', w1]
  | fst a iha =>
    intro k hs hl
    simp only [Tm.size] at hs
    have w1 : IntKind.i64.wrap ((k : Int) + 0) = (k : Int) := by rw [wrap_i64 (by omega)]; omega
    rw [up_fst]
    have u0 := iha k (by omega) hl
    have u1 := below_fst sh a
    try simp only [Ty.row, tyAll, Tm.row, tmAll, Int.cast_ofNat_Int] at u0 u1
    have u0' := clR.use u0
    have u1' := clR.use u1
    refine run_eq (run_of (pf := p160) rfl ?_)
    unfold p160
    simp only [R.loop_eq, wp0, wp1, wp2, wp3, wp4, PV.cellsT, appMax, dropSh, fillB, fillS, putD, splice, src, startSt, Int.reduceAdd, Int.reduceEq, Int.reduceLE, Int.reduceLT, Int.reduceNeg, Int.reduceSub, Int.reduceToNat, Nat.reduceAdd, Nat.reduceDiv, Nat.reduceEqDiff, Nat.reduceLT, Nat.reduceLeDiff, Nat.reduceMod, Nat.reduceMul, Nat.reduceSub, eq_self, if_false, if_true, ite_false, ite_true, reduceIte, Ty.row, tyAll, Tm.row, tmAll, u0', u1', w1]
  | snd a iha =>
    intro k hs hl
    simp only [Tm.size] at hs
    have w1 : IntKind.i64.wrap ((k : Int) + 0) = (k : Int) := by rw [wrap_i64 (by omega)]; omega
    rw [up_snd]
    have u0 := iha k (by omega) hl
    have u1 := below_snd sh a
    try simp only [Ty.row, tyAll, Tm.row, tmAll, Int.cast_ofNat_Int] at u0 u1
    have u0' := clR.use u0
    have u1' := clR.use u1
    refine run_eq (run_of (pf := p160) rfl ?_)
    unfold p160
    simp only [R.loop_eq, wp0, wp1, wp2, wp3, wp4, PV.cellsT, appMax, dropSh, fillB, fillS, putD, splice, src, startSt, Int.reduceAdd, Int.reduceEq, Int.reduceLE, Int.reduceLT, Int.reduceNeg, Int.reduceSub, Int.reduceToNat, Nat.reduceAdd, Nat.reduceDiv, Nat.reduceEqDiff, Nat.reduceLT, Nat.reduceLeDiff, Nat.reduceMod, Nat.reduceMul, Nat.reduceSub, eq_self, if_false, if_true, ite_false, ite_true, reduceIte, Ty.row, tyAll, Tm.row, tmAll, u0', u1', w1]
  | unit =>
    intro k hs hl
    simp only [Tm.size] at hs
    have w1 : IntKind.i64.wrap ((k : Int) + 0) = (k : Int) := by rw [wrap_i64 (by omega)]; omega
    rw [up_unit]
    refine run_eq (run_of (pf := p160) rfl ?_)
    unfold p160
    simp only [R.loop_eq, wp0, wp1, wp2, wp3, wp4, PV.cellsT, appMax, dropSh, fillB, fillS, putD, splice, src, startSt, Int.reduceAdd, Int.reduceEq, Int.reduceLE, Int.reduceLT, Int.reduceNeg, Int.reduceSub, Int.reduceToNat, Nat.reduceAdd, Nat.reduceDiv, Nat.reduceEqDiff, Nat.reduceLT, Nat.reduceLeDiff, Nat.reduceMod, Nat.reduceMul, Nat.reduceSub, eq_self, if_false, if_true, ite_false, ite_true, reduceIte, Ty.row, tyAll, Tm.row, tmAll, w1]
theorem times123 (sh : Sh) : ∀ (t : Tm) (k : Nat), t.size ≤ 100000 → k + t.size ≤ 1000000 → ∃ n, callN T G n 123 [.ag t.row, i64 (k : Int)] sh = some (i64 (t.cnt k : Int), sh) := by
  intro t
  induction t with
  | var i =>
    intro k h hk
    have w0 : IntKind.i64.wrap ((0 : Int) + 1) = 1 := by decide
    by_cases e : i = k
    · have c1 : (i : Int) = (k : Int) := by omega
      have c2 : ((Tm.var i).cnt k : Int) = 1 := by simp only [Tm.cnt, e, if_true]; rfl
      rw [c2]
      refine run_eq (run_of (pf := p123) rfl ?_)
      unfold p123
      simp only [R.loop_eq, wp0, wp1, wp2, wp3, wp4, PV.cellsT, appMax, dropSh, fillB, fillS, putD, splice, src, startSt, Int.reduceAdd, Int.reduceEq, Int.reduceLE, Int.reduceLT, Int.reduceNeg, Int.reduceSub, Int.reduceToNat, Nat.reduceAdd, Nat.reduceDiv, Nat.reduceEqDiff, Nat.reduceLT, Nat.reduceLeDiff, Nat.reduceMod, Nat.reduceMul, Nat.reduceSub, eq_self, if_false, if_true, ite_false, ite_true, reduceIte, Ty.row, tyAll, Tm.row, tmAll, c1, w0]
    · have c1 : ¬ (i : Int) = (k : Int) := by omega
      have c2 : ((Tm.var i).cnt k : Int) = 0 := by simp only [Tm.cnt, if_neg e]; rfl
      rw [c2]
      refine run_eq (run_of (pf := p123) rfl ?_)
      unfold p123
      simp only [R.loop_eq, wp0, wp1, wp2, wp3, wp4, PV.cellsT, appMax, dropSh, fillB, fillS, putD, splice, src, startSt, Int.reduceAdd, Int.reduceEq, Int.reduceLE, Int.reduceLT, Int.reduceNeg, Int.reduceSub, Int.reduceToNat, Nat.reduceAdd, Nat.reduceDiv, Nat.reduceEqDiff, Nat.reduceLT, Nat.reduceLeDiff, Nat.reduceMod, Nat.reduceMul, Nat.reduceSub, eq_self, if_false, if_true, ite_false, ite_true, reduceIte, Ty.row, tyAll, Tm.row, tmAll, c1]
  | lam s a iha =>
    intro k h hk
    simp only [Tm.size] at h hk
    have la := cnt_le a (k + 1)
    have w0 : IntKind.i64.wrap ((0 : Int) + (a.cnt (k + 1) : Int)) = (a.cnt (k + 1) : Int) := by rw [wrap_i64 (by omega)]; omega
    have wk : IntKind.i64.wrap ((k : Int) + 1) = (((k + 1 : Nat) : Int) : Int) := by rw [wrap_i64 (by omega)]; omega
    have c2 : (Tm.lam s a).cnt k = a.cnt (k + 1) := rfl
    rw [c2]
    have u0 := iha (k + 1) (by omega) (by omega)
    have u1 := below_lam sh s a
    try simp only [Ty.row, tyAll, Tm.row, tmAll, Int.cast_ofNat_Int] at u0 u1
    have u0' := clR.use u0
    have u1' := clR.use u1
    refine run_eq (run_of (pf := p123) rfl ?_)
    unfold p123
    simp only [R.loop_eq, wp0, wp1, wp2, wp3, wp4, PV.cellsT, appMax, dropSh, fillB, fillS, putD, splice, src, startSt, Int.reduceAdd, Int.reduceEq, Int.reduceLE, Int.reduceLT, Int.reduceNeg, Int.reduceSub, Int.reduceToNat, Nat.reduceAdd, Nat.reduceDiv, Nat.reduceEqDiff, Nat.reduceLT, Nat.reduceLeDiff, Nat.reduceMod, Nat.reduceMul, Nat.reduceSub, eq_self, if_false, if_true, ite_false, ite_true, reduceIte, Ty.row, tyAll, Tm.row, tmAll, u0', u1', w0, wk]
  | app a b iha ihb =>
    intro k h hk
    simp only [Tm.size] at h hk
    have la := cnt_le a k
    have lb := cnt_le b k
    have w0 : IntKind.i64.wrap ((0 : Int) + (a.cnt k : Int)) = (a.cnt k : Int) := by rw [wrap_i64 (by omega)]; omega
    have w1 : IntKind.i64.wrap ((a.cnt k : Int) + (b.cnt k : Int)) = ((a.cnt k + b.cnt k : Nat) : Int) := by rw [wrap_i64 (by omega)]; omega
    have wk : IntKind.i64.wrap ((k : Int) + 0) = (k : Int) := by rw [wrap_i64 (by omega)]; omega
    have c2 : (Tm.app a b).cnt k = a.cnt k + b.cnt k := rfl
    rw [c2]
    have u0 := iha k (by omega) (by omega)
    have u1 := ihb k (by omega) (by omega)
    have u2 := below_app sh a b
    try simp only [Ty.row, tyAll, Tm.row, tmAll, Int.cast_ofNat_Int] at u0 u1 u2
    have u0' := clR.use u0
    have u1' := clR.use u1
    have u2' := clR.use u2
    refine run_eq (run_of (pf := p123) rfl ?_)
    unfold p123
    simp only [R.loop_eq, wp0, wp1, wp2, wp3, wp4, PV.cellsT, appMax, dropSh, fillB, fillS, putD, splice, src, startSt, Int.reduceAdd, Int.reduceEq, Int.reduceLE, Int.reduceLT, Int.reduceNeg, Int.reduceSub, Int.reduceToNat, Nat.reduceAdd, Nat.reduceDiv, Nat.reduceEqDiff, Nat.reduceLT, Nat.reduceLeDiff, Nat.reduceMod, Nat.reduceMul, Nat.reduceSub, eq_self, if_false, if_true, ite_false, ite_true, reduceIte, Ty.row, tyAll, Tm.row, tmAll, u0', u1', u2', w0, w1, wk]
  | zero =>
    intro k h hk
    have c2 : ((Tm.zero).cnt k : Int) = 0 := rfl
    rw [c2]
    refine run_eq (run_of (pf := p123) rfl ?_)
    unfold p123
    simp only [R.loop_eq, wp0, wp1, wp2, wp3, wp4, PV.cellsT, appMax, dropSh, fillB, fillS, putD, splice, src, startSt, Int.reduceAdd, Int.reduceEq, Int.reduceLE, Int.reduceLT, Int.reduceNeg, Int.reduceSub, Int.reduceToNat, Nat.reduceAdd, Nat.reduceDiv, Nat.reduceEqDiff, Nat.reduceLT, Nat.reduceLeDiff, Nat.reduceMod, Nat.reduceMul, Nat.reduceSub, eq_self, if_false, if_true, ite_false, ite_true, reduceIte, Ty.row, tyAll, Tm.row, tmAll]
  | succ a iha =>
    intro k h hk
    simp only [Tm.size] at h hk
    have la := cnt_le a k
    have w0 : IntKind.i64.wrap ((0 : Int) + (a.cnt k : Int)) = (a.cnt k : Int) := by rw [wrap_i64 (by omega)]; omega
    have wk : IntKind.i64.wrap ((k : Int) + 0) = (k : Int) := by rw [wrap_i64 (by omega)]; omega
    have c2 : (Tm.succ a).cnt k = a.cnt k := rfl
    rw [c2]
    have u0 := iha k (by omega) (by omega)
    have u1 := below_succ sh a
    try simp only [Ty.row, tyAll, Tm.row, tmAll, Int.cast_ofNat_Int] at u0 u1
    have u0' := clR.use u0
    have u1' := clR.use u1
    refine run_eq (run_of (pf := p123) rfl ?_)
    unfold p123
    simp only [R.loop_eq, wp0, wp1, wp2, wp3, wp4, PV.cellsT, appMax, dropSh, fillB, fillS, putD, splice, src, startSt, Int.reduceAdd, Int.reduceEq, Int.reduceLE, Int.reduceLT, Int.reduceNeg, Int.reduceSub, Int.reduceToNat, Nat.reduceAdd, Nat.reduceDiv, Nat.reduceEqDiff, Nat.reduceLT, Nat.reduceLeDiff, Nat.reduceMod, Nat.reduceMul, Nat.reduceSub, eq_self, if_false, if_true, ite_false, ite_true, reduceIte, Ty.row, tyAll, Tm.row, tmAll, u0', u1', w0, wk]
  | recu s a b c iha ihb ihc =>
    intro k h hk
    simp only [Tm.size] at h hk
    have la := cnt_le a k
    have lb := cnt_le b k
    have lc := cnt_le c k
    have w0 : IntKind.i64.wrap ((0 : Int) + (a.cnt k : Int)) = (a.cnt k : Int) := by rw [wrap_i64 (by omega)]; omega
    have w1 : IntKind.i64.wrap ((a.cnt k : Int) + (b.cnt k : Int)) = ((a.cnt k + b.cnt k : Nat) : Int) := by rw [wrap_i64 (by omega)]; omega
    have w2 : IntKind.i64.wrap (((a.cnt k + b.cnt k : Nat) : Int) + (c.cnt k : Int)) = ((a.cnt k + b.cnt k + c.cnt k : Nat) : Int) := by rw [wrap_i64 (by omega)]; omega
    have wk : IntKind.i64.wrap ((k : Int) + 0) = (k : Int) := by rw [wrap_i64 (by omega)]; omega
    have c2 : (Tm.recu s a b c).cnt k = a.cnt k + b.cnt k + c.cnt k := rfl
    rw [c2]
    have u0 := iha k (by omega) (by omega)
    have u1 := ihb k (by omega) (by omega)
    have u2 := ihc k (by omega) (by omega)
    have u3 := below_recu sh s a b c
    try simp only [Ty.row, tyAll, Tm.row, tmAll, Int.cast_ofNat_Int] at u0 u1 u2 u3
    have u0' := clR.use u0
    have u1' := clR.use u1
    have u2' := clR.use u2
    have u3' := clR.use u3
    refine run_eq (run_of (pf := p123) rfl ?_)
    unfold p123
    simp only [R.loop_eq, wp0, wp1, wp2, wp3, wp4, PV.cellsT, appMax, dropSh, fillB, fillS, putD, splice, src, startSt, Int.reduceAdd, Int.reduceEq, Int.reduceLE, Int.reduceLT, Int.reduceNeg, Int.reduceSub, Int.reduceToNat, Nat.reduceAdd, Nat.reduceDiv, Nat.reduceEqDiff, Nat.reduceLT, Nat.reduceLeDiff, Nat.reduceMod, Nat.reduceMul, Nat.reduceSub, eq_self, if_false, if_true, ite_false, ite_true, reduceIte, Ty.row, tyAll, Tm.row, tmAll, u0', u1', u2', u3', w0, w1, w2, wk]
  | nil =>
    intro k h hk
    have c2 : ((Tm.nil).cnt k : Int) = 0 := rfl
    rw [c2]
    refine run_eq (run_of (pf := p123) rfl ?_)
    unfold p123
    simp only [R.loop_eq, wp0, wp1, wp2, wp3, wp4, PV.cellsT, appMax, dropSh, fillB, fillS, putD, splice, src, startSt, Int.reduceAdd, Int.reduceEq, Int.reduceLE, Int.reduceLT, Int.reduceNeg, Int.reduceSub, Int.reduceToNat, Nat.reduceAdd, Nat.reduceDiv, Nat.reduceEqDiff, Nat.reduceLT, Nat.reduceLeDiff, Nat.reduceMod, Nat.reduceMul, Nat.reduceSub, eq_self, if_false, if_true, ite_false, ite_true, reduceIte, Ty.row, tyAll, Tm.row, tmAll]
  | cons a b iha ihb =>
    intro k h hk
    simp only [Tm.size] at h hk
    have la := cnt_le a k
    have lb := cnt_le b k
    have w0 : IntKind.i64.wrap ((0 : Int) + (a.cnt k : Int)) = (a.cnt k : Int) := by rw [wrap_i64 (by omega)]; omega
    have w1 : IntKind.i64.wrap ((a.cnt k : Int) + (b.cnt k : Int)) = ((a.cnt k + b.cnt k : Nat) : Int) := by rw [wrap_i64 (by omega)]; omega
    have wk : IntKind.i64.wrap ((k : Int) + 0) = (k : Int) := by rw [wrap_i64 (by omega)]; omega
    have c2 : (Tm.cons a b).cnt k = a.cnt k + b.cnt k := rfl
    rw [c2]
    have u0 := iha k (by omega) (by omega)
    have u1 := ihb k (by omega) (by omega)
    have u2 := below_cons sh a b
    try simp only [Ty.row, tyAll, Tm.row, tmAll, Int.cast_ofNat_Int] at u0 u1 u2
    have u0' := clR.use u0
    have u1' := clR.use u1
    have u2' := clR.use u2
    refine run_eq (run_of (pf := p123) rfl ?_)
    unfold p123
    simp only [R.loop_eq, wp0, wp1, wp2, wp3, wp4, PV.cellsT, appMax, dropSh, fillB, fillS, putD, splice, src, startSt, Int.reduceAdd, Int.reduceEq, Int.reduceLE, Int.reduceLT, Int.reduceNeg, Int.reduceSub, Int.reduceToNat, Nat.reduceAdd, Nat.reduceDiv, Nat.reduceEqDiff, Nat.reduceLT, Nat.reduceLeDiff, Nat.reduceMod, Nat.reduceMul, Nat.reduceSub, eq_self, if_false, if_true, ite_false, ite_true, reduceIte, Ty.row, tyAll, Tm.row, tmAll, u0', u1', u2', w0, w1, wk]
  | fold s a b c iha ihb ihc =>
    intro k h hk
    simp only [Tm.size] at h hk
    have la := cnt_le a k
    have lb := cnt_le b k
    have lc := cnt_le c k
    have w0 : IntKind.i64.wrap ((0 : Int) + (a.cnt k : Int)) = (a.cnt k : Int) := by rw [wrap_i64 (by omega)]; omega
    have w1 : IntKind.i64.wrap ((a.cnt k : Int) + (b.cnt k : Int)) = ((a.cnt k + b.cnt k : Nat) : Int) := by rw [wrap_i64 (by omega)]; omega
    have w2 : IntKind.i64.wrap (((a.cnt k + b.cnt k : Nat) : Int) + (c.cnt k : Int)) = ((a.cnt k + b.cnt k + c.cnt k : Nat) : Int) := by rw [wrap_i64 (by omega)]; omega
    have wk : IntKind.i64.wrap ((k : Int) + 0) = (k : Int) := by rw [wrap_i64 (by omega)]; omega
    have c2 : (Tm.fold s a b c).cnt k = a.cnt k + b.cnt k + c.cnt k := rfl
    rw [c2]
    have u0 := iha k (by omega) (by omega)
    have u1 := ihb k (by omega) (by omega)
    have u2 := ihc k (by omega) (by omega)
    have u3 := below_fold sh s a b c
    try simp only [Ty.row, tyAll, Tm.row, tmAll, Int.cast_ofNat_Int] at u0 u1 u2 u3
    have u0' := clR.use u0
    have u1' := clR.use u1
    have u2' := clR.use u2
    have u3' := clR.use u3
    refine run_eq (run_of (pf := p123) rfl ?_)
    unfold p123
    simp only [R.loop_eq, wp0, wp1, wp2, wp3, wp4, PV.cellsT, appMax, dropSh, fillB, fillS, putD, splice, src, startSt, Int.reduceAdd, Int.reduceEq, Int.reduceLE, Int.reduceLT, Int.reduceNeg, Int.reduceSub, Int.reduceToNat, Nat.reduceAdd, Nat.reduceDiv, Nat.reduceEqDiff, Nat.reduceLT, Nat.reduceLeDiff, Nat.reduceMod, Nat.reduceMul, Nat.reduceSub, eq_self, if_false, if_true, ite_false, ite_true, reduceIte, Ty.row, tyAll, Tm.row, tmAll, u0', u1', u2', u3', w0, w1, w2, wk]
  | pair a b iha ihb =>
    intro k h hk
    simp only [Tm.size] at h hk
    have la := cnt_le a k
    have lb := cnt_le b k
    have w0 : IntKind.i64.wrap ((0 : Int) + (a.cnt k : Int)) = (a.cnt k : Int) := by rw [wrap_i64 (by omega)]; omega
    have w1 : IntKind.i64.wrap ((a.cnt k : Int) + (b.cnt k : Int)) = ((a.cnt k + b.cnt k : Nat) : Int) := by rw [wrap_i64 (by omega)]; omega
    have wk : IntKind.i64.wrap ((k : Int) + 0) = (k : Int) := by rw [wrap_i64 (by omega)]; omega
    have c2 : (Tm.pair a b).cnt k = a.cnt k + b.cnt k := rfl
    rw [c2]
    have u0 := iha k (by omega) (by omega)
    have u1 := ihb k (by omega) (by omega)
    have u2 := below_pair sh a b
    try simp only [Ty.row, tyAll, Tm.row, tmAll, Int.cast_ofNat_Int] at u0 u1 u2
    have u0' := clR.use u0
    have u1' := clR.use u1
    have u2' := clR.use u2
    refine run_eq (run_of (pf := p123) rfl ?_)
    unfold p123
    simp only [R.loop_eq, wp0, wp1, wp2, wp3, wp4, PV.cellsT, appMax, dropSh, fillB, fillS, putD, splice, src, startSt, Int.reduceAdd, Int.reduceEq, Int.reduceLE, Int.reduceLT, Int.reduceNeg, Int.reduceSub, Int.reduceToNat, Nat.reduceAdd, Nat.reduceDiv, Nat.reduceEqDiff, Nat.reduceLT, Nat.reduceLeDiff, Nat.reduceMod, Nat.reduceMul, Nat.reduceSub, eq_self, if_false, if_true, ite_false, ite_true, reduceIte, Ty.row, tyAll, Tm.row, tmAll, u0', u1', u2', w0, w1, wk]
  | fst a iha =>
    intro k h hk
    simp only [Tm.size] at h hk
    have la := cnt_le a k
    have w0 : IntKind.i64.wrap ((0 : Int) + (a.cnt k : Int)) = (a.cnt k : Int) := by rw [wrap_i64 (by omega)]; omega
    have wk : IntKind.i64.wrap ((k : Int) + 0) = (k : Int) := by rw [wrap_i64 (by omega)]; omega
    have c2 : (Tm.fst a).cnt k = a.cnt k := rfl
    rw [c2]
    have u0 := iha k (by omega) (by omega)
    have u1 := below_fst sh a
    try simp only [Ty.row, tyAll, Tm.row, tmAll, Int.cast_ofNat_Int] at u0 u1
    have u0' := clR.use u0
    have u1' := clR.use u1
    refine run_eq (run_of (pf := p123) rfl ?_)
    unfold p123
    simp only [R.loop_eq, wp0, wp1, wp2, wp3, wp4, PV.cellsT, appMax, dropSh, fillB, fillS, putD, splice, src, startSt, Int.reduceAdd, Int.reduceEq, Int.reduceLE, Int.reduceLT, Int.reduceNeg, Int.reduceSub, Int.reduceToNat, Nat.reduceAdd, Nat.reduceDiv, Nat.reduceEqDiff, Nat.reduceLT, Nat.reduceLeDiff, Nat.reduceMod, Nat.reduceMul, Nat.reduceSub, eq_self, if_false, if_true, ite_false, ite_true, reduceIte, Ty.row, tyAll, Tm.row, tmAll, u0', u1', w0, wk]
  | snd a iha =>
    intro k h hk
    simp only [Tm.size] at h hk
    have la := cnt_le a k
    have w0 : IntKind.i64.wrap ((0 : Int) + (a.cnt k : Int)) = (a.cnt k : Int) := by rw [wrap_i64 (by omega)]; omega
    have wk : IntKind.i64.wrap ((k : Int) + 0) = (k : Int) := by rw [wrap_i64 (by omega)]; omega
    have c2 : (Tm.snd a).cnt k = a.cnt k := rfl
    rw [c2]
    have u0 := iha k (by omega) (by omega)
    have u1 := below_snd sh a
    try simp only [Ty.row, tyAll, Tm.row, tmAll, Int.cast_ofNat_Int] at u0 u1
    have u0' := clR.use u0
    have u1' := clR.use u1
    refine run_eq (run_of (pf := p123) rfl ?_)
    unfold p123
    simp only [R.loop_eq, wp0, wp1, wp2, wp3, wp4, PV.cellsT, appMax, dropSh, fillB, fillS, putD, splice, src, startSt, Int.reduceAdd, Int.reduceEq, Int.reduceLE, Int.reduceLT, Int.reduceNeg, Int.reduceSub, Int.reduceToNat, Nat.reduceAdd, Nat.reduceDiv, Nat.reduceEqDiff, Nat.reduceLT, Nat.reduceLeDiff, Nat.reduceMod, Nat.reduceMul, Nat.reduceSub, eq_self, if_false, if_true, ite_false, ite_true, reduceIte, Ty.row, tyAll, Tm.row, tmAll, u0', u1', w0, wk]
  | unit =>
    intro k h hk
    have c2 : ((Tm.unit).cnt k : Int) = 0 := rfl
    rw [c2]
    refine run_eq (run_of (pf := p123) rfl ?_)
    unfold p123
    simp only [R.loop_eq, wp0, wp1, wp2, wp3, wp4, PV.cellsT, appMax, dropSh, fillB, fillS, putD, splice, src, startSt, Int.reduceAdd, Int.reduceEq, Int.reduceLE, Int.reduceLT, Int.reduceNeg, Int.reduceSub, Int.reduceToNat, Nat.reduceAdd, Nat.reduceDiv, Nat.reduceEqDiff, Nat.reduceLT, Nat.reduceLeDiff, Nat.reduceMod, Nat.reduceMul, Nat.reduceSub, eq_self, if_false, if_true, ite_false, ite_true, reduceIte, Ty.row, tyAll, Tm.row, tmAll]
theorem in124 (sh : Sh) (at_ : Nat) (u : Tm) (hu : u.size ≤ 100000) (hlu : u.low 1073741824) : ∀ (t : Tm) (d : Nat), at_ + d + t.size ≤ 1000000 → t.low 1073741824 → ∃ n, callN T G n 124 [.ag t.row, i64 (at_ : Int), i64 (d : Int), .ag u.row] sh = some (.ag (t.put (at_ + d) u).row, sh) := by
  intro t
  induction t with
  | var i =>
    intro d hs hl
    simp only [Tm.size] at hs
    have hi : i ≤ 1073741824 := hl
    have w1 : IntKind.i64.wrap ((at_ : Int) + (d : Int)) = ((at_ + d : Nat) : Int) := by rw [wrap_i64 (by omega)]; omega
    rw [put_var]
    by_cases h : i = at_ + d
    · have c1 : (i : Int) = ((at_ + d : Nat) : Int) := by omega
      rw [if_pos h]
      have z0 : ((0 : Nat) : Int) = 0 := rfl
      have ua := up160 sh (at_ + d) (by omega) u 0 (by omega) hlu
      rw [z0] at ua
      have u0 := ua
      try simp only [Ty.row, tyAll, Tm.row, tmAll, Int.cast_ofNat_Int] at u0
      have u0' := clR.use u0
      refine run_eq (run_of (pf := p124) rfl ?_)
      unfold p124
      simp only [R.loop_eq, wp0, wp1, wp2, wp3, wp4, PV.cellsT, appMax, dropSh, fillB, fillS, putD, splice, src, startSt, Int.reduceAdd, Int.reduceEq, Int.reduceLE, Int.reduceLT, Int.reduceNeg, Int.reduceSub, Int.reduceToNat, Nat.reduceAdd, Nat.reduceDiv, Nat.reduceEqDiff, Nat.reduceLT, Nat.reduceLeDiff, Nat.reduceMod, Nat.reduceMul, Nat.reduceSub, eq_self, if_false, if_true, ite_false, ite_true, reduceIte, Ty.row, tyAll, Tm.row, tmAll, u0', w1, c1]
    · have c1 : ¬ (i : Int) = ((at_ + d : Nat) : Int) := by omega
      rw [if_neg h]
      by_cases h2 : at_ + d < i
      · have c2 : ((at_ + d : Nat) : Int) < (i : Int) := by omega
        have w2 : IntKind.i64.wrap ((i : Int) - 1) = ((i - 1 : Nat) : Int) := by rw [wrap_i64 (by omega)]; omega
        rw [if_pos h2]
        have u0 := var18 sh (i - 1)
        try simp only [Ty.row, tyAll, Tm.row, tmAll, Int.cast_ofNat_Int] at u0
        have u0' := clR.use u0
        refine run_eq (run_of (pf := p124) rfl ?_)
        unfold p124
        simp only [R.loop_eq, wp0, wp1, wp2, wp3, wp4, PV.cellsT, appMax, dropSh, fillB, fillS, putD, splice, src, startSt, Int.reduceAdd, Int.reduceEq, Int.reduceLE, Int.reduceLT, Int.reduceNeg, Int.reduceSub, Int.reduceToNat, Nat.reduceAdd, Nat.reduceDiv, Nat.reduceEqDiff, Nat.reduceLT, Nat.reduceLeDiff, Nat.reduceMod, Nat.reduceMul, Nat.reduceSub, eq_self, if_false, if_true, ite_false, ite_true, reduceIte, Ty.row, tyAll, Tm.row, tmAll, u0', w1, w2, c1, c2]
      · have c2 : ¬ ((at_ + d : Nat) : Int) < (i : Int) := by omega
        rw [if_neg h2]
        refine run_eq (run_of (pf := p124) rfl ?_)
        unfold p124
        simp only [R.loop_eq, wp0, wp1, wp2, wp3, wp4, PV.cellsT, appMax, dropSh, fillB, fillS, putD, splice, src, startSt, Int.reduceAdd, Int.reduceEq, Int.reduceLE, Int.reduceLT, Int.reduceNeg, Int.reduceSub, Int.reduceToNat, Nat.reduceAdd, Nat.reduceDiv, Nat.reduceEqDiff, Nat.reduceLT, Nat.reduceLeDiff, Nat.reduceMod, Nat.reduceMul, Nat.reduceSub, eq_self, if_false, if_true, ite_false, ite_true, reduceIte, Ty.row, tyAll, Tm.row, tmAll, w1, c1, c2]
  | lam s a iha =>
    intro d hs hl
    simp only [Tm.size] at hs
    have w1 : IntKind.i64.wrap ((d : Int) + 1) = ((d + 1 : Nat) : Int) := by rw [wrap_i64 (by omega)]; omega
    rw [put_lam]
    have u0 := iha (d + 1) (by omega) hl
    have u1 := below_lam sh s a
    try simp only [Ty.row, tyAll, Tm.row, tmAll, Int.cast_ofNat_Int] at u0 u1
    have u0' := clR.use u0
    have u1' := clR.use u1
    refine run_eq (run_of (pf := p124) rfl ?_)
    unfold p124
    simp only [R.loop_eq, wp0, wp1, wp2, wp3, wp4, PV.cellsT, appMax, dropSh, fillB, fillS, putD, splice, src, startSt, Int.reduceAdd, Int.reduceEq, Int.reduceLE, Int.reduceLT, Int.reduceNeg, Int.reduceSub, Int.reduceToNat, Nat.reduceAdd, Nat.reduceDiv, Nat.reduceEqDiff, Nat.reduceLT, Nat.reduceLeDiff, Nat.reduceMod, Nat.reduceMul, Nat.reduceSub, eq_self, if_false, if_true, ite_false, ite_true, reduceIte, Ty.row, tyAll, Tm.row, tmAll, u0', u1', w1, Nat.add_assoc]
  | app a b iha ihb =>
    intro d hs hl
    simp only [Tm.size] at hs
    have w1 : IntKind.i64.wrap ((d : Int) + 0) = (d : Int) := by rw [wrap_i64 (by omega)]; omega
    rw [put_app]
    have u0 := iha d (by omega) hl.1
    have u1 := ihb d (by omega) hl.2
    have u2 := below_app sh a b
    try simp only [Ty.row, tyAll, Tm.row, tmAll, Int.cast_ofNat_Int] at u0 u1 u2
    have u0' := clR.use u0
    have u1' := clR.use u1
    have u2' := clR.use u2
    refine run_eq (run_of (pf := p124) rfl ?_)
    unfold p124
    simp only [R.loop_eq, wp0, wp1, wp2, wp3, wp4, PV.cellsT, appMax, dropSh, fillB, fillS, putD, splice, src, startSt, Int.reduceAdd, Int.reduceEq, Int.reduceLE, Int.reduceLT, Int.reduceNeg, Int.reduceSub, Int.reduceToNat, Nat.reduceAdd, Nat.reduceDiv, Nat.reduceEqDiff, Nat.reduceLT, Nat.reduceLeDiff, Nat.reduceMod, Nat.reduceMul, Nat.reduceSub, eq_self, if_false, if_true, ite_false, ite_true, reduceIte, Ty.row, tyAll, Tm.row, tmAll, u0', u1', u2', w1]
  | zero =>
    intro d hs hl
    simp only [Tm.size] at hs
    have w1 : IntKind.i64.wrap ((d : Int) + 0) = (d : Int) := by rw [wrap_i64 (by omega)]; omega
    rw [put_zero']
    refine run_eq (run_of (pf := p124) rfl ?_)
    unfold p124
    simp only [R.loop_eq, wp0, wp1, wp2, wp3, wp4, PV.cellsT, appMax, dropSh, fillB, fillS, putD, splice, src, startSt, Int.reduceAdd, Int.reduceEq, Int.reduceLE, Int.reduceLT, Int.reduceNeg, Int.reduceSub, Int.reduceToNat, Nat.reduceAdd, Nat.reduceDiv, Nat.reduceEqDiff, Nat.reduceLT, Nat.reduceLeDiff, Nat.reduceMod, Nat.reduceMul, Nat.reduceSub, eq_self, if_false, if_true, ite_false, ite_true, reduceIte, Ty.row, tyAll, Tm.row, tmAll, w1]
  | succ a iha =>
    intro d hs hl
    simp only [Tm.size] at hs
    have w1 : IntKind.i64.wrap ((d : Int) + 0) = (d : Int) := by rw [wrap_i64 (by omega)]; omega
    rw [put_succ]
    have u0 := iha d (by omega) hl
    have u1 := below_succ sh a
    try simp only [Ty.row, tyAll, Tm.row, tmAll, Int.cast_ofNat_Int] at u0 u1
    have u0' := clR.use u0
    have u1' := clR.use u1
    refine run_eq (run_of (pf := p124) rfl ?_)
    unfold p124
    simp only [R.loop_eq, wp0, wp1, wp2, wp3, wp4, PV.cellsT, appMax, dropSh, fillB, fillS, putD, splice, src, startSt, Int.reduceAdd, Int.reduceEq, Int.reduceLE, Int.reduceLT, Int.reduceNeg, Int.reduceSub, Int.reduceToNat, Nat.reduceAdd, Nat.reduceDiv, Nat.reduceEqDiff, Nat.reduceLT, Nat.reduceLeDiff, Nat.reduceMod, Nat.reduceMul, Nat.reduceSub, eq_self, if_false, if_true, ite_false, ite_true, reduceIte, Ty.row, tyAll, Tm.row, tmAll, u0', u1', w1]
  | recu s a b c iha ihb ihc =>
    intro d hs hl
    simp only [Tm.size] at hs
    have w1 : IntKind.i64.wrap ((d : Int) + 0) = (d : Int) := by rw [wrap_i64 (by omega)]; omega
    rw [put_recu]
    have u0 := iha d (by omega) hl.1
    have u1 := ihb d (by omega) hl.2.1
    have u2 := ihc d (by omega) hl.2.2
    have u3 := below_recu sh s a b c
    try simp only [Ty.row, tyAll, Tm.row, tmAll, Int.cast_ofNat_Int] at u0 u1 u2 u3
    have u0' := clR.use u0
    have u1' := clR.use u1
    have u2' := clR.use u2
    have u3' := clR.use u3
    refine run_eq (run_of (pf := p124) rfl ?_)
    unfold p124
    simp only [R.loop_eq, wp0, wp1, wp2, wp3, wp4, PV.cellsT, appMax, dropSh, fillB, fillS, putD, splice, src, startSt, Int.reduceAdd, Int.reduceEq, Int.reduceLE, Int.reduceLT, Int.reduceNeg, Int.reduceSub, Int.reduceToNat, Nat.reduceAdd, Nat.reduceDiv, Nat.reduceEqDiff, Nat.reduceLT, Nat.reduceLeDiff, Nat.reduceMod, Nat.reduceMul, Nat.reduceSub, eq_self, if_false, if_true, ite_false, ite_true, reduceIte, Ty.row, tyAll, Tm.row, tmAll, u0', u1', u2', u3', w1]
  | nil =>
    intro d hs hl
    simp only [Tm.size] at hs
    have w1 : IntKind.i64.wrap ((d : Int) + 0) = (d : Int) := by rw [wrap_i64 (by omega)]; omega
    rw [put_nil]
    refine run_eq (run_of (pf := p124) rfl ?_)
    unfold p124
    simp only [R.loop_eq, wp0, wp1, wp2, wp3, wp4, PV.cellsT, appMax, dropSh, fillB, fillS, putD, splice, src, startSt, Int.reduceAdd, Int.reduceEq, Int.reduceLE, Int.reduceLT, Int.reduceNeg, Int.reduceSub, Int.reduceToNat, Nat.reduceAdd, Nat.reduceDiv, Nat.reduceEqDiff, Nat.reduceLT, Nat.reduceLeDiff, Nat.reduceMod, Nat.reduceMul, Nat.reduceSub, eq_self, if_false, if_true, ite_false, ite_true, reduceIte, Ty.row, tyAll, Tm.row, tmAll, w1]
  | cons a b iha ihb =>
    intro d hs hl
    simp only [Tm.size] at hs
    have w1 : IntKind.i64.wrap ((d : Int) + 0) = (d : Int) := by rw [wrap_i64 (by omega)]; omega
    rw [put_cons]
    have u0 := iha d (by omega) hl.1
    have u1 := ihb d (by omega) hl.2
    have u2 := below_cons sh a b
    try simp only [Ty.row, tyAll, Tm.row, tmAll, Int.cast_ofNat_Int] at u0 u1 u2
    have u0' := clR.use u0
    have u1' := clR.use u1
    have u2' := clR.use u2
    refine run_eq (run_of (pf := p124) rfl ?_)
    unfold p124
    simp only [R.loop_eq, wp0, wp1, wp2, wp3, wp4, PV.cellsT, appMax, dropSh, fillB, fillS, putD, splice, src, startSt, Int.reduceAdd, Int.reduceEq, Int.reduceLE, Int.reduceLT, Int.reduceNeg, Int.reduceSub, Int.reduceToNat, Nat.reduceAdd, Nat.reduceDiv, Nat.reduceEqDiff, Nat.reduceLT, Nat.reduceLeDiff, Nat.reduceMod, Nat.reduceMul, Nat.reduceSub, eq_self, if_false, if_true, ite_false, ite_true, reduceIte, Ty.row, tyAll, Tm.row, tmAll, u0', u1', u2', w1]
  | fold s a b c iha ihb ihc =>
    intro d hs hl
    simp only [Tm.size] at hs
    have w1 : IntKind.i64.wrap ((d : Int) + 0) = (d : Int) := by rw [wrap_i64 (by omega)]; omega
    rw [put_fold]
    have u0 := iha d (by omega) hl.1
    have u1 := ihb d (by omega) hl.2.1
    have u2 := ihc d (by omega) hl.2.2
    have u3 := below_fold sh s a b c
    try simp only [Ty.row, tyAll, Tm.row, tmAll, Int.cast_ofNat_Int] at u0 u1 u2 u3
    have u0' := clR.use u0
    have u1' := clR.use u1
    have u2' := clR.use u2
    have u3' := clR.use u3
    refine run_eq (run_of (pf := p124) rfl ?_)
    unfold p124
    simp only [R.loop_eq, wp0, wp1, wp2, wp3, wp4, PV.cellsT, appMax, dropSh, fillB, fillS, putD, splice, src, startSt, Int.reduceAdd, Int.reduceEq, Int.reduceLE, Int.reduceLT, Int.reduceNeg, Int.reduceSub, Int.reduceToNat, Nat.reduceAdd, Nat.reduceDiv, Nat.reduceEqDiff, Nat.reduceLT, Nat.reduceLeDiff, Nat.reduceMod, Nat.reduceMul, Nat.reduceSub, eq_self, if_false, if_true, ite_false, ite_true, reduceIte, Ty.row, tyAll, Tm.row, tmAll, u0', u1', u2', u3', w1]
  | pair a b iha ihb =>
    intro d hs hl
    simp only [Tm.size] at hs
    have w1 : IntKind.i64.wrap ((d : Int) + 0) = (d : Int) := by rw [wrap_i64 (by omega)]; omega
    rw [put_pair]
    have u0 := iha d (by omega) hl.1
    have u1 := ihb d (by omega) hl.2
    have u2 := below_pair sh a b
    try simp only [Ty.row, tyAll, Tm.row, tmAll, Int.cast_ofNat_Int] at u0 u1 u2
    have u0' := clR.use u0
    have u1' := clR.use u1
    have u2' := clR.use u2
    refine run_eq (run_of (pf := p124) rfl ?_)
    unfold p124
    simp only [R.loop_eq, wp0, wp1, wp2, wp3, wp4, PV.cellsT, appMax, dropSh, fillB, fillS, putD, splice, src, startSt, Int.reduceAdd, Int.reduceEq, Int.reduceLE, Int.reduceLT, Int.reduceNeg, Int.reduceSub, Int.reduceToNat, Nat.reduceAdd, Nat.reduceDiv, Nat.reduceEqDiff, Nat.reduceLT, Nat.reduceLeDiff, Nat.reduceMod, Nat.reduceMul, Nat.reduceSub, eq_self, if_false, if_true, ite_false, ite_true, reduceIte, Ty.row, tyAll, Tm.row, tmAll, u0', u1', u2', w1]
  | fst a iha =>
    intro d hs hl
    simp only [Tm.size] at hs
    have w1 : IntKind.i64.wrap ((d : Int) + 0) = (d : Int) := by rw [wrap_i64 (by omega)]; omega
    rw [put_fst]
    have u0 := iha d (by omega) hl
    have u1 := below_fst sh a
    try simp only [Ty.row, tyAll, Tm.row, tmAll, Int.cast_ofNat_Int] at u0 u1
    have u0' := clR.use u0
    have u1' := clR.use u1
    refine run_eq (run_of (pf := p124) rfl ?_)
    unfold p124
    simp only [R.loop_eq, wp0, wp1, wp2, wp3, wp4, PV.cellsT, appMax, dropSh, fillB, fillS, putD, splice, src, startSt, Int.reduceAdd, Int.reduceEq, Int.reduceLE, Int.reduceLT, Int.reduceNeg, Int.reduceSub, Int.reduceToNat, Nat.reduceAdd, Nat.reduceDiv, Nat.reduceEqDiff, Nat.reduceLT, Nat.reduceLeDiff, Nat.reduceMod, Nat.reduceMul, Nat.reduceSub, eq_self, if_false, if_true, ite_false, ite_true, reduceIte, Ty.row, tyAll, Tm.row, tmAll, u0', u1', w1]
  | snd a iha =>
    intro d hs hl
    simp only [Tm.size] at hs
    have w1 : IntKind.i64.wrap ((d : Int) + 0) = (d : Int) := by rw [wrap_i64 (by omega)]; omega
    rw [put_snd]
    have u0 := iha d (by omega) hl
    have u1 := below_snd sh a
    try simp only [Ty.row, tyAll, Tm.row, tmAll, Int.cast_ofNat_Int] at u0 u1
    have u0' := clR.use u0
    have u1' := clR.use u1
    refine run_eq (run_of (pf := p124) rfl ?_)
    unfold p124
    simp only [R.loop_eq, wp0, wp1, wp2, wp3, wp4, PV.cellsT, appMax, dropSh, fillB, fillS, putD, splice, src, startSt, Int.reduceAdd, Int.reduceEq, Int.reduceLE, Int.reduceLT, Int.reduceNeg, Int.reduceSub, Int.reduceToNat, Nat.reduceAdd, Nat.reduceDiv, Nat.reduceEqDiff, Nat.reduceLT, Nat.reduceLeDiff, Nat.reduceMod, Nat.reduceMul, Nat.reduceSub, eq_self, if_false, if_true, ite_false, ite_true, reduceIte, Ty.row, tyAll, Tm.row, tmAll, u0', u1', w1]
  | unit =>
    intro d hs hl
    simp only [Tm.size] at hs
    have w1 : IntKind.i64.wrap ((d : Int) + 0) = (d : Int) := by rw [wrap_i64 (by omega)]; omega
    rw [put_unit]
    refine run_eq (run_of (pf := p124) rfl ?_)
    unfold p124
    simp only [R.loop_eq, wp0, wp1, wp2, wp3, wp4, PV.cellsT, appMax, dropSh, fillB, fillS, putD, splice, src, startSt, Int.reduceAdd, Int.reduceEq, Int.reduceLE, Int.reduceLT, Int.reduceNeg, Int.reduceSub, Int.reduceToNat, Nat.reduceAdd, Nat.reduceDiv, Nat.reduceEqDiff, Nat.reduceLT, Nat.reduceLeDiff, Nat.reduceMod, Nat.reduceMul, Nat.reduceSub, eq_self, if_false, if_true, ite_false, ite_true, reduceIte, Ty.row, tyAll, Tm.row, tmAll, w1]
end Go.Pi.Terms
