import Derived.Test.YtoljfmfmdghoeaaGreatDoorTQ
set_option maxRecDepth 100000
set_option maxHeartbeats 1000000
set_option linter.unusedSimpArgs false
set_option linter.unusedVariables false
namespace Go.Pi.Terms
open Go Go.Pi Go.Proofs.YtoljfmfmdghoeaaGreatDoor
theorem shape77 (sh : Sh) : ∀ t : Ty, ∃ n, callN T G n 121 [.ag t.row] sh = some (.v (.bool true), sh)
  | .nat => by
    refine run_eq (run_of (pf := p121) rfl ?_)
    unfold p121
    simp only [R.loop_eq, wp0, wp1, wp2, wp3, wp4, PV.cellsT, appMax, dropSh, fillB, fillS, putD, splice, src, startSt, Int.reduceAdd, Int.reduceEq, Int.reduceLE, Int.reduceLT, Int.reduceNeg, Int.reduceSub, Int.reduceToNat, Nat.reduceAdd, Nat.reduceDiv, Nat.reduceEqDiff, Nat.reduceLT, Nat.reduceLeDiff, Nat.reduceMod, Nat.reduceMul, Nat.reduceSub, eq_self, if_false, if_true, ite_false, ite_true, reduceIte, Ty.row, tyAll]
  | .list => by
    refine run_eq (run_of (pf := p121) rfl ?_)
    unfold p121
    simp only [R.loop_eq, wp0, wp1, wp2, wp3, wp4, PV.cellsT, appMax, dropSh, fillB, fillS, putD, splice, src, startSt, Int.reduceAdd, Int.reduceEq, Int.reduceLE, Int.reduceLT, Int.reduceNeg, Int.reduceSub, Int.reduceToNat, Nat.reduceAdd, Nat.reduceDiv, Nat.reduceEqDiff, Nat.reduceLT, Nat.reduceLeDiff, Nat.reduceMod, Nat.reduceMul, Nat.reduceSub, eq_self, if_false, if_true, ite_false, ite_true, reduceIte, Ty.row, tyAll]
  | .unit => by
    refine run_eq (run_of (pf := p121) rfl ?_)
    unfold p121
    simp only [R.loop_eq, wp0, wp1, wp2, wp3, wp4, PV.cellsT, appMax, dropSh, fillB, fillS, putD, splice, src, startSt, Int.reduceAdd, Int.reduceEq, Int.reduceLE, Int.reduceLT, Int.reduceNeg, Int.reduceSub, Int.reduceToNat, Nat.reduceAdd, Nat.reduceDiv, Nat.reduceEqDiff, Nat.reduceLT, Nat.reduceLeDiff, Nat.reduceMod, Nat.reduceMul, Nat.reduceSub, eq_self, if_false, if_true, ite_false, ite_true, reduceIte, Ty.row, tyAll]
  | .pair a b => by
    have u0 := shape77 sh a
    have u1 := shape77 sh b
    try simp only [Ty.row] at u0 u1
    have u0' := clR.use u0
    have u1' := clR.use u1
    refine run_eq (run_of (pf := p121) rfl ?_)
    unfold p121
    simp only [R.loop_eq, wp0, wp1, wp2, wp3, wp4, PV.cellsT, appMax, dropSh, fillB, fillS, putD, splice, src, startSt, Int.reduceAdd, Int.reduceEq, Int.reduceLE, Int.reduceLT, Int.reduceNeg, Int.reduceSub, Int.reduceToNat, Nat.reduceAdd, Nat.reduceDiv, Nat.reduceEqDiff, Nat.reduceLT, Nat.reduceLeDiff, Nat.reduceMod, Nat.reduceMul, Nat.reduceSub, eq_self, if_false, if_true, ite_false, ite_true, reduceIte, Ty.row, tyAll, u0', u1']
  | .fn a b => by
    have u0 := shape77 sh a
    have u1 := shape77 sh b
    try simp only [Ty.row] at u0 u1
    have u0' := clR.use u0
    have u1' := clR.use u1
    refine run_eq (run_of (pf := p121) rfl ?_)
    unfold p121
    simp only [R.loop_eq, wp0, wp1, wp2, wp3, wp4, PV.cellsT, appMax, dropSh, fillB, fillS, putD, splice, src, startSt, Int.reduceAdd, Int.reduceEq, Int.reduceLE, Int.reduceLT, Int.reduceNeg, Int.reduceSub, Int.reduceToNat, Nat.reduceAdd, Nat.reduceDiv, Nat.reduceEqDiff, Nat.reduceLT, Nat.reduceLeDiff, Nat.reduceMod, Nat.reduceMul, Nat.reduceSub, eq_self, if_false, if_true, ite_false, ite_true, reduceIte, Ty.row, tyAll, u0', u1']
theorem size78 (sh : Sh) : ∀ t : Ty, t.nodes ≤ 1000 → ∃ n, callN T G n 122 [.ag t.row] sh = some (i64 (t.nodes : Int), sh)
  | .nat, h => by
    refine run_eq (run_of (pf := p122) rfl ?_)
    unfold p122
    simp only [R.loop_eq, wp0, wp1, wp2, wp3, wp4, PV.cellsT, appMax, dropSh, fillB, fillS, putD, splice, src, startSt, Int.reduceAdd, Int.reduceEq, Int.reduceLE, Int.reduceLT, Int.reduceNeg, Int.reduceSub, Int.reduceToNat, Nat.reduceAdd, Nat.reduceDiv, Nat.reduceEqDiff, Nat.reduceLT, Nat.reduceLeDiff, Nat.reduceMod, Nat.reduceMul, Nat.reduceSub, eq_self, if_false, if_true, ite_false, ite_true, reduceIte, Ty.row, tyAll, Ty.nodes, Int.cast_ofNat_Int]
  | .list, h => by
    refine run_eq (run_of (pf := p122) rfl ?_)
    unfold p122
    simp only [R.loop_eq, wp0, wp1, wp2, wp3, wp4, PV.cellsT, appMax, dropSh, fillB, fillS, putD, splice, src, startSt, Int.reduceAdd, Int.reduceEq, Int.reduceLE, Int.reduceLT, Int.reduceNeg, Int.reduceSub, Int.reduceToNat, Nat.reduceAdd, Nat.reduceDiv, Nat.reduceEqDiff, Nat.reduceLT, Nat.reduceLeDiff, Nat.reduceMod, Nat.reduceMul, Nat.reduceSub, eq_self, if_false, if_true, ite_false, ite_true, reduceIte, Ty.row, tyAll, Ty.nodes, Int.cast_ofNat_Int]
  | .unit, h => by
    refine run_eq (run_of (pf := p122) rfl ?_)
    unfold p122
    simp only [R.loop_eq, wp0, wp1, wp2, wp3, wp4, PV.cellsT, appMax, dropSh, fillB, fillS, putD, splice, src, startSt, Int.reduceAdd, Int.reduceEq, Int.reduceLE, Int.reduceLT, Int.reduceNeg, Int.reduceSub, Int.reduceToNat, Nat.reduceAdd, Nat.reduceDiv, Nat.reduceEqDiff, Nat.reduceLT, Nat.reduceLeDiff, Nat.reduceMod, Nat.reduceMul, Nat.reduceSub, eq_self, if_false, if_true, ite_false, ite_true, reduceIte, Ty.row, tyAll, Ty.nodes, Int.cast_ofNat_Int]
  | .pair a b, h => by
    have h' : 1 + a.nodes + b.nodes ≤ 1000 := h
    have w1 : IntKind.i64.wrap (1 + (a.nodes : Int)) = 1 + (a.nodes : Int) := wrap_i64 (by omega)
    have w2 : IntKind.i64.wrap (1 + (a.nodes : Int) + (b.nodes : Int)) = 1 + (a.nodes : Int) + (b.nodes : Int) := wrap_i64 (by omega)
    have e : ((Ty.pair a b).nodes : Int) = 1 + (a.nodes : Int) + (b.nodes : Int) := by simp only [Ty.nodes]; omega
    rw [e]
    have u0 := size78 sh a (by omega)
    have u1 := size78 sh b (by omega)
    try simp only [Ty.row] at u0 u1
    have u0' := clR.use u0
    have u1' := clR.use u1
    refine run_eq (run_of (pf := p122) rfl ?_)
    unfold p122
    simp only [R.loop_eq, wp0, wp1, wp2, wp3, wp4, PV.cellsT, appMax, dropSh, fillB, fillS, putD, splice, src, startSt, Int.reduceAdd, Int.reduceEq, Int.reduceLE, Int.reduceLT, Int.reduceNeg, Int.reduceSub, Int.reduceToNat, Nat.reduceAdd, Nat.reduceDiv, Nat.reduceEqDiff, Nat.reduceLT, Nat.reduceLeDiff, Nat.reduceMod, Nat.reduceMul, Nat.reduceSub, eq_self, if_false, if_true, ite_false, ite_true, reduceIte, Ty.row, tyAll, u0', u1', w1, w2]
  | .fn a b, h => by
    have h' : 1 + a.nodes + b.nodes ≤ 1000 := h
    have w1 : IntKind.i64.wrap (1 + (a.nodes : Int)) = 1 + (a.nodes : Int) := wrap_i64 (by omega)
    have w2 : IntKind.i64.wrap (1 + (a.nodes : Int) + (b.nodes : Int)) = 1 + (a.nodes : Int) + (b.nodes : Int) := wrap_i64 (by omega)
    have e : ((Ty.fn a b).nodes : Int) = 1 + (a.nodes : Int) + (b.nodes : Int) := by simp only [Ty.nodes]; omega
    rw [e]
    have u0 := size78 sh a (by omega)
    have u1 := size78 sh b (by omega)
    try simp only [Ty.row] at u0 u1
    have u0' := clR.use u0
    have u1' := clR.use u1
    refine run_eq (run_of (pf := p122) rfl ?_)
    unfold p122
    simp only [R.loop_eq, wp0, wp1, wp2, wp3, wp4, PV.cellsT, appMax, dropSh, fillB, fillS, putD, splice, src, startSt, Int.reduceAdd, Int.reduceEq, Int.reduceLE, Int.reduceLT, Int.reduceNeg, Int.reduceSub, Int.reduceToNat, Nat.reduceAdd, Nat.reduceDiv, Nat.reduceEqDiff, Nat.reduceLT, Nat.reduceLeDiff, Nat.reduceMod, Nat.reduceMul, Nat.reduceSub, eq_self, if_false, if_true, ite_false, ite_true, reduceIte, Ty.row, tyAll, u0', u1', w1, w2]
theorem check68 (sh : Sh) (t : Ty) (h : t.nodes ≤ 64) : ∃ n, callN T G n 94 [.ag t.row] sh = some (i64 0, sh) := by
  have c1 : ¬ (64 : Int) < (t.nodes : Int) := by omega
  have u0 := shape77 sh t
  have u1 := size78 sh t (by omega)
  try simp only [Ty.row] at u0 u1
  have u0' := clR.use u0
  have u1' := clR.use u1
  refine run_eq (run_of (pf := p94) rfl ?_)
  unfold p94
  simp only [R.loop_eq, wp0, wp1, wp2, wp3, wp4, PV.cellsT, appMax, dropSh, fillB, fillS, putD, splice, src, startSt, Int.reduceAdd, Int.reduceEq, Int.reduceLE, Int.reduceLT, Int.reduceNeg, Int.reduceSub, Int.reduceToNat, Nat.reduceAdd, Nat.reduceDiv, Nat.reduceEqDiff, Nat.reduceLT, Nat.reduceLeDiff, Nat.reduceMod, Nat.reduceMul, Nat.reduceSub, eq_self, if_false, if_true, ite_false, ite_true, reduceIte, Ty.row, tyAll, u0', u1', c1]
theorem count37 (sh : Sh) : ∀ t : Tm, t.size ≤ 100000 → ∃ n, callN T G n 56 [.ag t.row] sh = some (i64 (t.size : Int), sh) := by
  intro t
  induction t with
  | var i =>
    intro h
    refine run_eq (run_of (pf := p56) rfl ?_)
    unfold p56
    simp only [R.loop_eq, wp0, wp1, wp2, wp3, wp4, PV.cellsT, appMax, dropSh, fillB, fillS, putD, splice, src, startSt, Int.reduceAdd, Int.reduceEq, Int.reduceLE, Int.reduceLT, Int.reduceNeg, Int.reduceSub, Int.reduceToNat, Nat.reduceAdd, Nat.reduceDiv, Nat.reduceEqDiff, Nat.reduceLT, Nat.reduceLeDiff, Nat.reduceMod, Nat.reduceMul, Nat.reduceSub, eq_self, if_false, if_true, ite_false, ite_true, reduceIte, Ty.row, tyAll, Tm.row, tmAll, Tm.size, Int.cast_ofNat_Int]
  | lam s a iha =>
    intro h
    simp only [Tm.size] at h
    have w0 : IntKind.i64.wrap ((1 : Int) + (a.size : Int)) = ((1 + a.size : Nat) : Int) := by rw [wrap_i64 (by omega)]; omega
    have e : (Tm.lam s a).size = 1 + a.size := rfl
    rw [e]
    have u0 := iha (by omega)
    try simp only [Ty.row, tyAll, Tm.row, tmAll, Int.cast_ofNat_Int] at u0
    have u0' := clR.use u0
    refine run_eq (run_of (pf := p56) rfl ?_)
    unfold p56
    simp only [R.loop_eq, wp0, wp1, wp2, wp3, wp4, PV.cellsT, appMax, dropSh, fillB, fillS, putD, splice, src, startSt, Int.reduceAdd, Int.reduceEq, Int.reduceLE, Int.reduceLT, Int.reduceNeg, Int.reduceSub, Int.reduceToNat, Nat.reduceAdd, Nat.reduceDiv, Nat.reduceEqDiff, Nat.reduceLT, Nat.reduceLeDiff, Nat.reduceMod, Nat.reduceMul, Nat.reduceSub, eq_self, if_false, if_true, ite_false, ite_true, reduceIte, Ty.row, tyAll, Tm.row, tmAll, u0', w0]
  | app a b iha ihb =>
    intro h
    simp only [Tm.size] at h
    have w0 : IntKind.i64.wrap ((1 : Int) + (a.size : Int)) = ((1 + a.size : Nat) : Int) := by rw [wrap_i64 (by omega)]; omega
    have w1 : IntKind.i64.wrap (((1 + a.size : Nat) : Int) + (b.size : Int)) = ((1 + a.size + b.size : Nat) : Int) := by rw [wrap_i64 (by omega)]; omega
    have e : (Tm.app a b).size = 1 + a.size + b.size := rfl
    rw [e]
    have u0 := iha (by omega)
    have u1 := ihb (by omega)
    try simp only [Ty.row, tyAll, Tm.row, tmAll, Int.cast_ofNat_Int] at u0 u1
    have u0' := clR.use u0
    have u1' := clR.use u1
    refine run_eq (run_of (pf := p56) rfl ?_)
    unfold p56
    simp only [R.loop_eq, wp0, wp1, wp2, wp3, wp4, PV.cellsT, appMax, dropSh, fillB, fillS, putD, splice, src, startSt, Int.reduceAdd, Int.reduceEq, Int.reduceLE, Int.reduceLT, Int.reduceNeg, Int.reduceSub, Int.reduceToNat, Nat.reduceAdd, Nat.reduceDiv, Nat.reduceEqDiff, Nat.reduceLT, Nat.reduceLeDiff, Nat.reduceMod, Nat.reduceMul, Nat.reduceSub, eq_self, if_false, if_true, ite_false, ite_true, reduceIte, Ty.row, tyAll, Tm.row, tmAll, u0', u1', w0, w1]
  | zero =>
    intro h
    refine run_eq (run_of (pf := p56) rfl ?_)
    unfold p56
    simp only [R.loop_eq, wp0, wp1, wp2, wp3, wp4, PV.cellsT, appMax, dropSh, fillB, fillS, putD, splice, src, startSt, Int.reduceAdd, Int.reduceEq, Int.reduceLE, Int.reduceLT, Int.reduceNeg, Int.reduceSub, Int.reduceToNat, Nat.reduceAdd, Nat.reduceDiv, Nat.reduceEqDiff, Nat.reduceLT, Nat.reduceLeDiff, Nat.reduceMod, Nat.reduceMul, Nat.reduceSub, eq_self, if_false, if_true, ite_false, ite_true, reduceIte, Ty.row, tyAll, Tm.row, tmAll, Tm.size, Int.cast_ofNat_Int]
  | succ a iha =>
    intro h
    simp only [Tm.size] at h
    have w0 : IntKind.i64.wrap ((1 : Int) + (a.size : Int)) = ((1 + a.size : Nat) : Int) := by rw [wrap_i64 (by omega)]; omega
    have e : (Tm.succ a).size = 1 + a.size := rfl
    rw [e]
    have u0 := iha (by omega)
    try simp only [Ty.row, tyAll, Tm.row, tmAll, Int.cast_ofNat_Int] at u0
    have u0' := clR.use u0
    refine run_eq (run_of (pf := p56) rfl ?_)
    unfold p56
    simp only [R.loop_eq, wp0, wp1, wp2, wp3, wp4, PV.cellsT, appMax, dropSh, fillB, fillS, putD, splice, src, startSt, Int.reduceAdd, Int.reduceEq, Int.reduceLE, Int.reduceLT, Int.reduceNeg, Int.reduceSub, Int.reduceToNat, Nat.reduceAdd, Nat.reduceDiv, Nat.reduceEqDiff, Nat.reduceLT, Nat.reduceLeDiff, Nat.reduceMod, Nat.reduceMul, Nat.reduceSub, eq_self, if_false, if_true, ite_false, ite_true, reduceIte, Ty.row, tyAll, Tm.row, tmAll, u0', w0]
  | recu s a b c iha ihb ihc =>
    intro h
    simp only [Tm.size] at h
    have w0 : IntKind.i64.wrap ((1 : Int) + (a.size : Int)) = ((1 + a.size : Nat) : Int) := by rw [wrap_i64 (by omega)]; omega
    have w1 : IntKind.i64.wrap (((1 + a.size : Nat) : Int) + (b.size : Int)) = ((1 + a.size + b.size : Nat) : Int) := by rw [wrap_i64 (by omega)]; omega
    have w2 : IntKind.i64.wrap (((1 + a.size + b.size : Nat) : Int) + (c.size : Int)) = ((1 + a.size + b.size + c.size : Nat) : Int) := by rw [wrap_i64 (by omega)]; omega
    have e : (Tm.recu s a b c).size = 1 + a.size + b.size + c.size := rfl
    rw [e]
    have u0 := iha (by omega)
    have u1 := ihb (by omega)
    have u2 := ihc (by omega)
    try simp only [Ty.row, tyAll, Tm.row, tmAll, Int.cast_ofNat_Int] at u0 u1 u2
    have u0' := clR.use u0
    have u1' := clR.use u1
    have u2' := clR.use u2
    refine run_eq (run_of (pf := p56) rfl ?_)
    unfold p56
    simp only [R.loop_eq, wp0, wp1, wp2, wp3, wp4, PV.cellsT, appMax, dropSh, fillB, fillS, putD, splice, src, startSt, Int.reduceAdd, Int.reduceEq, Int.reduceLE, Int.reduceLT, Int.reduceNeg, Int.reduceSub, Int.reduceToNat, Nat.reduceAdd, Nat.reduceDiv, Nat.reduceEqDiff, Nat.reduceLT, Nat.reduceLeDiff, Nat.reduceMod, Nat.reduceMul, Nat.reduceSub, eq_self, if_false, if_true, ite_false, ite_true, reduceIte, Ty.row, tyAll, Tm.row, tmAll, u0', u1', u2', w0, w1, w2]
  | nil =>
    intro h
    refine run_eq (run_of (pf := p56) rfl ?_)
    unfold p56
    simp only [R.loop_eq, wp0, wp1, wp2, wp3, wp4, PV.cellsT, appMax, dropSh, fillB, fillS, putD, splice, src, startSt, Int.reduceAdd, Int.reduceEq, Int.reduceLE, Int.reduceLT, Int.reduceNeg, Int.reduceSub, Int.reduceToNat, Nat.reduceAdd, Nat.reduceDiv, Nat.reduceEqDiff, Nat.reduceLT, Nat.reduceLeDiff, Nat.reduceMod, Nat.reduceMul, Nat.reduceSub, eq_self, if_false, if_true, ite_false, ite_true, reduceIte, Ty.row, tyAll, Tm.row, tmAll, Tm.size, Int.cast_ofNat_Int]
  | cons a b iha ihb =>
    intro h
    simp only [Tm.size] at h
    have w0 : IntKind.i64.wrap ((1 : Int) + (a.size : Int)) = ((1 + a.size : Nat) : Int) := by rw [wrap_i64 (by omega)]; omega
    have w1 : IntKind.i64.wrap (((1 + a.size : Nat) : Int) + (b.size : Int)) = ((1 + a.size + b.size : Nat) : Int) := by rw [wrap_i64 (by omega)]; omega
    have e : (Tm.cons a b).size = 1 + a.size + b.size := rfl
    rw [e]
    have u0 := iha (by omega)
    have u1 := ihb (by omega)
    try simp only [Ty.row, tyAll, Tm.row, tmAll, Int.cast_ofNat_Int] at u0 u1
    have u0' := clR.use u0
    have u1' := clR.use u1
    refine run_eq (run_of (pf := p56) rfl ?_)
    unfold p56
    simp only [R.loop_eq, wp0, wp1, wp2, wp3, wp4, PV.cellsT, appMax, dropSh, fillB, fillS, putD, splice, src, startSt, Int.reduceAdd, Int.reduceEq, Int.reduceLE, Int.reduceLT, Int.reduceNeg, Int.reduceSub, Int.reduceToNat, Nat.reduceAdd, Nat.reduceDiv, Nat.reduceEqDiff, Nat.reduceLT, Nat.reduceLeDiff, Nat.reduceMod, Nat.reduceMul, Nat.reduceSub, eq_self, if_false, if_true, ite_false, ite_true, reduceIte, Ty.row, tyAll, Tm.row, tmAll, u0', u1', w0, w1]
  | fold s a b c iha ihb ihc =>
    intro h
    simp only [Tm.size] at h
    have w0 : IntKind.i64.wrap ((1 : Int) + (a.size : Int)) = ((1 + a.size : Nat) : Int) := by rw [wrap_i64 (by omega)]; omega
    have w1 : IntKind.i64.wrap (((1 + a.size : Nat) : Int) + (b.size : Int)) = ((1 + a.size + b.size : Nat) : Int) := by rw [wrap_i64 (by omega)]; omega
    have w2 : IntKind.i64.wrap (((1 + a.size + b.size : Nat) : Int) + (c.size : Int)) = ((1 + a.size + b.size + c.size : Nat) : Int) := by rw [wrap_i64 (by omega)]; omega
    have e : (Tm.fold s a b c).size = 1 + a.size + b.size + c.size := rfl
    rw [e]
    have u0 := iha (by omega)
    have u1 := ihb (by omega)
    have u2 := ihc (by omega)
    try simp only [Ty.row, tyAll, Tm.row, tmAll, Int.cast_ofNat_Int] at u0 u1 u2
    have u0' := clR.use u0
    have u1' := clR.use u1
    have u2' := clR.use u2
    refine run_eq (run_of (pf := p56) rfl ?_)
    unfold p56
    simp only [R.loop_eq, wp0, wp1, wp2, wp3, wp4, PV.cellsT, appMax, dropSh, fillB, fillS, putD, splice, src, startSt, Int.reduceAdd, Int.reduceEq, Int.reduceLE, Int.reduceLT, Int.reduceNeg, Int.reduceSub, Int.reduceToNat, Nat.reduceAdd, Nat.reduceDiv, Nat.reduceEqDiff, Nat.reduceLT, Nat.reduceLeDiff, Nat.reduceMod, Nat.reduceMul, Nat.reduceSub, eq_self, if_false, if_true, ite_false, ite_true, reduceIte, Ty.row, tyAll, Tm.row, tmAll, u0', u1', u2', w0, w1, w2]
  | pair a b iha ihb =>
    intro h
    simp only [Tm.size] at h
    have w0 : IntKind.i64.wrap ((1 : Int) + (a.size : Int)) = ((1 + a.size : Nat) : Int) := by rw [wrap_i64 (by omega)]; omega
    have w1 : IntKind.i64.wrap (((1 + a.size : Nat) : Int) + (b.size : Int)) = ((1 + a.size + b.size : Nat) : Int) := by rw [wrap_i64 (by omega)]; omega
    have e : (Tm.pair a b).size = 1 + a.size + b.size := rfl
    rw [e]
    have u0 := iha (by omega)
    have u1 := ihb (by omega)
    try simp only [Ty.row, tyAll, Tm.row, tmAll, Int.cast_ofNat_Int] at u0 u1
    have u0' := clR.use u0
    have u1' := clR.use u1
    refine run_eq (run_of (pf := p56) rfl ?_)
    unfold p56
    simp only [R.loop_eq, wp0, wp1, wp2, wp3, wp4, PV.cellsT, appMax, dropSh, fillB, fillS, putD, splice, src, startSt, Int.reduceAdd, Int.reduceEq, Int.reduceLE, Int.reduceLT, Int.reduceNeg, Int.reduceSub, Int.reduceToNat, Nat.reduceAdd, Nat.reduceDiv, Nat.reduceEqDiff, Nat.reduceLT, Nat.reduceLeDiff, Nat.reduceMod, Nat.reduceMul, Nat.reduceSub, eq_self, if_false, if_true, ite_false, ite_true, reduceIte, Ty.row, tyAll, Tm.row, tmAll, u0', u1', w0, w1]
  | fst a iha =>
    intro h
    simp only [Tm.size] at h
    have w0 : IntKind.i64.wrap ((1 : Int) + (a.size : Int)) = ((1 + a.size : Nat) : Int) := by rw [wrap_i64 (by omega)]; omega
    have e : (Tm.fst a).size = 1 + a.size := rfl
    rw [e]
    have u0 := iha (by omega)
    try simp only [Ty.row, tyAll, Tm.row, tmAll, Int.cast_ofNat_Int] at u0
    have u0' := clR.use u0
    refine run_eq (run_of (pf := p56) rfl ?_)
    unfold p56
    simp only [R.loop_eq, wp0, wp1, wp2, wp3, wp4, PV.cellsT, appMax, dropSh, fillB, fillS, putD, splice, src, startSt, Int.reduceAdd, Int.reduceEq, Int.reduceLE, Int.reduceLT, Int.reduceNeg, Int.reduceSub, Int.reduceToNat, Nat.reduceAdd, Nat.reduceDiv, Nat.reduceEqDiff, Nat.reduceLT, Nat.reduceLeDiff, Nat.reduceMod, Nat.reduceMul, Nat.reduceSub, eq_self, if_false, if_true, ite_false, ite_true, reduceIte, Ty.row, tyAll, Tm.row, tmAll, u0', w0]
  | snd a iha =>
    intro h
    simp only [Tm.size] at h
    have w0 : IntKind.i64.wrap ((1 : Int) + (a.size : Int)) = ((1 + a.size : Nat) : Int) := by rw [wrap_i64 (by omega)]; omega
    have e : (Tm.snd a).size = 1 + a.size := rfl
    rw [e]
    have u0 := iha (by omega)
    try simp only [Ty.row, tyAll, Tm.row, tmAll, Int.cast_ofNat_Int] at u0
    have u0' := clR.use u0
    refine run_eq (run_of (pf := p56) rfl ?_)
    unfold p56
    simp only [R.loop_eq, wp0, wp1, wp2, wp3, wp4, PV.cellsT, appMax, dropSh, fillB, fillS, putD, splice, src, startSt, Int.reduceAdd, Int.reduceEq, Int.reduceLE, Int.reduceLT, Int.reduceNeg, Int.reduceSub, Int.reduceToNat, Nat.reduceAdd, Nat.reduceDiv, Nat.reduceEqDiff, Nat.reduceLT, Nat.reduceLeDiff, Nat.reduceMod, Nat.reduceMul, Nat.reduceSub, eq_self, if_false, if_true, ite_false, ite_true, reduceIte, Ty.row, tyAll, Tm.row, tmAll, u0', w0]
  | unit =>
    intro h
    refine run_eq (run_of (pf := p56) rfl ?_)
    unfold p56
    simp only [R.loop_eq, wp0, wp1, wp2, wp3, wp4, PV.cellsT, appMax, dropSh, fillB, fillS, putD, splice, src, startSt, Int.reduceAdd, Int.reduceEq, Int.reduceLE, Int.reduceLT, Int.reduceNeg, Int.reduceSub, Int.reduceToNat, Nat.reduceAdd, Nat.reduceDiv, Nat.reduceEqDiff, Nat.reduceLT, Nat.reduceLeDiff, Nat.reduceMod, Nat.reduceMul, Nat.reduceSub, eq_self, if_false, if_true, ite_false, ite_true, reduceIte, Ty.row, tyAll, Tm.row, tmAll, Tm.size, Int.cast_ofNat_Int]
theorem args67_1 (sh : Sh) : ∃ n, callN T G n 93 [i64 1] sh = some (i64 0, sh) := by
  refine run_eq (run_of (pf := p93) rfl ?_)
  unfold p93
  simp only [R.loop_eq, wp0, wp1, wp2, wp3, wp4, PV.cellsT, appMax, dropSh, fillB, fillS, putD, splice, src, startSt, Int.reduceAdd, Int.reduceEq, Int.reduceLE, Int.reduceLT, Int.reduceNeg, Int.reduceSub, Int.reduceToNat, Nat.reduceAdd, Nat.reduceDiv, Nat.reduceEqDiff, Nat.reduceLT, Nat.reduceLeDiff, Nat.reduceMod, Nat.reduceMul, Nat.reduceSub, eq_self, if_false, if_true, ite_false, ite_true, reduceIte, Ty.row, tyAll, Tm.row, tmAll]
theorem args67_2 (sh : Sh) : ∃ n, callN T G n 93 [i64 2] sh = some (i64 1, sh) := by
  refine run_eq (run_of (pf := p93) rfl ?_)
  unfold p93
  simp only [R.loop_eq, wp0, wp1, wp2, wp3, wp4, PV.cellsT, appMax, dropSh, fillB, fillS, putD, splice, src, startSt, Int.reduceAdd, Int.reduceEq, Int.reduceLE, Int.reduceLT, Int.reduceNeg, Int.reduceSub, Int.reduceToNat, Nat.reduceAdd, Nat.reduceDiv, Nat.reduceEqDiff, Nat.reduceLT, Nat.reduceLeDiff, Nat.reduceMod, Nat.reduceMul, Nat.reduceSub, eq_self, if_false, if_true, ite_false, ite_true, reduceIte, Ty.row, tyAll, Tm.row, tmAll]
theorem args67_3 (sh : Sh) : ∃ n, callN T G n 93 [i64 3] sh = some (i64 2, sh) := by
  refine run_eq (run_of (pf := p93) rfl ?_)
  unfold p93
  simp only [R.loop_eq, wp0, wp1, wp2, wp3, wp4, PV.cellsT, appMax, dropSh, fillB, fillS, putD, splice, src, startSt, Int.reduceAdd, Int.reduceEq, Int.reduceLE, Int.reduceLT, Int.reduceNeg, Int.reduceSub, Int.reduceToNat, Nat.reduceAdd, Nat.reduceDiv, Nat.reduceEqDiff, Nat.reduceLT, Nat.reduceLeDiff, Nat.reduceMod, Nat.reduceMul, Nat.reduceSub, eq_self, if_false, if_true, ite_false, ite_true, reduceIte, Ty.row, tyAll, Tm.row, tmAll]
theorem args67_4 (sh : Sh) : ∃ n, callN T G n 93 [i64 4] sh = some (i64 0, sh) := by
  refine run_eq (run_of (pf := p93) rfl ?_)
  unfold p93
  simp only [R.loop_eq, wp0, wp1, wp2, wp3, wp4, PV.cellsT, appMax, dropSh, fillB, fillS, putD, splice, src, startSt, Int.reduceAdd, Int.reduceEq, Int.reduceLE, Int.reduceLT, Int.reduceNeg, Int.reduceSub, Int.reduceToNat, Nat.reduceAdd, Nat.reduceDiv, Nat.reduceEqDiff, Nat.reduceLT, Nat.reduceLeDiff, Nat.reduceMod, Nat.reduceMul, Nat.reduceSub, eq_self, if_false, if_true, ite_false, ite_true, reduceIte, Ty.row, tyAll, Tm.row, tmAll]
theorem args67_5 (sh : Sh) : ∃ n, callN T G n 93 [i64 5] sh = some (i64 1, sh) := by
  refine run_eq (run_of (pf := p93) rfl ?_)
  unfold p93
  simp only [R.loop_eq, wp0, wp1, wp2, wp3, wp4, PV.cellsT, appMax, dropSh, fillB, fillS, putD, splice, src, startSt, Int.reduceAdd, Int.reduceEq, Int.reduceLE, Int.reduceLT, Int.reduceNeg, Int.reduceSub, Int.reduceToNat, Nat.reduceAdd, Nat.reduceDiv, Nat.reduceEqDiff, Nat.reduceLT, Nat.reduceLeDiff, Nat.reduceMod, Nat.reduceMul, Nat.reduceSub, eq_self, if_false, if_true, ite_false, ite_true, reduceIte, Ty.row, tyAll, Tm.row, tmAll]
theorem args67_6 (sh : Sh) : ∃ n, callN T G n 93 [i64 6] sh = some (i64 3, sh) := by
  refine run_eq (run_of (pf := p93) rfl ?_)
  unfold p93
  simp only [R.loop_eq, wp0, wp1, wp2, wp3, wp4, PV.cellsT, appMax, dropSh, fillB, fillS, putD, splice, src, startSt, Int.reduceAdd, Int.reduceEq, Int.reduceLE, Int.reduceLT, Int.reduceNeg, Int.reduceSub, Int.reduceToNat, Nat.reduceAdd, Nat.reduceDiv, Nat.reduceEqDiff, Nat.reduceLT, Nat.reduceLeDiff, Nat.reduceMod, Nat.reduceMul, Nat.reduceSub, eq_self, if_false, if_true, ite_false, ite_true, reduceIte, Ty.row, tyAll, Tm.row, tmAll]
theorem args67_7 (sh : Sh) : ∃ n, callN T G n 93 [i64 7] sh = some (i64 0, sh) := by
  refine run_eq (run_of (pf := p93) rfl ?_)
  unfold p93
  simp only [R.loop_eq, wp0, wp1, wp2, wp3, wp4, PV.cellsT, appMax, dropSh, fillB, fillS, putD, splice, src, startSt, Int.reduceAdd, Int.reduceEq, Int.reduceLE, Int.reduceLT, Int.reduceNeg, Int.reduceSub, Int.reduceToNat, Nat.reduceAdd, Nat.reduceDiv, Nat.reduceEqDiff, Nat.reduceLT, Nat.reduceLeDiff, Nat.reduceMod, Nat.reduceMul, Nat.reduceSub, eq_self, if_false, if_true, ite_false, ite_true, reduceIte, Ty.row, tyAll, Tm.row, tmAll]
theorem args67_8 (sh : Sh) : ∃ n, callN T G n 93 [i64 8] sh = some (i64 2, sh) := by
  refine run_eq (run_of (pf := p93) rfl ?_)
  unfold p93
  simp only [R.loop_eq, wp0, wp1, wp2, wp3, wp4, PV.cellsT, appMax, dropSh, fillB, fillS, putD, splice, src, startSt, Int.reduceAdd, Int.reduceEq, Int.reduceLE, Int.reduceLT, Int.reduceNeg, Int.reduceSub, Int.reduceToNat, Nat.reduceAdd, Nat.reduceDiv, Nat.reduceEqDiff, Nat.reduceLT, Nat.reduceLeDiff, Nat.reduceMod, Nat.reduceMul, Nat.reduceSub, eq_self, if_false, if_true, ite_false, ite_true, reduceIte, Ty.row, tyAll, Tm.row, tmAll]
theorem args67_9 (sh : Sh) : ∃ n, callN T G n 93 [i64 9] sh = some (i64 3, sh) := by
  refine run_eq (run_of (pf := p93) rfl ?_)
  unfold p93
  simp only [R.loop_eq, wp0, wp1, wp2, wp3, wp4, PV.cellsT, appMax, dropSh, fillB, fillS, putD, splice, src, startSt, Int.reduceAdd, Int.reduceEq, Int.reduceLE, Int.reduceLT, Int.reduceNeg, Int.reduceSub, Int.reduceToNat, Nat.reduceAdd, Nat.reduceDiv, Nat.reduceEqDiff, Nat.reduceLT, Nat.reduceLeDiff, Nat.reduceMod, Nat.reduceMul, Nat.reduceSub, eq_self, if_false, if_true, ite_false, ite_true, reduceIte, Ty.row, tyAll, Tm.row, tmAll]
theorem args67_10 (sh : Sh) : ∃ n, callN T G n 93 [i64 10] sh = some (i64 2, sh) := by
  refine run_eq (run_of (pf := p93) rfl ?_)
  unfold p93
  simp only [R.loop_eq, wp0, wp1, wp2, wp3, wp4, PV.cellsT, appMax, dropSh, fillB, fillS, putD, splice, src, startSt, Int.reduceAdd, Int.reduceEq, Int.reduceLE, Int.reduceLT, Int.reduceNeg, Int.reduceSub, Int.reduceToNat, Nat.reduceAdd, Nat.reduceDiv, Nat.reduceEqDiff, Nat.reduceLT, Nat.reduceLeDiff, Nat.reduceMod, Nat.reduceMul, Nat.reduceSub, eq_self, if_false, if_true, ite_false, ite_true, reduceIte, Ty.row, tyAll, Tm.row, tmAll]
theorem args67_11 (sh : Sh) : ∃ n, callN T G n 93 [i64 11] sh = some (i64 1, sh) := by
  refine run_eq (run_of (pf := p93) rfl ?_)
  unfold p93
  simp only [R.loop_eq, wp0, wp1, wp2, wp3, wp4, PV.cellsT, appMax, dropSh, fillB, fillS, putD, splice, src, startSt, Int.reduceAdd, Int.reduceEq, Int.reduceLE, Int.reduceLT, Int.reduceNeg, Int.reduceSub, Int.reduceToNat, Nat.reduceAdd, Nat.reduceDiv, Nat.reduceEqDiff, Nat.reduceLT, Nat.reduceLeDiff, Nat.reduceMod, Nat.reduceMul, Nat.reduceSub, eq_self, if_false, if_true, ite_false, ite_true, reduceIte, Ty.row, tyAll, Tm.row, tmAll]
theorem args67_12 (sh : Sh) : ∃ n, callN T G n 93 [i64 12] sh = some (i64 1, sh) := by
  refine run_eq (run_of (pf := p93) rfl ?_)
  unfold p93
  simp only [R.loop_eq, wp0, wp1, wp2, wp3, wp4, PV.cellsT, appMax, dropSh, fillB, fillS, putD, splice, src, startSt, Int.reduceAdd, Int.reduceEq, Int.reduceLE, Int.reduceLT, Int.reduceNeg, Int.reduceSub, Int.reduceToNat, Nat.reduceAdd, Nat.reduceDiv, Nat.reduceEqDiff, Nat.reduceLT, Nat.reduceLeDiff, Nat.reduceMod, Nat.reduceMul, Nat.reduceSub, eq_self, if_false, if_true, ite_false, ite_true, reduceIte, Ty.row, tyAll, Tm.row, tmAll]
theorem args67_13 (sh : Sh) : ∃ n, callN T G n 93 [i64 13] sh = some (i64 0, sh) := by
  refine run_eq (run_of (pf := p93) rfl ?_)
  unfold p93
  simp only [R.loop_eq, wp0, wp1, wp2, wp3, wp4, PV.cellsT, appMax, dropSh, fillB, fillS, putD, splice, src, startSt, Int.reduceAdd, Int.reduceEq, Int.reduceLE, Int.reduceLT, Int.reduceNeg, Int.reduceSub, Int.reduceToNat, Nat.reduceAdd, Nat.reduceDiv, Nat.reduceEqDiff, Nat.reduceLT, Nat.reduceLeDiff, Nat.reduceMod, Nat.reduceMul, Nat.reduceSub, eq_self, if_false, if_true, ite_false, ite_true, reduceIte, Ty.row, tyAll, Tm.row, tmAll]
theorem zero69 (sh : Sh) : ∃ n, callN T G n 95 [.ag [i64 0, .sl 0 0 []]] sh = some (.v (.bool true), sh) := by
  refine run_eq (run_of (pf := p95) rfl ?_)
  unfold p95
  simp only [R.loop_eq, wp0, wp1, wp2, wp3, wp4, PV.cellsT, appMax, dropSh, fillB, fillS, putD, splice, src, startSt, Int.reduceAdd, Int.reduceEq, Int.reduceLE, Int.reduceLT, Int.reduceNeg, Int.reduceSub, Int.reduceToNat, Nat.reduceAdd, Nat.reduceDiv, Nat.reduceEqDiff, Nat.reduceLT, Nat.reduceLeDiff, Nat.reduceMod, Nat.reduceMul, Nat.reduceSub, eq_self, if_false, if_true, ite_false, ite_true, reduceIte, Ty.row, tyAll, Tm.row, tmAll]
theorem shape53 (sh : Sh) : ∀ t : Tm, t.ok → ∃ n, callN T G n 55 [.ag t.row] sh = some (.v (.bool true), sh) := by
  intro t
  induction t with
  | var i =>
    intro h
    have u0 := args67_1 sh
    have u1 := zero69 sh
    try simp only [Ty.row, tyAll, Tm.row, tmAll, Int.cast_ofNat_Int] at u0 u1
    have u0' := clR.use u0
    have u1' := clR.use u1
    have c1 : ¬ (i : Int) < 0 := by omega
    refine run_eq (run_of (pf := p55) rfl ?_)
    unfold p55
    simp only [R.loop_eq, wp0, wp1, wp2, wp3, wp4, PV.cellsT, appMax, dropSh, fillB, fillS, putD, splice, src, startSt, Int.reduceAdd, Int.reduceEq, Int.reduceLE, Int.reduceLT, Int.reduceNeg, Int.reduceSub, Int.reduceToNat, Nat.reduceAdd, Nat.reduceDiv, Nat.reduceEqDiff, Nat.reduceLT, Nat.reduceLeDiff, Nat.reduceMod, Nat.reduceMul, Nat.reduceSub, eq_self, if_false, if_true, ite_false, ite_true, reduceIte, Ty.row, tyAll, Tm.row, tmAll, u0', u1', c1]
  | lam s a iha =>
    intro h
    have u0 := args67_2 sh
    have u1 := check68 sh s h.1
    have u2 := iha h.2
    try simp only [Ty.row, tyAll, Tm.row, tmAll, Int.cast_ofNat_Int] at u0 u1 u2
    have u0' := clR.use u0
    have u1' := clR.use u1
    have u2' := clR.use u2
    refine run_eq (run_of (pf := p55) rfl ?_)
    unfold p55
    simp only [R.loop_eq, wp0, wp1, wp2, wp3, wp4, PV.cellsT, appMax, dropSh, fillB, fillS, putD, splice, src, startSt, Int.reduceAdd, Int.reduceEq, Int.reduceLE, Int.reduceLT, Int.reduceNeg, Int.reduceSub, Int.reduceToNat, Nat.reduceAdd, Nat.reduceDiv, Nat.reduceEqDiff, Nat.reduceLT, Nat.reduceLeDiff, Nat.reduceMod, Nat.reduceMul, Nat.reduceSub, eq_self, if_false, if_true, ite_false, ite_true, reduceIte, Ty.row, tyAll, Tm.row, tmAll, u0', u1', u2']
  | app a b iha ihb =>
    intro h
    have u0 := args67_3 sh
    have u1 := zero69 sh
    have u2 := iha h.1
    have u3 := ihb h.2
    try simp only [Ty.row, tyAll, Tm.row, tmAll, Int.cast_ofNat_Int] at u0 u1 u2 u3
    have u0' := clR.use u0
    have u1' := clR.use u1
    have u2' := clR.use u2
    have u3' := clR.use u3
    refine run_eq (run_of (pf := p55) rfl ?_)
    unfold p55
    simp only [R.loop_eq, wp0, wp1, wp2, wp3, wp4, PV.cellsT, appMax, dropSh, fillB, fillS, putD, splice, src, startSt, Int.reduceAdd, Int.reduceEq, Int.reduceLE, Int.reduceLT, Int.reduceNeg, Int.reduceSub, Int.reduceToNat, Nat.reduceAdd, Nat.reduceDiv, Nat.reduceEqDiff, Nat.reduceLT, Nat.reduceLeDiff, Nat.reduceMod, Nat.reduceMul, Nat.reduceSub, eq_self, if_false, if_true, ite_false, ite_true, reduceIte, Ty.row, tyAll, Tm.row, tmAll, u0', u1', u2', u3']
  | zero =>
    intro h
    have u0 := args67_4 sh
    have u1 := zero69 sh
    try simp only [Ty.row, tyAll, Tm.row, tmAll, Int.cast_ofNat_Int] at u0 u1
    have u0' := clR.use u0
    have u1' := clR.use u1
    refine run_eq (run_of (pf := p55) rfl ?_)
    unfold p55
    simp only [R.loop_eq, wp0, wp1, wp2, wp3, wp4, PV.cellsT, appMax, dropSh, fillB, fillS, putD, splice, src, startSt, Int.reduceAdd, Int.reduceEq, Int.reduceLE, Int.reduceLT, Int.reduceNeg, Int.reduceSub, Int.reduceToNat, Nat.reduceAdd, Nat.reduceDiv, Nat.reduceEqDiff, Nat.reduceLT, Nat.reduceLeDiff, Nat.reduceMod, Nat.reduceMul, Nat.reduceSub, eq_self, if_false, if_true, ite_false, ite_true, reduceIte, Ty.row, tyAll, Tm.row, tmAll, u0', u1']
  | succ a iha =>
    intro h
    have u0 := args67_5 sh
    have u1 := zero69 sh
    have u2 := iha h
    try simp only [Ty.row, tyAll, Tm.row, tmAll, Int.cast_ofNat_Int] at u0 u1 u2
    have u0' := clR.use u0
    have u1' := clR.use u1
    have u2' := clR.use u2
    refine run_eq (run_of (pf := p55) rfl ?_)
    unfold p55
    simp only [R.loop_eq, wp0, wp1, wp2, wp3, wp4, PV.cellsT, appMax, dropSh, fillB, fillS, putD, splice, src, startSt, Int.reduceAdd, Int.reduceEq, Int.reduceLE, Int.reduceLT, Int.reduceNeg, Int.reduceSub, Int.reduceToNat, Nat.reduceAdd, Nat.reduceDiv, Nat.reduceEqDiff, Nat.reduceLT, Nat.reduceLeDiff, Nat.reduceMod, Nat.reduceMul, Nat.reduceSub, eq_self, if_false, if_true, ite_false, ite_true, reduceIte, Ty.row, tyAll, Tm.row, tmAll, u0', u1', u2']
  | recu s a b c iha ihb ihc =>
    intro h
    have u0 := args67_6 sh
    have u1 := check68 sh s h.1
    have u2 := iha h.2.1
    have u3 := ihb h.2.2.1
    have u4 := ihc h.2.2.2
    try simp only [Ty.row, tyAll, Tm.row, tmAll, Int.cast_ofNat_Int] at u0 u1 u2 u3 u4
    have u0' := clR.use u0
    have u1' := clR.use u1
    have u2' := clR.use u2
    have u3' := clR.use u3
    have u4' := clR.use u4
    refine run_eq (run_of (pf := p55) rfl ?_)
    unfold p55
    simp only [R.loop_eq, wp0, wp1, wp2, wp3, wp4, PV.cellsT, appMax, dropSh, fillB, fillS, putD, splice, src, startSt, Int.reduceAdd, Int.reduceEq, Int.reduceLE, Int.reduceLT, Int.reduceNeg, Int.reduceSub, Int.reduceToNat, Nat.reduceAdd, Nat.reduceDiv, Nat.reduceEqDiff, Nat.reduceLT, Nat.reduceLeDiff, Nat.reduceMod, Nat.reduceMul, Nat.reduceSub, eq_self, if_false, if_true, ite_false, ite_true, reduceIte, Ty.row, tyAll, Tm.row, tmAll, u0', u1', u2', u3', u4']
  | nil =>
    intro h
    have u0 := args67_7 sh
    have u1 := zero69 sh
    try simp only [Ty.row, tyAll, Tm.row, tmAll, Int.cast_ofNat_Int] at u0 u1
    have u0' := clR.use u0
    have u1' := clR.use u1
    refine run_eq (run_of (pf := p55) rfl ?_)
    unfold p55
    simp only [R.loop_eq, wp0, wp1, wp2, wp3, wp4, PV.cellsT, appMax, dropSh, fillB, fillS, putD, splice, src, startSt, Int.reduceAdd, Int.reduceEq, Int.reduceLE, Int.reduceLT, Int.reduceNeg, Int.reduceSub, Int.reduceToNat, Nat.reduceAdd, Nat.reduceDiv, Nat.reduceEqDiff, Nat.reduceLT, Nat.reduceLeDiff, Nat.reduceMod, Nat.reduceMul, Nat.reduceSub, eq_self, if_false, if_true, ite_false, ite_true, reduceIte, Ty.row, tyAll, Tm.row, tmAll, u0', u1']
  | cons a b iha ihb =>
    intro h
    have u0 := args67_8 sh
    have u1 := zero69 sh
    have u2 := iha h.1
    have u3 := ihb h.2
    try simp only [Ty.row, tyAll, Tm.row, tmAll, Int.cast_ofNat_Int] at u0 u1 u2 u3
    have u0' := clR.use u0
    have u1' := clR.use u1
    have u2' := clR.use u2
    have u3' := clR.use u3
    refine run_eq (run_of (pf := p55) rfl ?_)
    unfold p55
    simp only [R.loop_eq, wp0, wp1, wp2, wp3, wp4, PV.cellsT, appMax, dropSh, fillB, fillS, putD, splice, src, startSt, Int.reduceAdd, Int.reduceEq, Int.reduceLE, Int.reduceLT, Int.reduceNeg, Int.reduceSub, Int.reduceToNat, Nat.reduceAdd, Nat.reduceDiv, Nat.reduceEqDiff, Nat.reduceLT, Nat.reduceLeDiff, Nat.reduceMod, Nat.reduceMul, Nat.reduceSub, eq_self, if_false, if_true, ite_false, ite_true, reduceIte, Ty.row, tyAll, Tm.row, tmAll, u0', u1', u2', u3']
  | fold s a b c iha ihb ihc =>
    intro h
    have u0 := args67_9 sh
    have u1 := check68 sh s h.1
    have u2 := iha h.2.1
    have u3 := ihb h.2.2.1
    have u4 := ihc h.2.2.2
    try simp only [Ty.row, tyAll, Tm.row, tmAll, Int.cast_ofNat_Int] at u0 u1 u2 u3 u4
    have u0' := clR.use u0
    have u1' := clR.use u1
    have u2' := clR.use u2
    have u3' := clR.use u3
    have u4' := clR.use u4
    refine run_eq (run_of (pf := p55) rfl ?_)
    unfold p55
    simp only [R.loop_eq, wp0, wp1, wp2, wp3, wp4, PV.cellsT, appMax, dropSh, fillB, fillS, putD, splice, src, startSt, Int.reduceAdd, Int.reduceEq, Int.reduceLE, Int.reduceLT, Int.reduceNeg, Int.reduceSub, Int.reduceToNat, Nat.reduceAdd, Nat.reduceDiv, Nat.reduceEqDiff, Nat.reduceLT, Nat.reduceLeDiff, Nat.reduceMod, Nat.reduceMul, Nat.reduceSub, eq_self, if_false, if_true, ite_false, ite_true, reduceIte, Ty.row, tyAll, Tm.row, tmAll, u0', u1', u2', u3', u4']
  | pair a b iha ihb =>
    intro h
    have u0 := args67_10 sh
    have u1 := zero69 sh
    have u2 := iha h.1
    have u3 := ihb h.2
    try simp only [Ty.row, tyAll, Tm.row, tmAll, Int.cast_ofNat_Int] at u0 u1 u2 u3
    have u0' := clR.use u0
    have u1' := clR.use u1
    have u2' := clR.use u2
    have u3' := clR.use u3
    refine run_eq (run_of (pf := p55) rfl ?_)
    unfold p55
    simp only [R.loop_eq, wp0, wp1, wp2, wp3, wp4, PV.cellsT, appMax, dropSh, fillB, fillS, putD, splice, src, startSt, Int.reduceAdd, Int.reduceEq, Int.reduceLE, Int.reduceLT, Int.reduceNeg, Int.reduceSub, Int.reduceToNat, Nat.reduceAdd, Nat.reduceDiv, Nat.reduceEqDiff, Nat.reduceLT, Nat.reduceLeDiff, Nat.reduceMod, Nat.reduceMul, Nat.reduceSub, eq_self, if_false, if_true, ite_false, ite_true, reduceIte, Ty.row, tyAll, Tm.row, tmAll, u0', u1', u2', u3']
  | fst a iha =>
    intro h
    have u0 := args67_11 sh
    have u1 := zero69 sh
    have u2 := iha h
    try simp only [Ty.row, tyAll, Tm.row, tmAll, Int.cast_ofNat_Int] at u0 u1 u2
    have u0' := clR.use u0
    have u1' := clR.use u1
    have u2' := clR.use u2
    refine run_eq (run_of (pf := p55) rfl ?_)
    unfold p55
    simp only [R.loop_eq, wp0, wp1, wp2, wp3, wp4, PV.cellsT, appMax, dropSh, fillB, fillS, putD, splice, src, startSt, Int.reduceAdd, Int.reduceEq, Int.reduceLE, Int.reduceLT, Int.reduceNeg, Int.reduceSub, Int.reduceToNat, Nat.reduceAdd, Nat.reduceDiv, Nat.reduceEqDiff, Nat.reduceLT, Nat.reduceLeDiff, Nat.reduceMod, Nat.reduceMul, Nat.reduceSub, eq_self, if_false, if_true, ite_false, ite_true, reduceIte, Ty.row, tyAll, Tm.row, tmAll, u0', u1', u2']
  | snd a iha =>
    intro h
    have u0 := args67_12 sh
    have u1 := zero69 sh
    have u2 := iha h
    try simp only [Ty.row, tyAll, Tm.row, tmAll, Int.cast_ofNat_Int] at u0 u1 u2
    have u0' := clR.use u0
    have u1' := clR.use u1
    have u2' := clR.use u2
    refine run_eq (run_of (pf := p55) rfl ?_)
    unfold p55
    simp only [R.loop_eq, wp0, wp1, wp2, wp3, wp4, PV.cellsT, appMax, dropSh, fillB, fillS, putD, splice, src, startSt, Int.reduceAdd, Int.reduceEq, Int.reduceLE, Int.reduceLT, Int.reduceNeg, Int.reduceSub, Int.reduceToNat, Nat.reduceAdd, Nat.reduceDiv, Nat.reduceEqDiff, Nat.reduceLT, Nat.reduceLeDiff, Nat.reduceMod, Nat.reduceMul, Nat.reduceSub, eq_self, if_false, if_true, ite_false, ite_true, reduceIte, Ty.row, tyAll, Tm.row, tmAll, u0', u1', u2']
  | unit =>
    intro h
    have u0 := args67_13 sh
    have u1 := zero69 sh
    try simp only [Ty.row, tyAll, Tm.row, tmAll, Int.cast_ofNat_Int] at u0 u1
    have u0' := clR.use u0
    have u1' := clR.use u1
    refine run_eq (run_of (pf := p55) rfl ?_)
    unfold p55
    simp only [R.loop_eq, wp0, wp1, wp2, wp3, wp4, PV.cellsT, appMax, dropSh, fillB, fillS, putD, splice, src, startSt, Int.reduceAdd, Int.reduceEq, Int.reduceLE, Int.reduceLT, Int.reduceNeg, Int.reduceSub, Int.reduceToNat, Nat.reduceAdd, Nat.reduceDiv, Nat.reduceEqDiff, Nat.reduceLT, Nat.reduceLeDiff, Nat.reduceMod, Nat.reduceMul, Nat.reduceSub, eq_self, if_false, if_true, ite_false, ite_true, reduceIte, Ty.row, tyAll, Tm.row, tmAll, u0', u1']
theorem check36 (sh : Sh) (t : Tm) (ho : t.ok) (hs : t.size ≤ 4096) : ∃ n, callN T G n 24 [.ag t.row] sh = some (i64 0, sh) := by
  have c1 : ¬ (4096 : Int) < (t.size : Int) := by omega
  have u0 := shape53 sh t ho
  have u1 := count37 sh t (by omega)
  try simp only [Ty.row, tyAll, Tm.row, tmAll, Int.cast_ofNat_Int] at u0 u1
  have u0' := clR.use u0
  have u1' := clR.use u1
  refine run_eq (run_of (pf := p24) rfl ?_)
  unfold p24
  simp only [R.loop_eq, wp0, wp1, wp2, wp3, wp4, PV.cellsT, appMax, dropSh, fillB, fillS, putD, splice, src, startSt, Int.reduceAdd, Int.reduceEq, Int.reduceLE, Int.reduceLT, Int.reduceNeg, Int.reduceSub, Int.reduceToNat, Nat.reduceAdd, Nat.reduceDiv, Nat.reduceEqDiff, Nat.reduceLT, Nat.reduceLeDiff, Nat.reduceMod, Nat.reduceMul, Nat.reduceSub, eq_self, if_false, if_true, ite_false, ite_true, reduceIte, Ty.row, tyAll, Tm.row, tmAll, u0', u1', c1]
theorem ok57 (sh : Sh) (t : Ty) (h : t.nodes ≤ 64) : ∃ n, callN T G n 161 [.ag t.row] sh = some (.tup [.ag t.row, i64 0], sh) := by
  have u0 := check68 sh t h
  try simp only [Ty.row, tyAll, Tm.row, tmAll, Int.cast_ofNat_Int] at u0
  have u0' := clR.use u0
  refine run_eq (run_of (pf := p161) rfl ?_)
  unfold p161
  simp only [R.loop_eq, wp0, wp1, wp2, wp3, wp4, PV.cellsT, appMax, dropSh, fillB, fillS, putD, splice, src, startSt, Int.reduceAdd, Int.reduceEq, Int.reduceLE, Int.reduceLT, Int.reduceNeg, Int.reduceSub, Int.reduceToNat, Nat.reduceAdd, Nat.reduceDiv, Nat.reduceEqDiff, Nat.reduceLT, Nat.reduceLeDiff, Nat.reduceMod, Nat.reduceMul, Nat.reduceSub, eq_self, if_false, if_true, ite_false, ite_true, reduceIte, Ty.row, tyAll, Tm.row, tmAll, u0']
theorem infer40 (sh : Sh) {g : List Ty} {x : Tm} {t : Ty} (h : HasTy g x t) : ∀ (zg : Nat), (g ≠ [] → zg = 2) → g.length + x.size ≤ 100000 → ∃ n, callN T G n 125 [.sl 0 zg (g.map Ty.row), .ag x.row] sh = some (.tup [.ag t.row, i64 0], sh) := by
  induction h with
  | @var g i hi =>
    intro zg hz hs
    simp only [Tm.size] at hs
    obtain rfl := hz (by intro e; subst e; simp at hi)
    have c1 : ¬ ((g.length : Int) ≤ (i : Int)) := by omega
    have w1 : IntKind.i64.wrap ((g.length : Int) - 1) = (g.length : Int) - 1 := wrap_i64 (by omega)
    have w2 : IntKind.i64.wrap ((g.length : Int) - 1 - (i : Int)) = ((g.length - 1 - i : Nat) : Int) := by rw [wrap_i64 (by omega)]; omega
    have c2 : ((g.length - 1 - i : Nat) : Int) < (g.length : Int) := by omega
    have c3 : (0 : Int) ≤ ((g.length - 1 - i : Nat) : Int) := by omega
    have c4 := getD_row g (i := g.length - 1 - i) (by omega)
    simp only [Ty.row, tyAll] at c4
    have u0 := copy50 sh (g.getD (g.length - 1 - i) .nat)
    try simp only [Ty.row, tyAll, Tm.row, tmAll, Int.cast_ofNat_Int] at u0
    have u0' := clR.use u0
    refine run_eq (run_of (pf := p125) rfl ?_)
    unfold p125
    simp only [R.loop_eq, wp0, wp1, wp2, wp3, wp4, PV.cellsT, appMax, dropSh, fillB, fillS, putD, splice, src, startSt, Int.reduceAdd, Int.reduceEq, Int.reduceLE, Int.reduceLT, Int.reduceNeg, Int.reduceSub, Int.reduceToNat, Nat.reduceAdd, Nat.reduceDiv, Nat.reduceEqDiff, Nat.reduceLT, Nat.reduceLeDiff, Nat.reduceMod, Nat.reduceMul, Nat.reduceSub, eq_self, if_false, if_true, ite_false, ite_true, reduceIte, Ty.row, tyAll, Tm.row, tmAll, u0', List.length_map, c1, w1, w2, c2, c3, c4, Int.toNat_natCast]
  | @lam g s t a h hn ih =>
    intro zg hz hs
    simp only [Tm.size] at hs
    have hn' : 1 + s.nodes + t.nodes ≤ 64 := hn
    have u1 := ih 2 (fun _ => rfl) (by simp only [List.length_append, List.length_cons, List.length_nil]; omega)
    simp only [List.map_append, List.map_cons, List.map_nil] at u1
    simp only [Ty.row, tyAll, Tm.row, tmAll] at u1
    have v1 := clR.use u1
    have hz' : zg = 2 ∨ g.map Ty.row = [] := by
      by_cases e : g = []
      · exact .inr (by rw [e]; rfl)
      · exact .inl (hz e)
    have c1 := @sl_full 0 zg 2 .i64 .i64 (g.length : Int) (g.map Ty.row) hz' (by rw [List.length_map])
    have c2 : g.length ≤ 4294967295 := by omega
    have u0 := fun35 sh s t
    have u1 := ok57 sh (.fn s t) hn
    try simp only [Ty.row, tyAll, Tm.row, tmAll, Int.cast_ofNat_Int] at u0 u1
    have u0' := clR.use u0
    have u1' := clR.use u1
    refine run_eq (run_of (pf := p125) rfl ?_)
    unfold p125
    simp only [R.loop_eq, wp0, wp1, wp2, wp3, wp4, PV.cellsT, appMax, dropSh, fillB, fillS, putD, splice, src, startSt, Int.reduceAdd, Int.reduceEq, Int.reduceLE, Int.reduceLT, Int.reduceNeg, Int.reduceSub, Int.reduceToNat, Nat.reduceAdd, Nat.reduceDiv, Nat.reduceEqDiff, Nat.reduceLT, Nat.reduceLeDiff, Nat.reduceMod, Nat.reduceMul, Nat.reduceSub, eq_self, if_false, if_true, ite_false, ite_true, reduceIte, Ty.row, tyAll, Tm.row, tmAll, u0', u1', List.length_map, c1, c2, v1]
  | @app g s t a b ha hb hn iha ihb =>
    intro zg hz hs
    simp only [Tm.size] at hs
    have u0 := iha zg hz (by omega)
    have u1 := ihb zg hz (by omega)
    have u2 := nat34 sh
    have u3 := list37 sh
    have u4 := same15 sh s s
    try simp only [Ty.row, tyAll, Tm.row, tmAll, Int.cast_ofNat_Int] at u0 u1 u2 u3 u4
    have u0' := clR.use u0
    have u1' := clR.use u1
    have u2' := clR.use u2
    have u3' := clR.use u3
    have u4' := clR.use u4
    refine run_eq (run_of (pf := p125) rfl ?_)
    unfold p125
    simp only [R.loop_eq, wp0, wp1, wp2, wp3, wp4, PV.cellsT, appMax, dropSh, fillB, fillS, putD, splice, src, startSt, Int.reduceAdd, Int.reduceEq, Int.reduceLE, Int.reduceLT, Int.reduceNeg, Int.reduceSub, Int.reduceToNat, Nat.reduceAdd, Nat.reduceDiv, Nat.reduceEqDiff, Nat.reduceLT, Nat.reduceLeDiff, Nat.reduceMod, Nat.reduceMul, Nat.reduceSub, eq_self, if_false, if_true, ite_false, ite_true, reduceIte, Ty.row, tyAll, Tm.row, tmAll, u0', u1', u2', u3', u4', Int.toNat_zero, Int.toNat_one, decide_true]
  | @zero g =>
    intro zg hz hs
    simp only [Tm.size] at hs
    have u0 := nat34 sh
    have u1 := list37 sh
    try simp only [Ty.row, tyAll, Tm.row, tmAll, Int.cast_ofNat_Int] at u0 u1
    have u0' := clR.use u0
    have u1' := clR.use u1
    refine run_eq (run_of (pf := p125) rfl ?_)
    unfold p125
    simp only [R.loop_eq, wp0, wp1, wp2, wp3, wp4, PV.cellsT, appMax, dropSh, fillB, fillS, putD, splice, src, startSt, Int.reduceAdd, Int.reduceEq, Int.reduceLE, Int.reduceLT, Int.reduceNeg, Int.reduceSub, Int.reduceToNat, Nat.reduceAdd, Nat.reduceDiv, Nat.reduceEqDiff, Nat.reduceLT, Nat.reduceLeDiff, Nat.reduceMod, Nat.reduceMul, Nat.reduceSub, eq_self, if_false, if_true, ite_false, ite_true, reduceIte, Ty.row, tyAll, Tm.row, tmAll, u0', u1', Int.toNat_zero, Int.toNat_one, decide_true]
  | @succ g a ha iha =>
    intro zg hz hs
    simp only [Tm.size] at hs
    have u0 := iha zg hz (by omega)
    have u1 := nat34 sh
    have u2 := list37 sh
    have u3 := same15 sh .nat .nat
    try simp only [Ty.row, tyAll, Tm.row, tmAll, Int.cast_ofNat_Int] at u0 u1 u2 u3
    have u0' := clR.use u0
    have u1' := clR.use u1
    have u2' := clR.use u2
    have u3' := clR.use u3
    refine run_eq (run_of (pf := p125) rfl ?_)
    unfold p125
    simp only [R.loop_eq, wp0, wp1, wp2, wp3, wp4, PV.cellsT, appMax, dropSh, fillB, fillS, putD, splice, src, startSt, Int.reduceAdd, Int.reduceEq, Int.reduceLE, Int.reduceLT, Int.reduceNeg, Int.reduceSub, Int.reduceToNat, Nat.reduceAdd, Nat.reduceDiv, Nat.reduceEqDiff, Nat.reduceLT, Nat.reduceLeDiff, Nat.reduceMod, Nat.reduceMul, Nat.reduceSub, eq_self, if_false, if_true, ite_false, ite_true, reduceIte, Ty.row, tyAll, Tm.row, tmAll, u0', u1', u2', u3', Int.toNat_zero, Int.toNat_one, decide_true]
  | @recu g s a b c ha hb hc hn iha ihb ihc =>
    intro zg hz hs
    simp only [Tm.size] at hs
    have u0 := iha zg hz (by omega)
    have u1 := ihb zg hz (by omega)
    have u2 := ihc zg hz (by omega)
    have u3 := nat34 sh
    have u4 := list37 sh
    have u5 := same15 sh s s
    have u6 := fun35 sh s s
    have u7 := fun35 sh .nat (.fn s s)
    have u8 := same15 sh (.fn .nat (.fn s s)) (.fn .nat (.fn s s))
    have u9 := same15 sh .nat .nat
    have u10 := copy50 sh s
    try simp only [Ty.row, tyAll, Tm.row, tmAll, Int.cast_ofNat_Int] at u0 u1 u2 u3 u4 u5 u6 u7 u8 u9 u10
    have u0' := clR.use u0
    have u1' := clR.use u1
    have u2' := clR.use u2
    have u3' := clR.use u3
    have u4' := clR.use u4
    have u5' := clR.use u5
    have u6' := clR.use u6
    have u7' := clR.use u7
    have u8' := clR.use u8
    have u9' := clR.use u9
    have u10' := clR.use u10
    refine run_eq (run_of (pf := p125) rfl ?_)
    unfold p125
    simp only [R.loop_eq, wp0, wp1, wp2, wp3, wp4, PV.cellsT, appMax, dropSh, fillB, fillS, putD, splice, src, startSt, Int.reduceAdd, Int.reduceEq, Int.reduceLE, Int.reduceLT, Int.reduceNeg, Int.reduceSub, Int.reduceToNat, Nat.reduceAdd, Nat.reduceDiv, Nat.reduceEqDiff, Nat.reduceLT, Nat.reduceLeDiff, Nat.reduceMod, Nat.reduceMul, Nat.reduceSub, eq_self, if_false, if_true, ite_false, ite_true, reduceIte, Ty.row, tyAll, Tm.row, tmAll, u0', u1', u2', u3', u4', u5', u6', u7', u8', u9', u10', Int.toNat_zero, Int.toNat_one, decide_true]
  | @nil g =>
    intro zg hz hs
    simp only [Tm.size] at hs
    have u0 := nat34 sh
    have u1 := list37 sh
    try simp only [Ty.row, tyAll, Tm.row, tmAll, Int.cast_ofNat_Int] at u0 u1
    have u0' := clR.use u0
    have u1' := clR.use u1
    refine run_eq (run_of (pf := p125) rfl ?_)
    unfold p125
    simp only [R.loop_eq, wp0, wp1, wp2, wp3, wp4, PV.cellsT, appMax, dropSh, fillB, fillS, putD, splice, src, startSt, Int.reduceAdd, Int.reduceEq, Int.reduceLE, Int.reduceLT, Int.reduceNeg, Int.reduceSub, Int.reduceToNat, Nat.reduceAdd, Nat.reduceDiv, Nat.reduceEqDiff, Nat.reduceLT, Nat.reduceLeDiff, Nat.reduceMod, Nat.reduceMul, Nat.reduceSub, eq_self, if_false, if_true, ite_false, ite_true, reduceIte, Ty.row, tyAll, Tm.row, tmAll, u0', u1', Int.toNat_zero, Int.toNat_one, decide_true]
  | @cons g a b ha hb iha ihb =>
    intro zg hz hs
    simp only [Tm.size] at hs
    have u0 := iha zg hz (by omega)
    have u1 := ihb zg hz (by omega)
    have u2 := nat34 sh
    have u3 := list37 sh
    have u4 := same15 sh .nat .nat
    have u5 := same15 sh .list .list
    try simp only [Ty.row, tyAll, Tm.row, tmAll, Int.cast_ofNat_Int] at u0 u1 u2 u3 u4 u5
    have u0' := clR.use u0
    have u1' := clR.use u1
    have u2' := clR.use u2
    have u3' := clR.use u3
    have u4' := clR.use u4
    have u5' := clR.use u5
    refine run_eq (run_of (pf := p125) rfl ?_)
    unfold p125
    simp only [R.loop_eq, wp0, wp1, wp2, wp3, wp4, PV.cellsT, appMax, dropSh, fillB, fillS, putD, splice, src, startSt, Int.reduceAdd, Int.reduceEq, Int.reduceLE, Int.reduceLT, Int.reduceNeg, Int.reduceSub, Int.reduceToNat, Nat.reduceAdd, Nat.reduceDiv, Nat.reduceEqDiff, Nat.reduceLT, Nat.reduceLeDiff, Nat.reduceMod, Nat.reduceMul, Nat.reduceSub, eq_self, if_false, if_true, ite_false, ite_true, reduceIte, Ty.row, tyAll, Tm.row, tmAll, u0', u1', u2', u3', u4', u5', Int.toNat_zero, Int.toNat_one, decide_true]
  | @fold g s a b c ha hb hc hn iha ihb ihc =>
    intro zg hz hs
    simp only [Tm.size] at hs
    have u0 := iha zg hz (by omega)
    have u1 := ihb zg hz (by omega)
    have u2 := ihc zg hz (by omega)
    have u3 := nat34 sh
    have u4 := list37 sh
    have u5 := same15 sh s s
    have u6 := fun35 sh s s
    have u7 := fun35 sh .list (.fn s s)
    have u8 := fun35 sh .nat (.fn .list (.fn s s))
    have u9 := same15 sh (.fn .nat (.fn .list (.fn s s))) (.fn .nat (.fn .list (.fn s s)))
    have u10 := same15 sh .list .list
    have u11 := copy50 sh s
    try simp only [Ty.row, tyAll, Tm.row, tmAll, Int.cast_ofNat_Int] at u0 u1 u2 u3 u4 u5 u6 u7 u8 u9 u10 u11
    have u0' := clR.use u0
    have u1' := clR.use u1
    have u2' := clR.use u2
    have u3' := clR.use u3
    have u4' := clR.use u4
    have u5' := clR.use u5
    have u6' := clR.use u6
    have u7' := clR.use u7
    have u8' := clR.use u8
    have u9' := clR.use u9
    have u10' := clR.use u10
    have u11' := clR.use u11
    refine run_eq (run_of (pf := p125) rfl ?_)
    unfold p125
    simp only [R.loop_eq, wp0, wp1, wp2, wp3, wp4, PV.cellsT, appMax, dropSh, fillB, fillS, putD, splice, src, startSt, Int.reduceAdd, Int.reduceEq, Int.reduceLE, Int.reduceLT, Int.reduceNeg, Int.reduceSub, Int.reduceToNat, Nat.reduceAdd, Nat.reduceDiv, Nat.reduceEqDiff, Nat.reduceLT, Nat.reduceLeDiff, Nat.reduceMod, Nat.reduceMul, Nat.reduceSub, eq_self, if_false, if_true, ite_false, ite_true, reduceIte, Ty.row, tyAll, Tm.row, tmAll, u0', u1', u2', u3', u4', u5', u6', u7', u8', u9', u10', u11', Int.toNat_zero, Int.toNat_one, decide_true]
  | @pair g s t a b ha hb hn iha ihb =>
    intro zg hz hs
    simp only [Tm.size] at hs
    have u0 := iha zg hz (by omega)
    have u1 := ihb zg hz (by omega)
    have u2 := nat34 sh
    have u3 := list37 sh
    have u4 := two39 sh s t
    have u5 := ok57 sh (.pair s t) hn
    try simp only [Ty.row, tyAll, Tm.row, tmAll, Int.cast_ofNat_Int] at u0 u1 u2 u3 u4 u5
    have u0' := clR.use u0
    have u1' := clR.use u1
    have u2' := clR.use u2
    have u3' := clR.use u3
    have u4' := clR.use u4
    have u5' := clR.use u5
    refine run_eq (run_of (pf := p125) rfl ?_)
    unfold p125
    simp only [R.loop_eq, wp0, wp1, wp2, wp3, wp4, PV.cellsT, appMax, dropSh, fillB, fillS, putD, splice, src, startSt, Int.reduceAdd, Int.reduceEq, Int.reduceLE, Int.reduceLT, Int.reduceNeg, Int.reduceSub, Int.reduceToNat, Nat.reduceAdd, Nat.reduceDiv, Nat.reduceEqDiff, Nat.reduceLT, Nat.reduceLeDiff, Nat.reduceMod, Nat.reduceMul, Nat.reduceSub, eq_self, if_false, if_true, ite_false, ite_true, reduceIte, Ty.row, tyAll, Tm.row, tmAll, u0', u1', u2', u3', u4', u5', Int.toNat_zero, Int.toNat_one, decide_true]
  | @fst g s t a ha hn iha =>
    intro zg hz hs
    simp only [Tm.size] at hs
    have u0 := iha zg hz (by omega)
    have u1 := nat34 sh
    have u2 := list37 sh
    try simp only [Ty.row, tyAll, Tm.row, tmAll, Int.cast_ofNat_Int] at u0 u1 u2
    have u0' := clR.use u0
    have u1' := clR.use u1
    have u2' := clR.use u2
    refine run_eq (run_of (pf := p125) rfl ?_)
    unfold p125
    simp only [R.loop_eq, wp0, wp1, wp2, wp3, wp4, PV.cellsT, appMax, dropSh, fillB, fillS, putD, splice, src, startSt, Int.reduceAdd, Int.reduceEq, Int.reduceLE, Int.reduceLT, Int.reduceNeg, Int.reduceSub, Int.reduceToNat, Nat.reduceAdd, Nat.reduceDiv, Nat.reduceEqDiff, Nat.reduceLT, Nat.reduceLeDiff, Nat.reduceMod, Nat.reduceMul, Nat.reduceSub, eq_self, if_false, if_true, ite_false, ite_true, reduceIte, Ty.row, tyAll, Tm.row, tmAll, u0', u1', u2', Int.toNat_zero, Int.toNat_one, decide_true]
  | @snd g s t a ha hn iha =>
    intro zg hz hs
    simp only [Tm.size] at hs
    have u0 := iha zg hz (by omega)
    have u1 := nat34 sh
    have u2 := list37 sh
    try simp only [Ty.row, tyAll, Tm.row, tmAll, Int.cast_ofNat_Int] at u0 u1 u2
    have u0' := clR.use u0
    have u1' := clR.use u1
    have u2' := clR.use u2
    refine run_eq (run_of (pf := p125) rfl ?_)
    unfold p125
    simp only [R.loop_eq, wp0, wp1, wp2, wp3, wp4, PV.cellsT, appMax, dropSh, fillB, fillS, putD, splice, src, startSt, Int.reduceAdd, Int.reduceEq, Int.reduceLE, Int.reduceLT, Int.reduceNeg, Int.reduceSub, Int.reduceToNat, Nat.reduceAdd, Nat.reduceDiv, Nat.reduceEqDiff, Nat.reduceLT, Nat.reduceLeDiff, Nat.reduceMod, Nat.reduceMul, Nat.reduceSub, eq_self, if_false, if_true, ite_false, ite_true, reduceIte, Ty.row, tyAll, Tm.row, tmAll, u0', u1', u2', Int.toNat_zero, Int.toNat_one, decide_true]
  | @unit g =>
    intro zg hz hs
    simp only [Tm.size] at hs
    have u0 := nat34 sh
    have u1 := list37 sh
    have u2 := unit38 sh
    try simp only [Ty.row, tyAll, Tm.row, tmAll, Int.cast_ofNat_Int] at u0 u1 u2
    have u0' := clR.use u0
    have u1' := clR.use u1
    have u2' := clR.use u2
    refine run_eq (run_of (pf := p125) rfl ?_)
    unfold p125
    simp only [R.loop_eq, wp0, wp1, wp2, wp3, wp4, PV.cellsT, appMax, dropSh, fillB, fillS, putD, splice, src, startSt, Int.reduceAdd, Int.reduceEq, Int.reduceLE, Int.reduceLT, Int.reduceNeg, Int.reduceSub, Int.reduceToNat, Nat.reduceAdd, Nat.reduceDiv, Nat.reduceEqDiff, Nat.reduceLT, Nat.reduceLeDiff, Nat.reduceMod, Nat.reduceMul, Nat.reduceSub, eq_self, if_false, if_true, ite_false, ite_true, reduceIte, Ty.row, tyAll, Tm.row, tmAll, u0', u1', u2', Int.toNat_zero, Int.toNat_one, decide_true]
theorem typed14 (sh : Sh) {g : List Ty} {x : Tm} {t : Ty} (h : HasTy g x t) (zg : Nat) (hz : g ≠ [] → zg = 2) (hg : g.length ≤ 1000) (hs : x.size ≤ 4096) :
    ∃ n, callN T G n 99 [.sl 0 zg (g.map Ty.row), .ag x.row] sh = some (.tup [.ag t.row, i64 0], sh) := by
  have u0 := check36 sh x h.ok hs
  have u1 := infer40 sh h zg hz (by omega)
  try simp only [Ty.row, tyAll, Tm.row, tmAll, Int.cast_ofNat_Int] at u0 u1
  have u0' := clR.use u0
  have u1' := clR.use u1
  refine run_eq (run_of (pf := p99) rfl ?_)
  unfold p99
  simp only [R.loop_eq, wp0, wp1, wp2, wp3, wp4, PV.cellsT, appMax, dropSh, fillB, fillS, putD, splice, src, startSt, Int.reduceAdd, Int.reduceEq, Int.reduceLE, Int.reduceLT, Int.reduceNeg, Int.reduceSub, Int.reduceToNat, Nat.reduceAdd, Nat.reduceDiv, Nat.reduceEqDiff, Nat.reduceLT, Nat.reduceLeDiff, Nat.reduceMod, Nat.reduceMul, Nat.reduceSub, eq_self, if_false, if_true, ite_false, ite_true, reduceIte, Ty.row, tyAll, Tm.row, tmAll, u0', u1']
end Go.Pi.Terms
