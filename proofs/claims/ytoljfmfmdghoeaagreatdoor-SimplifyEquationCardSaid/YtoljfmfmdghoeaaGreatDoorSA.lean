import Derived.Test.YtoljfmfmdghoeaaGreatDoorTQ
import Derived.Test.YtoljfmfmdghoeaaGreatDoorM1
set_option maxRecDepth 100000
set_option maxHeartbeats 1000000
set_option linter.unusedSimpArgs false
set_option linter.unusedVariables false
namespace Go.Pi.Terms
open Go Go.Pi Go.Proofs.YtoljfmfmdghoeaaGreatDoor
def Tm.low (B : Nat) : Tm → Prop
  | .var i => i ≤ B
  | .lam s a => a.low B
  | .app a b => a.low B ∧ b.low B
  | .zero => True
  | .succ a => a.low B
  | .recu s a b c => a.low B ∧ b.low B ∧ c.low B
  | .nil => True
  | .cons a b => a.low B ∧ b.low B
  | .fold s a b c => a.low B ∧ b.low B ∧ c.low B
  | .pair a b => a.low B ∧ b.low B
  | .fst a => a.low B
  | .snd a => a.low B
  | .unit => True
theorem far55 (sh : Sh) : ∀ t : Tm, t.low 536870912 → ∃ n, callN T G n 53 [.ag t.row] sh = some (.v (.bool false), sh) := by
  intro t
  induction t with
  | var i =>
    intro h
    have c1 : ¬ (536870912 : Int) < (i : Int) := by have h' : i ≤ 536870912 := h; omega
    refine run_eq (run_of (pf := p53) rfl ?_)
    unfold p53
    simp only [R.loop_eq, wp0, wp1, wp2, wp3, wp4, PV.cellsT, appMax, dropSh, fillB, fillS, putD, splice, src, startSt, Int.reduceAdd, Int.reduceEq, Int.reduceLE, Int.reduceLT, Int.reduceNeg, Int.reduceSub, Int.reduceToNat, Nat.reduceAdd, Nat.reduceDiv, Nat.reduceEqDiff, Nat.reduceLT, Nat.reduceLeDiff, Nat.reduceMod, Nat.reduceMul, Nat.reduceSub, eq_self, if_false, if_true, ite_false, ite_true, reduceIte, Ty.row, tyAll, Tm.row, tmAll, c1]
  | lam s a iha =>
    intro h
    have u0 := iha h
    try simp only [Ty.row, tyAll, Tm.row, tmAll, Int.cast_ofNat_Int] at u0
    have u0' := clR.use u0
    refine run_eq (run_of (pf := p53) rfl ?_)
    unfold p53
    simp only [R.loop_eq, wp0, wp1, wp2, wp3, wp4, PV.cellsT, appMax, dropSh, fillB, fillS, putD, splice, src, startSt, Int.reduceAdd, Int.reduceEq, Int.reduceLE, Int.reduceLT, Int.reduceNeg, Int.reduceSub, Int.reduceToNat, Nat.reduceAdd, Nat.reduceDiv, Nat.reduceEqDiff, Nat.reduceLT, Nat.reduceLeDiff, Nat.reduceMod, Nat.reduceMul, Nat.reduceSub, eq_self, if_false, if_true, ite_false, ite_true, reduceIte, Ty.row, tyAll, Tm.row, tmAll, u0']
  | app a b iha ihb =>
    intro h
    have u0 := iha h.1
    have u1 := ihb h.2
    try simp only [Ty.row, tyAll, Tm.row, tmAll, Int.cast_ofNat_Int] at u0 u1
    have u0' := clR.use u0
    have u1' := clR.use u1
    refine run_eq (run_of (pf := p53) rfl ?_)
    unfold p53
    simp only [R.loop_eq, wp0, wp1, wp2, wp3, wp4, PV.cellsT, appMax, dropSh, fillB, fillS, putD, splice, src, startSt, Int.reduceAdd, Int.reduceEq, Int.reduceLE, Int.reduceLT, Int.reduceNeg, Int.reduceSub, Int.reduceToNat, Nat.reduceAdd, Nat.reduceDiv, Nat.reduceEqDiff, Nat.reduceLT, Nat.reduceLeDiff, Nat.reduceMod, Nat.reduceMul, Nat.reduceSub, eq_self, if_false, if_true, ite_false, ite_true, reduceIte, Ty.row, tyAll, Tm.row, tmAll, u0', u1']
  | zero =>
    intro h
    refine run_eq (run_of (pf := p53) rfl ?_)
    unfold p53
    simp only [R.loop_eq, wp0, wp1, wp2, wp3, wp4, PV.cellsT, appMax, dropSh, fillB, fillS, putD, splice, src, startSt, Int.reduceAdd, Int.reduceEq, Int.reduceLE, Int.reduceLT, Int.reduceNeg, Int.reduceSub, Int.reduceToNat, Nat.reduceAdd, Nat.reduceDiv, Nat.reduceEqDiff, Nat.reduceLT, Nat.reduceLeDiff, Nat.reduceMod, Nat.reduceMul, Nat.reduceSub, eq_self, if_false, if_true, ite_false, ite_true, reduceIte, Ty.row, tyAll, Tm.row, tmAll]
  | succ a iha =>
    intro h
    have u0 := iha h
    try simp only [Ty.row, tyAll, Tm.row, tmAll, Int.cast_ofNat_Int] at u0
    have u0' := clR.use u0
    refine run_eq (run_of (pf := p53) rfl ?_)
    unfold p53
    simp only [R.loop_eq, wp0, wp1, wp2, wp3, wp4, PV.cellsT, appMax, dropSh, fillB, fillS, putD, splice, src, startSt, Int.reduceAdd, Int.reduceEq, Int.reduceLE, Int.reduceLT, Int.reduceNeg, Int.reduceSub, Int.reduceToNat, Nat.reduceAdd, Nat.reduceDiv, Nat.reduceEqDiff, Nat.reduceLT, Nat.reduceLeDiff, Nat.reduceMod, Nat.reduceMul, Nat.reduceSub, eq_self, if_false, if_true, ite_false, ite_true, reduceIte, Ty.row, tyAll, Tm.row, tmAll, u0']
  | recu s a b c iha ihb ihc =>
    intro h
    have u0 := iha h.1
    have u1 := ihb h.2.1
    have u2 := ihc h.2.2
    try simp only [Ty.row, tyAll, Tm.row, tmAll, Int.cast_ofNat_Int] at u0 u1 u2
    have u0' := clR.use u0
    have u1' := clR.use u1
    have u2' := clR.use u2
    refine run_eq (run_of (pf := p53) rfl ?_)
    unfold p53
    simp only [R.loop_eq, wp0, wp1, wp2, wp3, wp4, PV.cellsT, appMax, dropSh, fillB, fillS, putD, splice, src, startSt, Int.reduceAdd, Int.reduceEq, Int.reduceLE, Int.reduceLT, Int.reduceNeg, Int.reduceSub, Int.reduceToNat, Nat.reduceAdd, Nat.reduceDiv, Nat.reduceEqDiff, Nat.reduceLT, Nat.reduceLeDiff, Nat.reduceMod, Nat.reduceMul, Nat.reduceSub, eq_self, if_false, if_true, ite_false, ite_true, reduceIte, Ty.row, tyAll, Tm.row, tmAll, u0', u1', u2']
  | nil =>
    intro h
    refine run_eq (run_of (pf := p53) rfl ?_)
    unfold p53
    simp only [R.loop_eq, wp0, wp1, wp2, wp3, wp4, PV.cellsT, appMax, dropSh, fillB, fillS, putD, splice, src, startSt, Int.reduceAdd, Int.reduceEq, Int.reduceLE, Int.reduceLT, Int.reduceNeg, Int.reduceSub, Int.reduceToNat, Nat.reduceAdd, Nat.reduceDiv, Nat.reduceEqDiff, Nat.reduceLT, Nat.reduceLeDiff, Nat.reduceMod, Nat.reduceMul, Nat.reduceSub, eq_self, if_false, if_true, ite_false, ite_true, reduceIte, Ty.row, tyAll, Tm.row, tmAll]
  | cons a b iha ihb =>
    intro h
    have u0 := iha h.1
    have u1 := ihb h.2
    try simp only [Ty.row, tyAll, Tm.row, tmAll, Int.cast_ofNat_Int] at u0 u1
    have u0' := clR.use u0
    have u1' := clR.use u1
    refine run_eq (run_of (pf := p53) rfl ?_)
    unfold p53
    simp only [R.loop_eq, wp0, wp1, wp2, wp3, wp4, PV.cellsT, appMax, dropSh, fillB, fillS, putD, splice, src, startSt, Int.reduceAdd, Int.reduceEq, Int.reduceLE, Int.reduceLT, Int.reduceNeg, Int.reduceSub, Int.reduceToNat, Nat.reduceAdd, Nat.reduceDiv, Nat.reduceEqDiff, Nat.reduceLT, Nat.reduceLeDiff, Nat.reduceMod, Nat.reduceMul, Nat.reduceSub, eq_self, if_false, if_true, ite_false, ite_true, reduceIte, Ty.row, tyAll, Tm.row, tmAll, u0', u1']
  | fold s a b c iha ihb ihc =>
    intro h
    have u0 := iha h.1
    have u1 := ihb h.2.1
    have u2 := ihc h.2.2
    try simp only [Ty.row, tyAll, Tm.row, tmAll, Int.cast_ofNat_Int] at u0 u1 u2
    have u0' := clR.use u0
    have u1' := clR.use u1
    have u2' := clR.use u2
    refine run_eq (run_of (pf := p53) rfl ?_)
    unfold p53
    simp only [R.loop_eq, wp0, wp1, wp2, wp3, wp4, PV.cellsT, appMax, dropSh, fillB, fillS, putD, splice, src, startSt, Int.reduceAdd, Int.reduceEq, Int.reduceLE, Int.reduceLT, Int.reduceNeg, Int.reduceSub, Int.reduceToNat, Nat.reduceAdd, Nat.reduceDiv, Nat.reduceEqDiff, Nat.reduceLT, Nat.reduceLeDiff, Nat.reduceMod, Nat.reduceMul, Nat.reduceSub, eq_self, if_false, if_true, ite_false, ite_true, reduceIte, Ty.row, tyAll, Tm.row, tmAll, u0', u1', u2']
  | pair a b iha ihb =>
    intro h
    have u0 := iha h.1
    have u1 := ihb h.2
    try simp only [Ty.row, tyAll, Tm.row, tmAll, Int.cast_ofNat_Int] at u0 u1
    have u0' := clR.use u0
    have u1' := clR.use u1
    refine run_eq (run_of (pf := p53) rfl ?_)
    unfold p53
    simp only [R.loop_eq, wp0, wp1, wp2, wp3, wp4, PV.cellsT, appMax, dropSh, fillB, fillS, putD, splice, src, startSt, Int.reduceAdd, Int.reduceEq, Int.reduceLE, Int.reduceLT, Int.reduceNeg, Int.reduceSub, Int.reduceToNat, Nat.reduceAdd, Nat.reduceDiv, Nat.reduceEqDiff, Nat.reduceLT, Nat.reduceLeDiff, Nat.reduceMod, Nat.reduceMul, Nat.reduceSub, eq_self, if_false, if_true, ite_false, ite_true, reduceIte, Ty.row, tyAll, Tm.row, tmAll, u0', u1']
  | fst a iha =>
    intro h
    have u0 := iha h
    try simp only [Ty.row, tyAll, Tm.row, tmAll, Int.cast_ofNat_Int] at u0
    have u0' := clR.use u0
    refine run_eq (run_of (pf := p53) rfl ?_)
    unfold p53
    simp only [R.loop_eq, wp0, wp1, wp2, wp3, wp4, PV.cellsT, appMax, dropSh, fillB, fillS, putD, splice, src, startSt, Int.reduceAdd, Int.reduceEq, Int.reduceLE, Int.reduceLT, Int.reduceNeg, Int.reduceSub, Int.reduceToNat, Nat.reduceAdd, Nat.reduceDiv, Nat.reduceEqDiff, Nat.reduceLT, Nat.reduceLeDiff, Nat.reduceMod, Nat.reduceMul, Nat.reduceSub, eq_self, if_false, if_true, ite_false, ite_true, reduceIte, Ty.row, tyAll, Tm.row, tmAll, u0']
  | snd a iha =>
    intro h
    have u0 := iha h
    try simp only [Ty.row, tyAll, Tm.row, tmAll, Int.cast_ofNat_Int] at u0
    have u0' := clR.use u0
    refine run_eq (run_of (pf := p53) rfl ?_)
    unfold p53
    simp only [R.loop_eq, wp0, wp1, wp2, wp3, wp4, PV.cellsT, appMax, dropSh, fillB, fillS, putD, splice, src, startSt, Int.reduceAdd, Int.reduceEq, Int.reduceLE, Int.reduceLT, Int.reduceNeg, Int.reduceSub, Int.reduceToNat, Nat.reduceAdd, Nat.reduceDiv, Nat.reduceEqDiff, Nat.reduceLT, Nat.reduceLeDiff, Nat.reduceMod, Nat.reduceMul, Nat.reduceSub, eq_self, if_false, if_true, ite_false, ite_true, reduceIte, Ty.row, tyAll, Tm.row, tmAll, u0']
  | unit =>
    intro h
    refine run_eq (run_of (pf := p53) rfl ?_)
    unfold p53
    simp only [R.loop_eq, wp0, wp1, wp2, wp3, wp4, PV.cellsT, appMax, dropSh, fillB, fillS, putD, splice, src, startSt, Int.reduceAdd, Int.reduceEq, Int.reduceLE, Int.reduceLT, Int.reduceNeg, Int.reduceSub, Int.reduceToNat, Nat.reduceAdd, Nat.reduceDiv, Nat.reduceEqDiff, Nat.reduceLT, Nat.reduceLeDiff, Nat.reduceMod, Nat.reduceMul, Nat.reduceSub, eq_self, if_false, if_true, ite_false, ite_true, reduceIte, Ty.row, tyAll, Tm.row, tmAll]
theorem look38 (sh : Sh) (t : Tm) (ho : t.ok) (hs : t.size ≤ 4096) (hl : t.low 536870912) : ∃ n, callN T G n 22 [.ag t.row] sh = some (i64 0, sh) := by
  have u0 := check27 sh t ho hs
  have u1 := far55 sh t hl
  try simp only [Ty.row, tyAll, Tm.row, tmAll, Int.cast_ofNat_Int] at u0 u1
  have u0' := clR.use u0
  have u1' := clR.use u1
  refine run_eq (run_of (pf := p22) rfl ?_)
  unfold p22
  simp only [R.loop_eq, wp0, wp1, wp2, wp3, wp4, PV.cellsT, appMax, dropSh, fillB, fillS, putD, splice, src, startSt, Int.reduceAdd, Int.reduceEq, Int.reduceLE, Int.reduceLT, Int.reduceNeg, Int.reduceSub, Int.reduceToNat, Nat.reduceAdd, Nat.reduceDiv, Nat.reduceEqDiff, Nat.reduceLT, Nat.reduceLeDiff, Nat.reduceMod, Nat.reduceMul, Nat.reduceSub, eq_self, if_false, if_true, ite_false, ite_true, reduceIte, Ty.row, tyAll, Tm.row, tmAll, u0', u1']
def Tm.cnt : Nat → Tm → Nat
  | k, .var i => if i = k then 1 else 0
  | k, .lam s a => a.cnt (k + 1)
  | k, .app a b => a.cnt k + b.cnt k
  | k, .zero => 0
  | k, .succ a => a.cnt k
  | k, .recu s a b c => a.cnt k + b.cnt k + c.cnt k
  | k, .nil => 0
  | k, .cons a b => a.cnt k + b.cnt k
  | k, .fold s a b c => a.cnt k + b.cnt k + c.cnt k
  | k, .pair a b => a.cnt k + b.cnt k
  | k, .fst a => a.cnt k
  | k, .snd a => a.cnt k
  | k, .unit => 0
theorem cnt_le : ∀ (t : Tm) (k : Nat), t.cnt k ≤ t.size
  | .var i, k => by simp only [Tm.cnt, Tm.size]; split <;> omega
  | .lam s a, k => by
    have ha := cnt_le a (k + 1)
    simp only [Tm.cnt, Tm.size]; omega
  | .app a b, k => by
    have ha := cnt_le a k
    have hb := cnt_le b k
    simp only [Tm.cnt, Tm.size]; omega
  | .zero, k => by simp only [Tm.cnt, Tm.size]; omega
  | .succ a, k => by
    have ha := cnt_le a k
    simp only [Tm.cnt, Tm.size]; omega
  | .recu s a b c, k => by
    have ha := cnt_le a k
    have hb := cnt_le b k
    have hc := cnt_le c k
    simp only [Tm.cnt, Tm.size]; omega
  | .nil, k => by simp only [Tm.cnt, Tm.size]; omega
  | .cons a b, k => by
    have ha := cnt_le a k
    have hb := cnt_le b k
    simp only [Tm.cnt, Tm.size]; omega
  | .fold s a b c, k => by
    have ha := cnt_le a k
    have hb := cnt_le b k
    have hc := cnt_le c k
    simp only [Tm.cnt, Tm.size]; omega
  | .pair a b, k => by
    have ha := cnt_le a k
    have hb := cnt_le b k
    simp only [Tm.cnt, Tm.size]; omega
  | .fst a, k => by
    have ha := cnt_le a k
    simp only [Tm.cnt, Tm.size]; omega
  | .snd a, k => by
    have ha := cnt_le a k
    simp only [Tm.cnt, Tm.size]; omega
  | .unit, k => by simp only [Tm.cnt, Tm.size]; omega
theorem times59 (sh : Sh) : ∀ (t : Tm) (k : Nat), t.size ≤ 100000 → k + t.size ≤ 1000000 → ∃ n, callN T G n 83 [.ag t.row, i64 (k : Int)] sh = some (i64 (t.cnt k : Int), sh) := by
  intro t
  induction t with
  | var i =>
    intro k h hk
    by_cases e : i = k
    · have c1 : (i : Int) = (k : Int) := by omega
      have c2 : ((Tm.var i).cnt k : Int) = 1 := by simp only [Tm.cnt, e, if_true]; rfl
      rw [c2]
      refine run_eq (run_of (pf := p83) rfl ?_)
      unfold p83
      simp only [R.loop_eq, wp0, wp1, wp2, wp3, wp4, PV.cellsT, appMax, dropSh, fillB, fillS, putD, splice, src, startSt, Int.reduceAdd, Int.reduceEq, Int.reduceLE, Int.reduceLT, Int.reduceNeg, Int.reduceSub, Int.reduceToNat, Nat.reduceAdd, Nat.reduceDiv, Nat.reduceEqDiff, Nat.reduceLT, Nat.reduceLeDiff, Nat.reduceMod, Nat.reduceMul, Nat.reduceSub, eq_self, if_false, if_true, ite_false, ite_true, reduceIte, Ty.row, tyAll, Tm.row, tmAll, c1]
    · have c1 : ¬ (i : Int) = (k : Int) := by omega
      have c2 : ((Tm.var i).cnt k : Int) = 0 := by simp only [Tm.cnt, if_neg e]; rfl
      rw [c2]
      refine run_eq (run_of (pf := p83) rfl ?_)
      unfold p83
      simp only [R.loop_eq, wp0, wp1, wp2, wp3, wp4, PV.cellsT, appMax, dropSh, fillB, fillS, putD, splice, src, startSt, Int.reduceAdd, Int.reduceEq, Int.reduceLE, Int.reduceLT, Int.reduceNeg, Int.reduceSub, Int.reduceToNat, Nat.reduceAdd, Nat.reduceDiv, Nat.reduceEqDiff, Nat.reduceLT, Nat.reduceLeDiff, Nat.reduceMod, Nat.reduceMul, Nat.reduceSub, eq_self, if_false, if_true, ite_false, ite_true, reduceIte, Ty.row, tyAll, Tm.row, tmAll, c1]
  | lam s a iha =>
    intro k h hk
    simp only [Tm.size] at h hk
    have la := cnt_le a (k + 1)
    have w0 : IntKind.i64.wrap ((0 : Int) + (a.cnt (k + 1) : Int)) = (a.cnt (k + 1) : Int) := by rw [wrap_i64 (by omega)]; omega
    have wk : IntKind.i64.wrap ((k : Int) + 1) = ((k + 1 : Nat) : Int) := by rw [wrap_i64 (by omega)]; omega
    have c2 : (Tm.lam s a).cnt k = a.cnt (k + 1) := rfl
    rw [c2]
    have u0 := iha (k + 1) (by omega) (by omega)
    try simp only [Ty.row, tyAll, Tm.row, tmAll, Int.cast_ofNat_Int] at u0
    have u0' := clR.use u0
    refine run_eq (run_of (pf := p83) rfl ?_)
    unfold p83
    simp only [R.loop_eq, wp0, wp1, wp2, wp3, wp4, PV.cellsT, appMax, dropSh, fillB, fillS, putD, splice, src, startSt, Int.reduceAdd, Int.reduceEq, Int.reduceLE, Int.reduceLT, Int.reduceNeg, Int.reduceSub, Int.reduceToNat, Nat.reduceAdd, Nat.reduceDiv, Nat.reduceEqDiff, Nat.reduceLT, Nat.reduceLeDiff, Nat.reduceMod, Nat.reduceMul, Nat.reduceSub, eq_self, if_false, if_true, ite_false, ite_true, reduceIte, Ty.row, tyAll, Tm.row, tmAll, u0', w0, wk]
  | app a b iha ihb =>
    intro k h hk
    simp only [Tm.size] at h hk
    have la := cnt_le a k
    have lb := cnt_le b k
    have w0 : IntKind.i64.wrap ((0 : Int) + (a.cnt k : Int)) = (a.cnt k : Int) := by rw [wrap_i64 (by omega)]; omega
    have w1 : IntKind.i64.wrap ((a.cnt k : Int) + (b.cnt k : Int)) = ((a.cnt k + b.cnt k : Nat) : Int) := by rw [wrap_i64 (by omega)]; omega
    have c2 : (Tm.app a b).cnt k = a.cnt k + b.cnt k := rfl
    rw [c2]
    have u0 := iha k (by omega) (by omega)
    have u1 := ihb k (by omega) (by omega)
    try simp only [Ty.row, tyAll, Tm.row, tmAll, Int.cast_ofNat_Int] at u0 u1
    have u0' := clR.use u0
    have u1' := clR.use u1
    refine run_eq (run_of (pf := p83) rfl ?_)
    unfold p83
    simp only [R.loop_eq, wp0, wp1, wp2, wp3, wp4, PV.cellsT, appMax, dropSh, fillB, fillS, putD, splice, src, startSt, Int.reduceAdd, Int.reduceEq, Int.reduceLE, Int.reduceLT, Int.reduceNeg, Int.reduceSub, Int.reduceToNat, Nat.reduceAdd, Nat.reduceDiv, Nat.reduceEqDiff, Nat.reduceLT, Nat.reduceLeDiff, Nat.reduceMod, Nat.reduceMul, Nat.reduceSub, eq_self, if_false, if_true, ite_false, ite_true, reduceIte, Ty.row, tyAll, Tm.row, tmAll, u0', u1', w0, w1]
  | zero =>
    intro k h hk
    have c2 : ((Tm.zero).cnt k : Int) = 0 := rfl
    rw [c2]
    refine run_eq (run_of (pf := p83) rfl ?_)
    unfold p83
    simp only [R.loop_eq, wp0, wp1, wp2, wp3, wp4, PV.cellsT, appMax, dropSh, fillB, fillS, putD, splice, src, startSt, Int.reduceAdd, Int.reduceEq, Int.reduceLE, Int.reduceLT, Int.reduceNeg, Int.reduceSub, Int.reduceToNat, Nat.reduceAdd, Nat.reduceDiv, Nat.reduceEqDiff, Nat.reduceLT, Nat.reduceLeDiff, Nat.reduceMod, Nat.reduceMul, Nat.reduceSub, eq_self, if_false, if_true, ite_false, ite_true, reduceIte, Ty.row, tyAll, Tm.row, tmAll]
  | succ a iha =>
    intro k h hk
    simp only [Tm.size] at h hk
    have la := cnt_le a k
    have w0 : IntKind.i64.wrap ((0 : Int) + (a.cnt k : Int)) = (a.cnt k : Int) := by rw [wrap_i64 (by omega)]; omega
    have c2 : (Tm.succ a).cnt k = a.cnt k := rfl
    rw [c2]
    have u0 := iha k (by omega) (by omega)
    try simp only [Ty.row, tyAll, Tm.row, tmAll, Int.cast_ofNat_Int] at u0
    have u0' := clR.use u0
    refine run_eq (run_of (pf := p83) rfl ?_)
    unfold p83
    simp only [R.loop_eq, wp0, wp1, wp2, wp3, wp4, PV.cellsT, appMax, dropSh, fillB, fillS, putD, splice, src, startSt, Int.reduceAdd, Int.reduceEq, Int.reduceLE, Int.reduceLT, Int.reduceNeg, Int.reduceSub, Int.reduceToNat, Nat.reduceAdd, Nat.reduceDiv, Nat.reduceEqDiff, Nat.reduceLT, Nat.reduceLeDiff, Nat.reduceMod, Nat.reduceMul, Nat.reduceSub, eq_self, if_false, if_true, ite_false, ite_true, reduceIte, Ty.row, tyAll, Tm.row, tmAll, u0', w0]
  | recu s a b c iha ihb ihc =>
    intro k h hk
    simp only [Tm.size] at h hk
    have la := cnt_le a k
    have lb := cnt_le b k
    have lc := cnt_le c k
    have w0 : IntKind.i64.wrap ((0 : Int) + (a.cnt k : Int)) = (a.cnt k : Int) := by rw [wrap_i64 (by omega)]; omega
    have w1 : IntKind.i64.wrap ((a.cnt k : Int) + (b.cnt k : Int)) = ((a.cnt k + b.cnt k : Nat) : Int) := by rw [wrap_i64 (by omega)]; omega
    have w2 : IntKind.i64.wrap (((a.cnt k + b.cnt k : Nat) : Int) + (c.cnt k : Int)) = ((a.cnt k + b.cnt k + c.cnt k : Nat) : Int) := by rw [wrap_i64 (by omega)]; omega
    have c2 : (Tm.recu s a b c).cnt k = a.cnt k + b.cnt k + c.cnt k := rfl
    rw [c2]
    have u0 := iha k (by omega) (by omega)
    have u1 := ihb k (by omega) (by omega)
    have u2 := ihc k (by omega) (by omega)
    try simp only [Ty.row, tyAll, Tm.row, tmAll, Int.cast_ofNat_Int] at u0 u1 u2
    have u0' := clR.use u0
    have u1' := clR.use u1
    have u2' := clR.use u2
    refine run_eq (run_of (pf := p83) rfl ?_)
    unfold p83
    simp only [R.loop_eq, wp0, wp1, wp2, wp3, wp4, PV.cellsT, appMax, dropSh, fillB, fillS, putD, splice, src, startSt, Int.reduceAdd, Int.reduceEq, Int.reduceLE, Int.reduceLT, Int.reduceNeg, Int.reduceSub, Int.reduceToNat, Nat.reduceAdd, Nat.reduceDiv, Nat.reduceEqDiff, Nat.reduceLT, Nat.reduceLeDiff, Nat.reduceMod, Nat.reduceMul, Nat.reduceSub, eq_self, if_false, if_true, ite_false, ite_true, reduceIte, Ty.row, tyAll, Tm.row, tmAll, u0', u1', u2', w0, w1, w2]
  | nil =>
    intro k h hk
    have c2 : ((Tm.nil).cnt k : Int) = 0 := rfl
    rw [c2]
    refine run_eq (run_of (pf := p83) rfl ?_)
    unfold p83
    simp only [R.loop_eq, wp0, wp1, wp2, wp3, wp4, PV.cellsT, appMax, dropSh, fillB, fillS, putD, splice, src, startSt, Int.reduceAdd, Int.reduceEq, Int.reduceLE, Int.reduceLT, Int.reduceNeg, Int.reduceSub, Int.reduceToNat, Nat.reduceAdd, Nat.reduceDiv, Nat.reduceEqDiff, Nat.reduceLT, Nat.reduceLeDiff, Nat.reduceMod, Nat.reduceMul, Nat.reduceSub, eq_self, if_false, if_true, ite_false, ite_true, reduceIte, Ty.row, tyAll, Tm.row, tmAll]
  | cons a b iha ihb =>
    intro k h hk
    simp only [Tm.size] at h hk
    have la := cnt_le a k
    have lb := cnt_le b k
    have w0 : IntKind.i64.wrap ((0 : Int) + (a.cnt k : Int)) = (a.cnt k : Int) := by rw [wrap_i64 (by omega)]; omega
    have w1 : IntKind.i64.wrap ((a.cnt k : Int) + (b.cnt k : Int)) = ((a.cnt k + b.cnt k : Nat) : Int) := by rw [wrap_i64 (by omega)]; omega
    have c2 : (Tm.cons a b).cnt k = a.cnt k + b.cnt k := rfl
    rw [c2]
    have u0 := iha k (by omega) (by omega)
    have u1 := ihb k (by omega) (by omega)
    try simp only [Ty.row, tyAll, Tm.row, tmAll, Int.cast_ofNat_Int] at u0 u1
    have u0' := clR.use u0
    have u1' := clR.use u1
    refine run_eq (run_of (pf := p83) rfl ?_)
    unfold p83
    simp only [R.loop_eq, wp0, wp1, wp2, wp3, wp4, PV.cellsT, appMax, dropSh, fillB, fillS, putD, splice, src, startSt, Int.reduceAdd, Int.reduceEq, Int.reduceLE, Int.reduceLT, Int.reduceNeg, Int.reduceSub, Int.reduceToNat, Nat.reduceAdd, Nat.reduceDiv, Nat.reduceEqDiff, Nat.reduceLT, Nat.reduceLeDiff, Nat.reduceMod, Nat.reduceMul, Nat.reduceSub, eq_self, if_false, if_true, ite_false, ite_true, reduceIte, Ty.row, tyAll, Tm.row, tmAll, u0', u1', w0, w1]
  | fold s a b c iha ihb ihc =>
    intro k h hk
    simp only [Tm.size] at h hk
    have la := cnt_le a k
    have lb := cnt_le b k
    have lc := cnt_le c k
    have w0 : IntKind.i64.wrap ((0 : Int) + (a.cnt k : Int)) = (a.cnt k : Int) := by rw [wrap_i64 (by omega)]; omega
    have w1 : IntKind.i64.wrap ((a.cnt k : Int) + (b.cnt k : Int)) = ((a.cnt k + b.cnt k : Nat) : Int) := by rw [wrap_i64 (by omega)]; omega
    have w2 : IntKind.i64.wrap (((a.cnt k + b.cnt k : Nat) : Int) + (c.cnt k : Int)) = ((a.cnt k + b.cnt k + c.cnt k : Nat) : Int) := by rw [wrap_i64 (by omega)]; omega
    have c2 : (Tm.fold s a b c).cnt k = a.cnt k + b.cnt k + c.cnt k := rfl
    rw [c2]
    have u0 := iha k (by omega) (by omega)
    have u1 := ihb k (by omega) (by omega)
    have u2 := ihc k (by omega) (by omega)
    try simp only [Ty.row, tyAll, Tm.row, tmAll, Int.cast_ofNat_Int] at u0 u1 u2
    have u0' := clR.use u0
    have u1' := clR.use u1
    have u2' := clR.use u2
    refine run_eq (run_of (pf := p83) rfl ?_)
    unfold p83
    simp only [R.loop_eq, wp0, wp1, wp2, wp3, wp4, PV.cellsT, appMax, dropSh, fillB, fillS, putD, splice, src, startSt, Int.reduceAdd, Int.reduceEq, Int.reduceLE, Int.reduceLT, Int.reduceNeg, Int.reduceSub, Int.reduceToNat, Nat.reduceAdd, Nat.reduceDiv, Nat.reduceEqDiff, Nat.reduceLT, Nat.reduceLeDiff, Nat.reduceMod, Nat.reduceMul, Nat.reduceSub, eq_self, if_false, if_true, ite_false, ite_true, reduceIte, Ty.row, tyAll, Tm.row, tmAll, u0', u1', u2', w0, w1, w2]
  | pair a b iha ihb =>
    intro k h hk
    simp only [Tm.size] at h hk
    have la := cnt_le a k
    have lb := cnt_le b k
    have w0 : IntKind.i64.wrap ((0 : Int) + (a.cnt k : Int)) = (a.cnt k : Int) := by rw [wrap_i64 (by omega)]; omega
    have w1 : IntKind.i64.wrap ((a.cnt k : Int) + (b.cnt k : Int)) = ((a.cnt k + b.cnt k : Nat) : Int) := by rw [wrap_i64 (by omega)]; omega
    have c2 : (Tm.pair a b).cnt k = a.cnt k + b.cnt k := rfl
    rw [c2]
    have u0 := iha k (by omega) (by omega)
    have u1 := ihb k (by omega) (by omega)
    try simp only [Ty.row, tyAll, Tm.row, tmAll, Int.cast_ofNat_Int] at u0 u1
    have u0' := clR.use u0
    have u1' := clR.use u1
    refine run_eq (run_of (pf := p83) rfl ?_)
    unfold p83
    simp only [R.loop_eq, wp0, wp1, wp2, wp3, wp4, PV.cellsT, appMax, dropSh, fillB, fillS, putD, splice, src, startSt, Int.reduceAdd, Int.reduceEq, Int.reduceLE, Int.reduceLT, Int.reduceNeg, Int.reduceSub, Int.reduceToNat, Nat.reduceAdd, Nat.reduceDiv, Nat.reduceEqDiff, Nat.reduceLT, Nat.reduceLeDiff, Nat.reduceMod, Nat.reduceMul, Nat.reduceSub, eq_self, if_false, if_true, ite_false, ite_true, reduceIte, Ty.row, tyAll, Tm.row, tmAll, u0', u1', w0, w1]
  | fst a iha =>
    intro k h hk
    simp only [Tm.size] at h hk
    have la := cnt_le a k
    have w0 : IntKind.i64.wrap ((0 : Int) + (a.cnt k : Int)) = (a.cnt k : Int) := by rw [wrap_i64 (by omega)]; omega
    have c2 : (Tm.fst a).cnt k = a.cnt k := rfl
    rw [c2]
    have u0 := iha k (by omega) (by omega)
    try simp only [Ty.row, tyAll, Tm.row, tmAll, Int.cast_ofNat_Int] at u0
    have u0' := clR.use u0
    refine run_eq (run_of (pf := p83) rfl ?_)
    unfold p83
    simp only [R.loop_eq, wp0, wp1, wp2, wp3, wp4, PV.cellsT, appMax, dropSh, fillB, fillS, putD, splice, src, startSt, Int.reduceAdd, Int.reduceEq, Int.reduceLE, Int.reduceLT, Int.reduceNeg, Int.reduceSub, Int.reduceToNat, Nat.reduceAdd, Nat.reduceDiv, Nat.reduceEqDiff, Nat.reduceLT, Nat.reduceLeDiff, Nat.reduceMod, Nat.reduceMul, Nat.reduceSub, eq_self, if_false, if_true, ite_false, ite_true, reduceIte, Ty.row, tyAll, Tm.row, tmAll, u0', w0]
  | snd a iha =>
    intro k h hk
    simp only [Tm.size] at h hk
    have la := cnt_le a k
    have w0 : IntKind.i64.wrap ((0 : Int) + (a.cnt k : Int)) = (a.cnt k : Int) := by rw [wrap_i64 (by omega)]; omega
    have c2 : (Tm.snd a).cnt k = a.cnt k := rfl
    rw [c2]
    have u0 := iha k (by omega) (by omega)
    try simp only [Ty.row, tyAll, Tm.row, tmAll, Int.cast_ofNat_Int] at u0
    have u0' := clR.use u0
    refine run_eq (run_of (pf := p83) rfl ?_)
    unfold p83
    simp only [R.loop_eq, wp0, wp1, wp2, wp3, wp4, PV.cellsT, appMax, dropSh, fillB, fillS, putD, splice, src, startSt, Int.reduceAdd, Int.reduceEq, Int.reduceLE, Int.reduceLT, Int.reduceNeg, Int.reduceSub, Int.reduceToNat, Nat.reduceAdd, Nat.reduceDiv, Nat.reduceEqDiff, Nat.reduceLT, Nat.reduceLeDiff, Nat.reduceMod, Nat.reduceMul, Nat.reduceSub, eq_self, if_false, if_true, ite_false, ite_true, reduceIte, Ty.row, tyAll, Tm.row, tmAll, u0', w0]
  | unit =>
    intro k h hk
    have c2 : ((Tm.unit).cnt k : Int) = 0 := rfl
    rw [c2]
    refine run_eq (run_of (pf := p83) rfl ?_)
    unfold p83
    simp only [R.loop_eq, wp0, wp1, wp2, wp3, wp4, PV.cellsT, appMax, dropSh, fillB, fillS, putD, splice, src, startSt, Int.reduceAdd, Int.reduceEq, Int.reduceLE, Int.reduceLT, Int.reduceNeg, Int.reduceSub, Int.reduceToNat, Nat.reduceAdd, Nat.reduceDiv, Nat.reduceEqDiff, Nat.reduceLT, Nat.reduceLeDiff, Nat.reduceMod, Nat.reduceMul, Nat.reduceSub, eq_self, if_false, if_true, ite_false, ite_true, reduceIte, Ty.row, tyAll, Tm.row, tmAll]
theorem is58 (bx : List (Nat × List PV)) (nx id : Nat) (k ix tk : Int) (tz : Nat) (tr rows : List (List PV)) (hg : getB bx id = some [i64 k, i64 ix, i64 tk, .sl 0 tz tr, .sl 0 5 rows]) (i : Nat) (x : Tm) (hi : i < rows.length) (hx : rows.getD i [] = x.row) (kd : Int) :
    ∃ n, callN T G n 82 [i64 (i : Int), i64 kd, .sp id 0] ⟨bx, nx⟩ = some (.v (.bool (decide (x.kind = kd))), ⟨bx, nx⟩) := by
  have c1 : (i : Int) < (rows.length : Int) := by omega
  have c2 : (0 : Int) ≤ (i : Int) := by omega
  refine run_eq (run_of (pf := p82) rfl ?_)
  unfold p82
  simp only [R.loop_eq, wp0, wp1, wp2, wp3, wp4, PV.cellsT, appMax, dropSh, fillB, fillS, putD, splice, src, startSt, Int.reduceAdd, Int.reduceEq, Int.reduceLE, Int.reduceLT, Int.reduceNeg, Int.reduceSub, Int.reduceToNat, Nat.reduceAdd, Nat.reduceDiv, Nat.reduceEqDiff, Nat.reduceLT, Nat.reduceLeDiff, Nat.reduceMod, Nat.reduceMul, Nat.reduceSub, eq_self, if_false, if_true, ite_false, ite_true, reduceIte, Ty.row, tyAll, Tm.row, tmAll, hg, c1, c2, Int.toNat_natCast, hx]
def Tm.leaf : Tm → Bool
  | .var _ => true
  | .zero => true
  | .nil => true
  | .unit => true
  | _ => false
def Tm.small : Tm → Bool
  | .app (.lam _ a) b => b.leaf || decide (a.cnt 0 ≤ 1)
  | .recu _ _ _ .zero => true
  | .fold _ _ _ .nil => true
  | .fst (.pair _ _) => true
  | .snd (.pair _ _) => true
  | _ => false
theorem leaf_arows (t : Tm) : decide ((t.arows.length : Int) = 0) = t.leaf := by
  cases t <;> rfl
theorem kind_lam (t : Tm) : (∃ s a, t = .lam s a) ∨ (¬ (t.kind = 2) ∧ ∀ b, (Tm.app t b).small = false) := by
  cases t <;> first | exact .inl ⟨_, _, rfl⟩ | exact .inr ⟨by decide, fun _ => rfl⟩ | exact .inr ⟨by simp [Tm.kind], fun _ => rfl⟩
theorem kind_zero (s : Ty) (a b t : Tm) : decide (t.kind = 4) = (Tm.recu s a b t).small := by
  cases t <;> rfl
theorem kind_nil (s : Ty) (a b t : Tm) : decide (t.kind = 7) = (Tm.fold s a b t).small := by
  cases t <;> rfl
theorem kind_fst (t : Tm) : decide (t.kind = 10) = (Tm.fst t).small := by
  cases t <;> rfl
theorem kind_snd (t : Tm) : decide (t.kind = 10) = (Tm.snd t).small := by
  cases t <;> rfl
theorem drop1 (b : List (Nat × List PV)) (x : Nat × List PV) : (x :: b).drop ((x :: b).length - b.length) = b := by simp
theorem drop2 (b : List (Nat × List PV)) (x y : Nat × List PV) : (x :: y :: b).drop ((x :: y :: b).length - b.length) = b := by
  have : (x :: y :: b).length - b.length = 2 := by simp only [List.length_cons]; omega
  rw [this]; rfl
theorem dr1 (b : List (Nat × List PV)) (x : Nat × List PV) : (x :: b).drop (b.length + 1 - b.length) = b := drop1 b x
theorem dr2 (b : List (Nat × List PV)) (x y : Nat × List PV) : (x :: y :: b).drop (b.length + 1 + 1 - b.length) = b := drop2 b x y
theorem getB_eq (i : Nat) (c : List PV) (b : List (Nat × List PV)) : getB ((i, c) :: b) i = some c := by simp only [getB, if_true]
theorem getB_ne {i j : Nat} (h : i ≠ j) (c : List PV) (b : List (Nat × List PV)) : getB ((i, c) :: b) j = getB b j := by simp only [getB, if_neg h]
theorem small42 (bx : List (Nat × List PV)) (nx : Nat) : ∀ t : Tm, t.size ≤ 100000 → ∃ n, callN T G n 36 [.ag t.row] ⟨bx, nx⟩ = some (.v (.bool t.small), ⟨bx, nx + 1⟩)
  | .var i, h => by
    have e : (Tm.var i).small = false := rfl
    rw [e]
    refine run_eq (run_of (pf := p36) rfl ?_)
    unfold p36
    simp only [R.loop_eq, wp0, wp1, wp2, wp3, wp4, PV.cellsT, appMax, dropSh, fillB, fillS, putD, splice, src, startSt, Int.reduceAdd, Int.reduceEq, Int.reduceLE, Int.reduceLT, Int.reduceNeg, Int.reduceSub, Int.reduceToNat, Nat.reduceAdd, Nat.reduceDiv, Nat.reduceEqDiff, Nat.reduceLT, Nat.reduceLeDiff, Nat.reduceMod, Nat.reduceMul, Nat.reduceSub, eq_self, if_false, if_true, ite_false, ite_true, reduceIte, Ty.row, tyAll, Tm.row, tmAll, getB_eq, dr1]
  | .lam s a, h => by
    have e : (Tm.lam s a).small = false := rfl
    rw [e]
    refine run_eq (run_of (pf := p36) rfl ?_)
    unfold p36
    simp only [R.loop_eq, wp0, wp1, wp2, wp3, wp4, PV.cellsT, appMax, dropSh, fillB, fillS, putD, splice, src, startSt, Int.reduceAdd, Int.reduceEq, Int.reduceLE, Int.reduceLT, Int.reduceNeg, Int.reduceSub, Int.reduceToNat, Nat.reduceAdd, Nat.reduceDiv, Nat.reduceEqDiff, Nat.reduceLT, Nat.reduceLeDiff, Nat.reduceMod, Nat.reduceMul, Nat.reduceSub, eq_self, if_false, if_true, ite_false, ite_true, reduceIte, Ty.row, tyAll, Tm.row, tmAll, getB_eq, dr1]
  | .app a b, h => by
    rcases kind_lam a with ⟨s, x, rfl⟩ | ⟨hk, hs⟩
    · simp only [Tm.size] at h
      have hl := leaf_arows b
      have e : (Tm.app (.lam s x) b).small = (b.leaf || decide (x.cnt 0 ≤ 1)) := rfl
      rw [e]
      cases hb : b.leaf with
      | true =>
        rw [hb] at hl
        have u0 := is58 ((nx, (Tm.app (.lam s x) b).row) :: bx) (nx + 1) nx 3 0 0 0 [] [(Tm.lam s x).row, b.row] (getB_eq _ _ _) 0 (.lam s x) (by simp) rfl 2
        try simp only [Ty.row, tyAll, Tm.row, tmAll, Int.cast_ofNat_Int] at u0
        have u0' := clR.use u0
        refine run_eq (run_of (pf := p36) rfl ?_)
        unfold p36
        simp only [R.loop_eq, wp0, wp1, wp2, wp3, wp4, PV.cellsT, appMax, dropSh, fillB, fillS, putD, splice, src, startSt, Int.reduceAdd, Int.reduceEq, Int.reduceLE, Int.reduceLT, Int.reduceNeg, Int.reduceSub, Int.reduceToNat, Nat.reduceAdd, Nat.reduceDiv, Nat.reduceEqDiff, Nat.reduceLT, Nat.reduceLeDiff, Nat.reduceMod, Nat.reduceMul, Nat.reduceSub, eq_self, if_false, if_true, ite_false, ite_true, reduceIte, Ty.row, tyAll, Tm.row, tmAll, u0', getB_eq, hl, dr1, Bool.true_or]
      | false =>
        rw [hb] at hl
        have ec : ((x.cnt 0 : Int) ≤ 1) = (x.cnt 0 ≤ 1) := by simp only [eq_iff_iff]; omega
        have u0 := is58 ((nx, (Tm.app (.lam s x) b).row) :: bx) (nx + 1) nx 3 0 0 0 [] [(Tm.lam s x).row, b.row] (getB_eq _ _ _) 0 (.lam s x) (by simp) rfl 2
        have u1 := times59 ⟨(nx, (Tm.app (.lam s x) b).row) :: bx, nx + 1⟩ x 0 (by omega) (by omega)
        try simp only [Ty.row, tyAll, Tm.row, tmAll, Int.cast_ofNat_Int] at u0 u1
        have u0' := clR.use u0
        have u1' := clR.use u1
        refine run_eq (run_of (pf := p36) rfl ?_)
        unfold p36
        simp only [R.loop_eq, wp0, wp1, wp2, wp3, wp4, PV.cellsT, appMax, dropSh, fillB, fillS, putD, splice, src, startSt, Int.reduceAdd, Int.reduceEq, Int.reduceLE, Int.reduceLT, Int.reduceNeg, Int.reduceSub, Int.reduceToNat, Nat.reduceAdd, Nat.reduceDiv, Nat.reduceEqDiff, Nat.reduceLT, Nat.reduceLeDiff, Nat.reduceMod, Nat.reduceMul, Nat.reduceSub, eq_self, if_false, if_true, ite_false, ite_true, reduceIte, Ty.row, tyAll, Tm.row, tmAll, u0', u1', getB_eq, hl, dr1, ec, Bool.false_or]
    · have hd : decide (a.kind = 2) = false := decide_eq_false hk
      rw [hs b]
      have u0 := is58 ((nx, (Tm.app a b).row) :: bx) (nx + 1) nx 3 0 0 0 [] [a.row, b.row] (getB_eq _ _ _) 0 a (by simp) rfl 2
      try simp only [Ty.row, tyAll, Tm.row, tmAll, Int.cast_ofNat_Int] at u0
      have u0' := clR.use u0
      refine run_eq (run_of (pf := p36) rfl ?_)
      unfold p36
      simp only [R.loop_eq, wp0, wp1, wp2, wp3, wp4, PV.cellsT, appMax, dropSh, fillB, fillS, putD, splice, src, startSt, Int.reduceAdd, Int.reduceEq, Int.reduceLE, Int.reduceLT, Int.reduceNeg, Int.reduceSub, Int.reduceToNat, Nat.reduceAdd, Nat.reduceDiv, Nat.reduceEqDiff, Nat.reduceLT, Nat.reduceLeDiff, Nat.reduceMod, Nat.reduceMul, Nat.reduceSub, eq_self, if_false, if_true, ite_false, ite_true, reduceIte, Ty.row, tyAll, Tm.row, tmAll, u0', getB_eq, hd, dr1]
  | .zero, h => by
    have e : (Tm.zero).small = false := rfl
    rw [e]
    refine run_eq (run_of (pf := p36) rfl ?_)
    unfold p36
    simp only [R.loop_eq, wp0, wp1, wp2, wp3, wp4, PV.cellsT, appMax, dropSh, fillB, fillS, putD, splice, src, startSt, Int.reduceAdd, Int.reduceEq, Int.reduceLE, Int.reduceLT, Int.reduceNeg, Int.reduceSub, Int.reduceToNat, Nat.reduceAdd, Nat.reduceDiv, Nat.reduceEqDiff, Nat.reduceLT, Nat.reduceLeDiff, Nat.reduceMod, Nat.reduceMul, Nat.reduceSub, eq_self, if_false, if_true, ite_false, ite_true, reduceIte, Ty.row, tyAll, Tm.row, tmAll, getB_eq, dr1]
  | .succ a, h => by
    have e : (Tm.succ a).small = false := rfl
    rw [e]
    refine run_eq (run_of (pf := p36) rfl ?_)
    unfold p36
    simp only [R.loop_eq, wp0, wp1, wp2, wp3, wp4, PV.cellsT, appMax, dropSh, fillB, fillS, putD, splice, src, startSt, Int.reduceAdd, Int.reduceEq, Int.reduceLE, Int.reduceLT, Int.reduceNeg, Int.reduceSub, Int.reduceToNat, Nat.reduceAdd, Nat.reduceDiv, Nat.reduceEqDiff, Nat.reduceLT, Nat.reduceLeDiff, Nat.reduceMod, Nat.reduceMul, Nat.reduceSub, eq_self, if_false, if_true, ite_false, ite_true, reduceIte, Ty.row, tyAll, Tm.row, tmAll, getB_eq, dr1]
  | .recu s a b c, h => by
    have u0 := is58 ((nx, (Tm.recu s a b c).row) :: bx) (nx + 1) nx 6 0 (s.kind) s.asz (s.arows) [a.row, b.row, c.row] (getB_eq _ _ _) 2 c (by simp) rfl 4
    try simp only [Ty.row, tyAll, Tm.row, tmAll, Int.cast_ofNat_Int] at u0
    have u0' := clR.use u0
    refine run_eq (run_of (pf := p36) rfl ?_)
    unfold p36
    simp only [R.loop_eq, wp0, wp1, wp2, wp3, wp4, PV.cellsT, appMax, dropSh, fillB, fillS, putD, splice, src, startSt, Int.reduceAdd, Int.reduceEq, Int.reduceLE, Int.reduceLT, Int.reduceNeg, Int.reduceSub, Int.reduceToNat, Nat.reduceAdd, Nat.reduceDiv, Nat.reduceEqDiff, Nat.reduceLT, Nat.reduceLeDiff, Nat.reduceMod, Nat.reduceMul, Nat.reduceSub, eq_self, if_false, if_true, ite_false, ite_true, reduceIte, Ty.row, tyAll, Tm.row, tmAll, u0', getB_eq, kind_zero s a b c, dr1]
  | .nil, h => by
    have e : (Tm.nil).small = false := rfl
    rw [e]
    refine run_eq (run_of (pf := p36) rfl ?_)
    unfold p36
    simp only [R.loop_eq, wp0, wp1, wp2, wp3, wp4, PV.cellsT, appMax, dropSh, fillB, fillS, putD, splice, src, startSt, Int.reduceAdd, Int.reduceEq, Int.reduceLE, Int.reduceLT, Int.reduceNeg, Int.reduceSub, Int.reduceToNat, Nat.reduceAdd, Nat.reduceDiv, Nat.reduceEqDiff, Nat.reduceLT, Nat.reduceLeDiff, Nat.reduceMod, Nat.reduceMul, Nat.reduceSub, eq_self, if_false, if_true, ite_false, ite_true, reduceIte, Ty.row, tyAll, Tm.row, tmAll, getB_eq, dr1]
  | .cons a b, h => by
    have e : (Tm.cons a b).small = false := rfl
    rw [e]
    refine run_eq (run_of (pf := p36) rfl ?_)
    unfold p36
    simp only [R.loop_eq, wp0, wp1, wp2, wp3, wp4, PV.cellsT, appMax, dropSh, fillB, fillS, putD, splice, src, startSt, Int.reduceAdd, Int.reduceEq, Int.reduceLE, Int.reduceLT, Int.reduceNeg, Int.reduceSub, Int.reduceToNat, Nat.reduceAdd, Nat.reduceDiv, Nat.reduceEqDiff, Nat.reduceLT, Nat.reduceLeDiff, Nat.reduceMod, Nat.reduceMul, Nat.reduceSub, eq_self, if_false, if_true, ite_false, ite_true, reduceIte, Ty.row, tyAll, Tm.row, tmAll, getB_eq, dr1]
  | .fold s a b c, h => by
    have u0 := is58 ((nx, (Tm.fold s a b c).row) :: bx) (nx + 1) nx 9 0 (s.kind) s.asz (s.arows) [a.row, b.row, c.row] (getB_eq _ _ _) 2 c (by simp) rfl 7
    try simp only [Ty.row, tyAll, Tm.row, tmAll, Int.cast_ofNat_Int] at u0
    have u0' := clR.use u0
    refine run_eq (run_of (pf := p36) rfl ?_)
    unfold p36
    simp only [R.loop_eq, wp0, wp1, wp2, wp3, wp4, PV.cellsT, appMax, dropSh, fillB, fillS, putD, splice, src, startSt, Int.reduceAdd, Int.reduceEq, Int.reduceLE, Int.reduceLT, Int.reduceNeg, Int.reduceSub, Int.reduceToNat, Nat.reduceAdd, Nat.reduceDiv, Nat.reduceEqDiff, Nat.reduceLT, Nat.reduceLeDiff, Nat.reduceMod, Nat.reduceMul, Nat.reduceSub, eq_self, if_false, if_true, ite_false, ite_true, reduceIte, Ty.row, tyAll, Tm.row, tmAll, u0', getB_eq, kind_nil s a b c, dr1]
  | .pair a b, h => by
    have e : (Tm.pair a b).small = false := rfl
    rw [e]
    refine run_eq (run_of (pf := p36) rfl ?_)
    unfold p36
    simp only [R.loop_eq, wp0, wp1, wp2, wp3, wp4, PV.cellsT, appMax, dropSh, fillB, fillS, putD, splice, src, startSt, Int.reduceAdd, Int.reduceEq, Int.reduceLE, Int.reduceLT, Int.reduceNeg, Int.reduceSub, Int.reduceToNat, Nat.reduceAdd, Nat.reduceDiv, Nat.reduceEqDiff, Nat.reduceLT, Nat.reduceLeDiff, Nat.reduceMod, Nat.reduceMul, Nat.reduceSub, eq_self, if_false, if_true, ite_false, ite_true, reduceIte, Ty.row, tyAll, Tm.row, tmAll, getB_eq, dr1]
  | .fst a, h => by
    have u0 := is58 ((nx, (Tm.fst a).row) :: bx) (nx + 1) nx 11 0 (0) 0 ([]) [a.row] (getB_eq _ _ _) 0 a (by simp) rfl 10
    try simp only [Ty.row, tyAll, Tm.row, tmAll, Int.cast_ofNat_Int] at u0
    have u0' := clR.use u0
    refine run_eq (run_of (pf := p36) rfl ?_)
    unfold p36
    simp only [R.loop_eq, wp0, wp1, wp2, wp3, wp4, PV.cellsT, appMax, dropSh, fillB, fillS, putD, splice, src, startSt, Int.reduceAdd, Int.reduceEq, Int.reduceLE, Int.reduceLT, Int.reduceNeg, Int.reduceSub, Int.reduceToNat, Nat.reduceAdd, Nat.reduceDiv, Nat.reduceEqDiff, Nat.reduceLT, Nat.reduceLeDiff, Nat.reduceMod, Nat.reduceMul, Nat.reduceSub, eq_self, if_false, if_true, ite_false, ite_true, reduceIte, Ty.row, tyAll, Tm.row, tmAll, u0', getB_eq, kind_fst a, dr1]
  | .snd a, h => by
    have u0 := is58 ((nx, (Tm.snd a).row) :: bx) (nx + 1) nx 12 0 (0) 0 ([]) [a.row] (getB_eq _ _ _) 0 a (by simp) rfl 10
    try simp only [Ty.row, tyAll, Tm.row, tmAll, Int.cast_ofNat_Int] at u0
    have u0' := clR.use u0
    refine run_eq (run_of (pf := p36) rfl ?_)
    unfold p36
    simp only [R.loop_eq, wp0, wp1, wp2, wp3, wp4, PV.cellsT, appMax, dropSh, fillB, fillS, putD, splice, src, startSt, Int.reduceAdd, Int.reduceEq, Int.reduceLE, Int.reduceLT, Int.reduceNeg, Int.reduceSub, Int.reduceToNat, Nat.reduceAdd, Nat.reduceDiv, Nat.reduceEqDiff, Nat.reduceLT, Nat.reduceLeDiff, Nat.reduceMod, Nat.reduceMul, Nat.reduceSub, eq_self, if_false, if_true, ite_false, ite_true, reduceIte, Ty.row, tyAll, Tm.row, tmAll, u0', getB_eq, kind_snd a, dr1]
  | .unit, h => by
    have e : (Tm.unit).small = false := rfl
    rw [e]
    refine run_eq (run_of (pf := p36) rfl ?_)
    unfold p36
    simp only [R.loop_eq, wp0, wp1, wp2, wp3, wp4, PV.cellsT, appMax, dropSh, fillB, fillS, putD, splice, src, startSt, Int.reduceAdd, Int.reduceEq, Int.reduceLE, Int.reduceLT, Int.reduceNeg, Int.reduceSub, Int.reduceToNat, Nat.reduceAdd, Nat.reduceDiv, Nat.reduceEqDiff, Nat.reduceLT, Nat.reduceLeDiff, Nat.reduceMod, Nat.reduceMul, Nat.reduceSub, eq_self, if_false, if_true, ite_false, ite_true, reduceIte, Ty.row, tyAll, Tm.row, tmAll, getB_eq, dr1]
end Go.Pi.Terms
