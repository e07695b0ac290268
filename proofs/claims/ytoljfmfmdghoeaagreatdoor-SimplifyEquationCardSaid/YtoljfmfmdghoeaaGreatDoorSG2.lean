import Derived.Test.YtoljfmfmdghoeaaGreatDoorSG
import Derived.Test.YtoljfmfmdghoeaaGreatDoorM3
import Derived.Test.YtoljfmfmdghoeaaGreatDoorSD2
set_option maxRecDepth 100000
set_option maxHeartbeats 1000000
set_option linter.unusedSimpArgs false
set_option linter.unusedVariables false
namespace Go.Pi.Terms
open Go Go.Pi Go.Proofs.YtoljfmfmdghoeaaGreatDoor
/-- The root is a redex. -/
def Tm.root : Tm → Bool
  | .app (.lam _ _) _ => true
  | .recu _ _ _ .zero => true
  | .recu _ _ _ (.succ _) => true
  | .fold _ _ _ .nil => true
  | .fold _ _ _ (.cons _ _) => true
  | .fst (.pair _ _) => true
  | .snd (.pair _ _) => true
  | _ => false
def Tm.red1 : Tm → Tm
  | .app (.lam _ a) b => a.put 0 b
  | .recu _ a _ .zero => a
  | .recu s a b (.succ c) => .app (.app b c) (.recu s a b c)
  | .fold _ a _ .nil => a
  | .fold s a b (.cons h l) => .app (.app (.app b h) l) (.fold s a b l)
  | .fst (.pair a _) => a
  | .snd (.pair _ b) => b
  | t => t
theorem red1_red : ∀ t : Tm, t.root = true → Red t t.red1
  | .app (.lam s a) b, _ => by
    have e : (Tm.app (.lam s a) b).red1 = a.put 0 b := rfl
    rw [e, put_zero]
    exact .beta s a b
  | .recu s a b .zero, _ => .recZ s a b
  | .recu s a b (.succ c), _ => .recS s a b c
  | .fold s a b .nil, _ => .foldN s a b
  | .fold s a b (.cons h l), _ => .foldC s a b h l
  | .fst (.pair a b), _ => .fstP a b
  | .snd (.pair a b), _ => .sndP a b
/-- The first redex from outside, from left to right. -/
def Tm.nred : Tm → Option Tm
  | .var i => none
  | .lam s a => match a.nred with | some y => some (.lam s y) | none => none
  | .app a b => if (Tm.app a b).root then some (Tm.app a b).red1 else match a.nred with | some y => some (.app y b) | none => (match b.nred with | some y => some (.app a y) | none => none)
  | .zero => none
  | .succ a => match a.nred with | some y => some (.succ y) | none => none
  | .recu s a b c => if (Tm.recu s a b c).root then some (Tm.recu s a b c).red1 else match a.nred with | some y => some (.recu s y b c) | none => (match b.nred with | some y => some (.recu s a y c) | none => (match c.nred with | some y => some (.recu s a b y) | none => none))
  | .nil => none
  | .cons a b => match a.nred with | some y => some (.cons y b) | none => (match b.nred with | some y => some (.cons a y) | none => none)
  | .fold s a b c => if (Tm.fold s a b c).root then some (Tm.fold s a b c).red1 else match a.nred with | some y => some (.fold s y b c) | none => (match b.nred with | some y => some (.fold s a y c) | none => (match c.nred with | some y => some (.fold s a b y) | none => none))
  | .pair a b => match a.nred with | some y => some (.pair y b) | none => (match b.nred with | some y => some (.pair a y) | none => none)
  | .fst a => if (Tm.fst a).root then some (Tm.fst a).red1 else match a.nred with | some y => some (.fst y) | none => none
  | .snd a => if (Tm.snd a).root then some (Tm.snd a).red1 else match a.nred with | some y => some (.snd y) | none => none
  | .unit => none
theorem nred_red : ∀ (t y : Tm), t.nred = some y → Red t y := by
  intro t
  induction t with
  | var i =>
    intro y h
    cases h
  | lam s a iha =>
    intro y h
    simp only [Tm.nred] at h
    cases e0 : a.nred with
    | some z => rw [e0] at h; cases h; exact .lam (iha z e0)
    | none =>
      rw [e0] at h; cases h
  | app a b iha ihb =>
    intro y h
    cases hs : (Tm.app a b).root with
    | true =>
      simp only [Tm.nred, hs, if_true, Option.some.injEq] at h
      subst h
      exact red1_red _ hs
    | false =>
      simp only [Tm.nred, hs, Bool.false_eq_true, if_false] at h
      cases e0 : a.nred with
      | some z => rw [e0] at h; cases h; exact .app1 (iha z e0)
      | none =>
        rw [e0] at h
        cases e1 : b.nred with
        | some z => rw [e1] at h; cases h; exact .app2 (ihb z e1)
        | none =>
          rw [e1] at h; cases h
  | zero =>
    intro y h
    cases h
  | succ a iha =>
    intro y h
    simp only [Tm.nred] at h
    cases e0 : a.nred with
    | some z => rw [e0] at h; cases h; exact .succ (iha z e0)
    | none =>
      rw [e0] at h; cases h
  | recu s a b c iha ihb ihc =>
    intro y h
    cases hs : (Tm.recu s a b c).root with
    | true =>
      simp only [Tm.nred, hs, if_true, Option.some.injEq] at h
      subst h
      exact red1_red _ hs
    | false =>
      simp only [Tm.nred, hs, Bool.false_eq_true, if_false] at h
      cases e0 : a.nred with
      | some z => rw [e0] at h; cases h; exact .rec1 (iha z e0)
      | none =>
        rw [e0] at h
        cases e1 : b.nred with
        | some z => rw [e1] at h; cases h; exact .rec2 (ihb z e1)
        | none =>
          rw [e1] at h
          cases e2 : c.nred with
          | some z => rw [e2] at h; cases h; exact .rec3 (ihc z e2)
          | none =>
            rw [e2] at h; cases h
  | nil =>
    intro y h
    cases h
  | cons a b iha ihb =>
    intro y h
    simp only [Tm.nred] at h
    cases e0 : a.nred with
    | some z => rw [e0] at h; cases h; exact .cons1 (iha z e0)
    | none =>
      rw [e0] at h
      cases e1 : b.nred with
      | some z => rw [e1] at h; cases h; exact .cons2 (ihb z e1)
      | none =>
        rw [e1] at h; cases h
  | fold s a b c iha ihb ihc =>
    intro y h
    cases hs : (Tm.fold s a b c).root with
    | true =>
      simp only [Tm.nred, hs, if_true, Option.some.injEq] at h
      subst h
      exact red1_red _ hs
    | false =>
      simp only [Tm.nred, hs, Bool.false_eq_true, if_false] at h
      cases e0 : a.nred with
      | some z => rw [e0] at h; cases h; exact .fold1 (iha z e0)
      | none =>
        rw [e0] at h
        cases e1 : b.nred with
        | some z => rw [e1] at h; cases h; exact .fold2 (ihb z e1)
        | none =>
          rw [e1] at h
          cases e2 : c.nred with
          | some z => rw [e2] at h; cases h; exact .fold3 (ihc z e2)
          | none =>
            rw [e2] at h; cases h
  | pair a b iha ihb =>
    intro y h
    simp only [Tm.nred] at h
    cases e0 : a.nred with
    | some z => rw [e0] at h; cases h; exact .pair1 (iha z e0)
    | none =>
      rw [e0] at h
      cases e1 : b.nred with
      | some z => rw [e1] at h; cases h; exact .pair2 (ihb z e1)
      | none =>
        rw [e1] at h; cases h
  | fst a iha =>
    intro y h
    cases hs : (Tm.fst a).root with
    | true =>
      simp only [Tm.nred, hs, if_true, Option.some.injEq] at h
      subst h
      exact red1_red _ hs
    | false =>
      simp only [Tm.nred, hs, Bool.false_eq_true, if_false] at h
      cases e0 : a.nred with
      | some z => rw [e0] at h; cases h; exact .fst (iha z e0)
      | none =>
        rw [e0] at h; cases h
  | snd a iha =>
    intro y h
    cases hs : (Tm.snd a).root with
    | true =>
      simp only [Tm.nred, hs, if_true, Option.some.injEq] at h
      subst h
      exact red1_red _ hs
    | false =>
      simp only [Tm.nred, hs, Bool.false_eq_true, if_false] at h
      cases e0 : a.nred with
      | some z => rw [e0] at h; cases h; exact .snd (iha z e0)
      | none =>
        rw [e0] at h; cases h
  | unit =>
    intro y h
    cases h
theorem nred_nf : ∀ t : Tm, t.nred = none → Nf t := by
  intro t
  induction t with
  | var i =>
    intro h y hr
    cases hr
  | lam s a iha =>
    intro h y hr
    simp only [Tm.nred] at h
    have e0 : a.nred = none := by
      cases e : a.nred with
      | none => rfl
      | some z => simp [e] at h
    cases hr <;> first | exact iha e0 _ ‹_›
  | app a b iha ihb =>
    intro h y hr
    have hs : (Tm.app a b).root = false := by
      cases hs : (Tm.app a b).root with
      | false => rfl
      | true => simp only [Tm.nred, hs, if_true, reduceCtorEq] at h
    simp only [Tm.nred, hs, Bool.false_eq_true, if_false] at h
    have e0 : a.nred = none := by
      cases e : a.nred with
      | none => rfl
      | some z => simp [e] at h
    have e1 : b.nred = none := by
      cases e : b.nred with
      | none => rfl
      | some z => simp [e0, e] at h
    cases hr <;> first | (simp [Tm.root] at hs; done) | exact iha e0 _ ‹_› | exact ihb e1 _ ‹_›
  | zero =>
    intro h y hr
    cases hr
  | succ a iha =>
    intro h y hr
    simp only [Tm.nred] at h
    have e0 : a.nred = none := by
      cases e : a.nred with
      | none => rfl
      | some z => simp [e] at h
    cases hr <;> first | exact iha e0 _ ‹_›
  | recu s a b c iha ihb ihc =>
    intro h y hr
    have hs : (Tm.recu s a b c).root = false := by
      cases hs : (Tm.recu s a b c).root with
      | false => rfl
      | true => simp only [Tm.nred, hs, if_true, reduceCtorEq] at h
    simp only [Tm.nred, hs, Bool.false_eq_true, if_false] at h
    have e0 : a.nred = none := by
      cases e : a.nred with
      | none => rfl
      | some z => simp [e] at h
    have e1 : b.nred = none := by
      cases e : b.nred with
      | none => rfl
      | some z => simp [e0, e] at h
    have e2 : c.nred = none := by
      cases e : c.nred with
      | none => rfl
      | some z => simp [e0, e1, e] at h
    cases hr <;> first | (simp [Tm.root] at hs; done) | exact iha e0 _ ‹_› | exact ihb e1 _ ‹_› | exact ihc e2 _ ‹_›
  | nil =>
    intro h y hr
    cases hr
  | cons a b iha ihb =>
    intro h y hr
    simp only [Tm.nred] at h
    have e0 : a.nred = none := by
      cases e : a.nred with
      | none => rfl
      | some z => simp [e] at h
    have e1 : b.nred = none := by
      cases e : b.nred with
      | none => rfl
      | some z => simp [e0, e] at h
    cases hr <;> first | exact iha e0 _ ‹_› | exact ihb e1 _ ‹_›
  | fold s a b c iha ihb ihc =>
    intro h y hr
    have hs : (Tm.fold s a b c).root = false := by
      cases hs : (Tm.fold s a b c).root with
      | false => rfl
      | true => simp only [Tm.nred, hs, if_true, reduceCtorEq] at h
    simp only [Tm.nred, hs, Bool.false_eq_true, if_false] at h
    have e0 : a.nred = none := by
      cases e : a.nred with
      | none => rfl
      | some z => simp [e] at h
    have e1 : b.nred = none := by
      cases e : b.nred with
      | none => rfl
      | some z => simp [e0, e] at h
    have e2 : c.nred = none := by
      cases e : c.nred with
      | none => rfl
      | some z => simp [e0, e1, e] at h
    cases hr <;> first | (simp [Tm.root] at hs; done) | exact iha e0 _ ‹_› | exact ihb e1 _ ‹_› | exact ihc e2 _ ‹_›
  | pair a b iha ihb =>
    intro h y hr
    simp only [Tm.nred] at h
    have e0 : a.nred = none := by
      cases e : a.nred with
      | none => rfl
      | some z => simp [e] at h
    have e1 : b.nred = none := by
      cases e : b.nred with
      | none => rfl
      | some z => simp [e0, e] at h
    cases hr <;> first | exact iha e0 _ ‹_› | exact ihb e1 _ ‹_›
  | fst a iha =>
    intro h y hr
    have hs : (Tm.fst a).root = false := by
      cases hs : (Tm.fst a).root with
      | false => rfl
      | true => simp only [Tm.nred, hs, if_true, reduceCtorEq] at h
    simp only [Tm.nred, hs, Bool.false_eq_true, if_false] at h
    have e0 : a.nred = none := by
      cases e : a.nred with
      | none => rfl
      | some z => simp [e] at h
    cases hr <;> first | (simp [Tm.root] at hs; done) | exact iha e0 _ ‹_›
  | snd a iha =>
    intro h y hr
    have hs : (Tm.snd a).root = false := by
      cases hs : (Tm.snd a).root with
      | false => rfl
      | true => simp only [Tm.nred, hs, if_true, reduceCtorEq] at h
    simp only [Tm.nred, hs, Bool.false_eq_true, if_false] at h
    have e0 : a.nred = none := by
      cases e : a.nred with
      | none => rfl
      | some z => simp [e] at h
    cases hr <;> first | (simp [Tm.root] at hs; done) | exact iha e0 _ ‹_›
  | unit =>
    intro h y hr
    cases hr
theorem root96 (sh : Sh) : ∀ t : Tm, ∃ n, callN T G n 96 [.ag t.row] sh = some (.v (.bool t.root), sh)
  | .var i => by
    refine run_eq (run_of (pf := p96) rfl ?_)
    unfold p96
    simp only [R.loop_eq, wp0, wp1, wp2, wp3, wp4, PV.cellsT, appMax, dropSh, fillB, fillS, putD, splice, src, startSt, Int.reduceAdd, Int.reduceEq, Int.reduceLE, Int.reduceLT, Int.reduceNeg, Int.reduceSub, Int.reduceToNat, Nat.reduceAdd, Nat.reduceDiv, Nat.reduceEqDiff, Nat.reduceLT, Nat.reduceLeDiff, Nat.reduceMod, Nat.reduceMul, Nat.reduceSub, eq_self, if_false, if_true, ite_false, ite_true, reduceIte, Ty.row, tyAll, Tm.row, tmAll, Tm.root]
  | .lam s a => by
    refine run_eq (run_of (pf := p96) rfl ?_)
    unfold p96
    simp only [R.loop_eq, wp0, wp1, wp2, wp3, wp4, PV.cellsT, appMax, dropSh, fillB, fillS, putD, splice, src, startSt, Int.reduceAdd, Int.reduceEq, Int.reduceLE, Int.reduceLT, Int.reduceNeg, Int.reduceSub, Int.reduceToNat, Nat.reduceAdd, Nat.reduceDiv, Nat.reduceEqDiff, Nat.reduceLT, Nat.reduceLeDiff, Nat.reduceMod, Nat.reduceMul, Nat.reduceSub, eq_self, if_false, if_true, ite_false, ite_true, reduceIte, Ty.row, tyAll, Tm.row, tmAll, Tm.root]
  | .app a b => by
    cases a <;>
      (refine run_eq (run_of (pf := p96) rfl ?_)
       unfold p96
       simp only [R.loop_eq, wp0, wp1, wp2, wp3, wp4, PV.cellsT, appMax, dropSh, fillB, fillS, putD, splice, src, startSt, Int.reduceAdd, Int.reduceEq, Int.reduceLE, Int.reduceLT, Int.reduceNeg, Int.reduceSub, Int.reduceToNat, Nat.reduceAdd, Nat.reduceDiv, Nat.reduceEqDiff, Nat.reduceLT, Nat.reduceLeDiff, Nat.reduceMod, Nat.reduceMul, Nat.reduceSub, eq_self, if_false, if_true, ite_false, ite_true, reduceIte, Ty.row, tyAll, Tm.row, tmAll, Tm.root])
  | .zero => by
    refine run_eq (run_of (pf := p96) rfl ?_)
    unfold p96
    simp only [R.loop_eq, wp0, wp1, wp2, wp3, wp4, PV.cellsT, appMax, dropSh, fillB, fillS, putD, splice, src, startSt, Int.reduceAdd, Int.reduceEq, Int.reduceLE, Int.reduceLT, Int.reduceNeg, Int.reduceSub, Int.reduceToNat, Nat.reduceAdd, Nat.reduceDiv, Nat.reduceEqDiff, Nat.reduceLT, Nat.reduceLeDiff, Nat.reduceMod, Nat.reduceMul, Nat.reduceSub, eq_self, if_false, if_true, ite_false, ite_true, reduceIte, Ty.row, tyAll, Tm.row, tmAll, Tm.root]
  | .succ a => by
    refine run_eq (run_of (pf := p96) rfl ?_)
    unfold p96
    simp only [R.loop_eq, wp0, wp1, wp2, wp3, wp4, PV.cellsT, appMax, dropSh, fillB, fillS, putD, splice, src, startSt, Int.reduceAdd, Int.reduceEq, Int.reduceLE, Int.reduceLT, Int.reduceNeg, Int.reduceSub, Int.reduceToNat, Nat.reduceAdd, Nat.reduceDiv, Nat.reduceEqDiff, Nat.reduceLT, Nat.reduceLeDiff, Nat.reduceMod, Nat.reduceMul, Nat.reduceSub, eq_self, if_false, if_true, ite_false, ite_true, reduceIte, Ty.row, tyAll, Tm.row, tmAll, Tm.root]
  | .recu s a b c => by
    cases c <;>
      (refine run_eq (run_of (pf := p96) rfl ?_)
       unfold p96
       simp only [R.loop_eq, wp0, wp1, wp2, wp3, wp4, PV.cellsT, appMax, dropSh, fillB, fillS, putD, splice, src, startSt, Int.reduceAdd, Int.reduceEq, Int.reduceLE, Int.reduceLT, Int.reduceNeg, Int.reduceSub, Int.reduceToNat, Nat.reduceAdd, Nat.reduceDiv, Nat.reduceEqDiff, Nat.reduceLT, Nat.reduceLeDiff, Nat.reduceMod, Nat.reduceMul, Nat.reduceSub, eq_self, if_false, if_true, ite_false, ite_true, reduceIte, Ty.row, tyAll, Tm.row, tmAll, Tm.root])
  | .nil => by
    refine run_eq (run_of (pf := p96) rfl ?_)
    unfold p96
    simp only [R.loop_eq, wp0, wp1, wp2, wp3, wp4, PV.cellsT, appMax, dropSh, fillB, fillS, putD, splice, src, startSt, Int.reduceAdd, Int.reduceEq, Int.reduceLE, Int.reduceLT, Int.reduceNeg, Int.reduceSub, Int.reduceToNat, Nat.reduceAdd, Nat.reduceDiv, Nat.reduceEqDiff, Nat.reduceLT, Nat.reduceLeDiff, Nat.reduceMod, Nat.reduceMul, Nat.reduceSub, eq_self, if_false, if_true, ite_false, ite_true, reduceIte, Ty.row, tyAll, Tm.row, tmAll, Tm.root]
  | .cons a b => by
    refine run_eq (run_of (pf := p96) rfl ?_)
    unfold p96
    simp only [R.loop_eq, wp0, wp1, wp2, wp3, wp4, PV.cellsT, appMax, dropSh, fillB, fillS, putD, splice, src, startSt, Int.reduceAdd, Int.reduceEq, Int.reduceLE, Int.reduceLT, Int.reduceNeg, Int.reduceSub, Int.reduceToNat, Nat.reduceAdd, Nat.reduceDiv, Nat.reduceEqDiff, Nat.reduceLT, Nat.reduceLeDiff, Nat.reduceMod, Nat.reduceMul, Nat.reduceSub, eq_self, if_false, if_true, ite_false, ite_true, reduceIte, Ty.row, tyAll, Tm.row, tmAll, Tm.root]
  | .fold s a b c => by
    cases c <;>
      (refine run_eq (run_of (pf := p96) rfl ?_)
       unfold p96
       simp only [R.loop_eq, wp0, wp1, wp2, wp3, wp4, PV.cellsT, appMax, dropSh, fillB, fillS, putD, splice, src, startSt, Int.reduceAdd, Int.reduceEq, Int.reduceLE, Int.reduceLT, Int.reduceNeg, Int.reduceSub, Int.reduceToNat, Nat.reduceAdd, Nat.reduceDiv, Nat.reduceEqDiff, Nat.reduceLT, Nat.reduceLeDiff, Nat.reduceMod, Nat.reduceMul, Nat.reduceSub, eq_self, if_false, if_true, ite_false, ite_true, reduceIte, Ty.row, tyAll, Tm.row, tmAll, Tm.root])
  | .pair a b => by
    refine run_eq (run_of (pf := p96) rfl ?_)
    unfold p96
    simp only [R.loop_eq, wp0, wp1, wp2, wp3, wp4, PV.cellsT, appMax, dropSh, fillB, fillS, putD, splice, src, startSt, Int.reduceAdd, Int.reduceEq, Int.reduceLE, Int.reduceLT, Int.reduceNeg, Int.reduceSub, Int.reduceToNat, Nat.reduceAdd, Nat.reduceDiv, Nat.reduceEqDiff, Nat.reduceLT, Nat.reduceLeDiff, Nat.reduceMod, Nat.reduceMul, Nat.reduceSub, eq_self, if_false, if_true, ite_false, ite_true, reduceIte, Ty.row, tyAll, Tm.row, tmAll, Tm.root]
  | .fst a => by
    cases a <;>
      (refine run_eq (run_of (pf := p96) rfl ?_)
       unfold p96
       simp only [R.loop_eq, wp0, wp1, wp2, wp3, wp4, PV.cellsT, appMax, dropSh, fillB, fillS, putD, splice, src, startSt, Int.reduceAdd, Int.reduceEq, Int.reduceLE, Int.reduceLT, Int.reduceNeg, Int.reduceSub, Int.reduceToNat, Nat.reduceAdd, Nat.reduceDiv, Nat.reduceEqDiff, Nat.reduceLT, Nat.reduceLeDiff, Nat.reduceMod, Nat.reduceMul, Nat.reduceSub, eq_self, if_false, if_true, ite_false, ite_true, reduceIte, Ty.row, tyAll, Tm.row, tmAll, Tm.root])
  | .snd a => by
    cases a <;>
      (refine run_eq (run_of (pf := p96) rfl ?_)
       unfold p96
       simp only [R.loop_eq, wp0, wp1, wp2, wp3, wp4, PV.cellsT, appMax, dropSh, fillB, fillS, putD, splice, src, startSt, Int.reduceAdd, Int.reduceEq, Int.reduceLE, Int.reduceLT, Int.reduceNeg, Int.reduceSub, Int.reduceToNat, Nat.reduceAdd, Nat.reduceDiv, Nat.reduceEqDiff, Nat.reduceLT, Nat.reduceLeDiff, Nat.reduceMod, Nat.reduceMul, Nat.reduceSub, eq_self, if_false, if_true, ite_false, ite_true, reduceIte, Ty.row, tyAll, Tm.row, tmAll, Tm.root])
  | .unit => by
    refine run_eq (run_of (pf := p96) rfl ?_)
    unfold p96
    simp only [R.loop_eq, wp0, wp1, wp2, wp3, wp4, PV.cellsT, appMax, dropSh, fillB, fillS, putD, splice, src, startSt, Int.reduceAdd, Int.reduceEq, Int.reduceLE, Int.reduceLT, Int.reduceNeg, Int.reduceSub, Int.reduceToNat, Nat.reduceAdd, Nat.reduceDiv, Nat.reduceEqDiff, Nat.reduceLT, Nat.reduceLeDiff, Nat.reduceMod, Nat.reduceMul, Nat.reduceSub, eq_self, if_false, if_true, ite_false, ite_true, reduceIte, Ty.row, tyAll, Tm.row, tmAll, Tm.root]
theorem growth97 (sh : Sh) : ∀ t : Tm, t.root = true → t.size ≤ 10000 → ∃ n, callN T G n 97 [.ag t.row] sh = some (i64 ((t.red1.size : Int) - (t.size : Int)), sh)
  | .app (.lam s a) b, _, hs => by
    have q0 := count37 sh (Tm.app (.lam s a) b) (by omega)
    have hs' := hs
    simp only [Tm.size] at hs
    have e : (Tm.app (.lam s a) b).red1 = a.put 0 b := rfl
    have hp := size_put b a 0
    have hc := cnt_le a 0
    have hb : 1 ≤ b.size := by cases b <;> simp only [Tm.size] <;> omega
    have hm : a.cnt 0 * (b.size - 1) ≤ 100000000 := Nat.le_trans (Nat.mul_le_mul (show a.cnt 0 ≤ 10000 by omega) (show b.size - 1 ≤ 10000 by omega)) (by decide)
    have hmul : a.cnt 0 * b.size = a.cnt 0 * (b.size - 1) + a.cnt 0 := by
      obtain ⟨k, hk⟩ : ∃ k, b.size = k + 1 := ⟨b.size - 1, by omega⟩
      rw [hk, Nat.add_sub_cancel, Nat.mul_succ]
    have w1 : IntKind.i64.wrap ((b.size : Int) - 1) = ((b.size - 1 : Nat) : Int) := by rw [wrap_i64 (by omega)]; omega
    have w2 : IntKind.i64.wrap ((a.cnt 0 : Int) * ((b.size - 1 : Nat) : Int)) = ((a.cnt 0 * (b.size - 1) : Nat) : Int) := by rw [← Int.natCast_mul, wrap_i64 (by omega)]
    have w3 : IntKind.i64.wrap ((a.size : Int) + ((a.cnt 0 * (b.size - 1) : Nat) : Int)) = ((a.size + a.cnt 0 * (b.size - 1) : Nat) : Int) := by rw [wrap_i64 (by omega)]; omega
    have w4 : IntKind.i64.wrap (((a.size + a.cnt 0 * (b.size - 1) : Nat) : Int) - ((Tm.app (.lam s a) b).size : Int)) = ((a.put 0 b).size : Int) - ((Tm.app (.lam s a) b).size : Int) := by rw [wrap_i64 (by omega)]; omega
    rw [e]
    have z0 : ((0 : Nat) : Int) = 0 := rfl
    have tt := times123 sh a 0 (by omega) (by omega)
    rw [z0] at tt
    generalize hN : (Tm.app (.lam s a) b).size = N at *
    have u0 := q0
    have u1 := count37 sh a (by omega)
    have u2 := count37 sh b (by omega)
    have u3 := tt
    try simp only [Ty.row, tyAll, Tm.row, tmAll, Int.cast_ofNat_Int] at u0 u1 u2 u3
    have u0' := clR.use u0
    have u1' := clR.use u1
    have u2' := clR.use u2
    have u3' := clR.use u3
    refine run_eq (run_of (pf := p97) rfl ?_)
    unfold p97
    simp only [R.loop_eq, wp0, wp1, wp2, wp3, wp4, PV.cellsT, appMax, dropSh, fillB, fillS, putD, splice, src, startSt, Int.reduceAdd, Int.reduceEq, Int.reduceLE, Int.reduceLT, Int.reduceNeg, Int.reduceSub, Int.reduceToNat, Nat.reduceAdd, Nat.reduceDiv, Nat.reduceEqDiff, Nat.reduceLT, Nat.reduceLeDiff, Nat.reduceMod, Nat.reduceMul, Nat.reduceSub, eq_self, if_false, if_true, ite_false, ite_true, reduceIte, Ty.row, tyAll, Tm.row, tmAll, u0', u1', u2', u3', w1, w2, w3, w4]
  | .recu s a b .zero, _, hs => by
    have q0 := count37 sh (Tm.recu s a b .zero) (by omega)
    have hs' := hs
    simp only [Tm.size] at hs
    have e : ((Tm.recu s a b .zero).red1.size : Int) = (a.size : Int) := by first | rfl | (simp only [Tm.red1, Tm.size]; omega)
    rw [e]
    generalize hN : (Tm.recu s a b .zero).size = N at *
    have w1 : IntKind.i64.wrap ((a.size : Int) - (N : Int)) = (a.size : Int) - (N : Int) := wrap_i64 (by omega)
    have u0 := q0
    have u1 := count37 sh a (by omega)
    try simp only [Ty.row, tyAll, Tm.row, tmAll, Int.cast_ofNat_Int] at u0 u1
    have u0' := clR.use u0
    have u1' := clR.use u1
    refine run_eq (run_of (pf := p97) rfl ?_)
    unfold p97
    simp only [R.loop_eq, wp0, wp1, wp2, wp3, wp4, PV.cellsT, appMax, dropSh, fillB, fillS, putD, splice, src, startSt, Int.reduceAdd, Int.reduceEq, Int.reduceLE, Int.reduceLT, Int.reduceNeg, Int.reduceSub, Int.reduceToNat, Nat.reduceAdd, Nat.reduceDiv, Nat.reduceEqDiff, Nat.reduceLT, Nat.reduceLeDiff, Nat.reduceMod, Nat.reduceMul, Nat.reduceSub, eq_self, if_false, if_true, ite_false, ite_true, reduceIte, Ty.row, tyAll, Tm.row, tmAll, u0', u1', w1]
  | .recu s a b (.succ c), _, hs => by
    have q0 := count37 sh (Tm.recu s a b (.succ c)) (by omega)
    have hs' := hs
    simp only [Tm.size] at hs
    have e : ((Tm.recu s a b (.succ c)).red1.size : Int) = 2 + (b.size : Int) + (c.size : Int) + ((Tm.recu s a b (.succ c)).size : Int) - 1 := by first | rfl | (simp only [Tm.red1, Tm.size]; omega)
    rw [e]
    generalize hN : (Tm.recu s a b (.succ c)).size = N at *
    have w1 : IntKind.i64.wrap (2 + (b.size : Int)) = 2 + (b.size : Int) := wrap_i64 (by omega)
    have w2 : IntKind.i64.wrap (2 + (b.size : Int) + (c.size : Int)) = 2 + (b.size : Int) + (c.size : Int) := wrap_i64 (by omega)
    have w3 : IntKind.i64.wrap (2 + (b.size : Int) + (c.size : Int) + (N : Int)) = 2 + (b.size : Int) + (c.size : Int) + (N : Int) := wrap_i64 (by omega)
    have w4 : IntKind.i64.wrap (2 + (b.size : Int) + (c.size : Int) + (N : Int) - 1) = 2 + (b.size : Int) + (c.size : Int) + (N : Int) - 1 := wrap_i64 (by omega)
    have w5 : IntKind.i64.wrap (2 + (b.size : Int) + (c.size : Int) + (N : Int) - 1 - (N : Int)) = 2 + (b.size : Int) + (c.size : Int) + (N : Int) - 1 - (N : Int) := wrap_i64 (by omega)
    have u0 := q0
    have u1 := count37 sh b (by omega)
    have u2 := count37 sh c (by omega)
    try simp only [Ty.row, tyAll, Tm.row, tmAll, Int.cast_ofNat_Int] at u0 u1 u2
    have u0' := clR.use u0
    have u1' := clR.use u1
    have u2' := clR.use u2
    refine run_eq (run_of (pf := p97) rfl ?_)
    unfold p97
    simp only [R.loop_eq, wp0, wp1, wp2, wp3, wp4, PV.cellsT, appMax, dropSh, fillB, fillS, putD, splice, src, startSt, Int.reduceAdd, Int.reduceEq, Int.reduceLE, Int.reduceLT, Int.reduceNeg, Int.reduceSub, Int.reduceToNat, Nat.reduceAdd, Nat.reduceDiv, Nat.reduceEqDiff, Nat.reduceLT, Nat.reduceLeDiff, Nat.reduceMod, Nat.reduceMul, Nat.reduceSub, eq_self, if_false, if_true, ite_false, ite_true, reduceIte, Ty.row, tyAll, Tm.row, tmAll, u0', u1', u2', w1, w2, w3, w4, w5]
  | .fold s a b .nil, _, hs => by
    have q0 := count37 sh (Tm.fold s a b .nil) (by omega)
    have hs' := hs
    simp only [Tm.size] at hs
    have e : ((Tm.fold s a b .nil).red1.size : Int) = (a.size : Int) := by first | rfl | (simp only [Tm.red1, Tm.size]; omega)
    rw [e]
    generalize hN : (Tm.fold s a b .nil).size = N at *
    have w1 : IntKind.i64.wrap ((a.size : Int) - (N : Int)) = (a.size : Int) - (N : Int) := wrap_i64 (by omega)
    have u0 := q0
    have u1 := count37 sh a (by omega)
    try simp only [Ty.row, tyAll, Tm.row, tmAll, Int.cast_ofNat_Int] at u0 u1
    have u0' := clR.use u0
    have u1' := clR.use u1
    refine run_eq (run_of (pf := p97) rfl ?_)
    unfold p97
    simp only [R.loop_eq, wp0, wp1, wp2, wp3, wp4, PV.cellsT, appMax, dropSh, fillB, fillS, putD, splice, src, startSt, Int.reduceAdd, Int.reduceEq, Int.reduceLE, Int.reduceLT, Int.reduceNeg, Int.reduceSub, Int.reduceToNat, Nat.reduceAdd, Nat.reduceDiv, Nat.reduceEqDiff, Nat.reduceLT, Nat.reduceLeDiff, Nat.reduceMod, Nat.reduceMul, Nat.reduceSub, eq_self, if_false, if_true, ite_false, ite_true, reduceIte, Ty.row, tyAll, Tm.row, tmAll, u0', u1', w1]
  | .fold s a b (.cons h l), _, hs => by
    have q0 := count37 sh (Tm.fold s a b (.cons h l)) (by omega)
    have hs' := hs
    simp only [Tm.size] at hs
    have e : ((Tm.fold s a b (.cons h l)).red1.size : Int) = 3 + (b.size : Int) + (h.size : Int) + (l.size : Int) + ((Tm.fold s a b (.cons h l)).size : Int) - 1 - (h.size : Int) := by first | rfl | (simp only [Tm.red1, Tm.size]; omega)
    rw [e]
    generalize hN : (Tm.fold s a b (.cons h l)).size = N at *
    have w0 : IntKind.i64.wrap (3 + (b.size : Int)) = 3 + (b.size : Int) := wrap_i64 (by omega)
    have w1 : IntKind.i64.wrap (3 + (b.size : Int) + (h.size : Int)) = 3 + (b.size : Int) + (h.size : Int) := wrap_i64 (by omega)
    have w2 : IntKind.i64.wrap (3 + (b.size : Int) + (h.size : Int) + (l.size : Int)) = 3 + (b.size : Int) + (h.size : Int) + (l.size : Int) := wrap_i64 (by omega)
    have w3 : IntKind.i64.wrap (3 + (b.size : Int) + (h.size : Int) + (l.size : Int) + (N : Int)) = 3 + (b.size : Int) + (h.size : Int) + (l.size : Int) + (N : Int) := wrap_i64 (by omega)
    have w4 : IntKind.i64.wrap (3 + (b.size : Int) + (h.size : Int) + (l.size : Int) + (N : Int) - 1) = 3 + (b.size : Int) + (h.size : Int) + (l.size : Int) + (N : Int) - 1 := wrap_i64 (by omega)
    have w5 : IntKind.i64.wrap (3 + (b.size : Int) + (h.size : Int) + (l.size : Int) + (N : Int) - 1 - (h.size : Int)) = 3 + (b.size : Int) + (h.size : Int) + (l.size : Int) + (N : Int) - 1 - (h.size : Int) := wrap_i64 (by omega)
    have w6 : IntKind.i64.wrap (3 + (b.size : Int) + (h.size : Int) + (l.size : Int) + (N : Int) - 1 - (h.size : Int) - (N : Int)) = 3 + (b.size : Int) + (h.size : Int) + (l.size : Int) + (N : Int) - 1 - (h.size : Int) - (N : Int) := wrap_i64 (by omega)
    have u0 := q0
    have u1 := count37 sh b (by omega)
    have u2 := count37 sh h (by omega)
    have u3 := count37 sh l (by omega)
    try simp only [Ty.row, tyAll, Tm.row, tmAll, Int.cast_ofNat_Int] at u0 u1 u2 u3
    have u0' := clR.use u0
    have u1' := clR.use u1
    have u2' := clR.use u2
    have u3' := clR.use u3
    refine run_eq (run_of (pf := p97) rfl ?_)
    unfold p97
    simp only [R.loop_eq, wp0, wp1, wp2, wp3, wp4, PV.cellsT, appMax, dropSh, fillB, fillS, putD, splice, src, startSt, Int.reduceAdd, Int.reduceEq, Int.reduceLE, Int.reduceLT, Int.reduceNeg, Int.reduceSub, Int.reduceToNat, Nat.reduceAdd, Nat.reduceDiv, Nat.reduceEqDiff, Nat.reduceLT, Nat.reduceLeDiff, Nat.reduceMod, Nat.reduceMul, Nat.reduceSub, eq_self, if_false, if_true, ite_false, ite_true, reduceIte, Ty.row, tyAll, Tm.row, tmAll, u0', u1', u2', u3', w0, w1, w2, w3, w4, w5, w6]
  | .fst (.pair a b), _, hs => by
    have q0 := count37 sh (Tm.fst (.pair a b)) (by omega)
    have hs' := hs
    simp only [Tm.size] at hs
    have e : ((Tm.fst (.pair a b)).red1.size : Int) = (a.size : Int) := by first | rfl | (simp only [Tm.red1, Tm.size]; omega)
    rw [e]
    generalize hN : (Tm.fst (.pair a b)).size = N at *
    have w1 : IntKind.i64.wrap ((a.size : Int) - (N : Int)) = (a.size : Int) - (N : Int) := wrap_i64 (by omega)
    have u0 := q0
    have u1 := count37 sh a (by omega)
    try simp only [Ty.row, tyAll, Tm.row, tmAll, Int.cast_ofNat_Int] at u0 u1
    have u0' := clR.use u0
    have u1' := clR.use u1
    refine run_eq (run_of (pf := p97) rfl ?_)
    unfold p97
    simp only [R.loop_eq, wp0, wp1, wp2, wp3, wp4, PV.cellsT, appMax, dropSh, fillB, fillS, putD, splice, src, startSt, Int.reduceAdd, Int.reduceEq, Int.reduceLE, Int.reduceLT, Int.reduceNeg, Int.reduceSub, Int.reduceToNat, Nat.reduceAdd, Nat.reduceDiv, Nat.reduceEqDiff, Nat.reduceLT, Nat.reduceLeDiff, Nat.reduceMod, Nat.reduceMul, Nat.reduceSub, eq_self, if_false, if_true, ite_false, ite_true, reduceIte, Ty.row, tyAll, Tm.row, tmAll, u0', u1', w1]
  | .snd (.pair a b), _, hs => by
    have q0 := count37 sh (Tm.snd (.pair a b)) (by omega)
    have hs' := hs
    simp only [Tm.size] at hs
    have e : ((Tm.snd (.pair a b)).red1.size : Int) = (b.size : Int) := by first | rfl | (simp only [Tm.red1, Tm.size]; omega)
    rw [e]
    generalize hN : (Tm.snd (.pair a b)).size = N at *
    have w1 : IntKind.i64.wrap ((b.size : Int) - (N : Int)) = (b.size : Int) - (N : Int) := wrap_i64 (by omega)
    have u0 := q0
    have u1 := count37 sh b (by omega)
    try simp only [Ty.row, tyAll, Tm.row, tmAll, Int.cast_ofNat_Int] at u0 u1
    have u0' := clR.use u0
    have u1' := clR.use u1
    refine run_eq (run_of (pf := p97) rfl ?_)
    unfold p97
    simp only [R.loop_eq, wp0, wp1, wp2, wp3, wp4, PV.cellsT, appMax, dropSh, fillB, fillS, putD, splice, src, startSt, Int.reduceAdd, Int.reduceEq, Int.reduceLE, Int.reduceLT, Int.reduceNeg, Int.reduceSub, Int.reduceToNat, Nat.reduceAdd, Nat.reduceDiv, Nat.reduceEqDiff, Nat.reduceLT, Nat.reduceLeDiff, Nat.reduceMod, Nat.reduceMul, Nat.reduceSub, eq_self, if_false, if_true, ite_false, ite_true, reduceIte, Ty.row, tyAll, Tm.row, tmAll, u0', u1', w1]
theorem reduced98 (sh : Sh) : ∀ t : Tm, t.root = true → t.size ≤ 10000 → t.low 1073741824 → ∃ n, callN T G n 98 [.ag t.row] sh = some (.ag t.red1.row, sh)
  | .app (.lam s a) b, _, hs, hl => by
    simp only [Tm.size] at hs
    have e : (Tm.app (.lam s a) b).red1 = a.put 0 b := rfl
    rw [e]
    have z0 : ((0 : Nat) : Int) = 0 := rfl
    have tt := in124 sh 0 b (by omega) hl.2 a 0 (by omega) hl.1
    rw [z0] at tt
    simp only [Nat.add_zero] at tt
    have u0 := tt
    try simp only [Ty.row, tyAll, Tm.row, tmAll, Int.cast_ofNat_Int] at u0
    have u0' := clR.use u0
    refine run_eq (run_of (pf := p98) rfl ?_)
    unfold p98
    simp only [R.loop_eq, wp0, wp1, wp2, wp3, wp4, PV.cellsT, appMax, dropSh, fillB, fillS, putD, splice, src, startSt, Int.reduceAdd, Int.reduceEq, Int.reduceLE, Int.reduceLT, Int.reduceNeg, Int.reduceSub, Int.reduceToNat, Nat.reduceAdd, Nat.reduceDiv, Nat.reduceEqDiff, Nat.reduceLT, Nat.reduceLeDiff, Nat.reduceMod, Nat.reduceMul, Nat.reduceSub, eq_self, if_false, if_true, ite_false, ite_true, reduceIte, Ty.row, tyAll, Tm.row, tmAll, u0']
  | .recu s a b .zero, _, hs, hl => by
    simp only [Tm.size] at hs
    have e : (Tm.recu s a b .zero).red1 = a := rfl
    rw [e]
    refine run_eq (run_of (pf := p98) rfl ?_)
    unfold p98
    simp only [R.loop_eq, wp0, wp1, wp2, wp3, wp4, PV.cellsT, appMax, dropSh, fillB, fillS, putD, splice, src, startSt, Int.reduceAdd, Int.reduceEq, Int.reduceLE, Int.reduceLT, Int.reduceNeg, Int.reduceSub, Int.reduceToNat, Nat.reduceAdd, Nat.reduceDiv, Nat.reduceEqDiff, Nat.reduceLT, Nat.reduceLeDiff, Nat.reduceMod, Nat.reduceMul, Nat.reduceSub, eq_self, if_false, if_true, ite_false, ite_true, reduceIte, Ty.row, tyAll, Tm.row, tmAll]
  | .recu s a b (.succ c), _, hs, hl => by
    simp only [Tm.size] at hs
    have e : (Tm.recu s a b (.succ c)).red1 = .app (.app b c) (.recu s a b c) := rfl
    rw [e]
    have u0 := n2 sh 3 b c
    have u1 := t3 sh 6 a b c s
    have u2 := n2 sh 3 (.app b c) (.recu s a b c)
    try simp only [Ty.row, tyAll, Tm.row, tmAll, Int.cast_ofNat_Int] at u0 u1 u2
    have u0' := clR.use u0
    have u1' := clR.use u1
    have u2' := clR.use u2
    refine run_eq (run_of (pf := p98) rfl ?_)
    unfold p98
    simp only [R.loop_eq, wp0, wp1, wp2, wp3, wp4, PV.cellsT, appMax, dropSh, fillB, fillS, putD, splice, src, startSt, Int.reduceAdd, Int.reduceEq, Int.reduceLE, Int.reduceLT, Int.reduceNeg, Int.reduceSub, Int.reduceToNat, Nat.reduceAdd, Nat.reduceDiv, Nat.reduceEqDiff, Nat.reduceLT, Nat.reduceLeDiff, Nat.reduceMod, Nat.reduceMul, Nat.reduceSub, eq_self, if_false, if_true, ite_false, ite_true, reduceIte, Ty.row, tyAll, Tm.row, tmAll, u0', u1', u2']
  | .fold s a b .nil, _, hs, hl => by
    simp only [Tm.size] at hs
    have e : (Tm.fold s a b .nil).red1 = a := rfl
    rw [e]
    refine run_eq (run_of (pf := p98) rfl ?_)
    unfold p98
    simp only [R.loop_eq, wp0, wp1, wp2, wp3, wp4, PV.cellsT, appMax, dropSh, fillB, fillS, putD, splice, src, startSt, Int.reduceAdd, Int.reduceEq, Int.reduceLE, Int.reduceLT, Int.reduceNeg, Int.reduceSub, Int.reduceToNat, Nat.reduceAdd, Nat.reduceDiv, Nat.reduceEqDiff, Nat.reduceLT, Nat.reduceLeDiff, Nat.reduceMod, Nat.reduceMul, Nat.reduceSub, eq_self, if_false, if_true, ite_false, ite_true, reduceIte, Ty.row, tyAll, Tm.row, tmAll]
  | .fold s a b (.cons h l), _, hs, hl => by
    simp only [Tm.size] at hs
    have e : (Tm.fold s a b (.cons h l)).red1 = .app (.app (.app b h) l) (.fold s a b l) := rfl
    rw [e]
    have u0 := n2 sh 3 b h
    have u1 := n2 sh 3 (.app b h) l
    have u2 := t3 sh 9 a b l s
    have u3 := n2 sh 3 (.app (.app b h) l) (.fold s a b l)
    try simp only [Ty.row, tyAll, Tm.row, tmAll, Int.cast_ofNat_Int] at u0 u1 u2 u3
    have u0' := clR.use u0
    have u1' := clR.use u1
    have u2' := clR.use u2
    have u3' := clR.use u3
    refine run_eq (run_of (pf := p98) rfl ?_)
    unfold p98
    simp only [R.loop_eq, wp0, wp1, wp2, wp3, wp4, PV.cellsT, appMax, dropSh, fillB, fillS, putD, splice, src, startSt, Int.reduceAdd, Int.reduceEq, Int.reduceLE, Int.reduceLT, Int.reduceNeg, Int.reduceSub, Int.reduceToNat, Nat.reduceAdd, Nat.reduceDiv, Nat.reduceEqDiff, Nat.reduceLT, Nat.reduceLeDiff, Nat.reduceMod, Nat.reduceMul, Nat.reduceSub, eq_self, if_false, if_true, ite_false, ite_true, reduceIte, Ty.row, tyAll, Tm.row, tmAll, u0', u1', u2', u3']
  | .fst (.pair a b), _, hs, hl => by
    simp only [Tm.size] at hs
    have e : (Tm.fst (.pair a b)).red1 = a := rfl
    rw [e]
    refine run_eq (run_of (pf := p98) rfl ?_)
    unfold p98
    simp only [R.loop_eq, wp0, wp1, wp2, wp3, wp4, PV.cellsT, appMax, dropSh, fillB, fillS, putD, splice, src, startSt, Int.reduceAdd, Int.reduceEq, Int.reduceLE, Int.reduceLT, Int.reduceNeg, Int.reduceSub, Int.reduceToNat, Nat.reduceAdd, Nat.reduceDiv, Nat.reduceEqDiff, Nat.reduceLT, Nat.reduceLeDiff, Nat.reduceMod, Nat.reduceMul, Nat.reduceSub, eq_self, if_false, if_true, ite_false, ite_true, reduceIte, Ty.row, tyAll, Tm.row, tmAll]
  | .snd (.pair a b), _, hs, hl => by
    simp only [Tm.size] at hs
    have e : (Tm.snd (.pair a b)).red1 = b := rfl
    rw [e]
    refine run_eq (run_of (pf := p98) rfl ?_)
    unfold p98
    simp only [R.loop_eq, wp0, wp1, wp2, wp3, wp4, PV.cellsT, appMax, dropSh, fillB, fillS, putD, splice, src, startSt, Int.reduceAdd, Int.reduceEq, Int.reduceLE, Int.reduceLT, Int.reduceNeg, Int.reduceSub, Int.reduceToNat, Nat.reduceAdd, Nat.reduceDiv, Nat.reduceEqDiff, Nat.reduceLT, Nat.reduceLeDiff, Nat.reduceMod, Nat.reduceMul, Nat.reduceSub, eq_self, if_false, if_true, ite_false, ite_true, reduceIte, Ty.row, tyAll, Tm.row, tmAll]
end Go.Pi.Terms
