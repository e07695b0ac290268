import Derived.Test.YtoljfmfmdghoeaaGreatDoorSB
set_option maxRecDepth 100000
set_option maxHeartbeats 1000000
set_option linter.unusedSimpArgs false
set_option linter.unusedVariables false
namespace Go.Pi.Terms
open Go Go.Pi Go.Proofs.YtoljfmfmdghoeaaGreatDoor
def Tm.become : Tm → Tm
  | .app (.lam _ a) b => a.put 0 b
  | .recu _ a _ _ => a
  | .fold _ a _ _ => a
  | .fst (.pair a _) => a
  | .snd (.pair _ b) => b
  | t => t
def Tm.next : Tm → Option Tm
  | .var i => none
  | .lam s a => match a.next with | some y => some (.lam s y) | none => none
  | .app a b => if (Tm.app a b).small then some (Tm.app a b).become else match a.next with | some y => some (.app y b) | none => (match b.next with | some y => some (.app a y) | none => none)
  | .zero => none
  | .succ a => match a.next with | some y => some (.succ y) | none => none
  | .recu s a b c => if (Tm.recu s a b c).small then some (Tm.recu s a b c).become else match a.next with | some y => some (.recu s y b c) | none => (match b.next with | some y => some (.recu s a y c) | none => (match c.next with | some y => some (.recu s a b y) | none => none))
  | .nil => none
  | .cons a b => match a.next with | some y => some (.cons y b) | none => (match b.next with | some y => some (.cons a y) | none => none)
  | .fold s a b c => if (Tm.fold s a b c).small then some (Tm.fold s a b c).become else match a.next with | some y => some (.fold s y b c) | none => (match b.next with | some y => some (.fold s a y c) | none => (match c.next with | some y => some (.fold s a b y) | none => none))
  | .pair a b => match a.next with | some y => some (.pair y b) | none => (match b.next with | some y => some (.pair a y) | none => none)
  | .fst a => if (Tm.fst a).small then some (Tm.fst a).become else match a.next with | some y => some (.fst y) | none => none
  | .snd a => if (Tm.snd a).small then some (Tm.snd a).become else match a.next with | some y => some (.snd y) | none => none
  | .unit => none
/-- What next answers, as cells. -/
def nres (t : Tm) : Option Tm → PV
  | some x => .tup [.ag x.row, .v (.bool true)]
  | none => .tup [.ag t.row, .v (.bool false)]
theorem become56 (bx : List (Nat × List PV)) (nx : Nat) (t : Tm) (h : t.small = true) (hs : t.size ≤ 100000) (hl : t.low 1073741824) : ∃ nx' n, callN T G n 54 [.ag t.row] ⟨bx, nx⟩ = some (.ag t.become.row, ⟨bx, nx'⟩) := by
  cases t with
  | var i =>
    cases h
  | lam s a =>
    cases h
  | app a b =>
    rcases kind_lam a with ⟨s, x, rfl⟩ | ⟨hk, hs'⟩
    · simp only [Tm.size] at hs
      obtain ⟨m, hm⟩ := put71 bx nx x b 0 (by omega) hl.1 (by omega) hl.2
      have e : (Tm.app (.lam s x) b).become = x.put 0 b := rfl
      rw [e]
      refine ⟨m, ?_⟩
      have u0 := hm
      try simp only [Ty.row, tyAll, Tm.row, tmAll, Int.cast_ofNat_Int] at u0
      have u0' := clR.use u0
      refine run_eq (run_of (pf := p54) rfl ?_)
      unfold p54
      simp only [R.loop_eq, wp0, wp1, wp2, wp3, wp4, PV.cellsT, appMax, dropSh, fillB, fillS, putD, splice, src, startSt, Int.reduceAdd, Int.reduceEq, Int.reduceLE, Int.reduceLT, Int.reduceNeg, Int.reduceSub, Int.reduceToNat, Nat.reduceAdd, Nat.reduceDiv, Nat.reduceEqDiff, Nat.reduceLT, Nat.reduceLeDiff, Nat.reduceMod, Nat.reduceMul, Nat.reduceSub, eq_self, if_false, if_true, ite_false, ite_true, reduceIte, Ty.row, tyAll, Tm.row, tmAll, u0']
    · rw [hs' b] at h; cases h
  | zero =>
    cases h
  | succ a =>
    cases h
  | recu s a b c =>
    refine ⟨nx, ?_⟩
    have e : (Tm.recu s a b c).become = a := rfl
    rw [e]
    refine run_eq (run_of (pf := p54) rfl ?_)
    unfold p54
    simp only [R.loop_eq, wp0, wp1, wp2, wp3, wp4, PV.cellsT, appMax, dropSh, fillB, fillS, putD, splice, src, startSt, Int.reduceAdd, Int.reduceEq, Int.reduceLE, Int.reduceLT, Int.reduceNeg, Int.reduceSub, Int.reduceToNat, Nat.reduceAdd, Nat.reduceDiv, Nat.reduceEqDiff, Nat.reduceLT, Nat.reduceLeDiff, Nat.reduceMod, Nat.reduceMul, Nat.reduceSub, eq_self, if_false, if_true, ite_false, ite_true, reduceIte, Ty.row, tyAll, Tm.row, tmAll]
  | nil =>
    cases h
  | cons a b =>
    cases h
  | fold s a b c =>
    refine ⟨nx, ?_⟩
    have e : (Tm.fold s a b c).become = a := rfl
    rw [e]
    refine run_eq (run_of (pf := p54) rfl ?_)
    unfold p54
    simp only [R.loop_eq, wp0, wp1, wp2, wp3, wp4, PV.cellsT, appMax, dropSh, fillB, fillS, putD, splice, src, startSt, Int.reduceAdd, Int.reduceEq, Int.reduceLE, Int.reduceLT, Int.reduceNeg, Int.reduceSub, Int.reduceToNat, Nat.reduceAdd, Nat.reduceDiv, Nat.reduceEqDiff, Nat.reduceLT, Nat.reduceLeDiff, Nat.reduceMod, Nat.reduceMul, Nat.reduceSub, eq_self, if_false, if_true, ite_false, ite_true, reduceIte, Ty.row, tyAll, Tm.row, tmAll]
  | pair a b =>
    cases h
  | fst a =>
    cases a with
    | pair x y =>
      refine ⟨nx, ?_⟩
      have e : (Tm.fst (.pair x y)).become = x := rfl
      rw [e]
      refine run_eq (run_of (pf := p54) rfl ?_)
      unfold p54
      simp only [R.loop_eq, wp0, wp1, wp2, wp3, wp4, PV.cellsT, appMax, dropSh, fillB, fillS, putD, splice, src, startSt, Int.reduceAdd, Int.reduceEq, Int.reduceLE, Int.reduceLT, Int.reduceNeg, Int.reduceSub, Int.reduceToNat, Nat.reduceAdd, Nat.reduceDiv, Nat.reduceEqDiff, Nat.reduceLT, Nat.reduceLeDiff, Nat.reduceMod, Nat.reduceMul, Nat.reduceSub, eq_self, if_false, if_true, ite_false, ite_true, reduceIte, Ty.row, tyAll, Tm.row, tmAll]
    | _ => cases h
  | snd a =>
    cases a with
    | pair x y =>
      refine ⟨nx, ?_⟩
      have e : (Tm.snd (.pair x y)).become = y := rfl
      rw [e]
      refine run_eq (run_of (pf := p54) rfl ?_)
      unfold p54
      simp only [R.loop_eq, wp0, wp1, wp2, wp3, wp4, PV.cellsT, appMax, dropSh, fillB, fillS, putD, splice, src, startSt, Int.reduceAdd, Int.reduceEq, Int.reduceLE, Int.reduceLT, Int.reduceNeg, Int.reduceSub, Int.reduceToNat, Nat.reduceAdd, Nat.reduceDiv, Nat.reduceEqDiff, Nat.reduceLT, Nat.reduceLeDiff, Nat.reduceMod, Nat.reduceMul, Nat.reduceSub, eq_self, if_false, if_true, ite_false, ite_true, reduceIte, Ty.row, tyAll, Tm.row, tmAll]
    | _ => cases h
  | unit =>
    cases h
theorem next39 : ∀ (t : Tm) (bx : List (Nat × List PV)) (nx : Nat), t.size ≤ 100000 → t.low 1073741824 → ∃ nx' n, callN T G n 23 [.ag t.row] ⟨bx, nx⟩ = some (nres t t.next, ⟨bx, nx'⟩) := by
  intro t
  induction t with
  | var i =>
    intro bx nx hs hl
    have q := small42 bx nx (.var i) hs
    have e : (Tm.var i).small = false := rfl
    rw [e] at q
    simp only [Tm.size] at hs
    have en : (Tm.var i).next = none := by simp [Tm.next]
    rw [en]
    refine ⟨nx + 1, ?_⟩
    have u0 := q
    try simp only [Ty.row, tyAll, Tm.row, tmAll, Int.cast_ofNat_Int] at u0
    have u0' := clR.use u0
    refine run_eq (run_of (pf := p23) rfl ?_)
    unfold p23
    simp only [R.loop_eq, wp0, wp1, wp2, wp3, wp4, PV.cellsT, appMax, dropSh, fillB, fillS, putD, splice, src, startSt, Int.reduceAdd, Int.reduceEq, Int.reduceLE, Int.reduceLT, Int.reduceNeg, Int.reduceSub, Int.reduceToNat, Nat.reduceAdd, Nat.reduceDiv, Nat.reduceEqDiff, Nat.reduceLT, Nat.reduceLeDiff, Nat.reduceMod, Nat.reduceMul, Nat.reduceSub, eq_self, if_false, if_true, ite_false, ite_true, reduceIte, Ty.row, tyAll, Tm.row, tmAll, u0', nres]
  | lam s a iha =>
    intro bx nx hs hl
    have q := small42 bx nx (.lam s a) hs
    have e : (Tm.lam s a).small = false := rfl
    rw [e] at q
    simp only [Tm.size] at hs
    obtain ⟨m0, h0⟩ := iha bx (nx + 1) (by omega) (hl)
    cases e0 : a.next with
    | some y =>
      rw [e0] at h0
      have en : (Tm.lam s a).next = some (.lam s y) := by simp [Tm.next, e0]
      rw [en]
      refine ⟨m0, ?_⟩
      simp only [nres] at h0
      have u0 := q
      have u1 := h0
      try simp only [Ty.row, tyAll, Tm.row, tmAll, Int.cast_ofNat_Int] at u0 u1
      have u0' := clR.use u0
      have u1' := clR.use u1
      refine run_eq (run_of (pf := p23) rfl ?_)
      unfold p23
      simp only [R.loop_eq, wp0, wp1, wp2, wp3, wp4, PV.cellsT, appMax, dropSh, fillB, fillS, putD, splice, src, startSt, Int.reduceAdd, Int.reduceEq, Int.reduceLE, Int.reduceLT, Int.reduceNeg, Int.reduceSub, Int.reduceToNat, Nat.reduceAdd, Nat.reduceDiv, Nat.reduceEqDiff, Nat.reduceLT, Nat.reduceLeDiff, Nat.reduceMod, Nat.reduceMul, Nat.reduceSub, eq_self, if_false, if_true, ite_false, ite_true, reduceIte, Ty.row, tyAll, Tm.row, tmAll, u0', u1', nres, reduceCtorEq, ne_eq, not_false_eq_true]
    | none =>
      rw [e0] at h0
      simp only [nres] at h0
      have en : (Tm.lam s a).next = none := by simp [Tm.next, e0]
      rw [en]
      refine ⟨m0, ?_⟩
      have u0 := q
      have u1 := h0
      try simp only [Ty.row, tyAll, Tm.row, tmAll, Int.cast_ofNat_Int] at u0 u1
      have u0' := clR.use u0
      have u1' := clR.use u1
      refine run_eq (run_of (pf := p23) rfl ?_)
      unfold p23
      simp only [R.loop_eq, wp0, wp1, wp2, wp3, wp4, PV.cellsT, appMax, dropSh, fillB, fillS, putD, splice, src, startSt, Int.reduceAdd, Int.reduceEq, Int.reduceLE, Int.reduceLT, Int.reduceNeg, Int.reduceSub, Int.reduceToNat, Nat.reduceAdd, Nat.reduceDiv, Nat.reduceEqDiff, Nat.reduceLT, Nat.reduceLeDiff, Nat.reduceMod, Nat.reduceMul, Nat.reduceSub, eq_self, if_false, if_true, ite_false, ite_true, reduceIte, Ty.row, tyAll, Tm.row, tmAll, u0', u1', nres]
  | app a b iha ihb =>
    intro bx nx hs hl
    have q := small42 bx nx (.app a b) hs
    cases e : (Tm.app a b).small with
    | true =>
      rw [e] at q
      obtain ⟨m, hm⟩ := become56 bx (nx + 1) (.app a b) e hs hl
      have en : (Tm.app a b).next = some (Tm.app a b).become := by simp only [Tm.next, e, if_true]
      rw [en]
      refine ⟨m, ?_⟩
      have u0 := q
      have u1 := hm
      try simp only [Ty.row, tyAll, Tm.row, tmAll, Int.cast_ofNat_Int] at u0 u1
      have u0' := clR.use u0
      have u1' := clR.use u1
      refine run_eq (run_of (pf := p23) rfl ?_)
      unfold p23
      simp only [R.loop_eq, wp0, wp1, wp2, wp3, wp4, PV.cellsT, appMax, dropSh, fillB, fillS, putD, splice, src, startSt, Int.reduceAdd, Int.reduceEq, Int.reduceLE, Int.reduceLT, Int.reduceNeg, Int.reduceSub, Int.reduceToNat, Nat.reduceAdd, Nat.reduceDiv, Nat.reduceEqDiff, Nat.reduceLT, Nat.reduceLeDiff, Nat.reduceMod, Nat.reduceMul, Nat.reduceSub, eq_self, if_false, if_true, ite_false, ite_true, reduceIte, Ty.row, tyAll, Tm.row, tmAll, u0', u1', nres]
    | false =>
      rw [e] at q
      simp only [Tm.size] at hs
      obtain ⟨m0, h0⟩ := iha bx (nx + 1) (by omega) (hl.1)
      cases e0 : a.next with
      | some y =>
        rw [e0] at h0
        have en : (Tm.app a b).next = some (.app y b) := by simp [Tm.next, e, e0]
        rw [en]
        refine ⟨m0, ?_⟩
        simp only [nres] at h0
        have u0 := q
        have u1 := h0
        try simp only [Ty.row, tyAll, Tm.row, tmAll, Int.cast_ofNat_Int] at u0 u1
        have u0' := clR.use u0
        have u1' := clR.use u1
        refine run_eq (run_of (pf := p23) rfl ?_)
        unfold p23
        simp only [R.loop_eq, wp0, wp1, wp2, wp3, wp4, PV.cellsT, appMax, dropSh, fillB, fillS, putD, splice, src, startSt, Int.reduceAdd, Int.reduceEq, Int.reduceLE, Int.reduceLT, Int.reduceNeg, Int.reduceSub, Int.reduceToNat, Nat.reduceAdd, Nat.reduceDiv, Nat.reduceEqDiff, Nat.reduceLT, Nat.reduceLeDiff, Nat.reduceMod, Nat.reduceMul, Nat.reduceSub, eq_self, if_false, if_true, ite_false, ite_true, reduceIte, Ty.row, tyAll, Tm.row, tmAll, u0', u1', nres, reduceCtorEq, ne_eq, not_false_eq_true]
      | none =>
        rw [e0] at h0
        simp only [nres] at h0
        obtain ⟨m1, h1⟩ := ihb bx (m0) (by omega) (hl.2)
        cases e1 : b.next with
        | some y =>
          rw [e1] at h1
          have en : (Tm.app a b).next = some (.app a y) := by simp [Tm.next, e, e0, e1]
          rw [en]
          refine ⟨m1, ?_⟩
          simp only [nres] at h0 h1
          have u0 := q
          have u1 := h0
          have u2 := h1
          try simp only [Ty.row, tyAll, Tm.row, tmAll, Int.cast_ofNat_Int] at u0 u1 u2
          have u0' := clR.use u0
          have u1' := clR.use u1
          have u2' := clR.use u2
          refine run_eq (run_of (pf := p23) rfl ?_)
          unfold p23
          simp only [R.loop_eq, wp0, wp1, wp2, wp3, wp4, PV.cellsT, appMax, dropSh, fillB, fillS, putD, splice, src, startSt, Int.reduceAdd, Int.reduceEq, Int.reduceLE, Int.reduceLT, Int.reduceNeg, Int.reduceSub, Int.reduceToNat, Nat.reduceAdd, Nat.reduceDiv, Nat.reduceEqDiff, Nat.reduceLT, Nat.reduceLeDiff, Nat.reduceMod, Nat.reduceMul, Nat.reduceSub, eq_self, if_false, if_true, ite_false, ite_true, reduceIte, Ty.row, tyAll, Tm.row, tmAll, u0', u1', u2', nres, reduceCtorEq, ne_eq, not_false_eq_true]
        | none =>
          rw [e1] at h1
          simp only [nres] at h1
          have en : (Tm.app a b).next = none := by simp [Tm.next, e, e0, e1]
          rw [en]
          refine ⟨m1, ?_⟩
          have u0 := q
          have u1 := h0
          have u2 := h1
          try simp only [Ty.row, tyAll, Tm.row, tmAll, Int.cast_ofNat_Int] at u0 u1 u2
          have u0' := clR.use u0
          have u1' := clR.use u1
          have u2' := clR.use u2
          refine run_eq (run_of (pf := p23) rfl ?_)
          unfold p23
          simp only [R.loop_eq, wp0, wp1, wp2, wp3, wp4, PV.cellsT, appMax, dropSh, fillB, fillS, putD, splice, src, startSt, Int.reduceAdd, Int.reduceEq, Int.reduceLE, Int.reduceLT, Int.reduceNeg, Int.reduceSub, Int.reduceToNat, Nat.reduceAdd, Nat.reduceDiv, Nat.reduceEqDiff, Nat.reduceLT, Nat.reduceLeDiff, Nat.reduceMod, Nat.reduceMul, Nat.reduceSub, eq_self, if_false, if_true, ite_false, ite_true, reduceIte, Ty.row, tyAll, Tm.row, tmAll, u0', u1', u2', nres]
  | zero =>
    intro bx nx hs hl
    have q := small42 bx nx (.zero) hs
    have e : (Tm.zero).small = false := rfl
    rw [e] at q
    simp only [Tm.size] at hs
    have en : (Tm.zero).next = none := by simp [Tm.next]
    rw [en]
    refine ⟨nx + 1, ?_⟩
    have u0 := q
    try simp only [Ty.row, tyAll, Tm.row, tmAll, Int.cast_ofNat_Int] at u0
    have u0' := clR.use u0
    refine run_eq (run_of (pf := p23) rfl ?_)
    unfold p23
    simp only [R.loop_eq, wp0, wp1, wp2, wp3, wp4, PV.cellsT, appMax, dropSh, fillB, fillS, putD, splice, src, startSt, Int.reduceAdd, Int.reduceEq, Int.reduceLE, Int.reduceLT, Int.reduceNeg, Int.reduceSub, Int.reduceToNat, Nat.reduceAdd, Nat.reduceDiv, Nat.reduceEqDiff, Nat.reduceLT, Nat.reduceLeDiff, Nat.reduceMod, Nat.reduceMul, Nat.reduceSub, eq_self, if_false, if_true, ite_false, ite_true, reduceIte, Ty.row, tyAll, Tm.row, tmAll, u0', nres]
  | succ a iha =>
    intro bx nx hs hl
    have q := small42 bx nx (.succ a) hs
    have e : (Tm.succ a).small = false := rfl
    rw [e] at q
    simp only [Tm.size] at hs
    obtain ⟨m0, h0⟩ := iha bx (nx + 1) (by omega) (hl)
    cases e0 : a.next with
    | some y =>
      rw [e0] at h0
      have en : (Tm.succ a).next = some (.succ y) := by simp [Tm.next, e0]
      rw [en]
      refine ⟨m0, ?_⟩
      simp only [nres] at h0
      have u0 := q
      have u1 := h0
      try simp only [Ty.row, tyAll, Tm.row, tmAll, Int.cast_ofNat_Int] at u0 u1
      have u0' := clR.use u0
      have u1' := clR.use u1
      refine run_eq (run_of (pf := p23) rfl ?_)
      unfold p23
      simp only [R.loop_eq, wp0, wp1, wp2, wp3, wp4, PV.cellsT, appMax, dropSh, fillB, fillS, putD, splice, src, startSt, Int.reduceAdd, Int.reduceEq, Int.reduceLE, Int.reduceLT, Int.reduceNeg, Int.reduceSub, Int.reduceToNat, Nat.reduceAdd, Nat.reduceDiv, Nat.reduceEqDiff, Nat.reduceLT, Nat.reduceLeDiff, Nat.reduceMod, Nat.reduceMul, Nat.reduceSub, eq_self, if_false, if_true, ite_false, ite_true, reduceIte, Ty.row, tyAll, Tm.row, tmAll, u0', u1', nres, reduceCtorEq, ne_eq, not_false_eq_true]
    | none =>
      rw [e0] at h0
      simp only [nres] at h0
      have en : (Tm.succ a).next = none := by simp [Tm.next, e0]
      rw [en]
      refine ⟨m0, ?_⟩
      have u0 := q
      have u1 := h0
      try simp only [Ty.row, tyAll, Tm.row, tmAll, Int.cast_ofNat_Int] at u0 u1
      have u0' := clR.use u0
      have u1' := clR.use u1
      refine run_eq (run_of (pf := p23) rfl ?_)
      unfold p23
      simp only [R.loop_eq, wp0, wp1, wp2, wp3, wp4, PV.cellsT, appMax, dropSh, fillB, fillS, putD, splice, src, startSt, Int.reduceAdd, Int.reduceEq, Int.reduceLE, Int.reduceLT, Int.reduceNeg, Int.reduceSub, Int.reduceToNat, Nat.reduceAdd, Nat.reduceDiv, Nat.reduceEqDiff, Nat.reduceLT, Nat.reduceLeDiff, Nat.reduceMod, Nat.reduceMul, Nat.reduceSub, eq_self, if_false, if_true, ite_false, ite_true, reduceIte, Ty.row, tyAll, Tm.row, tmAll, u0', u1', nres]
  | recu s a b c iha ihb ihc =>
    intro bx nx hs hl
    have q := small42 bx nx (.recu s a b c) hs
    cases e : (Tm.recu s a b c).small with
    | true =>
      rw [e] at q
      obtain ⟨m, hm⟩ := become56 bx (nx + 1) (.recu s a b c) e hs hl
      have en : (Tm.recu s a b c).next = some (Tm.recu s a b c).become := by simp only [Tm.next, e, if_true]
      rw [en]
      refine ⟨m, ?_⟩
      have u0 := q
      have u1 := hm
      try simp only [Ty.row, tyAll, Tm.row, tmAll, Int.cast_ofNat_Int] at u0 u1
      have u0' := clR.use u0
      have u1' := clR.use u1
      refine run_eq (run_of (pf := p23) rfl ?_)
      unfold p23
      simp only [R.loop_eq, wp0, wp1, wp2, wp3, wp4, PV.cellsT, appMax, dropSh, fillB, fillS, putD, splice, src, startSt, Int.reduceAdd, Int.reduceEq, Int.reduceLE, Int.reduceLT, Int.reduceNeg, Int.reduceSub, Int.reduceToNat, Nat.reduceAdd, Nat.reduceDiv, Nat.reduceEqDiff, Nat.reduceLT, Nat.reduceLeDiff, Nat.reduceMod, Nat.reduceMul, Nat.reduceSub, eq_self, if_false, if_true, ite_false, ite_true, reduceIte, Ty.row, tyAll, Tm.row, tmAll, u0', u1', nres]
    | false =>
      rw [e] at q
      simp only [Tm.size] at hs
      obtain ⟨m0, h0⟩ := iha bx (nx + 1) (by omega) (hl.1)
      cases e0 : a.next with
      | some y =>
        rw [e0] at h0
        have en : (Tm.recu s a b c).next = some (.recu s y b c) := by simp [Tm.next, e, e0]
        rw [en]
        refine ⟨m0, ?_⟩
        simp only [nres] at h0
        have u0 := q
        have u1 := h0
        try simp only [Ty.row, tyAll, Tm.row, tmAll, Int.cast_ofNat_Int] at u0 u1
        have u0' := clR.use u0
        have u1' := clR.use u1
        refine run_eq (run_of (pf := p23) rfl ?_)
        unfold p23
        simp only [R.loop_eq, wp0, wp1, wp2, wp3, wp4, PV.cellsT, appMax, dropSh, fillB, fillS, putD, splice, src, startSt, Int.reduceAdd, Int.reduceEq, Int.reduceLE, Int.reduceLT, Int.reduceNeg, Int.reduceSub, Int.reduceToNat, Nat.reduceAdd, Nat.reduceDiv, Nat.reduceEqDiff, Nat.reduceLT, Nat.reduceLeDiff, Nat.reduceMod, Nat.reduceMul, Nat.reduceSub, eq_self, if_false, if_true, ite_false, ite_true, reduceIte, Ty.row, tyAll, Tm.row, tmAll, u0', u1', nres, reduceCtorEq, ne_eq, not_false_eq_true]
      | none =>
        rw [e0] at h0
        simp only [nres] at h0
        obtain ⟨m1, h1⟩ := ihb bx (m0) (by omega) (hl.2.1)
        cases e1 : b.next with
        | some y =>
          rw [e1] at h1
          have en : (Tm.recu s a b c).next = some (.recu s a y c) := by simp [Tm.next, e, e0, e1]
          rw [en]
          refine ⟨m1, ?_⟩
          simp only [nres] at h0 h1
          have u0 := q
          have u1 := h0
          have u2 := h1
          try simp only [Ty.row, tyAll, Tm.row, tmAll, Int.cast_ofNat_Int] at u0 u1 u2
          have u0' := clR.use u0
          have u1' := clR.use u1
          have u2' := clR.use u2
          refine run_eq (run_of (pf := p23) rfl ?_)
          unfold p23
          simp only [R.loop_eq, wp0, wp1, wp2, wp3, wp4, PV.cellsT, appMax, dropSh, fillB, fillS, putD, splice, src, startSt, Int.reduceAdd, Int.reduceEq, Int.reduceLE, Int.reduceLT, Int.reduceNeg, Int.reduceSub, Int.reduceToNat, Nat.reduceAdd, Nat.reduceDiv, Nat.reduceEqDiff, Nat.reduceLT, Nat.reduceLeDiff, Nat.reduceMod, Nat.reduceMul, Nat.reduceSub, eq_self, if_false, if_true, ite_false, ite_true, reduceIte, Ty.row, tyAll, Tm.row, tmAll, u0', u1', u2', nres, reduceCtorEq, ne_eq, not_false_eq_true]
        | none =>
          rw [e1] at h1
          simp only [nres] at h1
          obtain ⟨m2, h2⟩ := ihc bx (m1) (by omega) (hl.2.2)
          cases e2 : c.next with
          | some y =>
            rw [e2] at h2
            have en : (Tm.recu s a b c).next = some (.recu s a b y) := by simp [Tm.next, e, e0, e1, e2]
            rw [en]
            refine ⟨m2, ?_⟩
            simp only [nres] at h0 h1 h2
            have u0 := q
            have u1 := h0
            have u2 := h1
            have u3 := h2
            try simp only [Ty.row, tyAll, Tm.row, tmAll, Int.cast_ofNat_Int] at u0 u1 u2 u3
            have u0' := clR.use u0
            have u1' := clR.use u1
            have u2' := clR.use u2
            have u3' := clR.use u3
            refine run_eq (run_of (pf := p23) rfl ?_)
            unfold p23
            simp only [R.loop_eq, wp0, wp1, wp2, wp3, wp4, PV.cellsT, appMax, dropSh, fillB, fillS, putD, splice, src, startSt, Int.reduceAdd, Int.reduceEq, Int.reduceLE, Int.reduceLT, Int.reduceNeg, Int.reduceSub, Int.reduceToNat, Nat.reduceAdd, Nat.reduceDiv, Nat.reduceEqDiff, Nat.reduceLT, Nat.reduceLeDiff, Nat.reduceMod, Nat.reduceMul, Nat.reduceSub, eq_self, if_false, if_true, ite_false, ite_true, reduceIte, Ty.row, tyAll, Tm.row, tmAll, u0', u1', u2', u3', nres, reduceCtorEq, ne_eq, not_false_eq_true]
          | none =>
            rw [e2] at h2
            simp only [nres] at h2
            have en : (Tm.recu s a b c).next = none := by simp [Tm.next, e, e0, e1, e2]
            rw [en]
            refine ⟨m2, ?_⟩
            have u0 := q
            have u1 := h0
            have u2 := h1
            have u3 := h2
            try simp only [Ty.row, tyAll, Tm.row, tmAll, Int.cast_ofNat_Int] at u0 u1 u2 u3
            have u0' := clR.use u0
            have u1' := clR.use u1
            have u2' := clR.use u2
            have u3' := clR.use u3
            refine run_eq (run_of (pf := p23) rfl ?_)
            unfold p23
            simp only [R.loop_eq, wp0, wp1, wp2, wp3, wp4, PV.cellsT, appMax, dropSh, fillB, fillS, putD, splice, src, startSt, Int.reduceAdd, Int.reduceEq, Int.reduceLE, Int.reduceLT, Int.reduceNeg, Int.reduceSub, Int.reduceToNat, Nat.reduceAdd, Nat.reduceDiv, Nat.reduceEqDiff, Nat.reduceLT, Nat.reduceLeDiff, Nat.reduceMod, Nat.reduceMul, Nat.reduceSub, eq_self, if_false, if_true, ite_false, ite_true, reduceIte, Ty.row, tyAll, Tm.row, tmAll, u0', u1', u2', u3', nres]
  | nil =>
    intro bx nx hs hl
    have q := small42 bx nx (.nil) hs
    have e : (Tm.nil).small = false := rfl
    rw [e] at q
    simp only [Tm.size] at hs
    have en : (Tm.nil).next = none := by simp [Tm.next]
    rw [en]
    refine ⟨nx + 1, ?_⟩
    have u0 := q
    try simp only [Ty.row, tyAll, Tm.row, tmAll, Int.cast_ofNat_Int] at u0
    have u0' := clR.use u0
    refine run_eq (run_of (pf := p23) rfl ?_)
    unfold p23
    simp only [R.loop_eq, wp0, wp1, wp2, wp3, wp4, PV.cellsT, appMax, dropSh, fillB, fillS, putD, splice, src, startSt, Int.reduceAdd, Int.reduceEq, Int.reduceLE, Int.reduceLT, Int.reduceNeg, Int.reduceSub, Int.reduceToNat, Nat.reduceAdd, Nat.reduceDiv, Nat.reduceEqDiff, Nat.reduceLT, Nat.reduceLeDiff, Nat.reduceMod, Nat.reduceMul, Nat.reduceSub, eq_self, if_false, if_true, ite_false, ite_true, reduceIte, Ty.row, tyAll, Tm.row, tmAll, u0', nres]
  | cons a b iha ihb =>
    intro bx nx hs hl
    have q := small42 bx nx (.cons a b) hs
    have e : (Tm.cons a b).small = false := rfl
    rw [e] at q
    simp only [Tm.size] at hs
    obtain ⟨m0, h0⟩ := iha bx (nx + 1) (by omega) (hl.1)
    cases e0 : a.next with
    | some y =>
      rw [e0] at h0
      have en : (Tm.cons a b).next = some (.cons y b) := by simp [Tm.next, e0]
      rw [en]
      refine ⟨m0, ?_⟩
      simp only [nres] at h0
      have u0 := q
      have u1 := h0
      try simp only [Ty.row, tyAll, Tm.row, tmAll, Int.cast_ofNat_Int] at u0 u1
      have u0' := clR.use u0
      have u1' := clR.use u1
      refine run_eq (run_of (pf := p23) rfl ?_)
      unfold p23
      simp only [R.loop_eq, wp0, wp1, wp2, wp3, wp4, PV.cellsT, appMax, dropSh, fillB, fillS, putD, splice, src, startSt, Int.reduceAdd, Int.reduceEq, Int.reduceLE, Int.reduceLT, Int.reduceNeg, Int.reduceSub, Int.reduceToNat, Nat.reduceAdd, Nat.reduceDiv, Nat.reduceEqDiff, Nat.reduceLT, Nat.reduceLeDiff, Nat.reduceMod, Nat.reduceMul, Nat.reduceSub, eq_self, if_false, if_true, ite_false, ite_true, reduceIte, Ty.row, tyAll, Tm.row, tmAll, u0', u1', nres, reduceCtorEq, ne_eq, not_false_eq_true]
    | none =>
      rw [e0] at h0
      simp only [nres] at h0
      obtain ⟨m1, h1⟩ := ihb bx (m0) (by omega) (hl.2)
      cases e1 : b.next with
      | some y =>
        rw [e1] at h1
        have en : (Tm.cons a b).next = some (.cons a y) := by simp [Tm.next, e0, e1]
        rw [en]
        refine ⟨m1, ?_⟩
        simp only [nres] at h0 h1
        have u0 := q
        have u1 := h0
        have u2 := h1
        try simp only [Ty.row, tyAll, Tm.row, tmAll, Int.cast_ofNat_Int] at u0 u1 u2
        have u0' := clR.use u0
        have u1' := clR.use u1
        have u2' := clR.use u2
        refine run_eq (run_of (pf := p23) rfl ?_)
        unfold p23
        simp only [R.loop_eq, wp0, wp1, wp2, wp3, wp4, PV.cellsT, appMax, dropSh, fillB, fillS, putD, splice, src, startSt, Int.reduceAdd, Int.reduceEq, Int.reduceLE, Int.reduceLT, Int.reduceNeg, Int.reduceSub, Int.reduceToNat, Nat.reduceAdd, Nat.reduceDiv, Nat.reduceEqDiff, Nat.reduceLT, Nat.reduceLeDiff, Nat.reduceMod, Nat.reduceMul, Nat.reduceSub, eq_self, if_false, if_true, ite_false, ite_true, reduceIte, Ty.row, tyAll, Tm.row, tmAll, u0', u1', u2', nres, reduceCtorEq, ne_eq, not_false_eq_true]
      | none =>
        rw [e1] at h1
        simp only [nres] at h1
        have en : (Tm.cons a b).next = none := by simp [Tm.next, e0, e1]
        rw [en]
        refine ⟨m1, ?_⟩
        have u0 := q
        have u1 := h0
        have u2 := h1
        try simp only [Ty.row, tyAll, Tm.row, tmAll, Int.cast_ofNat_Int] at u0 u1 u2
        have u0' := clR.use u0
        have u1' := clR.use u1
        have u2' := clR.use u2
        refine run_eq (run_of (pf := p23) rfl ?_)
        unfold p23
        simp only [R.loop_eq, wp0, wp1, wp2, wp3, wp4, PV.cellsT, appMax, dropSh, fillB, fillS, putD, splice, src, startSt, Int.reduceAdd, Int.reduceEq, Int.reduceLE, Int.reduceLT, Int.reduceNeg, Int.reduceSub, Int.reduceToNat, Nat.reduceAdd, Nat.reduceDiv, Nat.reduceEqDiff, Nat.reduceLT, Nat.reduceLeDiff, Nat.reduceMod, Nat.reduceMul, Nat.reduceSub, eq_self, if_false, if_true, ite_false, ite_true, reduceIte, Ty.row, tyAll, Tm.row, tmAll, u0', u1', u2', nres]
  | fold s a b c iha ihb ihc =>
    intro bx nx hs hl
    have q := small42 bx nx (.fold s a b c) hs
    cases e : (Tm.fold s a b c).small with
    | true =>
      rw [e] at q
      obtain ⟨m, hm⟩ := become56 bx (nx + 1) (.fold s a b c) e hs hl
      have en : (Tm.fold s a b c).next = some (Tm.fold s a b c).become := by simp only [Tm.next, e, if_true]
      rw [en]
      refine ⟨m, ?_⟩
      have u0 := q
      have u1 := hm
      try simp only [Ty.row, tyAll, Tm.row, tmAll, Int.cast_ofNat_Int] at u0 u1
      have u0' := clR.use u0
      have u1' := clR.use u1
      refine run_eq (run_of (pf := p23) rfl ?_)
      unfold p23
      simp only [R.loop_eq, wp0, wp1, wp2, wp3, wp4, PV.cellsT, appMax, dropSh, fillB, fillS, putD, splice, src, startSt, Int.reduceAdd, Int.reduceEq, Int.reduceLE, Int.reduceLT, Int.reduceNeg, Int.reduceSub, Int.reduceToNat, Nat.reduceAdd, Nat.reduceDiv, Nat.reduceEqDiff, Nat.reduceLT, Nat.reduceLeDiff, Nat.reduceMod, Nat.reduceMul, Nat.reduceSub, eq_self, if_false, if_true, ite_false, ite_true, reduceIte, Ty.row, tyAll, Tm.row, tmAll, u0', u1', nres]
    | false =>
      rw [e] at q
      simp only [Tm.size] at hs
      obtain ⟨m0, h0⟩ := iha bx (nx + 1) (by omega) (hl.1)
      cases e0 : a.next with
      | some y =>
        rw [e0] at h0
        have en : (Tm.fold s a b c).next = some (.fold s y b c) := by simp [Tm.next, e, e0]
        rw [en]
        refine ⟨m0, ?_⟩
        simp only [nres] at h0
        have u0 := q
        have u1 := h0
        try simp only [Ty.row, tyAll, Tm.row, tmAll, Int.cast_ofNat_Int] at u0 u1
        have u0' := clR.use u0
        have u1' := clR.use u1
        refine run_eq (run_of (pf := p23) rfl ?_)
        unfold p23
        simp only [R.loop_eq, wp0, wp1, wp2, wp3, wp4, PV.cellsT, appMax, dropSh, fillB, fillS, putD, splice, src, startSt, Int.reduceAdd, Int.reduceEq, Int.reduceLE, Int.reduceLT, Int.reduceNeg, Int.reduceSub, Int.reduceToNat, Nat.reduceAdd, Nat.reduceDiv, Nat.reduceEqDiff, Nat.reduceLT, Nat.reduceLeDiff, Nat.reduceMod, Nat.reduceMul, Nat.reduceSub, eq_self, if_false, if_true, ite_false, ite_true, reduceIte, Ty.row, tyAll, Tm.row, tmAll, u0', u1', nres, reduceCtorEq, ne_eq, not_false_eq_true]
      | none =>
        rw [e0] at h0
        simp only [nres] at h0
        obtain ⟨m1, h1⟩ := ihb bx (m0) (by omega) (hl.2.1)
        cases e1 : b.next with
        | some y =>
          rw [e1] at h1
          have en : (Tm.fold s a b c).next = some (.fold s a y c) := by simp [Tm.next, e, e0, e1]
          rw [en]
          refine ⟨m1, ?_⟩
          simp only [nres] at h0 h1
          have u0 := q
          have u1 := h0
          have u2 := h1
          try simp only [Ty.row, tyAll, Tm.row, tmAll, Int.cast_ofNat_Int] at u0 u1 u2
          have u0' := clR.use u0
          have u1' := clR.use u1
          have u2' := clR.use u2
          refine run_eq (run_of (pf := p23) rfl ?_)
          unfold p23
          simp only [R.loop_eq, wp0, wp1, wp2, wp3, wp4, PV.cellsT, appMax, dropSh, fillB, fillS, putD, splice, src, startSt, Int.reduceAdd, Int.reduceEq, Int.reduceLE, Int.reduceLT, Int.reduceNeg, Int.reduceSub, Int.reduceToNat, Nat.reduceAdd, Nat.reduceDiv, Nat.reduceEqDiff, Nat.reduceLT, Nat.reduceLeDiff, Nat.reduceMod, Nat.reduceMul, Nat.reduceSub, eq_self, if_false, if_true, ite_false, ite_true, reduceIte, Ty.row, tyAll, Tm.row, tmAll, u0', u1', u2', nres, reduceCtorEq, ne_eq, not_false_eq_true]
        | none =>
          rw [e1] at h1
          simp only [nres] at h1
          obtain ⟨m2, h2⟩ := ihc bx (m1) (by omega) (hl.2.2)
          cases e2 : c.next with
          | some y =>
            rw [e2] at h2
            have en : (Tm.fold s a b c).next = some (.fold s a b y) := by simp [Tm.next, e, e0, e1, e2]
            rw [en]
            refine ⟨m2, ?_⟩
            simp only [nres] at h0 h1 h2
            have u0 := q
            have u1 := h0
            have u2 := h1
            have u3 := h2
            try simp only [Ty.row, tyAll, Tm.row, tmAll, Int.cast_ofNat_Int] at u0 u1 u2 u3
            have u0' := clR.use u0
            have u1' := clR.use u1
            have u2' := clR.use u2
            have u3' := clR.use u3
            refine run_eq (run_of (pf := p23) rfl ?_)
            unfold p23
            simp only [R.loop_eq, wp0, wp1, wp2, wp3, wp4, PV.cellsT, appMax, dropSh, fillB, fillS, putD, splice, src, startSt, Int.reduceAdd, Int.reduceEq, Int.reduceLE, Int.reduceLT, Int.reduceNeg, Int.reduceSub, Int.reduceToNat, Nat.reduceAdd, Nat.reduceDiv, Nat.reduceEqDiff, Nat.reduceLT, Nat.reduceLeDiff, Nat.reduceMod, Nat.reduceMul, Nat.reduceSub, eq_self, if_false, if_true, ite_false, ite_true, reduceIte, Ty.row, tyAll, Tm.row, tmAll, u0', u1', u2', u3', nres, reduceCtorEq, ne_eq, not_false_eq_true]
          | none =>
            rw [e2] at h2
            simp only [nres] at h2
            have en : (Tm.fold s a b c).next = none := by simp [Tm.next, e, e0, e1, e2]
            rw [en]
            refine ⟨m2, ?_⟩
            have u0 := q
            have u1 := h0
            have u2 := h1
            have u3 := h2
            try simp only [Ty.row, tyAll, Tm.row, tmAll, Int.cast_ofNat_Int] at u0 u1 u2 u3
            have u0' := clR.use u0
            have u1' := clR.use u1
            have u2' := clR.use u2
            have u3' := clR.use u3
            refine run_eq (run_of (pf := p23) rfl ?_)
            unfold p23
            simp only [R.loop_eq, wp0, wp1, wp2, wp3, wp4, PV.cellsT, appMax, dropSh, fillB, fillS, putD, splice, src, startSt, Int.reduceAdd, Int.reduceEq, Int.reduceLE, Int.reduceLT, Int.reduceNeg, Int.reduceSub, Int.reduceToNat, Nat.reduceAdd, Nat.reduceDiv, Nat.reduceEqDiff, Nat.reduceLT, Nat.reduceLeDiff, Nat.reduceMod, Nat.reduceMul, Nat.reduceSub, eq_self, if_false, if_true, ite_false, ite_true, reduceIte, Ty.row, tyAll, Tm.row, tmAll, u0', u1', u2', u3', nres]
  | pair a b iha ihb =>
    intro bx nx hs hl
    have q := small42 bx nx (.pair a b) hs
    have e : (Tm.pair a b).small = false := rfl
    rw [e] at q
    simp only [Tm.size] at hs
    obtain ⟨m0, h0⟩ := iha bx (nx + 1) (by omega) (hl.1)
    cases e0 : a.next with
    | some y =>
      rw [e0] at h0
      have en : (Tm.pair a b).next = some (.pair y b) := by simp [Tm.next, e0]
      rw [en]
      refine ⟨m0, ?_⟩
      simp only [nres] at h0
      have u0 := q
      have u1 := h0
      try simp only [Ty.row, tyAll, Tm.row, tmAll, Int.cast_ofNat_Int] at u0 u1
      have u0' := clR.use u0
      have u1' := clR.use u1
      refine run_eq (run_of (pf := p23) rfl ?_)
      unfold p23
      simp only [R.loop_eq, wp0, wp1, wp2, wp3, wp4, PV.cellsT, appMax, dropSh, fillB, fillS, putD, splice, src, startSt, Int.reduceAdd, Int.reduceEq, Int.reduceLE, Int.reduceLT, Int.reduceNeg, Int.reduceSub, Int.reduceToNat, Nat.reduceAdd, Nat.reduceDiv, Nat.reduceEqDiff, Nat.reduceLT, Nat.reduceLeDiff, Nat.reduceMod, Nat.reduceMul, Nat.reduceSub, eq_self, if_false, if_true, ite_false, ite_true, reduceIte, Ty.row, tyAll, Tm.row, tmAll, u0', u1', nres, reduceCtorEq, ne_eq, not_false_eq_true]
    | none =>
      rw [e0] at h0
      simp only [nres] at h0
      obtain ⟨m1, h1⟩ := ihb bx (m0) (by omega) (hl.2)
      cases e1 : b.next with
      | some y =>
        rw [e1] at h1
        have en : (Tm.pair a b).next = some (.pair a y) := by simp [Tm.next, e0, e1]
        rw [en]
        refine ⟨m1, ?_⟩
        simp only [nres] at h0 h1
        have u0 := q
        have u1 := h0
        have u2 := h1
        try simp only [Ty.row, tyAll, Tm.row, tmAll, Int.cast_ofNat_Int] at u0 u1 u2
        have u0' := clR.use u0
        have u1' := clR.use u1
        have u2' := clR.use u2
        refine run_eq (run_of (pf := p23) rfl ?_)
        unfold p23
        simp only [R.loop_eq, wp0, wp1, wp2, wp3, wp4, PV.cellsT, appMax, dropSh, fillB, fillS, putD, splice, src, startSt, Int.reduceAdd, Int.reduceEq, Int.reduceLE, Int.reduceLT, Int.reduceNeg, Int.reduceSub, Int.reduceToNat, Nat.reduceAdd, Nat.reduceDiv, Nat.reduceEqDiff, Nat.reduceLT, Nat.reduceLeDiff, Nat.reduceMod, Nat.reduceMul, Nat.reduceSub, eq_self, if_false, if_true, ite_false, ite_true, reduceIte, Ty.row, tyAll, Tm.row, tmAll, u0', u1', u2', nres, reduceCtorEq, ne_eq, not_false_eq_true]
      | none =>
        rw [e1] at h1
        simp only [nres] at h1
        have en : (Tm.pair a b).next = none := by simp [Tm.next, e0, e1]
        rw [en]
        refine ⟨m1, ?_⟩
        have u0 := q
        have u1 := h0
        have u2 := h1
        try simp only [Ty.row, tyAll, Tm.row, tmAll, Int.cast_ofNat_Int] at u0 u1 u2
        have u0' := clR.use u0
        have u1' := clR.use u1
        have u2' := clR.use u2
        refine run_eq (run_of (pf := p23) rfl ?_)
        unfold p23
        simp only [R.loop_eq, wp0, wp1, wp2, wp3, wp4, PV.cellsT, appMax, dropSh, fillB, fillS, putD, splice, src, startSt, Int.reduceAdd, Int.reduceEq, Int.reduceLE, Int.reduceLT, Int.reduceNeg, Int.reduceSub, Int.reduceToNat, Nat.reduceAdd, Nat.reduceDiv, Nat.reduceEqDiff, Nat.reduceLT, Nat.reduceLeDiff, Nat.reduceMod, Nat.reduceMul, Nat.reduceSub, eq_self, if_false, if_true, ite_false, ite_true, reduceIte, Ty.row, tyAll, Tm.row, tmAll, u0', u1', u2', nres]
  | fst a iha =>
    intro bx nx hs hl
    have q := small42 bx nx (.fst a) hs
    cases e : (Tm.fst a).small with
    | true =>
      rw [e] at q
      obtain ⟨m, hm⟩ := become56 bx (nx + 1) (.fst a) e hs hl
      have en : (Tm.fst a).next = some (Tm.fst a).become := by simp only [Tm.next, e, if_true]
      rw [en]
      refine ⟨m, ?_⟩
      have u0 := q
      have u1 := hm
      try simp only [Ty.row, tyAll, Tm.row, tmAll, Int.cast_ofNat_Int] at u0 u1
      have u0' := clR.use u0
      have u1' := clR.use u1
      refine run_eq (run_of (pf := p23) rfl ?_)
      unfold p23
      simp only [R.loop_eq, wp0, wp1, wp2, wp3, wp4, PV.cellsT, appMax, dropSh, fillB, fillS, putD, splice, src, startSt, Int.reduceAdd, Int.reduceEq, Int.reduceLE, Int.reduceLT, Int.reduceNeg, Int.reduceSub, Int.reduceToNat, Nat.reduceAdd, Nat.reduceDiv, Nat.reduceEqDiff, Nat.reduceLT, Nat.reduceLeDiff, Nat.reduceMod, Nat.reduceMul, Nat.reduceSub, eq_self, if_false, if_true, ite_false, ite_true, reduceIte, Ty.row, tyAll, Tm.row, tmAll, u0', u1', nres]
    | false =>
      rw [e] at q
      simp only [Tm.size] at hs
      obtain ⟨m0, h0⟩ := iha bx (nx + 1) (by omega) (hl)
      cases e0 : a.next with
      | some y =>
        rw [e0] at h0
        have en : (Tm.fst a).next = some (.fst y) := by simp [Tm.next, e, e0]
        rw [en]
        refine ⟨m0, ?_⟩
        simp only [nres] at h0
        have u0 := q
        have u1 := h0
        try simp only [Ty.row, tyAll, Tm.row, tmAll, Int.cast_ofNat_Int] at u0 u1
        have u0' := clR.use u0
        have u1' := clR.use u1
        refine run_eq (run_of (pf := p23) rfl ?_)
        unfold p23
        simp only [R.loop_eq, wp0, wp1, wp2, wp3, wp4, PV.cellsT, appMax, dropSh, fillB, fillS, putD, splice, src, startSt, Int.reduceAdd, Int.reduceEq, Int.reduceLE, Int.reduceLT, Int.reduceNeg, Int.reduceSub, Int.reduceToNat, Nat.reduceAdd, Nat.reduceDiv, Nat.reduceEqDiff, Nat.reduceLT, Nat.reduceLeDiff, Nat.reduceMod, Nat.reduceMul, Nat.reduceSub, eq_self, if_false, if_true, ite_false, ite_true, reduceIte, Ty.row, tyAll, Tm.row, tmAll, u0', u1', nres, reduceCtorEq, ne_eq, not_false_eq_true]
      | none =>
        rw [e0] at h0
        simp only [nres] at h0
        have en : (Tm.fst a).next = none := by simp [Tm.next, e, e0]
        rw [en]
        refine ⟨m0, ?_⟩
        have u0 := q
        have u1 := h0
        try simp only [Ty.row, tyAll, Tm.row, tmAll, Int.cast_ofNat_Int] at u0 u1
        have u0' := clR.use u0
        have u1' := clR.use u1
        refine run_eq (run_of (pf := p23) rfl ?_)
        unfold p23
        simp only [R.loop_eq, wp0, wp1, wp2, wp3, wp4, PV.cellsT, appMax, dropSh, fillB, fillS, putD, splice, src, startSt, Int.reduceAdd, Int.reduceEq, Int.reduceLE, Int.reduceLT, Int.reduceNeg, Int.reduceSub, Int.reduceToNat, Nat.reduceAdd, Nat.reduceDiv, Nat.reduceEqDiff, Nat.reduceLT, Nat.reduceLeDiff, Nat.reduceMod, Nat.reduceMul, Nat.reduceSub, eq_self, if_false, if_true, ite_false, ite_true, reduceIte, Ty.row, tyAll, Tm.row, tmAll, u0', u1', nres]
  | snd a iha =>
    intro bx nx hs hl
    have q := small42 bx nx (.snd a) hs
    cases e : (Tm.snd a).small with
    | true =>
      rw [e] at q
      obtain ⟨m, hm⟩ := become56 bx (nx + 1) (.snd a) e hs hl
      have en : (Tm.snd a).next = some (Tm.snd a).become := by simp only [Tm.next, e, if_true]
      rw [en]
      refine ⟨m, ?_⟩
      have u0 := q
      have u1 := hm
      try simp only [Ty.row, tyAll, Tm.row, tmAll, Int.cast_ofNat_Int] at u0 u1
      have u0' := clR.use u0
      have u1' := clR.use u1
      refine run_eq (run_of (pf := p23) rfl ?_)
      unfold p23
      simp only [R.loop_eq, wp0, wp1, wp2, wp3, wp4, PV.cellsT, appMax, dropSh, fillB, fillS, putD, splice, src, startSt, Int.reduceAdd, Int.reduceEq, Int.reduceLE, Int.reduceLT, Int.reduceNeg, Int.reduceSub, Int.reduceToNat, Nat.reduceAdd, Nat.reduceDiv, Nat.reduceEqDiff, Nat.reduceLT, Nat.reduceLeDiff, Nat.reduceMod, Nat.reduceMul, Nat.reduceSub, eq_self, if_false, if_true, ite_false, ite_true, reduceIte, Ty.row, tyAll, Tm.row, tmAll, u0', u1', nres]
    | false =>
      rw [e] at q
      simp only [Tm.size] at hs
      obtain ⟨m0, h0⟩ := iha bx (nx + 1) (by omega) (hl)
      cases e0 : a.next with
      | some y =>
        rw [e0] at h0
        have en : (Tm.snd a).next = some (.snd y) := by simp [Tm.next, e, e0]
        rw [en]
        refine ⟨m0, ?_⟩
        simp only [nres] at h0
        have u0 := q
        have u1 := h0
        try simp only [Ty.row, tyAll, Tm.row, tmAll, Int.cast_ofNat_Int] at u0 u1
        have u0' := clR.use u0
        have u1' := clR.use u1
        refine run_eq (run_of (pf := p23) rfl ?_)
        unfold p23
        simp only [R.loop_eq, wp0, wp1, wp2, wp3, wp4, PV.cellsT, appMax, dropSh, fillB, fillS, putD, splice, src, startSt, Int.reduceAdd, Int.reduceEq, Int.reduceLE, Int.reduceLT, Int.reduceNeg, Int.reduceSub, Int.reduceToNat, Nat.reduceAdd, Nat.reduceDiv, Nat.reduceEqDiff, Nat.reduceLT, Nat.reduceLeDiff, Nat.reduceMod, Nat.reduceMul, Nat.reduceSub, eq_self, if_false, if_true, ite_false, ite_true, reduceIte, Ty.row, tyAll, Tm.row, tmAll, u0', u1', nres, reduceCtorEq, ne_eq, not_false_eq_true]
      | none =>
        rw [e0] at h0
        simp only [nres] at h0
        have en : (Tm.snd a).next = none := by simp [Tm.next, e, e0]
        rw [en]
        refine ⟨m0, ?_⟩
        have u0 := q
        have u1 := h0
        try simp only [Ty.row, tyAll, Tm.row, tmAll, Int.cast_ofNat_Int] at u0 u1
        have u0' := clR.use u0
        have u1' := clR.use u1
        refine run_eq (run_of (pf := p23) rfl ?_)
        unfold p23
        simp only [R.loop_eq, wp0, wp1, wp2, wp3, wp4, PV.cellsT, appMax, dropSh, fillB, fillS, putD, splice, src, startSt, Int.reduceAdd, Int.reduceEq, Int.reduceLE, Int.reduceLT, Int.reduceNeg, Int.reduceSub, Int.reduceToNat, Nat.reduceAdd, Nat.reduceDiv, Nat.reduceEqDiff, Nat.reduceLT, Nat.reduceLeDiff, Nat.reduceMod, Nat.reduceMul, Nat.reduceSub, eq_self, if_false, if_true, ite_false, ite_true, reduceIte, Ty.row, tyAll, Tm.row, tmAll, u0', u1', nres]
  | unit =>
    intro bx nx hs hl
    have q := small42 bx nx (.unit) hs
    have e : (Tm.unit).small = false := rfl
    rw [e] at q
    simp only [Tm.size] at hs
    have en : (Tm.unit).next = none := by simp [Tm.next]
    rw [en]
    refine ⟨nx + 1, ?_⟩
    have u0 := q
    try simp only [Ty.row, tyAll, Tm.row, tmAll, Int.cast_ofNat_Int] at u0
    have u0' := clR.use u0
    refine run_eq (run_of (pf := p23) rfl ?_)
    unfold p23
    simp only [R.loop_eq, wp0, wp1, wp2, wp3, wp4, PV.cellsT, appMax, dropSh, fillB, fillS, putD, splice, src, startSt, Int.reduceAdd, Int.reduceEq, Int.reduceLE, Int.reduceLT, Int.reduceNeg, Int.reduceSub, Int.reduceToNat, Nat.reduceAdd, Nat.reduceDiv, Nat.reduceEqDiff, Nat.reduceLT, Nat.reduceLeDiff, Nat.reduceMod, Nat.reduceMul, Nat.reduceSub, eq_self, if_false, if_true, ite_false, ite_true, reduceIte, Ty.row, tyAll, Tm.row, tmAll, u0', nres]
theorem step13 (bx : List (Nat × List PV)) (nx : Nat) (t : Tm) (ho : t.ok) (hs : t.size ≤ 4096) (hl : t.low 536870912) (hl' : t.low 1073741824) :
    ∃ nx' n, callN T G n 19 [.ag t.row] ⟨bx, nx⟩ = some (match t.next with | some x => .tup [.ag x.row, .v (.bool true), i64 0] | none => .tup [.ag t.row, .v (.bool false), i64 0], ⟨bx, nx'⟩) := by
  have q := look38 ⟨bx, nx⟩ t ho hs hl
  obtain ⟨m, h⟩ := next39 t bx nx (by omega) hl'
  refine ⟨m, ?_⟩
  cases e : t.next with
  | some y =>
    rw [e] at h
    simp only [nres] at h
    have u0 := q
    have u1 := h
    try simp only [Ty.row, tyAll, Tm.row, tmAll, Int.cast_ofNat_Int] at u0 u1
    have u0' := clR.use u0
    have u1' := clR.use u1
    refine run_eq (run_of (pf := p19) rfl ?_)
    unfold p19
    simp only [R.loop_eq, wp0, wp1, wp2, wp3, wp4, PV.cellsT, appMax, dropSh, fillB, fillS, putD, splice, src, startSt, Int.reduceAdd, Int.reduceEq, Int.reduceLE, Int.reduceLT, Int.reduceNeg, Int.reduceSub, Int.reduceToNat, Nat.reduceAdd, Nat.reduceDiv, Nat.reduceEqDiff, Nat.reduceLT, Nat.reduceLeDiff, Nat.reduceMod, Nat.reduceMul, Nat.reduceSub, eq_self, if_false, if_true, ite_false, ite_true, reduceIte, Ty.row, tyAll, Tm.row, tmAll, u0', u1']
  | none =>
    rw [e] at h
    simp only [nres] at h
    have u0 := q
    have u1 := h
    try simp only [Ty.row, tyAll, Tm.row, tmAll, Int.cast_ofNat_Int] at u0 u1
    have u0' := clR.use u0
    have u1' := clR.use u1
    refine run_eq (run_of (pf := p19) rfl ?_)
    unfold p19
    simp only [R.loop_eq, wp0, wp1, wp2, wp3, wp4, PV.cellsT, appMax, dropSh, fillB, fillS, putD, splice, src, startSt, Int.reduceAdd, Int.reduceEq, Int.reduceLE, Int.reduceLT, Int.reduceNeg, Int.reduceSub, Int.reduceToNat, Nat.reduceAdd, Nat.reduceDiv, Nat.reduceEqDiff, Nat.reduceLT, Nat.reduceLeDiff, Nat.reduceMod, Nat.reduceMul, Nat.reduceSub, eq_self, if_false, if_true, ite_false, ite_true, reduceIte, Ty.row, tyAll, Tm.row, tmAll, u0', u1']
theorem smallS19 (bx : List (Nat × List PV)) (nx : Nat) (t : Tm) (ho : t.ok) (hs : t.size ≤ 4096) (hl : t.low 536870912) :
    ∃ n, callN T G n 18 [.ag t.row] ⟨bx, nx⟩ = some (.tup [.v (.bool t.small), i64 0], ⟨bx, nx + 1⟩) := by
  have u0 := look38 ⟨bx, nx⟩ t ho hs hl
  have u1 := small42 bx nx t (by omega)
  try simp only [Ty.row, tyAll, Tm.row, tmAll, Int.cast_ofNat_Int] at u0 u1
  have u0' := clR.use u0
  have u1' := clR.use u1
  refine run_eq (run_of (pf := p18) rfl ?_)
  unfold p18
  simp only [R.loop_eq, wp0, wp1, wp2, wp3, wp4, PV.cellsT, appMax, dropSh, fillB, fillS, putD, splice, src, startSt, Int.reduceAdd, Int.reduceEq, Int.reduceLE, Int.reduceLT, Int.reduceNeg, Int.reduceSub, Int.reduceToNat, Nat.reduceAdd, Nat.reduceDiv, Nat.reduceEqDiff, Nat.reduceLT, Nat.reduceLeDiff, Nat.reduceMod, Nat.reduceMul, Nat.reduceSub, eq_self, if_false, if_true, ite_false, ite_true, reduceIte, Ty.row, tyAll, Tm.row, tmAll, u0', u1']
end Go.Pi.Terms
