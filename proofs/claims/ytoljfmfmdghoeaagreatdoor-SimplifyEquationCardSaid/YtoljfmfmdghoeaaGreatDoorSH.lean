import Derived.Test.YtoljfmfmdghoeaaGreatDoorSG2
set_option maxRecDepth 100000
set_option maxHeartbeats 1000000
set_option linter.unusedSimpArgs false
set_option linter.unusedVariables false
namespace Go.Pi.Terms
open Go Go.Pi Go.Proofs.YtoljfmfmdghoeaaGreatDoor
/-- A row of a term's cells, whatever they say. -/
def Junk (r : List PV) : Prop := ∃ k i tk : Int, ∃ z z' : Nat, ∃ q q' : List (List PV), r = [i64 k, i64 i, i64 tk, .sl 0 z q, .sl 0 z' q']
/-- What next answers. -/
def NR (t : Tm) (room : Int) (r : PV) : Prop :=
  (t.nred = none ∧ r = .tup [.ag t.row, .v (.bool false), .v (.bool true)]) ∨
  (∃ y, t.nred = some y ∧ (y.size : Int) - t.size ≤ room ∧ r = .tup [.ag y.row, .v (.bool true), .v (.bool true)]) ∨
  (∃ y j, t.nred = some y ∧ ¬ ((y.size : Int) - t.size ≤ room) ∧ Junk j ∧ r = .tup [.ag j, .v (.bool true), .v (.bool false)])
theorem row_junk (t : Tm) : Junk t.row := ⟨_, _, _, _, _, _, _, rfl⟩
theorem next58 (sh : Sh) (room : Int) : ∀ t : Tm, t.size ≤ 4096 → t.low 1073741824 → ∃ r, (∃ n, callN T G n 58 [.ag t.row, i64 room] sh = some (r, sh)) ∧ NR t room r := by
  intro t
  induction t with
  | var i =>
    intro hs hl
    have q := root96 sh (Tm.var i)
    have e : (Tm.var i).root = false := rfl
    rw [e] at q
    have hs' := hs
    simp only [Tm.size] at hs
    have en : (Tm.var i).nred = none := by simp only [Tm.nred]
    refine ⟨_, ?_, .inl ⟨en, rfl⟩⟩
    have u0 := q
    try simp only [Ty.row, tyAll, Tm.row, tmAll, Int.cast_ofNat_Int] at u0
    have u0' := clR.use u0
    refine run_eq (run_of (pf := p58) rfl ?_)
    unfold p58
    simp only [R.loop_eq, wp0, wp1, wp2, wp3, wp4, PV.cellsT, appMax, dropSh, fillB, fillS, putD, splice, src, startSt, Int.reduceAdd, Int.reduceEq, Int.reduceLE, Int.reduceLT, Int.reduceNeg, Int.reduceSub, Int.reduceToNat, Nat.reduceAdd, Nat.reduceDiv, Nat.reduceEqDiff, Nat.reduceLT, Nat.reduceLeDiff, Nat.reduceMod, Nat.reduceMul, Nat.reduceSub, eq_self, if_false, if_true, ite_false, ite_true, reduceIte, Ty.row, tyAll, Tm.row, tmAll, u0']
  | lam s a iha =>
    intro hs hl
    have q := root96 sh (Tm.lam s a)
    have e : (Tm.lam s a).root = false := rfl
    rw [e] at q
    have hs' := hs
    simp only [Tm.size] at hs
    obtain ⟨r0, h0, n0⟩ := iha (by omega) (hl)
    rcases n0 with ⟨e0, rfl⟩ | ⟨y, e0, f0, rfl⟩ | ⟨y, j, e0, f0, ⟨k', i', tk', z', z2', q', q2', rfl⟩, rfl⟩
    · have en : (Tm.lam s a).nred = none := by simp only [Tm.nred, e0]
      refine ⟨_, ?_, .inl ⟨en, rfl⟩⟩
      have u0 := q
      have u1 := h0
      try simp only [Ty.row, tyAll, Tm.row, tmAll, Int.cast_ofNat_Int] at u0 u1
      have u0' := clR.use u0
      have u1' := clR.use u1
      refine run_eq (run_of (pf := p58) rfl ?_)
      unfold p58
      simp only [R.loop_eq, wp0, wp1, wp2, wp3, wp4, PV.cellsT, appMax, dropSh, fillB, fillS, putD, splice, src, startSt, Int.reduceAdd, Int.reduceEq, Int.reduceLE, Int.reduceLT, Int.reduceNeg, Int.reduceSub, Int.reduceToNat, Nat.reduceAdd, Nat.reduceDiv, Nat.reduceEqDiff, Nat.reduceLT, Nat.reduceLeDiff, Nat.reduceMod, Nat.reduceMul, Nat.reduceSub, eq_self, if_false, if_true, ite_false, ite_true, reduceIte, Ty.row, tyAll, Tm.row, tmAll, u0', u1']
    · have en : (Tm.lam s a).nred = some (Tm.lam s y) := by simp only [Tm.nred, e0]
      have hz : ((Tm.lam s y).size : Int) - (Tm.lam s a).size = (y.size : Int) - a.size := by simp only [Tm.size]; omega
      refine ⟨_, ?_, .inr (.inl ⟨_, en, by rw [hz]; exact f0, rfl⟩)⟩
      have u0 := q
      have u1 := h0
      try simp only [Ty.row, tyAll, Tm.row, tmAll, Int.cast_ofNat_Int] at u0 u1
      have u0' := clR.use u0
      have u1' := clR.use u1
      refine run_eq (run_of (pf := p58) rfl ?_)
      unfold p58
      simp only [R.loop_eq, wp0, wp1, wp2, wp3, wp4, PV.cellsT, appMax, dropSh, fillB, fillS, putD, splice, src, startSt, Int.reduceAdd, Int.reduceEq, Int.reduceLE, Int.reduceLT, Int.reduceNeg, Int.reduceSub, Int.reduceToNat, Nat.reduceAdd, Nat.reduceDiv, Nat.reduceEqDiff, Nat.reduceLT, Nat.reduceLeDiff, Nat.reduceMod, Nat.reduceMul, Nat.reduceSub, eq_self, if_false, if_true, ite_false, ite_true, reduceIte, Ty.row, tyAll, Tm.row, tmAll, u0', u1', reduceCtorEq, ne_eq, not_false_eq_true]
    · have en : (Tm.lam s a).nred = some (Tm.lam s y) := by simp only [Tm.nred, e0]
      have hz : ((Tm.lam s y).size : Int) - (Tm.lam s a).size = (y.size : Int) - a.size := by simp only [Tm.size]; omega
      refine ⟨_, ?_, .inr (.inr ⟨_, [i64 2, i64 0, i64 s.kind, .sl 0 s.asz s.arows, .sl 0 5 [[i64 k', i64 i', i64 tk', .sl 0 z' q', .sl 0 z2' q2']]], en, by rw [hz]; exact f0, ⟨_, _, _, _, _, _, _, rfl⟩, rfl⟩)⟩
      have u0 := q
      have u1 := h0
      try simp only [Ty.row, tyAll, Tm.row, tmAll, Int.cast_ofNat_Int] at u0 u1
      have u0' := clR.use u0
      have u1' := clR.use u1
      refine run_eq (run_of (pf := p58) rfl ?_)
      unfold p58
      simp only [R.loop_eq, wp0, wp1, wp2, wp3, wp4, PV.cellsT, appMax, dropSh, fillB, fillS, putD, splice, src, startSt, Int.reduceAdd, Int.reduceEq, Int.reduceLE, Int.reduceLT, Int.reduceNeg, Int.reduceSub, Int.reduceToNat, Nat.reduceAdd, Nat.reduceDiv, Nat.reduceEqDiff, Nat.reduceLT, Nat.reduceLeDiff, Nat.reduceMod, Nat.reduceMul, Nat.reduceSub, eq_self, if_false, if_true, ite_false, ite_true, reduceIte, Ty.row, tyAll, Tm.row, tmAll, u0', u1', reduceCtorEq, ne_eq, not_false_eq_true]
  | app a b iha ihb =>
    intro hs hl
    have q := root96 sh (Tm.app a b)
    cases e : (Tm.app a b).root with
    | true =>
      rw [e] at q
      have en : (Tm.app a b).nred = some (Tm.app a b).red1 := by simp only [Tm.nred, e, if_true]
      have g1 := growth97 sh (Tm.app a b) e (by omega)
      have g2 := reduced98 sh (Tm.app a b) e (by omega) hl
      by_cases hf : ((Tm.app a b).red1.size : Int) - (Tm.app a b).size ≤ room
      · have c1 : ¬ room < ((Tm.app a b).red1.size : Int) - (Tm.app a b).size := by omega
        refine ⟨_, ?_, .inr (.inl ⟨_, en, hf, rfl⟩)⟩
        generalize ((Tm.app a b).red1.size : Int) - ((Tm.app a b).size : Int) = D at *
        have u0 := q
        have u1 := g1
        have u2 := g2
        try simp only [Ty.row, tyAll, Tm.row, tmAll, Int.cast_ofNat_Int] at u0 u1 u2
        have u0' := clR.use u0
        have u1' := clR.use u1
        have u2' := clR.use u2
        refine run_eq (run_of (pf := p58) rfl ?_)
        unfold p58
        simp only [R.loop_eq, wp0, wp1, wp2, wp3, wp4, PV.cellsT, appMax, dropSh, fillB, fillS, putD, splice, src, startSt, Int.reduceAdd, Int.reduceEq, Int.reduceLE, Int.reduceLT, Int.reduceNeg, Int.reduceSub, Int.reduceToNat, Nat.reduceAdd, Nat.reduceDiv, Nat.reduceEqDiff, Nat.reduceLT, Nat.reduceLeDiff, Nat.reduceMod, Nat.reduceMul, Nat.reduceSub, eq_self, if_false, if_true, ite_false, ite_true, reduceIte, Ty.row, tyAll, Tm.row, tmAll, u0', u1', u2', c1]
      · have c1 : room < ((Tm.app a b).red1.size : Int) - (Tm.app a b).size := by omega
        refine ⟨_, ?_, .inr (.inr ⟨_, [i64 0, i64 0, i64 0, .sl 0 0 [], .sl 0 0 []], en, hf, ⟨_, _, _, _, _, _, _, rfl⟩, rfl⟩)⟩
        generalize ((Tm.app a b).red1.size : Int) - ((Tm.app a b).size : Int) = D at *
        have u0 := q
        have u1 := g1
        try simp only [Ty.row, tyAll, Tm.row, tmAll, Int.cast_ofNat_Int] at u0 u1
        have u0' := clR.use u0
        have u1' := clR.use u1
        refine run_eq (run_of (pf := p58) rfl ?_)
        unfold p58
        simp only [R.loop_eq, wp0, wp1, wp2, wp3, wp4, PV.cellsT, appMax, dropSh, fillB, fillS, putD, splice, src, startSt, Int.reduceAdd, Int.reduceEq, Int.reduceLE, Int.reduceLT, Int.reduceNeg, Int.reduceSub, Int.reduceToNat, Nat.reduceAdd, Nat.reduceDiv, Nat.reduceEqDiff, Nat.reduceLT, Nat.reduceLeDiff, Nat.reduceMod, Nat.reduceMul, Nat.reduceSub, eq_self, if_false, if_true, ite_false, ite_true, reduceIte, Ty.row, tyAll, Tm.row, tmAll, u0', u1', c1]
    | false =>
      rw [e] at q
      have hs' := hs
      simp only [Tm.size] at hs
      obtain ⟨r0, h0, n0⟩ := iha (by omega) (hl.1)
      rcases n0 with ⟨e0, rfl⟩ | ⟨y, e0, f0, rfl⟩ | ⟨y, j, e0, f0, ⟨k', i', tk', z', z2', q', q2', rfl⟩, rfl⟩
      · obtain ⟨r1, h1, n1⟩ := ihb (by omega) (hl.2)
        rcases n1 with ⟨e1, rfl⟩ | ⟨y, e1, f1, rfl⟩ | ⟨y, j, e1, f1, ⟨k', i', tk', z', z2', q', q2', rfl⟩, rfl⟩
        · have en : (Tm.app a b).nred = none := by simp only [Tm.nred, e, Bool.false_eq_true, if_false, e0, e1]
          refine ⟨_, ?_, .inl ⟨en, rfl⟩⟩
          have u0 := q
          have u1 := h0
          have u2 := h1
          try simp only [Ty.row, tyAll, Tm.row, tmAll, Int.cast_ofNat_Int] at u0 u1 u2
          have u0' := clR.use u0
          have u1' := clR.use u1
          have u2' := clR.use u2
          refine run_eq (run_of (pf := p58) rfl ?_)
          unfold p58
          simp only [R.loop_eq, wp0, wp1, wp2, wp3, wp4, PV.cellsT, appMax, dropSh, fillB, fillS, putD, splice, src, startSt, Int.reduceAdd, Int.reduceEq, Int.reduceLE, Int.reduceLT, Int.reduceNeg, Int.reduceSub, Int.reduceToNat, Nat.reduceAdd, Nat.reduceDiv, Nat.reduceEqDiff, Nat.reduceLT, Nat.reduceLeDiff, Nat.reduceMod, Nat.reduceMul, Nat.reduceSub, eq_self, if_false, if_true, ite_false, ite_true, reduceIte, Ty.row, tyAll, Tm.row, tmAll, u0', u1', u2']
        · have en : (Tm.app a b).nred = some (Tm.app a y) := by simp only [Tm.nred, e, Bool.false_eq_true, if_false, e0, e1]
          have hz : ((Tm.app a y).size : Int) - (Tm.app a b).size = (y.size : Int) - b.size := by simp only [Tm.size]; omega
          refine ⟨_, ?_, .inr (.inl ⟨_, en, by rw [hz]; exact f1, rfl⟩)⟩
          have u0 := q
          have u1 := h0
          have u2 := h1
          try simp only [Ty.row, tyAll, Tm.row, tmAll, Int.cast_ofNat_Int] at u0 u1 u2
          have u0' := clR.use u0
          have u1' := clR.use u1
          have u2' := clR.use u2
          refine run_eq (run_of (pf := p58) rfl ?_)
          unfold p58
          simp only [R.loop_eq, wp0, wp1, wp2, wp3, wp4, PV.cellsT, appMax, dropSh, fillB, fillS, putD, splice, src, startSt, Int.reduceAdd, Int.reduceEq, Int.reduceLE, Int.reduceLT, Int.reduceNeg, Int.reduceSub, Int.reduceToNat, Nat.reduceAdd, Nat.reduceDiv, Nat.reduceEqDiff, Nat.reduceLT, Nat.reduceLeDiff, Nat.reduceMod, Nat.reduceMul, Nat.reduceSub, eq_self, if_false, if_true, ite_false, ite_true, reduceIte, Ty.row, tyAll, Tm.row, tmAll, u0', u1', u2', reduceCtorEq, ne_eq, not_false_eq_true]
        · have en : (Tm.app a b).nred = some (Tm.app a y) := by simp only [Tm.nred, e, Bool.false_eq_true, if_false, e0, e1]
          have hz : ((Tm.app a y).size : Int) - (Tm.app a b).size = (y.size : Int) - b.size := by simp only [Tm.size]; omega
          refine ⟨_, ?_, .inr (.inr ⟨_, [i64 3, i64 0, i64 0, .sl 0 0 [], .sl 0 5 [a.row, [i64 k', i64 i', i64 tk', .sl 0 z' q', .sl 0 z2' q2']]], en, by rw [hz]; exact f1, ⟨_, _, _, _, _, _, _, rfl⟩, rfl⟩)⟩
          have u0 := q
          have u1 := h0
          have u2 := h1
          try simp only [Ty.row, tyAll, Tm.row, tmAll, Int.cast_ofNat_Int] at u0 u1 u2
          have u0' := clR.use u0
          have u1' := clR.use u1
          have u2' := clR.use u2
          refine run_eq (run_of (pf := p58) rfl ?_)
          unfold p58
          simp only [R.loop_eq, wp0, wp1, wp2, wp3, wp4, PV.cellsT, appMax, dropSh, fillB, fillS, putD, splice, src, startSt, Int.reduceAdd, Int.reduceEq, Int.reduceLE, Int.reduceLT, Int.reduceNeg, Int.reduceSub, Int.reduceToNat, Nat.reduceAdd, Nat.reduceDiv, Nat.reduceEqDiff, Nat.reduceLT, Nat.reduceLeDiff, Nat.reduceMod, Nat.reduceMul, Nat.reduceSub, eq_self, if_false, if_true, ite_false, ite_true, reduceIte, Ty.row, tyAll, Tm.row, tmAll, u0', u1', u2', reduceCtorEq, ne_eq, not_false_eq_true]
      · have en : (Tm.app a b).nred = some (Tm.app y b) := by simp only [Tm.nred, e, Bool.false_eq_true, if_false, e0]
        have hz : ((Tm.app y b).size : Int) - (Tm.app a b).size = (y.size : Int) - a.size := by simp only [Tm.size]; omega
        refine ⟨_, ?_, .inr (.inl ⟨_, en, by rw [hz]; exact f0, rfl⟩)⟩
        have u0 := q
        have u1 := h0
        try simp only [Ty.row, tyAll, Tm.row, tmAll, Int.cast_ofNat_Int] at u0 u1
        have u0' := clR.use u0
        have u1' := clR.use u1
        refine run_eq (run_of (pf := p58) rfl ?_)
        unfold p58
        simp only [R.loop_eq, wp0, wp1, wp2, wp3, wp4, PV.cellsT, appMax, dropSh, fillB, fillS, putD, splice, src, startSt, Int.reduceAdd, Int.reduceEq, Int.reduceLE, Int.reduceLT, Int.reduceNeg, Int.reduceSub, Int.reduceToNat, Nat.reduceAdd, Nat.reduceDiv, Nat.reduceEqDiff, Nat.reduceLT, Nat.reduceLeDiff, Nat.reduceMod, Nat.reduceMul, Nat.reduceSub, eq_self, if_false, if_true, ite_false, ite_true, reduceIte, Ty.row, tyAll, Tm.row, tmAll, u0', u1', reduceCtorEq, ne_eq, not_false_eq_true]
      · have en : (Tm.app a b).nred = some (Tm.app y b) := by simp only [Tm.nred, e, Bool.false_eq_true, if_false, e0]
        have hz : ((Tm.app y b).size : Int) - (Tm.app a b).size = (y.size : Int) - a.size := by simp only [Tm.size]; omega
        refine ⟨_, ?_, .inr (.inr ⟨_, [i64 3, i64 0, i64 0, .sl 0 0 [], .sl 0 5 [[i64 k', i64 i', i64 tk', .sl 0 z' q', .sl 0 z2' q2'], b.row]], en, by rw [hz]; exact f0, ⟨_, _, _, _, _, _, _, rfl⟩, rfl⟩)⟩
        have u0 := q
        have u1 := h0
        try simp only [Ty.row, tyAll, Tm.row, tmAll, Int.cast_ofNat_Int] at u0 u1
        have u0' := clR.use u0
        have u1' := clR.use u1
        refine run_eq (run_of (pf := p58) rfl ?_)
        unfold p58
        simp only [R.loop_eq, wp0, wp1, wp2, wp3, wp4, PV.cellsT, appMax, dropSh, fillB, fillS, putD, splice, src, startSt, Int.reduceAdd, Int.reduceEq, Int.reduceLE, Int.reduceLT, Int.reduceNeg, Int.reduceSub, Int.reduceToNat, Nat.reduceAdd, Nat.reduceDiv, Nat.reduceEqDiff, Nat.reduceLT, Nat.reduceLeDiff, Nat.reduceMod, Nat.reduceMul, Nat.reduceSub, eq_self, if_false, if_true, ite_false, ite_true, reduceIte, Ty.row, tyAll, Tm.row, tmAll, u0', u1', reduceCtorEq, ne_eq, not_false_eq_true]
  | zero =>
    intro hs hl
    have q := root96 sh (Tm.zero)
    have e : (Tm.zero).root = false := rfl
    rw [e] at q
    have hs' := hs
    simp only [Tm.size] at hs
    have en : (Tm.zero).nred = none := by simp only [Tm.nred]
    refine ⟨_, ?_, .inl ⟨en, rfl⟩⟩
    have u0 := q
    try simp only [Ty.row, tyAll, Tm.row, tmAll, Int.cast_ofNat_Int] at u0
    have u0' := clR.use u0
    refine run_eq (run_of (pf := p58) rfl ?_)
    unfold p58
    simp only [R.loop_eq, wp0, wp1, wp2, wp3, wp4, PV.cellsT, appMax, dropSh, fillB, fillS, putD, splice, src, startSt, Int.reduceAdd, Int.reduceEq, Int.reduceLE, Int.reduceLT, Int.reduceNeg, Int.reduceSub, Int.reduceToNat, Nat.reduceAdd, Nat.reduceDiv, Nat.reduceEqDiff, Nat.reduceLT, Nat.reduceLeDiff, Nat.reduceMod, Nat.reduceMul, Nat.reduceSub, eq_self, if_false, if_true, ite_false, ite_true, reduceIte, Ty.row, tyAll, Tm.row, tmAll, u0']
  | succ a iha =>
    intro hs hl
    have q := root96 sh (Tm.succ a)
    have e : (Tm.succ a).root = false := rfl
    rw [e] at q
    have hs' := hs
    simp only [Tm.size] at hs
    obtain ⟨r0, h0, n0⟩ := iha (by omega) (hl)
    rcases n0 with ⟨e0, rfl⟩ | ⟨y, e0, f0, rfl⟩ | ⟨y, j, e0, f0, ⟨k', i', tk', z', z2', q', q2', rfl⟩, rfl⟩
    · have en : (Tm.succ a).nred = none := by simp only [Tm.nred, e0]
      refine ⟨_, ?_, .inl ⟨en, rfl⟩⟩
      have u0 := q
      have u1 := h0
      try simp only [Ty.row, tyAll, Tm.row, tmAll, Int.cast_ofNat_Int] at u0 u1
      have u0' := clR.use u0
      have u1' := clR.use u1
      refine run_eq (run_of (pf := p58) rfl ?_)
      unfold p58
      simp only [R.loop_eq, wp0, wp1, wp2, wp3, wp4, PV.cellsT, appMax, dropSh, fillB, fillS, putD, splice, src, startSt, Int.reduceAdd, Int.reduceEq, Int.reduceLE, Int.reduceLT, Int.reduceNeg, Int.reduceSub, Int.reduceToNat, Nat.reduceAdd, Nat.reduceDiv, Nat.reduceEqDiff, Nat.reduceLT, Nat.reduceLeDiff, Nat.reduceMod, Nat.reduceMul, Nat.reduceSub, eq_self, if_false, if_true, ite_false, ite_true, reduceIte, Ty.row, tyAll, Tm.row, tmAll, u0', u1']
    · have en : (Tm.succ a).nred = some (Tm.succ y) := by simp only [Tm.nred, e0]
      have hz : ((Tm.succ y).size : Int) - (Tm.succ a).size = (y.size : Int) - a.size := by simp only [Tm.size]; omega
      refine ⟨_, ?_, .inr (.inl ⟨_, en, by rw [hz]; exact f0, rfl⟩)⟩
      have u0 := q
      have u1 := h0
      try simp only [Ty.row, tyAll, Tm.row, tmAll, Int.cast_ofNat_Int] at u0 u1
      have u0' := clR.use u0
      have u1' := clR.use u1
      refine run_eq (run_of (pf := p58) rfl ?_)
      unfold p58
      simp only [R.loop_eq, wp0, wp1, wp2, wp3, wp4, PV.cellsT, appMax, dropSh, fillB, fillS, putD, splice, src, startSt, Int.reduceAdd, Int.reduceEq, Int.reduceLE, Int.reduceLT, Int.reduceNeg, Int.reduceSub, Int.reduceToNat, Nat.reduceAdd, Nat.reduceDiv, Nat.reduceEqDiff, Nat.reduceLT, Nat.reduceLeDiff, Nat.reduceMod, Nat.reduceMul, Nat.reduceSub, eq_self, if_false, if_true, ite_false, ite_true, reduceIte, Ty.row, tyAll, Tm.row, tmAll, u0', u1', reduceCtorEq, ne_eq, not_false_eq_true]
    · have en : (Tm.succ a).nred = some (Tm.succ y) := by simp only [Tm.nred, e0]
      have hz : ((Tm.succ y).size : Int) - (Tm.succ a).size = (y.size : Int) - a.size := by simp only [Tm.size]; omega
      refine ⟨_, ?_, .inr (.inr ⟨_, [i64 5, i64 0, i64 0, .sl 0 0 [], .sl 0 5 [[i64 k', i64 i', i64 tk', .sl 0 z' q', .sl 0 z2' q2']]], en, by rw [hz]; exact f0, ⟨_, _, _, _, _, _, _, rfl⟩, rfl⟩)⟩
      have u0 := q
      have u1 := h0
      try simp only [Ty.row, tyAll, Tm.row, tmAll, Int.cast_ofNat_Int] at u0 u1
      have u0' := clR.use u0
      have u1' := clR.use u1
      refine run_eq (run_of (pf := p58) rfl ?_)
      unfold p58
      simp only [R.loop_eq, wp0, wp1, wp2, wp3, wp4, PV.cellsT, appMax, dropSh, fillB, fillS, putD, splice, src, startSt, Int.reduceAdd, Int.reduceEq, Int.reduceLE, Int.reduceLT, Int.reduceNeg, Int.reduceSub, Int.reduceToNat, Nat.reduceAdd, Nat.reduceDiv, Nat.reduceEqDiff, Nat.reduceLT, Nat.reduceLeDiff, Nat.reduceMod, Nat.reduceMul, Nat.reduceSub, eq_self, if_false, if_true, ite_false, ite_true, reduceIte, Ty.row, tyAll, Tm.row, tmAll, u0', u1', reduceCtorEq, ne_eq, not_false_eq_true]
  | recu s a b c iha ihb ihc =>
    intro hs hl
    have q := root96 sh (Tm.recu s a b c)
    cases e : (Tm.recu s a b c).root with
    | true =>
      rw [e] at q
      have en : (Tm.recu s a b c).nred = some (Tm.recu s a b c).red1 := by simp only [Tm.nred, e, if_true]
      have g1 := growth97 sh (Tm.recu s a b c) e (by omega)
      have g2 := reduced98 sh (Tm.recu s a b c) e (by omega) hl
      by_cases hf : ((Tm.recu s a b c).red1.size : Int) - (Tm.recu s a b c).size ≤ room
      · have c1 : ¬ room < ((Tm.recu s a b c).red1.size : Int) - (Tm.recu s a b c).size := by omega
        refine ⟨_, ?_, .inr (.inl ⟨_, en, hf, rfl⟩)⟩
        generalize ((Tm.recu s a b c).red1.size : Int) - ((Tm.recu s a b c).size : Int) = D at *
        have u0 := q
        have u1 := g1
        have u2 := g2
        try simp only [Ty.row, tyAll, Tm.row, tmAll, Int.cast_ofNat_Int] at u0 u1 u2
        have u0' := clR.use u0
        have u1' := clR.use u1
        have u2' := clR.use u2
        refine run_eq (run_of (pf := p58) rfl ?_)
        unfold p58
        simp only [R.loop_eq, wp0, wp1, wp2, wp3, wp4, PV.cellsT, appMax, dropSh, fillB, fillS, putD, splice, src, startSt, Int.reduceAdd, Int.reduceEq, Int.reduceLE, Int.reduceLT, Int.reduceNeg, Int.reduceSub, Int.reduceToNat, Nat.reduceAdd, Nat.reduceDiv, Nat.reduceEqDiff, Nat.reduceLT, Nat.reduceLeDiff, Nat.reduceMod, Nat.reduceMul, Nat.reduceSub, eq_self, if_false, if_true, ite_false, ite_true, reduceIte, Ty.row, tyAll, Tm.row, tmAll, u0', u1', u2', c1]
      · have c1 : room < ((Tm.recu s a b c).red1.size : Int) - (Tm.recu s a b c).size := by omega
        refine ⟨_, ?_, .inr (.inr ⟨_, [i64 0, i64 0, i64 0, .sl 0 0 [], .sl 0 0 []], en, hf, ⟨_, _, _, _, _, _, _, rfl⟩, rfl⟩)⟩
        generalize ((Tm.recu s a b c).red1.size : Int) - ((Tm.recu s a b c).size : Int) = D at *
        have u0 := q
        have u1 := g1
        try simp only [Ty.row, tyAll, Tm.row, tmAll, Int.cast_ofNat_Int] at u0 u1
        have u0' := clR.use u0
        have u1' := clR.use u1
        refine run_eq (run_of (pf := p58) rfl ?_)
        unfold p58
        simp only [R.loop_eq, wp0, wp1, wp2, wp3, wp4, PV.cellsT, appMax, dropSh, fillB, fillS, putD, splice, src, startSt, Int.reduceAdd, Int.reduceEq, Int.reduceLE, Int.reduceLT, Int.reduceNeg, Int.reduceSub, Int.reduceToNat, Nat.reduceAdd, Nat.reduceDiv, Nat.reduceEqDiff, Nat.reduceLT, Nat.reduceLeDiff, Nat.reduceMod, Nat.reduceMul, Nat.reduceSub, eq_self, if_false, if_true, ite_false, ite_true, reduceIte, Ty.row, tyAll, Tm.row, tmAll, u0', u1', c1]
    | false =>
      rw [e] at q
      have hs' := hs
      simp only [Tm.size] at hs
      obtain ⟨r0, h0, n0⟩ := iha (by omega) (hl.1)
      rcases n0 with ⟨e0, rfl⟩ | ⟨y, e0, f0, rfl⟩ | ⟨y, j, e0, f0, ⟨k', i', tk', z', z2', q', q2', rfl⟩, rfl⟩
      · obtain ⟨r1, h1, n1⟩ := ihb (by omega) (hl.2.1)
        rcases n1 with ⟨e1, rfl⟩ | ⟨y, e1, f1, rfl⟩ | ⟨y, j, e1, f1, ⟨k', i', tk', z', z2', q', q2', rfl⟩, rfl⟩
        · obtain ⟨r2, h2, n2⟩ := ihc (by omega) (hl.2.2)
          rcases n2 with ⟨e2, rfl⟩ | ⟨y, e2, f2, rfl⟩ | ⟨y, j, e2, f2, ⟨k', i', tk', z', z2', q', q2', rfl⟩, rfl⟩
          · have en : (Tm.recu s a b c).nred = none := by simp only [Tm.nred, e, Bool.false_eq_true, if_false, e0, e1, e2]
            refine ⟨_, ?_, .inl ⟨en, rfl⟩⟩
            have u0 := q
            have u1 := h0
            have u2 := h1
            have u3 := h2
            try simp only [Ty.row, tyAll, Tm.row, tmAll, Int.cast_ofNat_Int] at u0 u1 u2 u3
            have u0' := clR.use u0
            have u1' := clR.use u1
            have u2' := clR.use u2
            have u3' := clR.use u3
            refine run_eq (run_of (pf := p58) rfl ?_)
            unfold p58
            simp only [R.loop_eq, wp0, wp1, wp2, wp3, wp4, PV.cellsT, appMax, dropSh, fillB, fillS, putD, splice, src, startSt, Int.reduceAdd, Int.reduceEq, Int.reduceLE, Int.reduceLT, Int.reduceNeg, Int.reduceSub, Int.reduceToNat, Nat.reduceAdd, Nat.reduceDiv, Nat.reduceEqDiff, Nat.reduceLT, Nat.reduceLeDiff, Nat.reduceMod, Nat.reduceMul, Nat.reduceSub, eq_self, if_false, if_true, ite_false, ite_true, reduceIte, Ty.row, tyAll, Tm.row, tmAll, u0', u1', u2', u3']
          · have en : (Tm.recu s a b c).nred = some (Tm.recu s a b y) := by simp only [Tm.nred, e, Bool.false_eq_true, if_false, e0, e1, e2]
            have hz : ((Tm.recu s a b y).size : Int) - (Tm.recu s a b c).size = (y.size : Int) - c.size := by simp only [Tm.size]; omega
            refine ⟨_, ?_, .inr (.inl ⟨_, en, by rw [hz]; exact f2, rfl⟩)⟩
            have u0 := q
            have u1 := h0
            have u2 := h1
            have u3 := h2
            try simp only [Ty.row, tyAll, Tm.row, tmAll, Int.cast_ofNat_Int] at u0 u1 u2 u3
            have u0' := clR.use u0
            have u1' := clR.use u1
            have u2' := clR.use u2
            have u3' := clR.use u3
            refine run_eq (run_of (pf := p58) rfl ?_)
            unfold p58
            simp only [R.loop_eq, wp0, wp1, wp2, wp3, wp4, PV.cellsT, appMax, dropSh, fillB, fillS, putD, splice, src, startSt, Int.reduceAdd, Int.reduceEq, Int.reduceLE, Int.reduceLT, Int.reduceNeg, Int.reduceSub, Int.reduceToNat, Nat.reduceAdd, Nat.reduceDiv, Nat.reduceEqDiff, Nat.reduceLT, Nat.reduceLeDiff, Nat.reduceMod, Nat.reduceMul, Nat.reduceSub, eq_self, if_false, if_true, ite_false, ite_true, reduceIte, Ty.row, tyAll, Tm.row, tmAll, u0', u1', u2', u3', reduceCtorEq, ne_eq, not_false_eq_true]
          · have en : (Tm.recu s a b c).nred = some (Tm.recu s a b y) := by simp only [Tm.nred, e, Bool.false_eq_true, if_false, e0, e1, e2]
            have hz : ((Tm.recu s a b y).size : Int) - (Tm.recu s a b c).size = (y.size : Int) - c.size := by simp only [Tm.size]; omega
            refine ⟨_, ?_, .inr (.inr ⟨_, [i64 6, i64 0, i64 s.kind, .sl 0 s.asz s.arows, .sl 0 5 [a.row, b.row, [i64 k', i64 i', i64 tk', .sl 0 z' q', .sl 0 z2' q2']]], en, by rw [hz]; exact f2, ⟨_, _, _, _, _, _, _, rfl⟩, rfl⟩)⟩
            have u0 := q
            have u1 := h0
            have u2 := h1
            have u3 := h2
            try simp only [Ty.row, tyAll, Tm.row, tmAll, Int.cast_ofNat_Int] at u0 u1 u2 u3
            have u0' := clR.use u0
            have u1' := clR.use u1
            have u2' := clR.use u2
            have u3' := clR.use u3
            refine run_eq (run_of (pf := p58) rfl ?_)
            unfold p58
            simp only [R.loop_eq, wp0, wp1, wp2, wp3, wp4, PV.cellsT, appMax, dropSh, fillB, fillS, putD, splice, src, startSt, Int.reduceAdd, Int.reduceEq, Int.reduceLE, Int.reduceLT, Int.reduceNeg, Int.reduceSub, Int.reduceToNat, Nat.reduceAdd, Nat.reduceDiv, Nat.reduceEqDiff, Nat.reduceLT, Nat.reduceLeDiff, Nat.reduceMod, Nat.reduceMul, Nat.reduceSub, eq_self, if_false, if_true, ite_false, ite_true, reduceIte, Ty.row, tyAll, Tm.row, tmAll, u0', u1', u2', u3', reduceCtorEq, ne_eq, not_false_eq_true]
        · have en : (Tm.recu s a b c).nred = some (Tm.recu s a y c) := by simp only [Tm.nred, e, Bool.false_eq_true, if_false, e0, e1]
          have hz : ((Tm.recu s a y c).size : Int) - (Tm.recu s a b c).size = (y.size : Int) - b.size := by simp only [Tm.size]; omega
          refine ⟨_, ?_, .inr (.inl ⟨_, en, by rw [hz]; exact f1, rfl⟩)⟩
          have u0 := q
          have u1 := h0
          have u2 := h1
          try simp only [Ty.row, tyAll, Tm.row, tmAll, Int.cast_ofNat_Int] at u0 u1 u2
          have u0' := clR.use u0
          have u1' := clR.use u1
          have u2' := clR.use u2
          refine run_eq (run_of (pf := p58) rfl ?_)
          unfold p58
          simp only [R.loop_eq, wp0, wp1, wp2, wp3, wp4, PV.cellsT, appMax, dropSh, fillB, fillS, putD, splice, src, startSt, Int.reduceAdd, Int.reduceEq, Int.reduceLE, Int.reduceLT, Int.reduceNeg, Int.reduceSub, Int.reduceToNat, Nat.reduceAdd, Nat.reduceDiv, Nat.reduceEqDiff, Nat.reduceLT, Nat.reduceLeDiff, Nat.reduceMod, Nat.reduceMul, Nat.reduceSub, eq_self, if_false, if_true, ite_false, ite_true, reduceIte, Ty.row, tyAll, Tm.row, tmAll, u0', u1', u2', reduceCtorEq, ne_eq, not_false_eq_true]
        · have en : (Tm.recu s a b c).nred = some (Tm.recu s a y c) := by simp only [Tm.nred, e, Bool.false_eq_true, if_false, e0, e1]
          have hz : ((Tm.recu s a y c).size : Int) - (Tm.recu s a b c).size = (y.size : Int) - b.size := by simp only [Tm.size]; omega
          refine ⟨_, ?_, .inr (.inr ⟨_, [i64 6, i64 0, i64 s.kind, .sl 0 s.asz s.arows, .sl 0 5 [a.row, [i64 k', i64 i', i64 tk', .sl 0 z' q', .sl 0 z2' q2'], c.row]], en, by rw [hz]; exact f1, ⟨_, _, _, _, _, _, _, rfl⟩, rfl⟩)⟩
          have u0 := q
          have u1 := h0
          have u2 := h1
          try simp only [Ty.row, tyAll, Tm.row, tmAll, Int.cast_ofNat_Int] at u0 u1 u2
          have u0' := clR.use u0
          have u1' := clR.use u1
          have u2' := clR.use u2
          refine run_eq (run_of (pf := p58) rfl ?_)
          unfold p58
          simp only [R.loop_eq, wp0, wp1, wp2, wp3, wp4, PV.cellsT, appMax, dropSh, fillB, fillS, putD, splice, src, startSt, Int.reduceAdd, Int.reduceEq, Int.reduceLE, Int.reduceLT, Int.reduceNeg, Int.reduceSub, Int.reduceToNat, Nat.reduceAdd, Nat.reduceDiv, Nat.reduceEqDiff, Nat.reduceLT, Nat.reduceLeDiff, Nat.reduceMod, Nat.reduceMul, Nat.reduceSub, eq_self, if_false, if_true, ite_false, ite_true, reduceIte, Ty.row, tyAll, Tm.row, tmAll, u0', u1', u2', reduceCtorEq, ne_eq, not_false_eq_true]
      · have en : (Tm.recu s a b c).nred = some (Tm.recu s y b c) := by simp only [Tm.nred, e, Bool.false_eq_true, if_false, e0]
        have hz : ((Tm.recu s y b c).size : Int) - (Tm.recu s a b c).size = (y.size : Int) - a.size := by simp only [Tm.size]; omega
        refine ⟨_, ?_, .inr (.inl ⟨_, en, by rw [hz]; exact f0, rfl⟩)⟩
        have u0 := q
        have u1 := h0
        try simp only [Ty.row, tyAll, Tm.row, tmAll, Int.cast_ofNat_Int] at u0 u1
        have u0' := clR.use u0
        have u1' := clR.use u1
        refine run_eq (run_of (pf := p58) rfl ?_)
        unfold p58
        simp only [R.loop_eq, wp0, wp1, wp2, wp3, wp4, PV.cellsT, appMax, dropSh, fillB, fillS, putD, splice, src, startSt, Int.reduceAdd, Int.reduceEq, Int.reduceLE, Int.reduceLT, Int.reduceNeg, Int.reduceSub, Int.reduceToNat, Nat.reduceAdd, Nat.reduceDiv, Nat.reduceEqDiff, Nat.reduceLT, Nat.reduceLeDiff, Nat.reduceMod, Nat.reduceMul, Nat.reduceSub, eq_self, if_false, if_true, ite_false, ite_true, reduceIte, Ty.row, tyAll, Tm.row, tmAll, u0', u1', reduceCtorEq, ne_eq, not_false_eq_true]
      · have en : (Tm.recu s a b c).nred = some (Tm.recu s y b c) := by simp only [Tm.nred, e, Bool.false_eq_true, if_false, e0]
        have hz : ((Tm.recu s y b c).size : Int) - (Tm.recu s a b c).size = (y.size : Int) - a.size := by simp only [Tm.size]; omega
        refine ⟨_, ?_, .inr (.inr ⟨_, [i64 6, i64 0, i64 s.kind, .sl 0 s.asz s.arows, .sl 0 5 [[i64 k', i64 i', i64 tk', .sl 0 z' q', .sl 0 z2' q2'], b.row, c.row]], en, by rw [hz]; exact f0, ⟨_, _, _, _, _, _, _, rfl⟩, rfl⟩)⟩
        have u0 := q
        have u1 := h0
        try simp only [Ty.row, tyAll, Tm.row, tmAll, Int.cast_ofNat_Int] at u0 u1
        have u0' := clR.use u0
        have u1' := clR.use u1
        refine run_eq (run_of (pf := p58) rfl ?_)
        unfold p58
        simp only [R.loop_eq, wp0, wp1, wp2, wp3, wp4, PV.cellsT, appMax, dropSh, fillB, fillS, putD, splice, src, startSt, Int.reduceAdd, Int.reduceEq, Int.reduceLE, Int.reduceLT, Int.reduceNeg, Int.reduceSub, Int.reduceToNat, Nat.reduceAdd, Nat.reduceDiv, Nat.reduceEqDiff, Nat.reduceLT, Nat.reduceLeDiff, Nat.reduceMod, Nat.reduceMul, Nat.reduceSub, eq_self, if_false, if_true, ite_false, ite_true, reduceIte, Ty.row, tyAll, Tm.row, tmAll, u0', u1', reduceCtorEq, ne_eq, not_false_eq_true]
  | nil =>
    intro hs hl
    have q := root96 sh (Tm.nil)
    have e : (Tm.nil).root = false := rfl
    rw [e] at q
    have hs' := hs
    simp only [Tm.size] at hs
    have en : (Tm.nil).nred = none := by simp only [Tm.nred]
    refine ⟨_, ?_, .inl ⟨en, rfl⟩⟩
    have u0 := q
    try simp only [Ty.row, tyAll, Tm.row, tmAll, Int.cast_ofNat_Int] at u0
    have u0' := clR.use u0
    refine run_eq (run_of (pf := p58) rfl ?_)
    unfold p58
    simp only [R.loop_eq, wp0, wp1, wp2, wp3, wp4, PV.cellsT, appMax, dropSh, fillB, fillS, putD, splice, src, startSt, Int.reduceAdd, Int.reduceEq, Int.reduceLE, Int.reduceLT, Int.reduceNeg, Int.reduceSub, Int.reduceToNat, Nat.reduceAdd, Nat.reduceDiv, Nat.reduceEqDiff, Nat.reduceLT, Nat.reduceLeDiff, Nat.reduceMod, Nat.reduceMul, Nat.reduceSub, eq_self, if_false, if_true, ite_false, ite_true, reduceIte, Ty.row, tyAll, Tm.row, tmAll, u0']
  | cons a b iha ihb =>
    intro hs hl
    have q := root96 sh (Tm.cons a b)
    have e : (Tm.cons a b).root = false := rfl
    rw [e] at q
    have hs' := hs
    simp only [Tm.size] at hs
    obtain ⟨r0, h0, n0⟩ := iha (by omega) (hl.1)
    rcases n0 with ⟨e0, rfl⟩ | ⟨y, e0, f0, rfl⟩ | ⟨y, j, e0, f0, ⟨k', i', tk', z', z2', q', q2', rfl⟩, rfl⟩
    · obtain ⟨r1, h1, n1⟩ := ihb (by omega) (hl.2)
      rcases n1 with ⟨e1, rfl⟩ | ⟨y, e1, f1, rfl⟩ | ⟨y, j, e1, f1, ⟨k', i', tk', z', z2', q', q2', rfl⟩, rfl⟩
      · have en : (Tm.cons a b).nred = none := by simp only [Tm.nred, e0, e1]
        refine ⟨_, ?_, .inl ⟨en, rfl⟩⟩
        have u0 := q
        have u1 := h0
        have u2 := h1
        try simp only [Ty.row, tyAll, Tm.row, tmAll, Int.cast_ofNat_Int] at u0 u1 u2
        have u0' := clR.use u0
        have u1' := clR.use u1
        have u2' := clR.use u2
        refine run_eq (run_of (pf := p58) rfl ?_)
        unfold p58
        simp only [R.loop_eq, wp0, wp1, wp2, wp3, wp4, PV.cellsT, appMax, dropSh, fillB, fillS, putD, splice, src, startSt, Int.reduceAdd, Int.reduceEq, Int.reduceLE, Int.reduceLT, Int.reduceNeg, Int.reduceSub, Int.reduceToNat, Nat.reduceAdd, Nat.reduceDiv, Nat.reduceEqDiff, Nat.reduceLT, Nat.reduceLeDiff, Nat.reduceMod, Nat.reduceMul, Nat.reduceSub, eq_self, if_false, if_true, ite_false, ite_true, reduceIte, Ty.row, tyAll, Tm.row, tmAll, u0', u1', u2']
      · have en : (Tm.cons a b).nred = some (Tm.cons a y) := by simp only [Tm.nred, e0, e1]
        have hz : ((Tm.cons a y).size : Int) - (Tm.cons a b).size = (y.size : Int) - b.size := by simp only [Tm.size]; omega
        refine ⟨_, ?_, .inr (.inl ⟨_, en, by rw [hz]; exact f1, rfl⟩)⟩
        have u0 := q
        have u1 := h0
        have u2 := h1
        try simp only [Ty.row, tyAll, Tm.row, tmAll, Int.cast_ofNat_Int] at u0 u1 u2
        have u0' := clR.use u0
        have u1' := clR.use u1
        have u2' := clR.use u2
        refine run_eq (run_of (pf := p58) rfl ?_)
        unfold p58
        simp only [R.loop_eq, wp0, wp1, wp2, wp3, wp4, PV.cellsT, appMax, dropSh, fillB, fillS, putD, splice, src, startSt, Int.reduceAdd, Int.reduceEq, Int.reduceLE, Int.reduceLT, Int.reduceNeg, Int.reduceSub, Int.reduceToNat, Nat.reduceAdd, Nat.reduceDiv, Nat.reduceEqDiff, Nat.reduceLT, Nat.reduceLeDiff, Nat.reduceMod, Nat.reduceMul, Nat.reduceSub, eq_self, if_false, if_true, ite_false, ite_true, reduceIte, Ty.row, tyAll, Tm.row, tmAll, u0', u1', u2', reduceCtorEq, ne_eq, not_false_eq_true]
      · have en : (Tm.cons a b).nred = some (Tm.cons a y) := by simp only [Tm.nred, e0, e1]
        have hz : ((Tm.cons a y).size : Int) - (Tm.cons a b).size = (y.size : Int) - b.size := by simp only [Tm.size]; omega
        refine ⟨_, ?_, .inr (.inr ⟨_, [i64 8, i64 0, i64 0, .sl 0 0 [], .sl 0 5 [a.row, [i64 k', i64 i', i64 tk', .sl 0 z' q', .sl 0 z2' q2']]], en, by rw [hz]; exact f1, ⟨_, _, _, _, _, _, _, rfl⟩, rfl⟩)⟩
        have u0 := q
        have u1 := h0
        have u2 := h1
        try simp only [Ty.row, tyAll, Tm.row, tmAll, Int.cast_ofNat_Int] at u0 u1 u2
        have u0' := clR.use u0
        have u1' := clR.use u1
        have u2' := clR.use u2
        refine run_eq (run_of (pf := p58) rfl ?_)
        unfold p58
        simp only [R.loop_eq, wp0, wp1, wp2, wp3, wp4, PV.cellsT, appMax, dropSh, fillB, fillS, putD, splice, src, startSt, Int.reduceAdd, Int.reduceEq, Int.reduceLE, Int.reduceLT, Int.reduceNeg, Int.reduceSub, Int.reduceToNat, Nat.reduceAdd, Nat.reduceDiv, Nat.reduceEqDiff, Nat.reduceLT, Nat.reduceLeDiff, Nat.reduceMod, Nat.reduceMul, Nat.reduceSub, eq_self, if_false, if_true, ite_false, ite_true, reduceIte, Ty.row, tyAll, Tm.row, tmAll, u0', u1', u2', reduceCtorEq, ne_eq, not_false_eq_true]
    · have en : (Tm.cons a b).nred = some (Tm.cons y b) := by simp only [Tm.nred, e0]
      have hz : ((Tm.cons y b).size : Int) - (Tm.cons a b).size = (y.size : Int) - a.size := by simp only [Tm.size]; omega
      refine ⟨_, ?_, .inr (.inl ⟨_, en, by rw [hz]; exact f0, rfl⟩)⟩
      have u0 := q
      have u1 := h0
      try simp only [Ty.row, tyAll, Tm.row, tmAll, Int.cast_ofNat_Int] at u0 u1
      have u0' := clR.use u0
      have u1' := clR.use u1
      refine run_eq (run_of (pf := p58) rfl ?_)
      unfold p58
      simp only [R.loop_eq, wp0, wp1, wp2, wp3, wp4, PV.cellsT, appMax, dropSh, fillB, fillS, putD, splice, src, startSt, Int.reduceAdd, Int.reduceEq, Int.reduceLE, Int.reduceLT, Int.reduceNeg, Int.reduceSub, Int.reduceToNat, Nat.reduceAdd, Nat.reduceDiv, Nat.reduceEqDiff, Nat.reduceLT, Nat.reduceLeDiff, Nat.reduceMod, Nat.reduceMul, Nat.reduceSub, eq_self, if_false, if_true, ite_false, ite_true, reduceIte, Ty.row, tyAll, Tm.row, tmAll, u0', u1', reduceCtorEq, ne_eq, not_false_eq_true]
    · have en : (Tm.cons a b).nred = some (Tm.cons y b) := by simp only [Tm.nred, e0]
      have hz : ((Tm.cons y b).size : Int) - (Tm.cons a b).size = (y.size : Int) - a.size := by simp only [Tm.size]; omega
      refine ⟨_, ?_, .inr (.inr ⟨_, [i64 8, i64 0, i64 0, .sl 0 0 [], .sl 0 5 [[i64 k', i64 i', i64 tk', .sl 0 z' q', .sl 0 z2' q2'], b.row]], en, by rw [hz]; exact f0, ⟨_, _, _, _, _, _, _, rfl⟩, rfl⟩)⟩
      have u0 := q
      have u1 := h0
      try simp only [Ty.row, tyAll, Tm.row, tmAll, Int.cast_ofNat_Int] at u0 u1
      have u0' := clR.use u0
      have u1' := clR.use u1
      refine run_eq (run_of (pf := p58) rfl ?_)
      unfold p58
      simp only [R.loop_eq, wp0, wp1, wp2, wp3, wp4, PV.cellsT, appMax, dropSh, fillB, fillS, putD, splice, src, startSt, Int.reduceAdd, Int.reduceEq, Int.reduceLE, Int.reduceLT, Int.reduceNeg, Int.reduceSub, Int.reduceToNat, Nat.reduceAdd, Nat.reduceDiv, Nat.reduceEqDiff, Nat.reduceLT, Nat.reduceLeDiff, Nat.reduceMod, Nat.reduceMul, Nat.reduceSub, eq_self, if_false, if_true, ite_false, ite_true, reduceIte, Ty.row, tyAll, Tm.row, tmAll, u0', u1', reduceCtorEq, ne_eq, not_false_eq_true]
  | fold s a b c iha ihb ihc =>
    intro hs hl
    have q := root96 sh (Tm.fold s a b c)
    cases e : (Tm.fold s a b c).root with
    | true =>
      rw [e] at q
      have en : (Tm.fold s a b c).nred = some (Tm.fold s a b c).red1 := by simp only [Tm.nred, e, if_true]
      have g1 := growth97 sh (Tm.fold s a b c) e (by omega)
      have g2 := reduced98 sh (Tm.fold s a b c) e (by omega) hl
      by_cases hf : ((Tm.fold s a b c).red1.size : Int) - (Tm.fold s a b c).size ≤ room
      · have c1 : ¬ room < ((Tm.fold s a b c).red1.size : Int) - (Tm.fold s a b c).size := by omega
        refine ⟨_, ?_, .inr (.inl ⟨_, en, hf, rfl⟩)⟩
        generalize ((Tm.fold s a b c).red1.size : Int) - ((Tm.fold s a b c).size : Int) = D at *
        have u0 := q
        have u1 := g1
        have u2 := g2
        try simp only [Ty.row, tyAll, Tm.row, tmAll, Int.cast_ofNat_Int] at u0 u1 u2
        have u0' := clR.use u0
        have u1' := clR.use u1
        have u2' := clR.use u2
        refine run_eq (run_of (pf := p58) rfl ?_)
        unfold p58
        simp only [R.loop_eq, wp0, wp1, wp2, wp3, wp4, PV.cellsT, appMax, dropSh, fillB, fillS, putD, splice, src, startSt, Int.reduceAdd, Int.reduceEq, Int.reduceLE, Int.reduceLT, Int.reduceNeg, Int.reduceSub, Int.reduceToNat, Nat.reduceAdd, Nat.reduceDiv, Nat.reduceEqDiff, Nat.reduceLT, Nat.reduceLeDiff, Nat.reduceMod, Nat.reduceMul, Nat.reduceSub, eq_self, if_false, if_true, ite_false, ite_true, reduceIte, Ty.row, tyAll, Tm.row, tmAll, u0', u1', u2', c1]
      · have c1 : room < ((Tm.fold s a b c).red1.size : Int) - (Tm.fold s a b c).size := by omega
        refine ⟨_, ?_, .inr (.inr ⟨_, [i64 0, i64 0, i64 0, .sl 0 0 [], .sl 0 0 []], en, hf, ⟨_, _, _, _, _, _, _, rfl⟩, rfl⟩)⟩
        generalize ((Tm.fold s a b c).red1.size : Int) - ((Tm.fold s a b c).size : Int) = D at *
        have u0 := q
        have u1 := g1
        try simp only [Ty.row, tyAll, Tm.row, tmAll, Int.cast_ofNat_Int] at u0 u1
        have u0' := clR.use u0
        have u1' := clR.use u1
        refine run_eq (run_of (pf := p58) rfl ?_)
        unfold p58
        simp only [R.loop_eq, wp0, wp1, wp2, wp3, wp4, PV.cellsT, appMax, dropSh, fillB, fillS, putD, splice, src, startSt, Int.reduceAdd, Int.reduceEq, Int.reduceLE, Int.reduceLT, Int.reduceNeg, Int.reduceSub, Int.reduceToNat, Nat.reduceAdd, Nat.reduceDiv, Nat.reduceEqDiff, Nat.reduceLT, Nat.reduceLeDiff, Nat.reduceMod, Nat.reduceMul, Nat.reduceSub, eq_self, if_false, if_true, ite_false, ite_true, reduceIte, Ty.row, tyAll, Tm.row, tmAll, u0', u1', c1]
    | false =>
      rw [e] at q
      have hs' := hs
      simp only [Tm.size] at hs
      obtain ⟨r0, h0, n0⟩ := iha (by omega) (hl.1)
      rcases n0 with ⟨e0, rfl⟩ | ⟨y, e0, f0, rfl⟩ | ⟨y, j, e0, f0, ⟨k', i', tk', z', z2', q', q2', rfl⟩, rfl⟩
      · obtain ⟨r1, h1, n1⟩ := ihb (by omega) (hl.2.1)
        rcases n1 with ⟨e1, rfl⟩ | ⟨y, e1, f1, rfl⟩ | ⟨y, j, e1, f1, ⟨k', i', tk', z', z2', q', q2', rfl⟩, rfl⟩
        · obtain ⟨r2, h2, n2⟩ := ihc (by omega) (hl.2.2)
          rcases n2 with ⟨e2, rfl⟩ | ⟨y, e2, f2, rfl⟩ | ⟨y, j, e2, f2, ⟨k', i', tk', z', z2', q', q2', rfl⟩, rfl⟩
          · have en : (Tm.fold s a b c).nred = none := by simp only [Tm.nred, e, Bool.false_eq_true, if_false, e0, e1, e2]
            refine ⟨_, ?_, .inl ⟨en, rfl⟩⟩
            have u0 := q
            have u1 := h0
            have u2 := h1
            have u3 := h2
            try simp only [Ty.row, tyAll, Tm.row, tmAll, Int.cast_ofNat_Int] at u0 u1 u2 u3
            have u0' := clR.use u0
            have u1' := clR.use u1
            have u2' := clR.use u2
            have u3' := clR.use u3
            refine run_eq (run_of (pf := p58) rfl ?_)
            unfold p58
            simp only [R.loop_eq, wp0, wp1, wp2, wp3, wp4, PV.cellsT, appMax, dropSh, fillB, fillS, putD, splice, src, startSt, Int.reduceAdd, Int.reduceEq, Int.reduceLE, Int.reduceLT, Int.reduceNeg, Int.reduceSub, Int.reduceToNat, Nat.reduceAdd, Nat.reduceDiv, Nat.reduceEqDiff, Nat.reduceLT, Nat.reduceLeDiff, Nat.reduceMod, Nat.reduceMul, Nat.reduceSub, eq_self, if_false, if_true, ite_false, ite_true, reduceIte, Ty.row, tyAll, Tm.row, tmAll, u0', u1', u2', u3']
          · have en : (Tm.fold s a b c).nred = some (Tm.fold s a b y) := by simp only [Tm.nred, e, Bool.false_eq_true, if_false, e0, e1, e2]
            have hz : ((Tm.fold s a b y).size : Int) - (Tm.fold s a b c).size = (y.size : Int) - c.size := by simp only [Tm.size]; omega
            refine ⟨_, ?_, .inr (.inl ⟨_, en, by rw [hz]; exact f2, rfl⟩)⟩
            have u0 := q
            have u1 := h0
            have u2 := h1
            have u3 := h2
            try simp only [Ty.row, tyAll, Tm.row, tmAll, Int.cast_ofNat_Int] at u0 u1 u2 u3
            have u0' := clR.use u0
            have u1' := clR.use u1
            have u2' := clR.use u2
            have u3' := clR.use u3
            refine run_eq (run_of (pf := p58) rfl ?_)
            unfold p58
            simp only [R.loop_eq, wp0, wp1, wp2, wp3, wp4, PV.cellsT, appMax, dropSh, fillB, fillS, putD, splice, src, startSt, Int.reduceAdd, Int.reduceEq, Int.reduceLE, Int.reduceLT, Int.reduceNeg, Int.reduceSub, Int.reduceToNat, Nat.reduceAdd, Nat.reduceDiv, Nat.reduceEqDiff, Nat.reduceLT, Nat.reduceLeDiff, Nat.reduceMod, Nat.reduceMul, Nat.reduceSub, eq_self, if_false, if_true, ite_false, ite_true, reduceIte, Ty.row, tyAll, Tm.row, tmAll, u0', u1', u2', u3', reduceCtorEq, ne_eq, not_false_eq_true]
          · have en : (Tm.fold s a b c).nred = some (Tm.fold s a b y) := by simp only [Tm.nred, e, Bool.false_eq_true, if_false, e0, e1, e2]
            have hz : ((Tm.fold s a b y).size : Int) - (Tm.fold s a b c).size = (y.size : Int) - c.size := by simp only [Tm.size]; omega
            refine ⟨_, ?_, .inr (.inr ⟨_, [i64 9, i64 0, i64 s.kind, .sl 0 s.asz s.arows, .sl 0 5 [a.row, b.row, [i64 k', i64 i', i64 tk', .sl 0 z' q', .sl 0 z2' q2']]], en, by rw [hz]; exact f2, ⟨_, _, _, _, _, _, _, rfl⟩, rfl⟩)⟩
            have u0 := q
            have u1 := h0
            have u2 := h1
            have u3 := h2
            try simp only [Ty.row, tyAll, Tm.row, tmAll, Int.cast_ofNat_Int] at u0 u1 u2 u3
            have u0' := clR.use u0
            have u1' := clR.use u1
            have u2' := clR.use u2
            have u3' := clR.use u3
            refine run_eq (run_of (pf := p58) rfl ?_)
            unfold p58
            simp only [R.loop_eq, wp0, wp1, wp2, wp3, wp4, PV.cellsT, appMax, dropSh, fillB, fillS, putD, splice, src, startSt, Int.reduceAdd, Int.reduceEq, Int.reduceLE, Int.reduceLT, Int.reduceNeg, Int.reduceSub, Int.reduceToNat, Nat.reduceAdd, Nat.reduceDiv, Nat.reduceEqDiff, Nat.reduceLT, Nat.reduceLeDiff, Nat.reduceMod, Nat.reduceMul, Nat.reduceSub, eq_self, if_false, if_true, ite_false, ite_true, reduceIte, Ty.row, tyAll, Tm.row, tmAll, u0', u1', u2', u3', reduceCtorEq, ne_eq, not_false_eq_true]
        · have en : (Tm.fold s a b c).nred = some (Tm.fold s a y c) := by simp only [Tm.nred, e, Bool.false_eq_true, if_false, e0, e1]
          have hz : ((Tm.fold s a y c).size : Int) - (Tm.fold s a b c).size = (y.size : Int) - b.size := by simp only [Tm.size]; omega
          refine ⟨_, ?_, .inr (.inl ⟨_, en, by rw [hz]; exact f1, rfl⟩)⟩
          have u0 := q
          have u1 := h0
          have u2 := h1
          try simp only [Ty.row, tyAll, Tm.row, tmAll, Int.cast_ofNat_Int] at u0 u1 u2
          have u0' := clR.use u0
          have u1' := clR.use u1
          have u2' := clR.use u2
          refine run_eq (run_of (pf := p58) rfl ?_)
          unfold p58
          simp only [R.loop_eq, wp0, wp1, wp2, wp3, wp4, PV.cellsT, appMax, dropSh, fillB, fillS, putD, splice, src, startSt, Int.reduceAdd, Int.reduceEq, Int.reduceLE, Int.reduceLT, Int.reduceNeg, Int.reduceSub, Int.reduceToNat, Nat.reduceAdd, Nat.reduceDiv, Nat.reduceEqDiff, Nat.reduceLT, Nat.reduceLeDiff, Nat.reduceMod, Nat.reduceMul, Nat.reduceSub, eq_self, if_false, if_true, ite_false, ite_true, reduceIte, Ty.row, tyAll, Tm.row, tmAll, u0', u1', u2', reduceCtorEq, ne_eq, not_false_eq_true]
        · have en : (Tm.fold s a b c).nred = some (Tm.fold s a y c) := by simp only [Tm.nred, e, Bool.false_eq_true, if_false, e0, e1]
          have hz : ((Tm.fold s a y c).size : Int) - (Tm.fold s a b c).size = (y.size : Int) - b.size := by simp only [Tm.size]; omega
          refine ⟨_, ?_, .inr (.inr ⟨_, [i64 9, i64 0, i64 s.kind, .sl 0 s.asz s.arows, .sl 0 5 [a.row, [i64 k', i64 i', i64 tk', .sl 0 z' q', .sl 0 z2' q2'], c.row]], en, by rw [hz]; exact f1, ⟨_, _, _, _, _, _, _, rfl⟩, rfl⟩)⟩
          have u0 := q
          have u1 := h0
          have u2 := h1
          try simp only [Ty.row, tyAll, Tm.row, tmAll, Int.cast_ofNat_Int] at u0 u1 u2
          have u0' := clR.use u0
          have u1' := clR.use u1
          have u2' := clR.use u2
          refine run_eq (run_of (pf := p58) rfl ?_)
          unfold p58
          simp only [R.loop_eq, wp0, wp1, wp2, wp3, wp4, PV.cellsT, appMax, dropSh, fillB, fillS, putD, splice, src, startSt, Int.reduceAdd, Int.reduceEq, Int.reduceLE, Int.reduceLT, Int.reduceNeg, Int.reduceSub, Int.reduceToNat, Nat.reduceAdd, Nat.reduceDiv, Nat.reduceEqDiff, Nat.reduceLT, Nat.reduceLeDiff, Nat.reduceMod, Nat.reduceMul, Nat.reduceSub, eq_self, if_false, if_true, ite_false, ite_true, reduceIte, Ty.row, tyAll, Tm.row, tmAll, u0', u1', u2', reduceCtorEq, ne_eq, not_false_eq_true]
      · have en : (Tm.fold s a b c).nred = some (Tm.fold s y b c) := by simp only [Tm.nred, e, Bool.false_eq_true, if_false, e0]
        have hz : ((Tm.fold s y b c).size : Int) - (Tm.fold s a b c).size = (y.size : Int) - a.size := by simp only [Tm.size]; omega
        refine ⟨_, ?_, .inr (.inl ⟨_, en, by rw [hz]; exact f0, rfl⟩)⟩
        have u0 := q
        have u1 := h0
        try simp only [Ty.row, tyAll, Tm.row, tmAll, Int.cast_ofNat_Int] at u0 u1
        have u0' := clR.use u0
        have u1' := clR.use u1
        refine run_eq (run_of (pf := p58) rfl ?_)
        unfold p58
        simp only [R.loop_eq, wp0, wp1, wp2, wp3, wp4, PV.cellsT, appMax, dropSh, fillB, fillS, putD, splice, src, startSt, Int.reduceAdd, Int.reduceEq, Int.reduceLE, Int.reduceLT, Int.reduceNeg, Int.reduceSub, Int.reduceToNat, Nat.reduceAdd, Nat.reduceDiv, Nat.reduceEqDiff, Nat.reduceLT, Nat.reduceLeDiff, Nat.reduceMod, Nat.reduceMul, Nat.reduceSub, eq_self, if_false, if_true, ite_false, ite_true, reduceIte, Ty.row, tyAll, Tm.row, tmAll, u0', u1', reduceCtorEq, ne_eq, not_false_eq_true]
      · have en : (Tm.fold s a b c).nred = some (Tm.fold s y b c) := by simp only [Tm.nred, e, Bool.false_eq_true, if_false, e0]
        have hz : ((Tm.fold s y b c).size : Int) - (Tm.fold s a b c).size = (y.size : Int) - a.size := by simp only [Tm.size]; omega
        refine ⟨_, ?_, .inr (.inr ⟨_, [i64 9, i64 0, i64 s.kind, .sl 0 s.asz s.arows, .sl 0 5 [[i64 k', i64 i', i64 tk', .sl 0 z' q', .sl 0 z2' q2'], b.row, c.row]], en, by rw [hz]; exact f0, ⟨_, _, _, _, _, _, _, rfl⟩, rfl⟩)⟩
        have u0 := q
        have u1 := h0
        try simp only [Ty.row, tyAll, Tm.row, tmAll, Int.cast_ofNat_Int] at u0 u1
        have u0' := clR.use u0
        have u1' := clR.use u1
        refine run_eq (run_of (pf := p58) rfl ?_)
        unfold p58
        simp only [R.loop_eq, wp0, wp1, wp2, wp3, wp4, PV.cellsT, appMax, dropSh, fillB, fillS, putD, splice, src, startSt, Int.reduceAdd, Int.reduceEq, Int.reduceLE, Int.reduceLT, Int.reduceNeg, Int.reduceSub, Int.reduceToNat, Nat.reduceAdd, Nat.reduceDiv, Nat.reduceEqDiff, Nat.reduceLT, Nat.reduceLeDiff, Nat.reduceMod, Nat.reduceMul, Nat.reduceSub, eq_self, if_false, if_true, ite_false, ite_true, reduceIte, Ty.row, tyAll, Tm.row, tmAll, u0', u1', reduceCtorEq, ne_eq, not_false_eq_true]
  | pair a b iha ihb =>
    intro hs hl
    have q := root96 sh (Tm.pair a b)
    have e : (Tm.pair a b).root = false := rfl
    rw [e] at q
    have hs' := hs
    simp only [Tm.size] at hs
    obtain ⟨r0, h0, n0⟩ := iha (by omega) (hl.1)
    rcases n0 with ⟨e0, rfl⟩ | ⟨y, e0, f0, rfl⟩ | ⟨y, j, e0, f0, ⟨k', i', tk', z', z2', q', q2', rfl⟩, rfl⟩
    · obtain ⟨r1, h1, n1⟩ := ihb (by omega) (hl.2)
      rcases n1 with ⟨e1, rfl⟩ | ⟨y, e1, f1, rfl⟩ | ⟨y, j, e1, f1, ⟨k', i', tk', z', z2', q', q2', rfl⟩, rfl⟩
      · have en : (Tm.pair a b).nred = none := by simp only [Tm.nred, e0, e1]
        refine ⟨_, ?_, .inl ⟨en, rfl⟩⟩
        have u0 := q
        have u1 := h0
        have u2 := h1
        try simp only [Ty.row, tyAll, Tm.row, tmAll, Int.cast_ofNat_Int] at u0 u1 u2
        have u0' := clR.use u0
        have u1' := clR.use u1
        have u2' := clR.use u2
        refine run_eq (run_of (pf := p58) rfl ?_)
        unfold p58
        simp only [R.loop_eq, wp0, wp1, wp2, wp3, wp4, PV.cellsT, appMax, dropSh, fillB, fillS, putD, splice, src, startSt, Int.reduceAdd, Int.reduceEq, Int.reduceLE, Int.reduceLT, Int.reduceNeg, Int.reduceSub, Int.reduceToNat, Nat.reduceAdd, Nat.reduceDiv, Nat.reduceEqDiff, Nat.reduceLT, Nat.reduceLeDiff, Nat.reduceMod, Nat.reduceMul, Nat.reduceSub, eq_self, if_false, if_true, ite_false, ite_true, reduceIte, Ty.row, tyAll, Tm.row, tmAll, u0', u1', u2']
      · have en : (Tm.pair a b).nred = some (Tm.pair a y) := by simp only [Tm.nred, e0, e1]
        have hz : ((Tm.pair a y).size : Int) - (Tm.pair a b).size = (y.size : Int) - b.size := by simp only [Tm.size]; omega
        refine ⟨_, ?_, .inr (.inl ⟨_, en, by rw [hz]; exact f1, rfl⟩)⟩
        have u0 := q
        have u1 := h0
        have u2 := h1
        try simp only [Ty.row, tyAll, Tm.row, tmAll, Int.cast_ofNat_Int] at u0 u1 u2
        have u0' := clR.use u0
        have u1' := clR.use u1
        have u2' := clR.use u2
        refine run_eq (run_of (pf := p58) rfl ?_)
        unfold p58
        simp only [R.loop_eq, wp0, wp1, wp2, wp3, wp4, PV.cellsT, appMax, dropSh, fillB, fillS, putD, splice, src, startSt, Int.reduceAdd, Int.reduceEq, Int.reduceLE, Int.reduceLT, Int.reduceNeg, Int.reduceSub, Int.reduceToNat, Nat.reduceAdd, Nat.reduceDiv, Nat.reduceEqDiff, Nat.reduceLT, Nat.reduceLeDiff, Nat.reduceMod, Nat.reduceMul, Nat.reduceSub, eq_self, if_false, if_true, ite_false, ite_true, reduceIte, Ty.row, tyAll, Tm.row, tmAll, u0', u1', u2', reduceCtorEq, ne_eq, not_false_eq_true]
      · have en : (Tm.pair a b).nred = some (Tm.pair a y) := by simp only [Tm.nred, e0, e1]
        have hz : ((Tm.pair a y).size : Int) - (Tm.pair a b).size = (y.size : Int) - b.size := by simp only [Tm.size]; omega
        refine ⟨_, ?_, .inr (.inr ⟨_, [i64 10, i64 0, i64 0, .sl 0 0 [], .sl 0 5 [a.row, [i64 k', i64 i', i64 tk', .sl 0 z' q', .sl 0 z2' q2']]], en, by rw [hz]; exact f1, ⟨_, _, _, _, _, _, _, rfl⟩, rfl⟩)⟩
        have u0 := q
        have u1 := h0
        have u2 := h1
        try simp only [Ty.row, tyAll, Tm.row, tmAll, Int.cast_ofNat_Int] at u0 u1 u2
        have u0' := clR.use u0
        have u1' := clR.use u1
        have u2' := clR.use u2
        refine run_eq (run_of (pf := p58) rfl ?_)
        unfold p58
        simp only [R.loop_eq, wp0, wp1, wp2, wp3, wp4, PV.cellsT, appMax, dropSh, fillB, fillS, putD, splice, src, startSt, Int.reduceAdd, Int.reduceEq, Int.reduceLE, Int.reduceLT, Int.reduceNeg, Int.reduceSub, Int.reduceToNat, Nat.reduceAdd, Nat.reduceDiv, Nat.reduceEqDiff, Nat.reduceLT, Nat.reduceLeDiff, Nat.reduceMod, Nat.reduceMul, Nat.reduceSub, eq_self, if_false, if_true, ite_false, ite_true, reduceIte, Ty.row, tyAll, Tm.row, tmAll, u0', u1', u2', reduceCtorEq, ne_eq, not_false_eq_true]
    · have en : (Tm.pair a b).nred = some (Tm.pair y b) := by simp only [Tm.nred, e0]
      have hz : ((Tm.pair y b).size : Int) - (Tm.pair a b).size = (y.size : Int) - a.size := by simp only [Tm.size]; omega
      refine ⟨_, ?_, .inr (.inl ⟨_, en, by rw [hz]; exact f0, rfl⟩)⟩
      have u0 := q
      have u1 := h0
      try simp only [Ty.row, tyAll, Tm.row, tmAll, Int.cast_ofNat_Int] at u0 u1
      have u0' := clR.use u0
      have u1' := clR.use u1
      refine run_eq (run_of (pf := p58) rfl ?_)
      unfold p58
      simp only [R.loop_eq, wp0, wp1, wp2, wp3, wp4, PV.cellsT, appMax, dropSh, fillB, fillS, putD, splice, src, startSt, Int.reduceAdd, Int.reduceEq, Int.reduceLE, Int.reduceLT, Int.reduceNeg, Int.reduceSub, Int.reduceToNat, Nat.reduceAdd, Nat.reduceDiv, Nat.reduceEqDiff, Nat.reduceLT, Nat.reduceLeDiff, Nat.reduceMod, Nat.reduceMul, Nat.reduceSub, eq_self, if_false, if_true, ite_false, ite_true, reduceIte, Ty.row, tyAll, Tm.row, tmAll, u0', u1', reduceCtorEq, ne_eq, not_false_eq_true]
    · have en : (Tm.pair a b).nred = some (Tm.pair y b) := by simp only [Tm.nred, e0]
      have hz : ((Tm.pair y b).size : Int) - (Tm.pair a b).size = (y.size : Int) - a.size := by simp only [Tm.size]; omega
      refine ⟨_, ?_, .inr (.inr ⟨_, [i64 10, i64 0, i64 0, .sl 0 0 [], .sl 0 5 [[i64 k', i64 i', i64 tk', .sl 0 z' q', .sl 0 z2' q2'], b.row]], en, by rw [hz]; exact f0, ⟨_, _, _, _, _, _, _, rfl⟩, rfl⟩)⟩
      have u0 := q
      have u1 := h0
      try simp only [Ty.row, tyAll, Tm.row, tmAll, Int.cast_ofNat_Int] at u0 u1
      have u0' := clR.use u0
      have u1' := clR.use u1
      refine run_eq (run_of (pf := p58) rfl ?_)
      unfold p58
      simp only [R.loop_eq, wp0, wp1, wp2, wp3, wp4, PV.cellsT, appMax, dropSh, fillB, fillS, putD, splice, src, startSt, Int.reduceAdd, Int.reduceEq, Int.reduceLE, Int.reduceLT, Int.reduceNeg, Int.reduceSub, Int.reduceToNat, Nat.reduceAdd, Nat.reduceDiv, Nat.reduceEqDiff, Nat.reduceLT, Nat.reduceLeDiff, Nat.reduceMod, Nat.reduceMul, Nat.reduceSub, eq_self, if_false, if_true, ite_false, ite_true, reduceIte, Ty.row, tyAll, Tm.row, tmAll, u0', u1', reduceCtorEq, ne_eq, not_false_eq_true]
  | fst a iha =>
    intro hs hl
    have q := root96 sh (Tm.fst a)
    cases e : (Tm.fst a).root with
    | true =>
      rw [e] at q
      have en : (Tm.fst a).nred = some (Tm.fst a).red1 := by simp only [Tm.nred, e, if_true]
      have g1 := growth97 sh (Tm.fst a) e (by omega)
      have g2 := reduced98 sh (Tm.fst a) e (by omega) hl
      by_cases hf : ((Tm.fst a).red1.size : Int) - (Tm.fst a).size ≤ room
      · have c1 : ¬ room < ((Tm.fst a).red1.size : Int) - (Tm.fst a).size := by omega
        refine ⟨_, ?_, .inr (.inl ⟨_, en, hf, rfl⟩)⟩
        generalize ((Tm.fst a).red1.size : Int) - ((Tm.fst a).size : Int) = D at *
        have u0 := q
        have u1 := g1
        have u2 := g2
        try simp only [Ty.row, tyAll, Tm.row, tmAll, Int.cast_ofNat_Int] at u0 u1 u2
        have u0' := clR.use u0
        have u1' := clR.use u1
        have u2' := clR.use u2
        refine run_eq (run_of (pf := p58) rfl ?_)
        unfold p58
        simp only [R.loop_eq, wp0, wp1, wp2, wp3, wp4, PV.cellsT, appMax, dropSh, fillB, fillS, putD, splice, src, startSt, Int.reduceAdd, Int.reduceEq, Int.reduceLE, Int.reduceLT, Int.reduceNeg, Int.reduceSub, Int.reduceToNat, Nat.reduceAdd, Nat.reduceDiv, Nat.reduceEqDiff, Nat.reduceLT, Nat.reduceLeDiff, Nat.reduceMod, Nat.reduceMul, Nat.reduceSub, eq_self, if_false, if_true, ite_false, ite_true, reduceIte, Ty.row, tyAll, Tm.row, tmAll, u0', u1', u2', c1]
      · have c1 : room < ((Tm.fst a).red1.size : Int) - (Tm.fst a).size := by omega
        refine ⟨_, ?_, .inr (.inr ⟨_, [i64 0, i64 0, i64 0, .sl 0 0 [], .sl 0 0 []], en, hf, ⟨_, _, _, _, _, _, _, rfl⟩, rfl⟩)⟩
        generalize ((Tm.fst a).red1.size : Int) - ((Tm.fst a).size : Int) = D at *
        have u0 := q
        have u1 := g1
        try simp only [Ty.row, tyAll, Tm.row, tmAll, Int.cast_ofNat_Int] at u0 u1
        have u0' := clR.use u0
        have u1' := clR.use u1
        refine run_eq (run_of (pf := p58) rfl ?_)
        unfold p58
        simp only [R.loop_eq, wp0, wp1, wp2, wp3, wp4, PV.cellsT, appMax, dropSh, fillB, fillS, putD, splice, src, startSt, Int.reduceAdd, Int.reduceEq, Int.reduceLE, Int.reduceLT, Int.reduceNeg, Int.reduceSub, Int.reduceToNat, Nat.reduceAdd, Nat.reduceDiv, Nat.reduceEqDiff, Nat.reduceLT, Nat.reduceLeDiff, Nat.reduceMod, Nat.reduceMul, Nat.reduceSub, eq_self, if_false, if_true, ite_false, ite_true, reduceIte, Ty.row, tyAll, Tm.row, tmAll, u0', u1', c1]
    | false =>
      rw [e] at q
      have hs' := hs
      simp only [Tm.size] at hs
      obtain ⟨r0, h0, n0⟩ := iha (by omega) (hl)
      rcases n0 with ⟨e0, rfl⟩ | ⟨y, e0, f0, rfl⟩ | ⟨y, j, e0, f0, ⟨k', i', tk', z', z2', q', q2', rfl⟩, rfl⟩
      · have en : (Tm.fst a).nred = none := by simp only [Tm.nred, e, Bool.false_eq_true, if_false, e0]
        refine ⟨_, ?_, .inl ⟨en, rfl⟩⟩
        have u0 := q
        have u1 := h0
        try simp only [Ty.row, tyAll, Tm.row, tmAll, Int.cast_ofNat_Int] at u0 u1
        have u0' := clR.use u0
        have u1' := clR.use u1
        refine run_eq (run_of (pf := p58) rfl ?_)
        unfold p58
        simp only [R.loop_eq, wp0, wp1, wp2, wp3, wp4, PV.cellsT, appMax, dropSh, fillB, fillS, putD, splice, src, startSt, Int.reduceAdd, Int.reduceEq, Int.reduceLE, Int.reduceLT, Int.reduceNeg, Int.reduceSub, Int.reduceToNat, Nat.reduceAdd, Nat.reduceDiv, Nat.reduceEqDiff, Nat.reduceLT, Nat.reduceLeDiff, Nat.reduceMod, Nat.reduceMul, Nat.reduceSub, eq_self, if_false, if_true, ite_false, ite_true, reduceIte, Ty.row, tyAll, Tm.row, tmAll, u0', u1']
      · have en : (Tm.fst a).nred = some (Tm.fst y) := by simp only [Tm.nred, e, Bool.false_eq_true, if_false, e0]
        have hz : ((Tm.fst y).size : Int) - (Tm.fst a).size = (y.size : Int) - a.size := by simp only [Tm.size]; omega
        refine ⟨_, ?_, .inr (.inl ⟨_, en, by rw [hz]; exact f0, rfl⟩)⟩
        have u0 := q
        have u1 := h0
        try simp only [Ty.row, tyAll, Tm.row, tmAll, Int.cast_ofNat_Int] at u0 u1
        have u0' := clR.use u0
        have u1' := clR.use u1
        refine run_eq (run_of (pf := p58) rfl ?_)
        unfold p58
        simp only [R.loop_eq, wp0, wp1, wp2, wp3, wp4, PV.cellsT, appMax, dropSh, fillB, fillS, putD, splice, src, startSt, Int.reduceAdd, Int.reduceEq, Int.reduceLE, Int.reduceLT, Int.reduceNeg, Int.reduceSub, Int.reduceToNat, Nat.reduceAdd, Nat.reduceDiv, Nat.reduceEqDiff, Nat.reduceLT, Nat.reduceLeDiff, Nat.reduceMod, Nat.reduceMul, Nat.reduceSub, eq_self, if_false, if_true, ite_false, ite_true, reduceIte, Ty.row, tyAll, Tm.row, tmAll, u0', u1', reduceCtorEq, ne_eq, not_false_eq_true]
      · have en : (Tm.fst a).nred = some (Tm.fst y) := by simp only [Tm.nred, e, Bool.false_eq_true, if_false, e0]
        have hz : ((Tm.fst y).size : Int) - (Tm.fst a).size = (y.size : Int) - a.size := by simp only [Tm.size]; omega
        refine ⟨_, ?_, .inr (.inr ⟨_, [i64 11, i64 0, i64 0, .sl 0 0 [], .sl 0 5 [[i64 k', i64 i', i64 tk', .sl 0 z' q', .sl 0 z2' q2']]], en, by rw [hz]; exact f0, ⟨_, _, _, _, _, _, _, rfl⟩, rfl⟩)⟩
        have u0 := q
        have u1 := h0
        try simp only [Ty.row, tyAll, Tm.row, tmAll, Int.cast_ofNat_Int] at u0 u1
        have u0' := clR.use u0
        have u1' := clR.use u1
        refine run_eq (run_of (pf := p58) rfl ?_)
        unfold p58
        simp only [R.loop_eq, wp0, wp1, wp2, wp3, wp4, PV.cellsT, appMax, dropSh, fillB, fillS, putD, splice, src, startSt, Int.reduceAdd, Int.reduceEq, Int.reduceLE, Int.reduceLT, Int.reduceNeg, Int.reduceSub, Int.reduceToNat, Nat.reduceAdd, Nat.reduceDiv, Nat.reduceEqDiff, Nat.reduceLT, Nat.reduceLeDiff, Nat.reduceMod, Nat.reduceMul, Nat.reduceSub, eq_self, if_false, if_true, ite_false, ite_true, reduceIte, Ty.row, tyAll, Tm.row, tmAll, u0', u1', reduceCtorEq, ne_eq, not_false_eq_true]
  | snd a iha =>
    intro hs hl
    have q := root96 sh (Tm.snd a)
    cases e : (Tm.snd a).root with
    | true =>
      rw [e] at q
      have en : (Tm.snd a).nred = some (Tm.snd a).red1 := by simp only [Tm.nred, e, if_true]
      have g1 := growth97 sh (Tm.snd a) e (by omega)
      have g2 := reduced98 sh (Tm.snd a) e (by omega) hl
      by_cases hf : ((Tm.snd a).red1.size : Int) - (Tm.snd a).size ≤ room
      · have c1 : ¬ room < ((Tm.snd a).red1.size : Int) - (Tm.snd a).size := by omega
        refine ⟨_, ?_, .inr (.inl ⟨_, en, hf, rfl⟩)⟩
        generalize ((Tm.snd a).red1.size : Int) - ((Tm.snd a).size : Int) = D at *
        have u0 := q
        have u1 := g1
        have u2 := g2
        try simp only [Ty.row, tyAll, Tm.row, tmAll, Int.cast_ofNat_Int] at u0 u1 u2
        have u0' := clR.use u0
        have u1' := clR.use u1
        have u2' := clR.use u2
        refine run_eq (run_of (pf := p58) rfl ?_)
        unfold p58
        simp only [R.loop_eq, wp0, wp1, wp2, wp3, wp4, PV.cellsT, appMax, dropSh, fillB, fillS, putD, splice, src, startSt, Int.reduceAdd, Int.reduceEq, Int.reduceLE, Int.reduceLT, Int.reduceNeg, Int.reduceSub, Int.reduceToNat, Nat.reduceAdd, Nat.reduceDiv, Nat.reduceEqDiff, Nat.reduceLT, Nat.reduceLeDiff, Nat.reduceMod, Nat.reduceMul, Nat.reduceSub, eq_self, if_false, if_true, ite_false, ite_true, reduceIte, Ty.row, tyAll, Tm.row, tmAll, u0', u1', u2', c1]
      · have c1 : room < ((Tm.snd a).red1.size : Int) - (Tm.snd a).size := by omega
        refine ⟨_, ?_, .inr (.inr ⟨_, [i64 0, i64 0, i64 0, .sl 0 0 [], .sl 0 0 []], en, hf, ⟨_, _, _, _, _, _, _, rfl⟩, rfl⟩)⟩
        generalize ((Tm.snd a).red1.size : Int) - ((Tm.snd a).size : Int) = D at *
        have u0 := q
        have u1 := g1
        try simp only [Ty.row, tyAll, Tm.row, tmAll, Int.cast_ofNat_Int] at u0 u1
        have u0' := clR.use u0
        have u1' := clR.use u1
        refine run_eq (run_of (pf := p58) rfl ?_)
        unfold p58
        simp only [R.loop_eq, wp0, wp1, wp2, wp3, wp4, PV.cellsT, appMax, dropSh, fillB, fillS, putD, splice, src, startSt, Int.reduceAdd, Int.reduceEq, Int.reduceLE, Int.reduceLT, Int.reduceNeg, Int.reduceSub, Int.reduceToNat, Nat.reduceAdd, Nat.reduceDiv, Nat.reduceEqDiff, Nat.reduceLT, Nat.reduceLeDiff, Nat.reduceMod, Nat.reduceMul, Nat.reduceSub, eq_self, if_false, if_true, ite_false, ite_true, reduceIte, Ty.row, tyAll, Tm.row, tmAll, u0', u1', c1]
    | false =>
      rw [e] at q
      have hs' := hs
      simp only [Tm.size] at hs
      obtain ⟨r0, h0, n0⟩ := iha (by omega) (hl)
      rcases n0 with ⟨e0, rfl⟩ | ⟨y, e0, f0, rfl⟩ | ⟨y, j, e0, f0, ⟨k', i', tk', z', z2', q', q2', rfl⟩, rfl⟩
      · have en : (Tm.snd a).nred = none := by simp only [Tm.nred, e, Bool.false_eq_true, if_false, e0]
        refine ⟨_, ?_, .inl ⟨en, rfl⟩⟩
        have u0 := q
        have u1 := h0
        try simp only [Ty.row, tyAll, Tm.row, tmAll, Int.cast_ofNat_Int] at u0 u1
        have u0' := clR.use u0
        have u1' := clR.use u1
        refine run_eq (run_of (pf := p58) rfl ?_)
        unfold p58
        simp only [R.loop_eq, wp0, wp1, wp2, wp3, wp4, PV.cellsT, appMax, dropSh, fillB, fillS, putD, splice, src, startSt, Int.reduceAdd, Int.reduceEq, Int.reduceLE, Int.reduceLT, Int.reduceNeg, Int.reduceSub, Int.reduceToNat, Nat.reduceAdd, Nat.reduceDiv, Nat.reduceEqDiff, Nat.reduceLT, Nat.reduceLeDiff, Nat.reduceMod, Nat.reduceMul, Nat.reduceSub, eq_self, if_false, if_true, ite_false, ite_true, reduceIte, Ty.row, tyAll, Tm.row, tmAll, u0', u1']
      · have en : (Tm.snd a).nred = some (Tm.snd y) := by simp only [Tm.nred, e, Bool.false_eq_true, if_false, e0]
        have hz : ((Tm.snd y).size : Int) - (Tm.snd a).size = (y.size : Int) - a.size := by simp only [Tm.size]; omega
        refine ⟨_, ?_, .inr (.inl ⟨_, en, by rw [hz]; exact f0, rfl⟩)⟩
        have u0 := q
        have u1 := h0
        try simp only [Ty.row, tyAll, Tm.row, tmAll, Int.cast_ofNat_Int] at u0 u1
        have u0' := clR.use u0
        have u1' := clR.use u1
        refine run_eq (run_of (pf := p58) rfl ?_)
        unfold p58
        simp only [R.loop_eq, wp0, wp1, wp2, wp3, wp4, PV.cellsT, appMax, dropSh, fillB, fillS, putD, splice, src, startSt, Int.reduceAdd, Int.reduceEq, Int.reduceLE, Int.reduceLT, Int.reduceNeg, Int.reduceSub, Int.reduceToNat, Nat.reduceAdd, Nat.reduceDiv, Nat.reduceEqDiff, Nat.reduceLT, Nat.reduceLeDiff, Nat.reduceMod, Nat.reduceMul, Nat.reduceSub, eq_self, if_false, if_true, ite_false, ite_true, reduceIte, Ty.row, tyAll, Tm.row, tmAll, u0', u1', reduceCtorEq, ne_eq, not_false_eq_true]
      · have en : (Tm.snd a).nred = some (Tm.snd y) := by simp only [Tm.nred, e, Bool.false_eq_true, if_false, e0]
        have hz : ((Tm.snd y).size : Int) - (Tm.snd a).size = (y.size : Int) - a.size := by simp only [Tm.size]; omega
        refine ⟨_, ?_, .inr (.inr ⟨_, [i64 12, i64 0, i64 0, .sl 0 0 [], .sl 0 5 [[i64 k', i64 i', i64 tk', .sl 0 z' q', .sl 0 z2' q2']]], en, by rw [hz]; exact f0, ⟨_, _, _, _, _, _, _, rfl⟩, rfl⟩)⟩
        have u0 := q
        have u1 := h0
        try simp only [Ty.row, tyAll, Tm.row, tmAll, Int.cast_ofNat_Int] at u0 u1
        have u0' := clR.use u0
        have u1' := clR.use u1
        refine run_eq (run_of (pf := p58) rfl ?_)
        unfold p58
        simp only [R.loop_eq, wp0, wp1, wp2, wp3, wp4, PV.cellsT, appMax, dropSh, fillB, fillS, putD, splice, src, startSt, Int.reduceAdd, Int.reduceEq, Int.reduceLE, Int.reduceLT, Int.reduceNeg, Int.reduceSub, Int.reduceToNat, Nat.reduceAdd, Nat.reduceDiv, Nat.reduceEqDiff, Nat.reduceLT, Nat.reduceLeDiff, Nat.reduceMod, Nat.reduceMul, Nat.reduceSub, eq_self, if_false, if_true, ite_false, ite_true, reduceIte, Ty.row, tyAll, Tm.row, tmAll, u0', u1', reduceCtorEq, ne_eq, not_false_eq_true]
  | unit =>
    intro hs hl
    have q := root96 sh (Tm.unit)
    have e : (Tm.unit).root = false := rfl
    rw [e] at q
    have hs' := hs
    simp only [Tm.size] at hs
    have en : (Tm.unit).nred = none := by simp only [Tm.nred]
    refine ⟨_, ?_, .inl ⟨en, rfl⟩⟩
    have u0 := q
    try simp only [Ty.row, tyAll, Tm.row, tmAll, Int.cast_ofNat_Int] at u0
    have u0' := clR.use u0
    refine run_eq (run_of (pf := p58) rfl ?_)
    unfold p58
    simp only [R.loop_eq, wp0, wp1, wp2, wp3, wp4, PV.cellsT, appMax, dropSh, fillB, fillS, putD, splice, src, startSt, Int.reduceAdd, Int.reduceEq, Int.reduceLE, Int.reduceLT, Int.reduceNeg, Int.reduceSub, Int.reduceToNat, Nat.reduceAdd, Nat.reduceDiv, Nat.reduceEqDiff, Nat.reduceLT, Nat.reduceLeDiff, Nat.reduceMod, Nat.reduceMul, Nat.reduceSub, eq_self, if_false, if_true, ite_false, ite_true, reduceIte, Ty.row, tyAll, Tm.row, tmAll, u0']
def b25_0 : PC := (.seq (.block 1 (.seq (.ops [⟨.ldL 5 true,[.s 2],some 33,some 2,none⟩,⟨.ldL 5 true,[.s 2],some 34,some 2,none⟩,⟨.callF 56,[.s 34],some 35,none,none⟩,⟨.bin .sub,[.c (.v (.int .i64 4096)),.s 35],some 36,none,none⟩,⟨.callF 58,[.s 33,.s 36],some 37,none,none⟩,⟨.mv,[.s 37],some 32,none,none⟩,⟨.ext 0,[.s 32],some 38,none,none⟩,⟨.ext 1,[.s 32],some 39,none,none⟩,⟨.ext 2,[.s 32],some 40,none,none⟩,⟨.alloc [.v (.int .i64 0),.v (.int .i64 0),.v (.int .i64 0),.sl 1 0 [],.sl 1 0 []],[],some 9,none,none⟩,⟨.stL 5,[.s 9,.s 38],none,some 9,none⟩,⟨.mv,[.s 39],some 10,none,none⟩,⟨.mv,[.s 40],some 11,none,none⟩]) (.seq (.seq (.ops [⟨.mv,[.s 10],some 41,none,none⟩,⟨.uno .not,[.s 41],some 42,none,none⟩]) (.cond (.s 42) (.seq (.ops [⟨.ldL 5 true,[.s 2],some 43,some 2,none⟩,⟨.callF 59,[.s 43],some 44,none,none⟩,⟨.mv,[.s 8],some 45,none,none⟩,⟨.stL 5,[.s 4,.s 44],none,some 4,none⟩,⟨.mv,[.s 45],some 5,none,none⟩,⟨.mv,[.c (.v (.int .i64 0))],some 6,none,none⟩]) .ret) .skip)) (.seq (.seq (.ops [⟨.mv,[.s 8],some 46,none,none⟩,⟨.mv,[.s 1],some 47,none,none⟩,⟨.bin .eql,[.s 46,.s 47],some 48,none,none⟩]) (.cond (.s 48) (.seq (.ops [⟨.build [.v (.int .i64 0),.v (.int .i64 0),.v (.int .i64 0),.sl 1 0 [],.sl 1 0 []] [],[],some 49,none,none⟩,⟨.stL 5,[.s 4,.s 49],none,some 4,none⟩,⟨.mv,[.c (.v (.int .i64 0))],some 5,none,none⟩,⟨.mv,[.c (.v (.int .i64 5))],some 6,none,none⟩]) .ret) .skip)) (.seq (.seq (.ops [⟨.mv,[.s 11],some 50,none,none⟩,⟨.uno .not,[.s 50],some 51,none,none⟩]) (.cond (.s 51) (.seq (.ops [⟨.build [.v (.int .i64 0),.v (.int .i64 0),.v (.int .i64 0),.sl 1 0 [],.sl 1 0 []] [],[],some 52,none,none⟩,⟨.stL 5,[.s 4,.s 52],none,some 4,none⟩,⟨.mv,[.c (.v (.int .i64 0))],some 5,none,none⟩,⟨.mv,[.c (.v (.int .i64 4))],some 6,none,none⟩]) .ret) .skip)) (.ops [⟨.ldL 5 true,[.s 9],some 53,some 9,none⟩,⟨.stL 5,[.s 2,.s 53],none,some 2,none⟩])))))) (.ops [⟨.mv,[.s 8],some 30,none,none⟩,⟨.bin .add,[.s 30,.c (.v (.int .i64 1))],some 31,none,none⟩,⟨.mv,[.s 31],some 8,none,none⟩]))
/-- What Normal answers. -/
def NF (t : Tm) (r : PV) : Prop := (∃ x c, Reds t x ∧ Nf x ∧ x.size ≤ 4096 ∧ r = .tup [.ag x.row, i64 c, i64 0]) ∨ (∃ e : Int, (e = 4 ∨ e = 5) ∧ r = .tup [.ag [i64 0, i64 0, i64 0, .sl 0 0 [], .sl 0 0 []], i64 0, i64 e])
theorem normal_loop (sh : Sh) (g : List Ty) (hg : ∀ v ∈ g, v.nodes ≤ 64) (hgl : g.length ≤ 1000) (s : Ty) (t : Tm) (N : Nat) (hN : N ≤ 65536) (lv : Nat → Bool) (tk nn : Nat) ( x0 x3 x7 x12 x13 x14 x15 x16 x17 x18 x19 x20 x21 x22 x23 x24 x25 x26 x27 x28 x29 : PV) :
    ∀ (n : Nat) (x : Tm) (c : Nat) ( x9 x10 x11 x30 x31 x32 x33 x34 x35 x36 x37 x38 x39 x40 x41 x42 x43 x44 x45 x46 x47 x48 x49 x50 x51 x52 x53 : PV), Reds t x → HasTy g x s → x.size ≤ 4096 → c + n = N →
      R T G [] [.pc (.loop b25_0), .blk 0] ⟨[x0, i64 (N : Int), .bx 1 x.row, x3, .bx 1 [i64 0, i64 0, i64 0, .sl 1 0 [], .sl 1 0 []], i64 0, i64 0, x7, i64 (c : Int), x9, x10, x11, x12, x13, x14, x15, x16, x17, x18, x19, x20, x21, x22, x23, x24, x25, x26, x27, x28, x29, x30, x31, x32, x33, x34, x35, x36, x37, x38, x39, x40, x41, x42, x43, x44, x45, x46, x47, x48, x49, x50, x51, x52, x53], ⟨sh, lv, tk⟩⟩ (FQ [.c 4 5 true, .t 5, .t 6] false nn fun r s' => s' = sh ∧ NF t r) := by
  intro n
  induction n with
  | zero =>
    intro x c  x9 x10 x11 x30 x31 x32 x33 x34 x35 x36 x37 x38 x39 x40 x41 x42 x43 x44 x45 x46 x47 x48 x49 x50 x51 x52 x53 hr ht hsz hc
    have hl := ht.low 1073741824 (by omega)
    obtain ⟨D, hX⟩ : ∃ D : Int, D = 4096 - (x.size : Int) := ⟨_, rfl⟩
    have w0 : IntKind.i64.wrap (4096 - (x.size : Int)) = D := by rw [hX, wrap_i64 (by omega)]
    have c1 : (c : Int) = (N : Int) := by omega
    have m1 := count37 sh x (by omega)
    obtain ⟨r, m2, hn⟩ := next58 sh D x hsz hl
    have m3 := copyTm sh x
    rcases hn with ⟨e, rfl⟩ | ⟨y, e, f, rfl⟩ | ⟨y, j, e, f, ⟨k', i', tk', z', z2', q', q2', rfl⟩, rfl⟩ <;>
      (simp only [Tm.row, tmAll] at m1 m2 m3
       have v1 := clR.use m1
       have v2 := clR.use m2
       have v3 := clR.use m3
       rw [R.loop_eq]
       unfold b25_0
       simp only [wp0, wp1, wp2, wp3, wp4, PV.cellsT, appMax, dropSh, fillB, fillS, putD, splice, src, startSt, Int.reduceAdd, Int.reduceEq, Int.reduceLE, Int.reduceLT, Int.reduceNeg, Int.reduceSub, Int.reduceToNat, Nat.reduceAdd, Nat.reduceDiv, Nat.reduceEqDiff, Nat.reduceLT, Nat.reduceLeDiff, Nat.reduceMod, Nat.reduceMul, Nat.reduceSub, eq_self, if_false, if_true, ite_false, ite_true, reduceIte, Tm.row, tmAll, v1, v2, v3, w0, c1])
    · exact .inl ⟨x, _, hr, nred_nf x e, hsz, rfl⟩
    · exact .inr ⟨5, .inr rfl, rfl⟩
    · exact .inr ⟨5, .inr rfl, rfl⟩
  | succ n ih =>
    intro x c  x9 x10 x11 x30 x31 x32 x33 x34 x35 x36 x37 x38 x39 x40 x41 x42 x43 x44 x45 x46 x47 x48 x49 x50 x51 x52 x53 hr ht hsz hc
    have hl := ht.low 1073741824 (by omega)
    obtain ⟨D, hX⟩ : ∃ D : Int, D = 4096 - (x.size : Int) := ⟨_, rfl⟩
    have w0 : IntKind.i64.wrap (4096 - (x.size : Int)) = D := by rw [hX, wrap_i64 (by omega)]
    have w1 : IntKind.i64.wrap ((c : Int) + 1) = ((c + 1 : Nat) : Int) := by rw [wrap_i64 (by omega)]; omega
    have c1 : ¬ (c : Int) = (N : Int) := by omega
    have m1 := count37 sh x (by omega)
    obtain ⟨r, m2, hn⟩ := next58 sh D x hsz hl
    have m3 := copyTm sh x
    rcases hn with ⟨e, rfl⟩ | ⟨y, e, f, rfl⟩ | ⟨y, j, e, f, ⟨k', i', tk', z', z2', q', q2', rfl⟩, rfl⟩ <;>
      (simp only [Tm.row, tmAll] at m1 m2 m3
       have v1 := clR.use m1
       have v2 := clR.use m2
       have v3 := clR.use m3
       rw [R.loop_eq]
       unfold b25_0
       simp only [wp0, wp1, wp2, wp3, wp4, PV.cellsT, appMax, dropSh, fillB, fillS, putD, splice, src, startSt, Int.reduceAdd, Int.reduceEq, Int.reduceLE, Int.reduceLT, Int.reduceNeg, Int.reduceSub, Int.reduceToNat, Nat.reduceAdd, Nat.reduceDiv, Nat.reduceEqDiff, Nat.reduceLT, Nat.reduceLeDiff, Nat.reduceMod, Nat.reduceMul, Nat.reduceSub, eq_self, if_false, if_true, ite_false, ite_true, reduceIte, Tm.row, tmAll, v1, v2, v3, w0, w1, c1])
    · exact .inl ⟨x, _, hr, nred_nf x e, hsz, rfl⟩
    · have hy := nred_red x y e
      exact ih y (c + 1) _ _ _ _ _ _ _ _ _ _ _ _ _ _ _ _ _ _ _ _ _ _ _ _ _ _ _ (hr.trans (.one hy)) (ht.red hg _ hy) (by omega) (by omega)
    · exact .inr ⟨4, .inl rfl, rfl⟩
theorem run_exs {f : Nat} {args : List PV} {sh : Sh} {p : PV → Prop} (h : Runs T G f args sh fun r s => s = sh ∧ p r) : ∃ r, (∃ n, callN T G n f args sh = some (r, sh)) ∧ p r := by
  obtain ⟨n, r, s, h1, rfl, h3⟩ := h
  exact ⟨r, ⟨n, h1⟩, h3⟩
theorem normal25 (sh : Sh) (g : List Ty) (hg : ∀ v ∈ g, v.nodes ≤ 64) (hgl : g.length ≤ 1000) (s : Ty) (t : Tm) (ht : HasTy g t s) (hsz : t.size ≤ 4096) (N : Nat) (hN : N ≤ 65536) :
    ∃ r, (∃ n, callN T G n 25 [.ag t.row, i64 (N : Int)] sh = some (r, sh)) ∧ NF t r := by
  have m1 := check36 sh t ht.ok hsz
  have m2 := least57 sh 536870912 t (ht.low 536870912 (by omega))
  have z : ((536870912 : Nat) : Int) = 536870912 := rfl
  rw [z] at m2
  have c1 : ¬ (N : Int) < 0 := by omega
  have c2 : ¬ (65536 : Int) < (N : Int) := by omega
  simp only [Tm.row, tmAll] at m1 m2
  have v1 := clR.use m1
  have v2 := clR.use m2
  refine run_exs (run_of (pf := p25) rfl ?_)
  unfold p25
  simp only [wp0, wp1, wp2, wp3, wp4, PV.cellsT, appMax, dropSh, fillB, fillS, putD, splice, src, startSt, Int.reduceAdd, Int.reduceEq, Int.reduceLE, Int.reduceLT, Int.reduceNeg, Int.reduceSub, Int.reduceToNat, Nat.reduceAdd, Nat.reduceDiv, Nat.reduceEqDiff, Nat.reduceLT, Nat.reduceLeDiff, Nat.reduceMod, Nat.reduceMul, Nat.reduceSub, eq_self, if_false, if_true, ite_false, ite_true, reduceIte, Tm.row, tmAll, v1, v2, c1, c2]
  exact normal_loop sh g hg hgl s t N hN _ _ _ _ _ _ _ _ _ _ _ _ _ _ _ _ _ _ _ _ _ _ _ _ N t 0 _ _ _ _ _ _ _ _ _ _ _ _ _ _ _ _ _ _ _ _ _ _ _ _ _ _ _ (.refl _) ht hsz (by omega)
/-- What Match answers. -/
def ME (r : PV) : Prop := ∃ e : Int, (e = 0 ∨ e = 4 ∨ e = 5) ∧ r = i64 e
theorem match11 (sh : Sh) (g : List Ty) (hg : ∀ v ∈ g, v.nodes ≤ 64) (hgl : g.length ≤ 1000) (s : Ty) (a b : Tm) (ha : HasTy g a s) (hb : HasTy g b s) (hsa : a.size ≤ 4096) (hsb : b.size ≤ 4096) (hc : Conv a b) (N : Nat) (hN : N ≤ 65536) :
    ∃ r, (∃ n, callN T G n 11 [.ag a.row, .ag b.row, i64 (N : Int)] sh = some (r, sh)) ∧ ME r := by
  have m1 := check36 sh a ha.ok hsa
  have m2 := check36 sh b hb.ok hsb
  have m3 := same17 sh a b
  by_cases hab : a = b
  · have d : decide (a = b) = true := decide_eq_true hab
    rw [d] at m3
    refine ⟨_, ?_, ⟨0, .inl rfl, rfl⟩⟩
    have u0 := m1
    have u1 := m2
    have u2 := m3
    try simp only [Ty.row, tyAll, Tm.row, tmAll, Int.cast_ofNat_Int] at u0 u1 u2
    have u0' := clR.use u0
    have u1' := clR.use u1
    have u2' := clR.use u2
    refine run_eq (run_of (pf := p11) rfl ?_)
    unfold p11
    simp only [R.loop_eq, wp0, wp1, wp2, wp3, wp4, PV.cellsT, appMax, dropSh, fillB, fillS, putD, splice, src, startSt, Int.reduceAdd, Int.reduceEq, Int.reduceLE, Int.reduceLT, Int.reduceNeg, Int.reduceSub, Int.reduceToNat, Nat.reduceAdd, Nat.reduceDiv, Nat.reduceEqDiff, Nat.reduceLT, Nat.reduceLeDiff, Nat.reduceMod, Nat.reduceMul, Nat.reduceSub, eq_self, if_false, if_true, ite_false, ite_true, reduceIte, Ty.row, tyAll, Tm.row, tmAll, u0', u1', u2']
  · have d : decide (a = b) = false := decide_eq_false hab
    rw [d] at m3
    obtain ⟨r1, m4, n1⟩ := normal25 sh g hg hgl s a ha hsa N hN
    rcases n1 with ⟨x, c, rx, nx, _, rfl⟩ | ⟨e, he, rfl⟩
    · obtain ⟨r2, m5, n2⟩ := normal25 sh g hg hgl s b hb hsb N hN
      rcases n2 with ⟨y, c', ry, ny, _, rfl⟩ | ⟨e, he, rfl⟩
      · have exy : x = y := hc.nf rx ry nx ny
        subst exy
        have m6 := same17 sh x x
        have dd : decide (x = x) = true := decide_eq_true rfl
        rw [dd] at m6
        refine ⟨_, ?_, ⟨0, .inl rfl, rfl⟩⟩
        have u0 := m1
        have u1 := m2
        have u2 := m3
        have u3 := m4
        have u4 := m5
        have u5 := m6
        try simp only [Ty.row, tyAll, Tm.row, tmAll, Int.cast_ofNat_Int] at u0 u1 u2 u3 u4 u5
        have u0' := clR.use u0
        have u1' := clR.use u1
        have u2' := clR.use u2
        have u3' := clR.use u3
        have u4' := clR.use u4
        have u5' := clR.use u5
        refine run_eq (run_of (pf := p11) rfl ?_)
        unfold p11
        simp only [R.loop_eq, wp0, wp1, wp2, wp3, wp4, PV.cellsT, appMax, dropSh, fillB, fillS, putD, splice, src, startSt, Int.reduceAdd, Int.reduceEq, Int.reduceLE, Int.reduceLT, Int.reduceNeg, Int.reduceSub, Int.reduceToNat, Nat.reduceAdd, Nat.reduceDiv, Nat.reduceEqDiff, Nat.reduceLT, Nat.reduceLeDiff, Nat.reduceMod, Nat.reduceMul, Nat.reduceSub, eq_self, if_false, if_true, ite_false, ite_true, reduceIte, Ty.row, tyAll, Tm.row, tmAll, u0', u1', u2', u3', u4', u5']
      · refine ⟨_, ?_, ⟨e, .inr he, rfl⟩⟩
        have c1 : ¬ e = 0 := by omega
        have u0 := m1
        have u1 := m2
        have u2 := m3
        have u3 := m4
        have u4 := m5
        try simp only [Ty.row, tyAll, Tm.row, tmAll, Int.cast_ofNat_Int] at u0 u1 u2 u3 u4
        have u0' := clR.use u0
        have u1' := clR.use u1
        have u2' := clR.use u2
        have u3' := clR.use u3
        have u4' := clR.use u4
        refine run_eq (run_of (pf := p11) rfl ?_)
        unfold p11
        simp only [R.loop_eq, wp0, wp1, wp2, wp3, wp4, PV.cellsT, appMax, dropSh, fillB, fillS, putD, splice, src, startSt, Int.reduceAdd, Int.reduceEq, Int.reduceLE, Int.reduceLT, Int.reduceNeg, Int.reduceSub, Int.reduceToNat, Nat.reduceAdd, Nat.reduceDiv, Nat.reduceEqDiff, Nat.reduceLT, Nat.reduceLeDiff, Nat.reduceMod, Nat.reduceMul, Nat.reduceSub, eq_self, if_false, if_true, ite_false, ite_true, reduceIte, Ty.row, tyAll, Tm.row, tmAll, u0', u1', u2', u3', u4', c1]
    · refine ⟨_, ?_, ⟨e, .inr he, rfl⟩⟩
      have c1 : ¬ e = 0 := by omega
      have u0 := m1
      have u1 := m2
      have u2 := m3
      have u3 := m4
      try simp only [Ty.row, tyAll, Tm.row, tmAll, Int.cast_ofNat_Int] at u0 u1 u2 u3
      have u0' := clR.use u0
      have u1' := clR.use u1
      have u2' := clR.use u2
      have u3' := clR.use u3
      refine run_eq (run_of (pf := p11) rfl ?_)
      unfold p11
      simp only [R.loop_eq, wp0, wp1, wp2, wp3, wp4, PV.cellsT, appMax, dropSh, fillB, fillS, putD, splice, src, startSt, Int.reduceAdd, Int.reduceEq, Int.reduceLE, Int.reduceLT, Int.reduceNeg, Int.reduceSub, Int.reduceToNat, Nat.reduceAdd, Nat.reduceDiv, Nat.reduceEqDiff, Nat.reduceLT, Nat.reduceLeDiff, Nat.reduceMod, Nat.reduceMul, Nat.reduceSub, eq_self, if_false, if_true, ite_false, ite_true, reduceIte, Ty.row, tyAll, Tm.row, tmAll, u0', u1', u2', u3', c1]
end Go.Pi.Terms
