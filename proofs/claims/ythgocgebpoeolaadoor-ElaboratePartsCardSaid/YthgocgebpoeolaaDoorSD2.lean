import Derived.Test.YthgocgebpoeolaaDoorSD
set_option maxRecDepth 100000
set_option maxHeartbeats 1000000
set_option linter.unusedSimpArgs false
set_option linter.unusedVariables false
namespace Go.Pi.Terms
open Go Go.Pi Go.Proofs.YthgocgebpoeolaaDoor
noncomputable instance : DecidableEq Tm := fun _ _ => Classical.propDecidable _
theorem sameNo (sh : Sh) : ∃ n, callN T G n 11 [.ag [i64 0, .sl 0 0 []], .ag [i64 0, .sl 0 0 []]] sh = some (.v (.bool true), sh) := by
  refine run_eq (run_of (pf := p11) rfl ?_)
  unfold p11
  simp only [R.loop_eq, wp0, wp1, wp2, wp3, wp4, wp5, Int.reduceAdd, Int.reduceEq, Int.reduceLE, Int.reduceLT, Int.reduceNeg, Int.reduceSub, Int.reduceToNat, Nat.reduceAdd, Nat.reduceDiv, Nat.reduceEqDiff, Nat.reduceLT, Nat.reduceLeDiff, Nat.reduceMod, Nat.reduceMul, Nat.reduceSub, eq_self, reduceIte, Ty.row, tyAll, Tm.row, tmAll]
theorem same17 (sh : Sh) : ∀ a b : Tm, ∃ n, callN T G n 18 [.ag a.row, .ag b.row] sh = some (.v (.bool (decide (a = b))), sh) := by
  intro a
  induction a with
  | var i =>
    intro q
    by_cases hk : (Tm.var i).kind = q.kind
    · cases q <;> first | exact absurd hk (by decide) | (exfalso; simp [Tm.kind] at hk; done) | skip
      rename_i j
      by_cases e : i = j
      · have hd : decide (Tm.var i = Tm.var j) = true := decide_eq_true (by rw [e])
        have c1 : (i : Int) = (j : Int) := by omega
        rw [hd]
        have u0 := sameNo sh
        try simp only [Ty.row, tyAll, Tm.row, tmAll, Int.cast_ofNat_Int] at u0
        have u0' := clR.use u0
        refine run_eq (run_of (pf := p18) rfl ?_)
        unfold p18
        simp only [R.loop_eq, wp0, wp1, wp2, wp3, wp4, wp5, Int.reduceAdd, Int.reduceEq, Int.reduceLE, Int.reduceLT, Int.reduceNeg, Int.reduceSub, Int.reduceToNat, Nat.reduceAdd, Nat.reduceDiv, Nat.reduceEqDiff, Nat.reduceLT, Nat.reduceLeDiff, Nat.reduceMod, Nat.reduceMul, Nat.reduceSub, eq_self, reduceIte, Ty.row, tyAll, Tm.row, tmAll, u0', c1]
      · have hd : decide (Tm.var i = Tm.var j) = false := decide_eq_false (fun h => e (Tm.var.inj h))
        have c1 : ¬ (i : Int) = (j : Int) := by omega
        rw [hd]
        have u0 := sameNo sh
        try simp only [Ty.row, tyAll, Tm.row, tmAll, Int.cast_ofNat_Int] at u0
        have u0' := clR.use u0
        refine run_eq (run_of (pf := p18) rfl ?_)
        unfold p18
        simp only [R.loop_eq, wp0, wp1, wp2, wp3, wp4, wp5, Int.reduceAdd, Int.reduceEq, Int.reduceLE, Int.reduceLT, Int.reduceNeg, Int.reduceSub, Int.reduceToNat, Nat.reduceAdd, Nat.reduceDiv, Nat.reduceEqDiff, Nat.reduceLT, Nat.reduceLeDiff, Nat.reduceMod, Nat.reduceMul, Nat.reduceSub, eq_self, reduceIte, Ty.row, tyAll, Tm.row, tmAll, u0', c1]
    · have hd : decide (Tm.var i = q) = false := decide_eq_false (fun h => hk (by rw [h]))
      rw [hd]
      simp only [Tm.row, tmAll] at hk
      refine run_eq (run_of (pf := p18) rfl ?_)
      unfold p18
      simp only [R.loop_eq, wp0, wp1, wp2, wp3, wp4, wp5, Int.reduceAdd, Int.reduceEq, Int.reduceLE, Int.reduceLT, Int.reduceNeg, Int.reduceSub, Int.reduceToNat, Nat.reduceAdd, Nat.reduceDiv, Nat.reduceEqDiff, Nat.reduceLT, Nat.reduceLeDiff, Nat.reduceMod, Nat.reduceMul, Nat.reduceSub, eq_self, reduceIte, Ty.row, tyAll, Tm.row, tmAll, hk]
  | lam s a iha =>
    intro q
    by_cases hk : (Tm.lam s a).kind = q.kind
    · cases q <;> first | exact absurd hk (by decide) | (exfalso; simp [Tm.kind] at hk; done) | skip
      rename_i s2 x
      by_cases e0 : s = s2
      · have d0 : decide (s = s2) = true := decide_eq_true e0
        by_cases e1 : a = x
        · have d1 : decide (a = x) = true := decide_eq_true e1
          have hd : decide (Tm.lam s a = Tm.lam s2 x) = true := decide_eq_true (by rw [e0, e1])
          rw [hd]
          have u0 := same15 sh s s2
          have u1 := iha x
          try simp only [Ty.row, tyAll, Tm.row, tmAll, Int.cast_ofNat_Int] at u0 u1
          have u0' := clR.use u0
          have u1' := clR.use u1
          refine run_eq (run_of (pf := p18) rfl ?_)
          unfold p18
          simp only [R.loop_eq, wp0, wp1, wp2, wp3, wp4, wp5, Int.reduceAdd, Int.reduceEq, Int.reduceLE, Int.reduceLT, Int.reduceNeg, Int.reduceSub, Int.reduceToNat, Nat.reduceAdd, Nat.reduceDiv, Nat.reduceEqDiff, Nat.reduceLT, Nat.reduceLeDiff, Nat.reduceMod, Nat.reduceMul, Nat.reduceSub, eq_self, reduceIte, Ty.row, tyAll, Tm.row, tmAll, u0', u1', d0, d1]
        · have d1 : decide (a = x) = false := decide_eq_false e1
          have hd : decide (Tm.lam s a = Tm.lam s2 x) = false := decide_eq_false (fun h => e1 (by injection h))
          rw [hd]
          have u0 := same15 sh s s2
          have u1 := iha x
          try simp only [Ty.row, tyAll, Tm.row, tmAll, Int.cast_ofNat_Int] at u0 u1
          have u0' := clR.use u0
          have u1' := clR.use u1
          refine run_eq (run_of (pf := p18) rfl ?_)
          unfold p18
          simp only [R.loop_eq, wp0, wp1, wp2, wp3, wp4, wp5, Int.reduceAdd, Int.reduceEq, Int.reduceLE, Int.reduceLT, Int.reduceNeg, Int.reduceSub, Int.reduceToNat, Nat.reduceAdd, Nat.reduceDiv, Nat.reduceEqDiff, Nat.reduceLT, Nat.reduceLeDiff, Nat.reduceMod, Nat.reduceMul, Nat.reduceSub, eq_self, reduceIte, Ty.row, tyAll, Tm.row, tmAll, u0', u1', d0, d1]
      · have d0 : decide (s = s2) = false := decide_eq_false e0
        have hd : decide (Tm.lam s a = Tm.lam s2 x) = false := decide_eq_false (fun h => e0 (by injection h))
        rw [hd]
        have u0 := same15 sh s s2
        try simp only [Ty.row, tyAll, Tm.row, tmAll, Int.cast_ofNat_Int] at u0
        have u0' := clR.use u0
        refine run_eq (run_of (pf := p18) rfl ?_)
        unfold p18
        simp only [R.loop_eq, wp0, wp1, wp2, wp3, wp4, wp5, Int.reduceAdd, Int.reduceEq, Int.reduceLE, Int.reduceLT, Int.reduceNeg, Int.reduceSub, Int.reduceToNat, Nat.reduceAdd, Nat.reduceDiv, Nat.reduceEqDiff, Nat.reduceLT, Nat.reduceLeDiff, Nat.reduceMod, Nat.reduceMul, Nat.reduceSub, eq_self, reduceIte, Ty.row, tyAll, Tm.row, tmAll, u0', d0]
    · have hd : decide (Tm.lam s a = q) = false := decide_eq_false (fun h => hk (by rw [h]))
      rw [hd]
      simp only [Tm.row, tmAll] at hk
      refine run_eq (run_of (pf := p18) rfl ?_)
      unfold p18
      simp only [R.loop_eq, wp0, wp1, wp2, wp3, wp4, wp5, Int.reduceAdd, Int.reduceEq, Int.reduceLE, Int.reduceLT, Int.reduceNeg, Int.reduceSub, Int.reduceToNat, Nat.reduceAdd, Nat.reduceDiv, Nat.reduceEqDiff, Nat.reduceLT, Nat.reduceLeDiff, Nat.reduceMod, Nat.reduceMul, Nat.reduceSub, eq_self, reduceIte, Ty.row, tyAll, Tm.row, tmAll, hk]
  | app a b iha ihb =>
    intro q
    by_cases hk : (Tm.app a b).kind = q.kind
    · cases q <;> first | exact absurd hk (by decide) | (exfalso; simp [Tm.kind] at hk; done) | skip
      rename_i x y
      by_cases e0 : a = x
      · have d0 : decide (a = x) = true := decide_eq_true e0
        by_cases e1 : b = y
        · have d1 : decide (b = y) = true := decide_eq_true e1
          have hd : decide (Tm.app a b = Tm.app x y) = true := decide_eq_true (by rw [e0, e1])
          rw [hd]
          have u0 := sameNo sh
          have u1 := iha x
          have u2 := ihb y
          try simp only [Ty.row, tyAll, Tm.row, tmAll, Int.cast_ofNat_Int] at u0 u1 u2
          have u0' := clR.use u0
          have u1' := clR.use u1
          have u2' := clR.use u2
          refine run_eq (run_of (pf := p18) rfl ?_)
          unfold p18
          simp only [R.loop_eq, wp0, wp1, wp2, wp3, wp4, wp5, Int.reduceAdd, Int.reduceEq, Int.reduceLE, Int.reduceLT, Int.reduceNeg, Int.reduceSub, Int.reduceToNat, Nat.reduceAdd, Nat.reduceDiv, Nat.reduceEqDiff, Nat.reduceLT, Nat.reduceLeDiff, Nat.reduceMod, Nat.reduceMul, Nat.reduceSub, eq_self, reduceIte, Ty.row, tyAll, Tm.row, tmAll, u0', u1', u2', d0, d1]
        · have d1 : decide (b = y) = false := decide_eq_false e1
          have hd : decide (Tm.app a b = Tm.app x y) = false := decide_eq_false (fun h => e1 (by injection h))
          rw [hd]
          have u0 := sameNo sh
          have u1 := iha x
          have u2 := ihb y
          try simp only [Ty.row, tyAll, Tm.row, tmAll, Int.cast_ofNat_Int] at u0 u1 u2
          have u0' := clR.use u0
          have u1' := clR.use u1
          have u2' := clR.use u2
          refine run_eq (run_of (pf := p18) rfl ?_)
          unfold p18
          simp only [R.loop_eq, wp0, wp1, wp2, wp3, wp4, wp5, Int.reduceAdd, Int.reduceEq, Int.reduceLE, Int.reduceLT, Int.reduceNeg, Int.reduceSub, Int.reduceToNat, Nat.reduceAdd, Nat.reduceDiv, Nat.reduceEqDiff, Nat.reduceLT, Nat.reduceLeDiff, Nat.reduceMod, Nat.reduceMul, Nat.reduceSub, eq_self, reduceIte, Ty.row, tyAll, Tm.row, tmAll, u0', u1', u2', d0, d1]
      · have d0 : decide (a = x) = false := decide_eq_false e0
        have hd : decide (Tm.app a b = Tm.app x y) = false := decide_eq_false (fun h => e0 (by injection h))
        rw [hd]
        have u0 := sameNo sh
        have u1 := iha x
        try simp only [Ty.row, tyAll, Tm.row, tmAll, Int.cast_ofNat_Int] at u0 u1
        have u0' := clR.use u0
        have u1' := clR.use u1
        refine run_eq (run_of (pf := p18) rfl ?_)
        unfold p18
        simp only [R.loop_eq, wp0, wp1, wp2, wp3, wp4, wp5, Int.reduceAdd, Int.reduceEq, Int.reduceLE, Int.reduceLT, Int.reduceNeg, Int.reduceSub, Int.reduceToNat, Nat.reduceAdd, Nat.reduceDiv, Nat.reduceEqDiff, Nat.reduceLT, Nat.reduceLeDiff, Nat.reduceMod, Nat.reduceMul, Nat.reduceSub, eq_self, reduceIte, Ty.row, tyAll, Tm.row, tmAll, u0', u1', d0]
    · have hd : decide (Tm.app a b = q) = false := decide_eq_false (fun h => hk (by rw [h]))
      rw [hd]
      simp only [Tm.row, tmAll] at hk
      refine run_eq (run_of (pf := p18) rfl ?_)
      unfold p18
      simp only [R.loop_eq, wp0, wp1, wp2, wp3, wp4, wp5, Int.reduceAdd, Int.reduceEq, Int.reduceLE, Int.reduceLT, Int.reduceNeg, Int.reduceSub, Int.reduceToNat, Nat.reduceAdd, Nat.reduceDiv, Nat.reduceEqDiff, Nat.reduceLT, Nat.reduceLeDiff, Nat.reduceMod, Nat.reduceMul, Nat.reduceSub, eq_self, reduceIte, Ty.row, tyAll, Tm.row, tmAll, hk]
  | zero =>
    intro q
    by_cases hk : (Tm.zero).kind = q.kind
    · cases q <;> first | exact absurd hk (by decide) | (exfalso; simp [Tm.kind] at hk; done) | skip
      have hd : decide (Tm.zero = Tm.zero) = true := decide_eq_true (by rfl)
      rw [hd]
      have u0 := sameNo sh
      try simp only [Ty.row, tyAll, Tm.row, tmAll, Int.cast_ofNat_Int] at u0
      have u0' := clR.use u0
      refine run_eq (run_of (pf := p18) rfl ?_)
      unfold p18
      simp only [R.loop_eq, wp0, wp1, wp2, wp3, wp4, wp5, Int.reduceAdd, Int.reduceEq, Int.reduceLE, Int.reduceLT, Int.reduceNeg, Int.reduceSub, Int.reduceToNat, Nat.reduceAdd, Nat.reduceDiv, Nat.reduceEqDiff, Nat.reduceLT, Nat.reduceLeDiff, Nat.reduceMod, Nat.reduceMul, Nat.reduceSub, eq_self, reduceIte, Ty.row, tyAll, Tm.row, tmAll, u0']
    · have hd : decide (Tm.zero = q) = false := decide_eq_false (fun h => hk (by rw [h]))
      rw [hd]
      simp only [Tm.row, tmAll] at hk
      refine run_eq (run_of (pf := p18) rfl ?_)
      unfold p18
      simp only [R.loop_eq, wp0, wp1, wp2, wp3, wp4, wp5, Int.reduceAdd, Int.reduceEq, Int.reduceLE, Int.reduceLT, Int.reduceNeg, Int.reduceSub, Int.reduceToNat, Nat.reduceAdd, Nat.reduceDiv, Nat.reduceEqDiff, Nat.reduceLT, Nat.reduceLeDiff, Nat.reduceMod, Nat.reduceMul, Nat.reduceSub, eq_self, reduceIte, Ty.row, tyAll, Tm.row, tmAll, hk]
  | succ a iha =>
    intro q
    by_cases hk : (Tm.succ a).kind = q.kind
    · cases q <;> first | exact absurd hk (by decide) | (exfalso; simp [Tm.kind] at hk; done) | skip
      rename_i x
      by_cases e0 : a = x
      · have d0 : decide (a = x) = true := decide_eq_true e0
        have hd : decide (Tm.succ a = Tm.succ x) = true := decide_eq_true (by rw [e0])
        rw [hd]
        have u0 := sameNo sh
        have u1 := iha x
        try simp only [Ty.row, tyAll, Tm.row, tmAll, Int.cast_ofNat_Int] at u0 u1
        have u0' := clR.use u0
        have u1' := clR.use u1
        refine run_eq (run_of (pf := p18) rfl ?_)
        unfold p18
        simp only [R.loop_eq, wp0, wp1, wp2, wp3, wp4, wp5, Int.reduceAdd, Int.reduceEq, Int.reduceLE, Int.reduceLT, Int.reduceNeg, Int.reduceSub, Int.reduceToNat, Nat.reduceAdd, Nat.reduceDiv, Nat.reduceEqDiff, Nat.reduceLT, Nat.reduceLeDiff, Nat.reduceMod, Nat.reduceMul, Nat.reduceSub, eq_self, reduceIte, Ty.row, tyAll, Tm.row, tmAll, u0', u1', d0]
      · have d0 : decide (a = x) = false := decide_eq_false e0
        have hd : decide (Tm.succ a = Tm.succ x) = false := decide_eq_false (fun h => e0 (by injection h))
        rw [hd]
        have u0 := sameNo sh
        have u1 := iha x
        try simp only [Ty.row, tyAll, Tm.row, tmAll, Int.cast_ofNat_Int] at u0 u1
        have u0' := clR.use u0
        have u1' := clR.use u1
        refine run_eq (run_of (pf := p18) rfl ?_)
        unfold p18
        simp only [R.loop_eq, wp0, wp1, wp2, wp3, wp4, wp5, Int.reduceAdd, Int.reduceEq, Int.reduceLE, Int.reduceLT, Int.reduceNeg, Int.reduceSub, Int.reduceToNat, Nat.reduceAdd, Nat.reduceDiv, Nat.reduceEqDiff, Nat.reduceLT, Nat.reduceLeDiff, Nat.reduceMod, Nat.reduceMul, Nat.reduceSub, eq_self, reduceIte, Ty.row, tyAll, Tm.row, tmAll, u0', u1', d0]
    · have hd : decide (Tm.succ a = q) = false := decide_eq_false (fun h => hk (by rw [h]))
      rw [hd]
      simp only [Tm.row, tmAll] at hk
      refine run_eq (run_of (pf := p18) rfl ?_)
      unfold p18
      simp only [R.loop_eq, wp0, wp1, wp2, wp3, wp4, wp5, Int.reduceAdd, Int.reduceEq, Int.reduceLE, Int.reduceLT, Int.reduceNeg, Int.reduceSub, Int.reduceToNat, Nat.reduceAdd, Nat.reduceDiv, Nat.reduceEqDiff, Nat.reduceLT, Nat.reduceLeDiff, Nat.reduceMod, Nat.reduceMul, Nat.reduceSub, eq_self, reduceIte, Ty.row, tyAll, Tm.row, tmAll, hk]
  | recu s a b c iha ihb ihc =>
    intro q
    by_cases hk : (Tm.recu s a b c).kind = q.kind
    · cases q <;> first | exact absurd hk (by decide) | (exfalso; simp [Tm.kind] at hk; done) | skip
      rename_i s2 x y z
      by_cases e0 : s = s2
      · have d0 : decide (s = s2) = true := decide_eq_true e0
        by_cases e1 : a = x
        · have d1 : decide (a = x) = true := decide_eq_true e1
          by_cases e2 : b = y
          · have d2 : decide (b = y) = true := decide_eq_true e2
            by_cases e3 : c = z
            · have d3 : decide (c = z) = true := decide_eq_true e3
              have hd : decide (Tm.recu s a b c = Tm.recu s2 x y z) = true := decide_eq_true (by rw [e0, e1, e2, e3])
              rw [hd]
              have u0 := same15 sh s s2
              have u1 := iha x
              have u2 := ihb y
              have u3 := ihc z
              try simp only [Ty.row, tyAll, Tm.row, tmAll, Int.cast_ofNat_Int] at u0 u1 u2 u3
              have u0' := clR.use u0
              have u1' := clR.use u1
              have u2' := clR.use u2
              have u3' := clR.use u3
              refine run_eq (run_of (pf := p18) rfl ?_)
              unfold p18
              simp only [R.loop_eq, wp0, wp1, wp2, wp3, wp4, wp5, Int.reduceAdd, Int.reduceEq, Int.reduceLE, Int.reduceLT, Int.reduceNeg, Int.reduceSub, Int.reduceToNat, Nat.reduceAdd, Nat.reduceDiv, Nat.reduceEqDiff, Nat.reduceLT, Nat.reduceLeDiff, Nat.reduceMod, Nat.reduceMul, Nat.reduceSub, eq_self, reduceIte, Ty.row, tyAll, Tm.row, tmAll, u0', u1', u2', u3', d0, d1, d2, d3]
            · have d3 : decide (c = z) = false := decide_eq_false e3
              have hd : decide (Tm.recu s a b c = Tm.recu s2 x y z) = false := decide_eq_false (fun h => e3 (by injection h))
              rw [hd]
              have u0 := same15 sh s s2
              have u1 := iha x
              have u2 := ihb y
              have u3 := ihc z
              try simp only [Ty.row, tyAll, Tm.row, tmAll, Int.cast_ofNat_Int] at u0 u1 u2 u3
              have u0' := clR.use u0
              have u1' := clR.use u1
              have u2' := clR.use u2
              have u3' := clR.use u3
              refine run_eq (run_of (pf := p18) rfl ?_)
              unfold p18
              simp only [R.loop_eq, wp0, wp1, wp2, wp3, wp4, wp5, Int.reduceAdd, Int.reduceEq, Int.reduceLE, Int.reduceLT, Int.reduceNeg, Int.reduceSub, Int.reduceToNat, Nat.reduceAdd, Nat.reduceDiv, Nat.reduceEqDiff, Nat.reduceLT, Nat.reduceLeDiff, Nat.reduceMod, Nat.reduceMul, Nat.reduceSub, eq_self, reduceIte, Ty.row, tyAll, Tm.row, tmAll, u0', u1', u2', u3', d0, d1, d2, d3]
          · have d2 : decide (b = y) = false := decide_eq_false e2
            have hd : decide (Tm.recu s a b c = Tm.recu s2 x y z) = false := decide_eq_false (fun h => e2 (by injection h))
            rw [hd]
            have u0 := same15 sh s s2
            have u1 := iha x
            have u2 := ihb y
            try simp only [Ty.row, tyAll, Tm.row, tmAll, Int.cast_ofNat_Int] at u0 u1 u2
            have u0' := clR.use u0
            have u1' := clR.use u1
            have u2' := clR.use u2
            refine run_eq (run_of (pf := p18) rfl ?_)
            unfold p18
            simp only [R.loop_eq, wp0, wp1, wp2, wp3, wp4, wp5, Int.reduceAdd, Int.reduceEq, Int.reduceLE, Int.reduceLT, Int.reduceNeg, Int.reduceSub, Int.reduceToNat, Nat.reduceAdd, Nat.reduceDiv, Nat.reduceEqDiff, Nat.reduceLT, Nat.reduceLeDiff, Nat.reduceMod, Nat.reduceMul, Nat.reduceSub, eq_self, reduceIte, Ty.row, tyAll, Tm.row, tmAll, u0', u1', u2', d0, d1, d2]
        · have d1 : decide (a = x) = false := decide_eq_false e1
          have hd : decide (Tm.recu s a b c = Tm.recu s2 x y z) = false := decide_eq_false (fun h => e1 (by injection h))
          rw [hd]
          have u0 := same15 sh s s2
          have u1 := iha x
          try simp only [Ty.row, tyAll, Tm.row, tmAll, Int.cast_ofNat_Int] at u0 u1
          have u0' := clR.use u0
          have u1' := clR.use u1
          refine run_eq (run_of (pf := p18) rfl ?_)
          unfold p18
          simp only [R.loop_eq, wp0, wp1, wp2, wp3, wp4, wp5, Int.reduceAdd, Int.reduceEq, Int.reduceLE, Int.reduceLT, Int.reduceNeg, Int.reduceSub, Int.reduceToNat, Nat.reduceAdd, Nat.reduceDiv, Nat.reduceEqDiff, Nat.reduceLT, Nat.reduceLeDiff, Nat.reduceMod, Nat.reduceMul, Nat.reduceSub, eq_self, reduceIte, Ty.row, tyAll, Tm.row, tmAll, u0', u1', d0, d1]
      · have d0 : decide (s = s2) = false := decide_eq_false e0
        have hd : decide (Tm.recu s a b c = Tm.recu s2 x y z) = false := decide_eq_false (fun h => e0 (by injection h))
        rw [hd]
        have u0 := same15 sh s s2
        try simp only [Ty.row, tyAll, Tm.row, tmAll, Int.cast_ofNat_Int] at u0
        have u0' := clR.use u0
        refine run_eq (run_of (pf := p18) rfl ?_)
        unfold p18
        simp only [R.loop_eq, wp0, wp1, wp2, wp3, wp4, wp5, Int.reduceAdd, Int.reduceEq, Int.reduceLE, Int.reduceLT, Int.reduceNeg, Int.reduceSub, Int.reduceToNat, Nat.reduceAdd, Nat.reduceDiv, Nat.reduceEqDiff, Nat.reduceLT, Nat.reduceLeDiff, Nat.reduceMod, Nat.reduceMul, Nat.reduceSub, eq_self, reduceIte, Ty.row, tyAll, Tm.row, tmAll, u0', d0]
    · have hd : decide (Tm.recu s a b c = q) = false := decide_eq_false (fun h => hk (by rw [h]))
      rw [hd]
      simp only [Tm.row, tmAll] at hk
      refine run_eq (run_of (pf := p18) rfl ?_)
      unfold p18
      simp only [R.loop_eq, wp0, wp1, wp2, wp3, wp4, wp5, Int.reduceAdd, Int.reduceEq, Int.reduceLE, Int.reduceLT, Int.reduceNeg, Int.reduceSub, Int.reduceToNat, Nat.reduceAdd, Nat.reduceDiv, Nat.reduceEqDiff, Nat.reduceLT, Nat.reduceLeDiff, Nat.reduceMod, Nat.reduceMul, Nat.reduceSub, eq_self, reduceIte, Ty.row, tyAll, Tm.row, tmAll, hk]
  | nil =>
    intro q
    by_cases hk : (Tm.nil).kind = q.kind
    · cases q <;> first | exact absurd hk (by decide) | (exfalso; simp [Tm.kind] at hk; done) | skip
      have hd : decide (Tm.nil = Tm.nil) = true := decide_eq_true (by rfl)
      rw [hd]
      have u0 := sameNo sh
      try simp only [Ty.row, tyAll, Tm.row, tmAll, Int.cast_ofNat_Int] at u0
      have u0' := clR.use u0
      refine run_eq (run_of (pf := p18) rfl ?_)
      unfold p18
      simp only [R.loop_eq, wp0, wp1, wp2, wp3, wp4, wp5, Int.reduceAdd, Int.reduceEq, Int.reduceLE, Int.reduceLT, Int.reduceNeg, Int.reduceSub, Int.reduceToNat, Nat.reduceAdd, Nat.reduceDiv, Nat.reduceEqDiff, Nat.reduceLT, Nat.reduceLeDiff, Nat.reduceMod, Nat.reduceMul, Nat.reduceSub, eq_self, reduceIte, Ty.row, tyAll, Tm.row, tmAll, u0']
    · have hd : decide (Tm.nil = q) = false := decide_eq_false (fun h => hk (by rw [h]))
      rw [hd]
      simp only [Tm.row, tmAll] at hk
      refine run_eq (run_of (pf := p18) rfl ?_)
      unfold p18
      simp only [R.loop_eq, wp0, wp1, wp2, wp3, wp4, wp5, Int.reduceAdd, Int.reduceEq, Int.reduceLE, Int.reduceLT, Int.reduceNeg, Int.reduceSub, Int.reduceToNat, Nat.reduceAdd, Nat.reduceDiv, Nat.reduceEqDiff, Nat.reduceLT, Nat.reduceLeDiff, Nat.reduceMod, Nat.reduceMul, Nat.reduceSub, eq_self, reduceIte, Ty.row, tyAll, Tm.row, tmAll, hk]
  | cons a b iha ihb =>
    intro q
    by_cases hk : (Tm.cons a b).kind = q.kind
    · cases q <;> first | exact absurd hk (by decide) | (exfalso; simp [Tm.kind] at hk; done) | skip
      rename_i x y
      by_cases e0 : a = x
      · have d0 : decide (a = x) = true := decide_eq_true e0
        by_cases e1 : b = y
        · have d1 : decide (b = y) = true := decide_eq_true e1
          have hd : decide (Tm.cons a b = Tm.cons x y) = true := decide_eq_true (by rw [e0, e1])
          rw [hd]
          have u0 := sameNo sh
          have u1 := iha x
          have u2 := ihb y
          try simp only [Ty.row, tyAll, Tm.row, tmAll, Int.cast_ofNat_Int] at u0 u1 u2
          have u0' := clR.use u0
          have u1' := clR.use u1
          have u2' := clR.use u2
          refine run_eq (run_of (pf := p18) rfl ?_)
          unfold p18
          simp only [R.loop_eq, wp0, wp1, wp2, wp3, wp4, wp5, Int.reduceAdd, Int.reduceEq, Int.reduceLE, Int.reduceLT, Int.reduceNeg, Int.reduceSub, Int.reduceToNat, Nat.reduceAdd, Nat.reduceDiv, Nat.reduceEqDiff, Nat.reduceLT, Nat.reduceLeDiff, Nat.reduceMod, Nat.reduceMul, Nat.reduceSub, eq_self, reduceIte, Ty.row, tyAll, Tm.row, tmAll, u0', u1', u2', d0, d1]
        · have d1 : decide (b = y) = false := decide_eq_false e1
          have hd : decide (Tm.cons a b = Tm.cons x y) = false := decide_eq_false (fun h => e1 (by injection h))
          rw [hd]
          have u0 := sameNo sh
          have u1 := iha x
          have u2 := ihb y
          try simp only [Ty.row, tyAll, Tm.row, tmAll, Int.cast_ofNat_Int] at u0 u1 u2
          have u0' := clR.use u0
          have u1' := clR.use u1
          have u2' := clR.use u2
          refine run_eq (run_of (pf := p18) rfl ?_)
          unfold p18
          simp only [R.loop_eq, wp0, wp1, wp2, wp3, wp4, wp5, Int.reduceAdd, Int.reduceEq, Int.reduceLE, Int.reduceLT, Int.reduceNeg, Int.reduceSub, Int.reduceToNat, Nat.reduceAdd, Nat.reduceDiv, Nat.reduceEqDiff, Nat.reduceLT, Nat.reduceLeDiff, Nat.reduceMod, Nat.reduceMul, Nat.reduceSub, eq_self, reduceIte, Ty.row, tyAll, Tm.row, tmAll, u0', u1', u2', d0, d1]
      · have d0 : decide (a = x) = false := decide_eq_false e0
        have hd : decide (Tm.cons a b = Tm.cons x y) = false := decide_eq_false (fun h => e0 (by injection h))
        rw [hd]
        have u0 := sameNo sh
        have u1 := iha x
        try simp only [Ty.row, tyAll, Tm.row, tmAll, Int.cast_ofNat_Int] at u0 u1
        have u0' := clR.use u0
        have u1' := clR.use u1
        refine run_eq (run_of (pf := p18) rfl ?_)
        unfold p18
        simp only [R.loop_eq, wp0, wp1, wp2, wp3, wp4, wp5, Int.reduceAdd, Int.reduceEq, Int.reduceLE, Int.reduceLT, Int.reduceNeg, Int.reduceSub, Int.reduceToNat, Nat.reduceAdd, Nat.reduceDiv, Nat.reduceEqDiff, Nat.reduceLT, Nat.reduceLeDiff, Nat.reduceMod, Nat.reduceMul, Nat.reduceSub, eq_self, reduceIte, Ty.row, tyAll, Tm.row, tmAll, u0', u1', d0]
    · have hd : decide (Tm.cons a b = q) = false := decide_eq_false (fun h => hk (by rw [h]))
      rw [hd]
      simp only [Tm.row, tmAll] at hk
      refine run_eq (run_of (pf := p18) rfl ?_)
      unfold p18
      simp only [R.loop_eq, wp0, wp1, wp2, wp3, wp4, wp5, Int.reduceAdd, Int.reduceEq, Int.reduceLE, Int.reduceLT, Int.reduceNeg, Int.reduceSub, Int.reduceToNat, Nat.reduceAdd, Nat.reduceDiv, Nat.reduceEqDiff, Nat.reduceLT, Nat.reduceLeDiff, Nat.reduceMod, Nat.reduceMul, Nat.reduceSub, eq_self, reduceIte, Ty.row, tyAll, Tm.row, tmAll, hk]
  | fold s a b c iha ihb ihc =>
    intro q
    by_cases hk : (Tm.fold s a b c).kind = q.kind
    · cases q <;> first | exact absurd hk (by decide) | (exfalso; simp [Tm.kind] at hk; done) | skip
      rename_i s2 x y z
      by_cases e0 : s = s2
      · have d0 : decide (s = s2) = true := decide_eq_true e0
        by_cases e1 : a = x
        · have d1 : decide (a = x) = true := decide_eq_true e1
          by_cases e2 : b = y
          · have d2 : decide (b = y) = true := decide_eq_true e2
            by_cases e3 : c = z
            · have d3 : decide (c = z) = true := decide_eq_true e3
              have hd : decide (Tm.fold s a b c = Tm.fold s2 x y z) = true := decide_eq_true (by rw [e0, e1, e2, e3])
              rw [hd]
              have u0 := same15 sh s s2
              have u1 := iha x
              have u2 := ihb y
              have u3 := ihc z
              try simp only [Ty.row, tyAll, Tm.row, tmAll, Int.cast_ofNat_Int] at u0 u1 u2 u3
              have u0' := clR.use u0
              have u1' := clR.use u1
              have u2' := clR.use u2
              have u3' := clR.use u3
              refine run_eq (run_of (pf := p18) rfl ?_)
              unfold p18
              simp only [R.loop_eq, wp0, wp1, wp2, wp3, wp4, wp5, Int.reduceAdd, Int.reduceEq, Int.reduceLE, Int.reduceLT, Int.reduceNeg, Int.reduceSub, Int.reduceToNat, Nat.reduceAdd, Nat.reduceDiv, Nat.reduceEqDiff, Nat.reduceLT, Nat.reduceLeDiff, Nat.reduceMod, Nat.reduceMul, Nat.reduceSub, eq_self, reduceIte, Ty.row, tyAll, Tm.row, tmAll, u0', u1', u2', u3', d0, d1, d2, d3]
            · have d3 : decide (c = z) = false := decide_eq_false e3
              have hd : decide (Tm.fold s a b c = Tm.fold s2 x y z) = false := decide_eq_false (fun h => e3 (by injection h))
              rw [hd]
              have u0 := same15 sh s s2
              have u1 := iha x
              have u2 := ihb y
              have u3 := ihc z
              try simp only [Ty.row, tyAll, Tm.row, tmAll, Int.cast_ofNat_Int] at u0 u1 u2 u3
              have u0' := clR.use u0
              have u1' := clR.use u1
              have u2' := clR.use u2
              have u3' := clR.use u3
              refine run_eq (run_of (pf := p18) rfl ?_)
              unfold p18
              simp only [R.loop_eq, wp0, wp1, wp2, wp3, wp4, wp5, Int.reduceAdd, Int.reduceEq, Int.reduceLE, Int.reduceLT, Int.reduceNeg, Int.reduceSub, Int.reduceToNat, Nat.reduceAdd, Nat.reduceDiv, Nat.reduceEqDiff, Nat.reduceLT, Nat.reduceLeDiff, Nat.reduceMod, Nat.reduceMul, Nat.reduceSub, eq_self, reduceIte, Ty.row, tyAll, Tm.row, tmAll, u0', u1', u2', u3', d0, d1, d2, d3]
          · have d2 : decide (b = y) = false := decide_eq_false e2
            have hd : decide (Tm.fold s a b c = Tm.fold s2 x y z) = false := decide_eq_false (fun h => e2 (by injection h))
            rw [hd]
            have u0 := same15 sh s s2
            have u1 := iha x
            have u2 := ihb y
            try simp only [Ty.row, tyAll, Tm.row, tmAll, Int.cast_ofNat_Int] at u0 u1 u2
            have u0' := clR.use u0
            have u1' := clR.use u1
            have u2' := clR.use u2
            refine run_eq (run_of (pf := p18) rfl ?_)
            unfold p18
            simp only [R.loop_eq, wp0, wp1, wp2, wp3, wp4, wp5, Int.reduceAdd, Int.reduceEq, Int.reduceLE, Int.reduceLT, Int.reduceNeg, Int.reduceSub, Int.reduceToNat, Nat.reduceAdd, Nat.reduceDiv, Nat.reduceEqDiff, Nat.reduceLT, Nat.reduceLeDiff, Nat.reduceMod, Nat.reduceMul, Nat.reduceSub, eq_self, reduceIte, Ty.row, tyAll, Tm.row, tmAll, u0', u1', u2', d0, d1, d2]
        · have d1 : decide (a = x) = false := decide_eq_false e1
          have hd : decide (Tm.fold s a b c = Tm.fold s2 x y z) = false := decide_eq_false (fun h => e1 (by injection h))
          rw [hd]
          have u0 := same15 sh s s2
          have u1 := iha x
          try simp only [Ty.row, tyAll, Tm.row, tmAll, Int.cast_ofNat_Int] at u0 u1
          have u0' := clR.use u0
          have u1' := clR.use u1
          refine run_eq (run_of (pf := p18) rfl ?_)
          unfold p18
          simp only [R.loop_eq, wp0, wp1, wp2, wp3, wp4, wp5, Int.reduceAdd, Int.reduceEq, Int.reduceLE, Int.reduceLT, Int.reduceNeg, Int.reduceSub, Int.reduceToNat, Nat.reduceAdd, Nat.reduceDiv, Nat.reduceEqDiff, Nat.reduceLT, Nat.reduceLeDiff, Nat.reduceMod, Nat.reduceMul, Nat.reduceSub, eq_self, reduceIte, Ty.row, tyAll, Tm.row, tmAll, u0', u1', d0, d1]
      · have d0 : decide (s = s2) = false := decide_eq_false e0
        have hd : decide (Tm.fold s a b c = Tm.fold s2 x y z) = false := decide_eq_false (fun h => e0 (by injection h))
        rw [hd]
        have u0 := same15 sh s s2
        try simp only [Ty.row, tyAll, Tm.row, tmAll, Int.cast_ofNat_Int] at u0
        have u0' := clR.use u0
        refine run_eq (run_of (pf := p18) rfl ?_)
        unfold p18
        simp only [R.loop_eq, wp0, wp1, wp2, wp3, wp4, wp5, Int.reduceAdd, Int.reduceEq, Int.reduceLE, Int.reduceLT, Int.reduceNeg, Int.reduceSub, Int.reduceToNat, Nat.reduceAdd, Nat.reduceDiv, Nat.reduceEqDiff, Nat.reduceLT, Nat.reduceLeDiff, Nat.reduceMod, Nat.reduceMul, Nat.reduceSub, eq_self, reduceIte, Ty.row, tyAll, Tm.row, tmAll, u0', d0]
    · have hd : decide (Tm.fold s a b c = q) = false := decide_eq_false (fun h => hk (by rw [h]))
      rw [hd]
      simp only [Tm.row, tmAll] at hk
      refine run_eq (run_of (pf := p18) rfl ?_)
      unfold p18
      simp only [R.loop_eq, wp0, wp1, wp2, wp3, wp4, wp5, Int.reduceAdd, Int.reduceEq, Int.reduceLE, Int.reduceLT, Int.reduceNeg, Int.reduceSub, Int.reduceToNat, Nat.reduceAdd, Nat.reduceDiv, Nat.reduceEqDiff, Nat.reduceLT, Nat.reduceLeDiff, Nat.reduceMod, Nat.reduceMul, Nat.reduceSub, eq_self, reduceIte, Ty.row, tyAll, Tm.row, tmAll, hk]
  | pair a b iha ihb =>
    intro q
    by_cases hk : (Tm.pair a b).kind = q.kind
    · cases q <;> first | exact absurd hk (by decide) | (exfalso; simp [Tm.kind] at hk; done) | skip
      rename_i x y
      by_cases e0 : a = x
      · have d0 : decide (a = x) = true := decide_eq_true e0
        by_cases e1 : b = y
        · have d1 : decide (b = y) = true := decide_eq_true e1
          have hd : decide (Tm.pair a b = Tm.pair x y) = true := decide_eq_true (by rw [e0, e1])
          rw [hd]
          have u0 := sameNo sh
          have u1 := iha x
          have u2 := ihb y
          try simp only [Ty.row, tyAll, Tm.row, tmAll, Int.cast_ofNat_Int] at u0 u1 u2
          have u0' := clR.use u0
          have u1' := clR.use u1
          have u2' := clR.use u2
          refine run_eq (run_of (pf := p18) rfl ?_)
          unfold p18
          simp only [R.loop_eq, wp0, wp1, wp2, wp3, wp4, wp5, Int.reduceAdd, Int.reduceEq, Int.reduceLE, Int.reduceLT, Int.reduceNeg, Int.reduceSub, Int.reduceToNat, Nat.reduceAdd, Nat.reduceDiv, Nat.reduceEqDiff, Nat.reduceLT, Nat.reduceLeDiff, Nat.reduceMod, Nat.reduceMul, Nat.reduceSub, eq_self, reduceIte, Ty.row, tyAll, Tm.row, tmAll, u0', u1', u2', d0, d1]
        · have d1 : decide (b = y) = false := decide_eq_false e1
          have hd : decide (Tm.pair a b = Tm.pair x y) = false := decide_eq_false (fun h => e1 (by injection h))
          rw [hd]
          have u0 := sameNo sh
          have u1 := iha x
          have u2 := ihb y
          try simp only [Ty.row, tyAll, Tm.row, tmAll, Int.cast_ofNat_Int] at u0 u1 u2
          have u0' := clR.use u0
          have u1' := clR.use u1
          have u2' := clR.use u2
          refine run_eq (run_of (pf := p18) rfl ?_)
          unfold p18
          simp only [R.loop_eq, wp0, wp1, wp2, wp3, wp4, wp5, Int.reduceAdd, Int.reduceEq, Int.reduceLE, Int.reduceLT, Int.reduceNeg, Int.reduceSub, Int.reduceToNat, Nat.reduceAdd, Nat.reduceDiv, Nat.reduceEqDiff, Nat.reduceLT, Nat.reduceLeDiff, Nat.reduceMod, Nat.reduceMul, Nat.reduceSub, eq_self, reduceIte, Ty.row, tyAll, Tm.row, tmAll, u0', u1', u2', d0, d1]
      · have d0 : decide (a = x) = false := decide_eq_false e0
        have hd : decide (Tm.pair a b = Tm.pair x y) = false := decide_eq_false (fun h => e0 (by injection h))
        rw [hd]
        have u0 := sameNo sh
        have u1 := iha x
        try simp only [Ty.row, tyAll, Tm.row, tmAll, Int.cast_ofNat_Int] at u0 u1
        have u0' := clR.use u0
        have u1' := clR.use u1
        refine run_eq (run_of (pf := p18) rfl ?_)
        unfold p18
        simp only [R.loop_eq, wp0, wp1, wp2, wp3, wp4, wp5, Int.reduceAdd, Int.reduceEq, Int.reduceLE, Int.reduceLT, Int.reduceNeg, Int.reduceSub, Int.reduceToNat, Nat.reduceAdd, Nat.reduceDiv, Nat.reduceEqDiff, Nat.reduceLT, Nat.reduceLeDiff, Nat.reduceMod, Nat.reduceMul, Nat.reduceSub, eq_self, reduceIte, Ty.row, tyAll, Tm.row, tmAll, u0', u1', d0]
    · have hd : decide (Tm.pair a b = q) = false := decide_eq_false (fun h => hk (by rw [h]))
      rw [hd]
      simp only [Tm.row, tmAll] at hk
      refine run_eq (run_of (pf := p18) rfl ?_)
      unfold p18
      simp only [R.loop_eq, wp0, wp1, wp2, wp3, wp4, wp5, Int.reduceAdd, Int.reduceEq, Int.reduceLE, Int.reduceLT, Int.reduceNeg, Int.reduceSub, Int.reduceToNat, Nat.reduceAdd, Nat.reduceDiv, Nat.reduceEqDiff, Nat.reduceLT, Nat.reduceLeDiff, Nat.reduceMod, Nat.reduceMul, Nat.reduceSub, eq_self, reduceIte, Ty.row, tyAll, Tm.row, tmAll, hk]
  | fst a iha =>
    intro q
    by_cases hk : (Tm.fst a).kind = q.kind
    · cases q <;> first | exact absurd hk (by decide) | (exfalso; simp [Tm.kind] at hk; done) | skip
      rename_i x
      by_cases e0 : a = x
      · have d0 : decide (a = x) = true := decide_eq_true e0
        have hd : decide (Tm.fst a = Tm.fst x) = true := decide_eq_true (by rw [e0])
        rw [hd]
        have u0 := sameNo sh
        have u1 := iha x
        try simp only [Ty.row, tyAll, Tm.row, tmAll, Int.cast_ofNat_Int] at u0 u1
        have u0' := clR.use u0
        have u1' := clR.use u1
        refine run_eq (run_of (pf := p18) rfl ?_)
        unfold p18
        simp only [R.loop_eq, wp0, wp1, wp2, wp3, wp4, wp5, Int.reduceAdd, Int.reduceEq, Int.reduceLE, Int.reduceLT, Int.reduceNeg, Int.reduceSub, Int.reduceToNat, Nat.reduceAdd, Nat.reduceDiv, Nat.reduceEqDiff, Nat.reduceLT, Nat.reduceLeDiff, Nat.reduceMod, Nat.reduceMul, Nat.reduceSub, eq_self, reduceIte, Ty.row, tyAll, Tm.row, tmAll, u0', u1', d0]
      · have d0 : decide (a = x) = false := decide_eq_false e0
        have hd : decide (Tm.fst a = Tm.fst x) = false := decide_eq_false (fun h => e0 (by injection h))
        rw [hd]
        have u0 := sameNo sh
        have u1 := iha x
        try simp only [Ty.row, tyAll, Tm.row, tmAll, Int.cast_ofNat_Int] at u0 u1
        have u0' := clR.use u0
        have u1' := clR.use u1
        refine run_eq (run_of (pf := p18) rfl ?_)
        unfold p18
        simp only [R.loop_eq, wp0, wp1, wp2, wp3, wp4, wp5, Int.reduceAdd, Int.reduceEq, Int.reduceLE, Int.reduceLT, Int.reduceNeg, Int.reduceSub, Int.reduceToNat, Nat.reduceAdd, Nat.reduceDiv, Nat.reduceEqDiff, Nat.reduceLT, Nat.reduceLeDiff, Nat.reduceMod, Nat.reduceMul, Nat.reduceSub, eq_self, reduceIte, Ty.row, tyAll, Tm.row, tmAll, u0', u1', d0]
    · have hd : decide (Tm.fst a = q) = false := decide_eq_false (fun h => hk (by rw [h]))
      rw [hd]
      simp only [Tm.row, tmAll] at hk
      refine run_eq (run_of (pf := p18) rfl ?_)
      unfold p18
      simp only [R.loop_eq, wp0, wp1, wp2, wp3, wp4, wp5, Int.reduceAdd, Int.reduceEq, Int.reduceLE, Int.reduceLT, Int.reduceNeg, Int.reduceSub, Int.reduceToNat, Nat.reduceAdd, Nat.reduceDiv, Nat.reduceEqDiff, Nat.reduceLT, Nat.reduceLeDiff, Nat.reduceMod, Nat.reduceMul, Nat.reduceSub, eq_self, reduceIte, Ty.row, tyAll, Tm.row, tmAll, hk]
  | snd a iha =>
    intro q
    by_cases hk : (Tm.snd a).kind = q.kind
    · cases q <;> first | exact absurd hk (by decide) | (exfalso; simp [Tm.kind] at hk; done) | skip
      rename_i x
      by_cases e0 : a = x
      · have d0 : decide (a = x) = true := decide_eq_true e0
        have hd : decide (Tm.snd a = Tm.snd x) = true := decide_eq_true (by rw [e0])
        rw [hd]
        have u0 := sameNo sh
        have u1 := iha x
        try simp only [Ty.row, tyAll, Tm.row, tmAll, Int.cast_ofNat_Int] at u0 u1
        have u0' := clR.use u0
        have u1' := clR.use u1
        refine run_eq (run_of (pf := p18) rfl ?_)
        unfold p18
        simp only [R.loop_eq, wp0, wp1, wp2, wp3, wp4, wp5, Int.reduceAdd, Int.reduceEq, Int.reduceLE, Int.reduceLT, Int.reduceNeg, Int.reduceSub, Int.reduceToNat, Nat.reduceAdd, Nat.reduceDiv, Nat.reduceEqDiff, Nat.reduceLT, Nat.reduceLeDiff, Nat.reduceMod, Nat.reduceMul, Nat.reduceSub, eq_self, reduceIte, Ty.row, tyAll, Tm.row, tmAll, u0', u1', d0]
      · have d0 : decide (a = x) = false := decide_eq_false e0
        have hd : decide (Tm.snd a = Tm.snd x) = false := decide_eq_false (fun h => e0 (by injection h))
        rw [hd]
        have u0 := sameNo sh
        have u1 := iha x
        try simp only [Ty.row, tyAll, Tm.row, tmAll, Int.cast_ofNat_Int] at u0 u1
        have u0' := clR.use u0
        have u1' := clR.use u1
        refine run_eq (run_of (pf := p18) rfl ?_)
        unfold p18
        simp only [R.loop_eq, wp0, wp1, wp2, wp3, wp4, wp5, Int.reduceAdd, Int.reduceEq, Int.reduceLE, Int.reduceLT, Int.reduceNeg, Int.reduceSub, Int.reduceToNat, Nat.reduceAdd, Nat.reduceDiv, Nat.reduceEqDiff, Nat.reduceLT, Nat.reduceLeDiff, Nat.reduceMod, Nat.reduceMul, Nat.reduceSub, eq_self, reduceIte, Ty.row, tyAll, Tm.row, tmAll, u0', u1', d0]
    · have hd : decide (Tm.snd a = q) = false := decide_eq_false (fun h => hk (by rw [h]))
      rw [hd]
      simp only [Tm.row, tmAll] at hk
      refine run_eq (run_of (pf := p18) rfl ?_)
      unfold p18
      simp only [R.loop_eq, wp0, wp1, wp2, wp3, wp4, wp5, Int.reduceAdd, Int.reduceEq, Int.reduceLE, Int.reduceLT, Int.reduceNeg, Int.reduceSub, Int.reduceToNat, Nat.reduceAdd, Nat.reduceDiv, Nat.reduceEqDiff, Nat.reduceLT, Nat.reduceLeDiff, Nat.reduceMod, Nat.reduceMul, Nat.reduceSub, eq_self, reduceIte, Ty.row, tyAll, Tm.row, tmAll, hk]
  | unit =>
    intro q
    by_cases hk : (Tm.unit).kind = q.kind
    · cases q <;> first | exact absurd hk (by decide) | (exfalso; simp [Tm.kind] at hk; done) | skip
      have hd : decide (Tm.unit = Tm.unit) = true := decide_eq_true (by rfl)
      rw [hd]
      have u0 := sameNo sh
      try simp only [Ty.row, tyAll, Tm.row, tmAll, Int.cast_ofNat_Int] at u0
      have u0' := clR.use u0
      refine run_eq (run_of (pf := p18) rfl ?_)
      unfold p18
      simp only [R.loop_eq, wp0, wp1, wp2, wp3, wp4, wp5, Int.reduceAdd, Int.reduceEq, Int.reduceLE, Int.reduceLT, Int.reduceNeg, Int.reduceSub, Int.reduceToNat, Nat.reduceAdd, Nat.reduceDiv, Nat.reduceEqDiff, Nat.reduceLT, Nat.reduceLeDiff, Nat.reduceMod, Nat.reduceMul, Nat.reduceSub, eq_self, reduceIte, Ty.row, tyAll, Tm.row, tmAll, u0']
    · have hd : decide (Tm.unit = q) = false := decide_eq_false (fun h => hk (by rw [h]))
      rw [hd]
      simp only [Tm.row, tmAll] at hk
      refine run_eq (run_of (pf := p18) rfl ?_)
      unfold p18
      simp only [R.loop_eq, wp0, wp1, wp2, wp3, wp4, wp5, Int.reduceAdd, Int.reduceEq, Int.reduceLE, Int.reduceLT, Int.reduceNeg, Int.reduceSub, Int.reduceToNat, Nat.reduceAdd, Nat.reduceDiv, Nat.reduceEqDiff, Nat.reduceLT, Nat.reduceLeDiff, Nat.reduceMod, Nat.reduceMul, Nat.reduceSub, eq_self, reduceIte, Ty.row, tyAll, Tm.row, tmAll, hk]
end Go.Pi.Terms
