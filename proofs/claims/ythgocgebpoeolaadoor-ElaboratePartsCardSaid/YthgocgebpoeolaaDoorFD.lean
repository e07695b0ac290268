import Derived.Test.YthgocgebpoeolaaDoorFC
set_option maxRecDepth 100000
set_option maxHeartbeats 1000000
set_option linter.unusedSimpArgs false
set_option linter.unusedVariables false
namespace Go.Pi.Terms
open Go Go.Pi Go.Proofs.YthgocgebpoeolaaDoor
theorem tquant1 (sh : Sh)  : ∃ n, callN T G n 57 [i64 1] sh = some (.v (.bool false), sh) := by
  refine run_eq (run_of (pf := p57) rfl ?_)
  unfold p57
  simp only [R.loop_eq, wp0, wp1, wp2, wp3, wp4, wp5, Int.reduceAdd, Int.reduceEq, Int.reduceLE, Int.reduceLT, Int.reduceNeg, Int.reduceSub, Int.reduceToNat, Nat.reduceAdd, Nat.reduceDiv, Nat.reduceEqDiff, Nat.reduceLT, Nat.reduceLeDiff, Nat.reduceMod, Nat.reduceMul, Nat.reduceSub, eq_self, reduceIte, Ty.row, tyAll, Tm.row, tmAll, Fm.row, fmAll]
theorem tquant2 (sh : Sh)  : ∃ n, callN T G n 57 [i64 2] sh = some (.v (.bool false), sh) := by
  refine run_eq (run_of (pf := p57) rfl ?_)
  unfold p57
  simp only [R.loop_eq, wp0, wp1, wp2, wp3, wp4, wp5, Int.reduceAdd, Int.reduceEq, Int.reduceLE, Int.reduceLT, Int.reduceNeg, Int.reduceSub, Int.reduceToNat, Nat.reduceAdd, Nat.reduceDiv, Nat.reduceEqDiff, Nat.reduceLT, Nat.reduceLeDiff, Nat.reduceMod, Nat.reduceMul, Nat.reduceSub, eq_self, reduceIte, Ty.row, tyAll, Tm.row, tmAll, Fm.row, fmAll]
theorem tquant3 (sh : Sh)  : ∃ n, callN T G n 57 [i64 3] sh = some (.v (.bool false), sh) := by
  refine run_eq (run_of (pf := p57) rfl ?_)
  unfold p57
  simp only [R.loop_eq, wp0, wp1, wp2, wp3, wp4, wp5, Int.reduceAdd, Int.reduceEq, Int.reduceLE, Int.reduceLT, Int.reduceNeg, Int.reduceSub, Int.reduceToNat, Nat.reduceAdd, Nat.reduceDiv, Nat.reduceEqDiff, Nat.reduceLT, Nat.reduceLeDiff, Nat.reduceMod, Nat.reduceMul, Nat.reduceSub, eq_self, reduceIte, Ty.row, tyAll, Tm.row, tmAll, Fm.row, fmAll]
theorem tquant4 (sh : Sh)  : ∃ n, callN T G n 57 [i64 4] sh = some (.v (.bool true), sh) := by
  refine run_eq (run_of (pf := p57) rfl ?_)
  unfold p57
  simp only [R.loop_eq, wp0, wp1, wp2, wp3, wp4, wp5, Int.reduceAdd, Int.reduceEq, Int.reduceLE, Int.reduceLT, Int.reduceNeg, Int.reduceSub, Int.reduceToNat, Nat.reduceAdd, Nat.reduceDiv, Nat.reduceEqDiff, Nat.reduceLT, Nat.reduceLeDiff, Nat.reduceMod, Nat.reduceMul, Nat.reduceSub, eq_self, reduceIte, Ty.row, tyAll, Tm.row, tmAll, Fm.row, fmAll]
theorem tquant5 (sh : Sh)  : ∃ n, callN T G n 57 [i64 5] sh = some (.v (.bool true), sh) := by
  refine run_eq (run_of (pf := p57) rfl ?_)
  unfold p57
  simp only [R.loop_eq, wp0, wp1, wp2, wp3, wp4, wp5, Int.reduceAdd, Int.reduceEq, Int.reduceLE, Int.reduceLT, Int.reduceNeg, Int.reduceSub, Int.reduceToNat, Nat.reduceAdd, Nat.reduceDiv, Nat.reduceEqDiff, Nat.reduceLT, Nat.reduceLeDiff, Nat.reduceMod, Nat.reduceMul, Nat.reduceSub, eq_self, reduceIte, Ty.row, tyAll, Tm.row, tmAll, Fm.row, fmAll]
theorem tquant6 (sh : Sh)  : ∃ n, callN T G n 57 [i64 6] sh = some (.v (.bool true), sh) := by
  refine run_eq (run_of (pf := p57) rfl ?_)
  unfold p57
  simp only [R.loop_eq, wp0, wp1, wp2, wp3, wp4, wp5, Int.reduceAdd, Int.reduceEq, Int.reduceLE, Int.reduceLT, Int.reduceNeg, Int.reduceSub, Int.reduceToNat, Nat.reduceAdd, Nat.reduceDiv, Nat.reduceEqDiff, Nat.reduceLT, Nat.reduceLeDiff, Nat.reduceMod, Nat.reduceMul, Nat.reduceSub, eq_self, reduceIte, Ty.row, tyAll, Tm.row, tmAll, Fm.row, fmAll]
theorem tquant7 (sh : Sh)  : ∃ n, callN T G n 57 [i64 7] sh = some (.v (.bool true), sh) := by
  refine run_eq (run_of (pf := p57) rfl ?_)
  unfold p57
  simp only [R.loop_eq, wp0, wp1, wp2, wp3, wp4, wp5, Int.reduceAdd, Int.reduceEq, Int.reduceLE, Int.reduceLT, Int.reduceNeg, Int.reduceSub, Int.reduceToNat, Nat.reduceAdd, Nat.reduceDiv, Nat.reduceEqDiff, Nat.reduceLT, Nat.reduceLeDiff, Nat.reduceMod, Nat.reduceMul, Nat.reduceSub, eq_self, reduceIte, Ty.row, tyAll, Tm.row, tmAll, Fm.row, fmAll]
theorem formedF (sh : Sh) : ∀ f : Fm, f.ok → ∃ n, callN T G n 81 [.ag f.row] sh = some (.v (.bool true), sh) := by
  intro f
  induction f with
  | eq a b =>
      intro h
      have u0 := noType sh
      try simp only [Ty.row, tyAll, Tm.row, tmAll, Fm.row, fmAll, Int.cast_ofNat_Int] at u0
      have u0' := clR.use u0
      refine run_eq (run_of (pf := p81) rfl ?_)
      unfold p81
      simp only [R.loop_eq, wp0, wp1, wp2, wp3, wp4, wp5, Int.reduceAdd, Int.reduceEq, Int.reduceLE, Int.reduceLT, Int.reduceNeg, Int.reduceSub, Int.reduceToNat, Nat.reduceAdd, Nat.reduceDiv, Nat.reduceEqDiff, Nat.reduceLT, Nat.reduceLeDiff, Nat.reduceMod, Nat.reduceMul, Nat.reduceSub, eq_self, reduceIte, Ty.row, tyAll, Tm.row, tmAll, Fm.row, fmAll, u0']
  | bin c f g ihf ihg =>
    intro h
    cases c with
    | false =>
      have u0 := noType sh
      try simp only [Ty.row, tyAll, Tm.row, tmAll, Fm.row, fmAll, Int.cast_ofNat_Int] at u0
      have u0' := clR.use u0
      refine run_eq (run_of (pf := p81) rfl ?_)
      unfold p81
      simp only [R.loop_eq, wp0, wp1, wp2, wp3, wp4, wp5, Int.reduceAdd, Int.reduceEq, Int.reduceLE, Int.reduceLT, Int.reduceNeg, Int.reduceSub, Int.reduceToNat, Nat.reduceAdd, Nat.reduceDiv, Nat.reduceEqDiff, Nat.reduceLT, Nat.reduceLeDiff, Nat.reduceMod, Nat.reduceMul, Nat.reduceSub, eq_self, reduceIte, Ty.row, tyAll, Tm.row, tmAll, Fm.row, fmAll, u0']
    | true =>
      have u0 := noType sh
      try simp only [Ty.row, tyAll, Tm.row, tmAll, Fm.row, fmAll, Int.cast_ofNat_Int] at u0
      have u0' := clR.use u0
      refine run_eq (run_of (pf := p81) rfl ?_)
      unfold p81
      simp only [R.loop_eq, wp0, wp1, wp2, wp3, wp4, wp5, Int.reduceAdd, Int.reduceEq, Int.reduceLE, Int.reduceLT, Int.reduceNeg, Int.reduceSub, Int.reduceToNat, Nat.reduceAdd, Nat.reduceDiv, Nat.reduceEqDiff, Nat.reduceLT, Nat.reduceLeDiff, Nat.reduceMod, Nat.reduceMul, Nat.reduceSub, eq_self, reduceIte, Ty.row, tyAll, Tm.row, tmAll, Fm.row, fmAll, u0']
  | qu k s f ihf =>
    intro h
    cases k with
    | all =>
      have u0 := checkType sh s h.1
      try simp only [Ty.row, tyAll, Tm.row, tmAll, Fm.row, fmAll, Int.cast_ofNat_Int] at u0
      have u0' := clR.use u0
      refine run_eq (run_of (pf := p81) rfl ?_)
      unfold p81
      simp only [R.loop_eq, wp0, wp1, wp2, wp3, wp4, wp5, Int.reduceAdd, Int.reduceEq, Int.reduceLE, Int.reduceLT, Int.reduceNeg, Int.reduceSub, Int.reduceToNat, Nat.reduceAdd, Nat.reduceDiv, Nat.reduceEqDiff, Nat.reduceLT, Nat.reduceLeDiff, Nat.reduceMod, Nat.reduceMul, Nat.reduceSub, eq_self, reduceIte, Ty.row, tyAll, Tm.row, tmAll, Fm.row, fmAll, u0']
    | ex =>
      have u0 := checkType sh s h.1
      try simp only [Ty.row, tyAll, Tm.row, tmAll, Fm.row, fmAll, Int.cast_ofNat_Int] at u0
      have u0' := clR.use u0
      refine run_eq (run_of (pf := p81) rfl ?_)
      unfold p81
      simp only [R.loop_eq, wp0, wp1, wp2, wp3, wp4, wp5, Int.reduceAdd, Int.reduceEq, Int.reduceLE, Int.reduceLT, Int.reduceNeg, Int.reduceSub, Int.reduceToNat, Nat.reduceAdd, Nat.reduceDiv, Nat.reduceEqDiff, Nat.reduceLT, Nat.reduceLeDiff, Nat.reduceMod, Nat.reduceMul, Nat.reduceSub, eq_self, reduceIte, Ty.row, tyAll, Tm.row, tmAll, Fm.row, fmAll, u0']
    | allU =>
      have u0 := checkType sh s h.1
      try simp only [Ty.row, tyAll, Tm.row, tmAll, Fm.row, fmAll, Int.cast_ofNat_Int] at u0
      have u0' := clR.use u0
      refine run_eq (run_of (pf := p81) rfl ?_)
      unfold p81
      simp only [R.loop_eq, wp0, wp1, wp2, wp3, wp4, wp5, Int.reduceAdd, Int.reduceEq, Int.reduceLE, Int.reduceLT, Int.reduceNeg, Int.reduceSub, Int.reduceToNat, Nat.reduceAdd, Nat.reduceDiv, Nat.reduceEqDiff, Nat.reduceLT, Nat.reduceLeDiff, Nat.reduceMod, Nat.reduceMul, Nat.reduceSub, eq_self, reduceIte, Ty.row, tyAll, Tm.row, tmAll, Fm.row, fmAll, u0']
    | exU =>
      have u0 := checkType sh s h.1
      try simp only [Ty.row, tyAll, Tm.row, tmAll, Fm.row, fmAll, Int.cast_ofNat_Int] at u0
      have u0' := clR.use u0
      refine run_eq (run_of (pf := p81) rfl ?_)
      unfold p81
      simp only [R.loop_eq, wp0, wp1, wp2, wp3, wp4, wp5, Int.reduceAdd, Int.reduceEq, Int.reduceLE, Int.reduceLT, Int.reduceNeg, Int.reduceSub, Int.reduceToNat, Nat.reduceAdd, Nat.reduceDiv, Nat.reduceEqDiff, Nat.reduceLT, Nat.reduceLeDiff, Nat.reduceMod, Nat.reduceMul, Nat.reduceSub, eq_self, reduceIte, Ty.row, tyAll, Tm.row, tmAll, Fm.row, fmAll, u0']
theorem fnodesF (sh : Sh) : ∀ f : Fm, f.ok → f.size ≤ 100000 → ∃ n, callN T G n 65 [.ag f.row] sh = some (.tup [i64 (f.size : Int), .v (.bool true)], sh) := by
  intro f
  induction f with
  | eq a b =>
      intro ho h
      simp only [Fm.size] at h
      have w1 : IntKind.i64.wrap (1 + (a.size : Int)) = ((1 + a.size : Nat) : Int) := by rw [wrap_i64 (by omega)]; omega
      have w2 : IntKind.i64.wrap (((1 + a.size : Nat) : Int) + (b.size : Int)) = ((1 + a.size + b.size : Nat) : Int) := by rw [wrap_i64 (by omega)]; omega
      have u0 := formedF sh (Fm.eq a b) ho
      have u1 := termNodes sh a ho.1 (by omega)
      have u2 := termNodes sh b ho.2 (by omega)
      try simp only [Ty.row, tyAll, Tm.row, tmAll, Fm.row, fmAll, Int.cast_ofNat_Int] at u0 u1 u2
      have u0' := clR.use u0
      have u1' := clR.use u1
      have u2' := clR.use u2
      refine run_eq (run_of (pf := p65) rfl ?_)
      unfold p65
      simp only [R.loop_eq, wp0, wp1, wp2, wp3, wp4, wp5, Int.reduceAdd, Int.reduceEq, Int.reduceLE, Int.reduceLT, Int.reduceNeg, Int.reduceSub, Int.reduceToNat, Nat.reduceAdd, Nat.reduceDiv, Nat.reduceEqDiff, Nat.reduceLT, Nat.reduceLeDiff, Nat.reduceMod, Nat.reduceMul, Nat.reduceSub, eq_self, reduceIte, Ty.row, tyAll, Tm.row, tmAll, Fm.row, fmAll, u0', u1', u2', w1, w2, Fm.size]
  | bin c f g ihf ihg =>
    intro ho h
    cases c with
    | false =>
      simp only [Fm.size] at h
      have w1 : IntKind.i64.wrap (1 + (f.size : Int)) = ((1 + f.size : Nat) : Int) := by rw [wrap_i64 (by omega)]; omega
      have w2 : IntKind.i64.wrap (((1 + f.size : Nat) : Int) + (g.size : Int)) = ((1 + f.size + g.size : Nat) : Int) := by rw [wrap_i64 (by omega)]; omega
      have u0 := formedF sh (Fm.bin false f g) ho
      have u1 := ihf ho.1 (by omega)
      have u2 := ihg ho.2 (by omega)
      try simp only [Ty.row, tyAll, Tm.row, tmAll, Fm.row, fmAll, Int.cast_ofNat_Int] at u0 u1 u2
      have u0' := clR.use u0
      have u1' := clR.use u1
      have u2' := clR.use u2
      refine run_eq (run_of (pf := p65) rfl ?_)
      unfold p65
      simp only [R.loop_eq, wp0, wp1, wp2, wp3, wp4, wp5, Int.reduceAdd, Int.reduceEq, Int.reduceLE, Int.reduceLT, Int.reduceNeg, Int.reduceSub, Int.reduceToNat, Nat.reduceAdd, Nat.reduceDiv, Nat.reduceEqDiff, Nat.reduceLT, Nat.reduceLeDiff, Nat.reduceMod, Nat.reduceMul, Nat.reduceSub, eq_self, reduceIte, Ty.row, tyAll, Tm.row, tmAll, Fm.row, fmAll, u0', u1', u2', w1, w2, Fm.size]
    | true =>
      simp only [Fm.size] at h
      have w1 : IntKind.i64.wrap (1 + (f.size : Int)) = ((1 + f.size : Nat) : Int) := by rw [wrap_i64 (by omega)]; omega
      have w2 : IntKind.i64.wrap (((1 + f.size : Nat) : Int) + (g.size : Int)) = ((1 + f.size + g.size : Nat) : Int) := by rw [wrap_i64 (by omega)]; omega
      have u0 := formedF sh (Fm.bin true f g) ho
      have u1 := ihf ho.1 (by omega)
      have u2 := ihg ho.2 (by omega)
      try simp only [Ty.row, tyAll, Tm.row, tmAll, Fm.row, fmAll, Int.cast_ofNat_Int] at u0 u1 u2
      have u0' := clR.use u0
      have u1' := clR.use u1
      have u2' := clR.use u2
      refine run_eq (run_of (pf := p65) rfl ?_)
      unfold p65
      simp only [R.loop_eq, wp0, wp1, wp2, wp3, wp4, wp5, Int.reduceAdd, Int.reduceEq, Int.reduceLE, Int.reduceLT, Int.reduceNeg, Int.reduceSub, Int.reduceToNat, Nat.reduceAdd, Nat.reduceDiv, Nat.reduceEqDiff, Nat.reduceLT, Nat.reduceLeDiff, Nat.reduceMod, Nat.reduceMul, Nat.reduceSub, eq_self, reduceIte, Ty.row, tyAll, Tm.row, tmAll, Fm.row, fmAll, u0', u1', u2', w1, w2, Fm.size]
  | qu k s f ihf =>
    intro ho h
    cases k with
    | all =>
      simp only [Fm.size] at h
      have w1 : IntKind.i64.wrap (1 + (f.size : Int)) = ((1 + f.size : Nat) : Int) := by rw [wrap_i64 (by omega)]; omega
      have u0 := formedF sh (Fm.qu .all s f) ho
      have u1 := ihf ho.2 (by omega)
      try simp only [Ty.row, tyAll, Tm.row, tmAll, Fm.row, fmAll, Int.cast_ofNat_Int] at u0 u1
      have u0' := clR.use u0
      have u1' := clR.use u1
      refine run_eq (run_of (pf := p65) rfl ?_)
      unfold p65
      simp only [R.loop_eq, wp0, wp1, wp2, wp3, wp4, wp5, Int.reduceAdd, Int.reduceEq, Int.reduceLE, Int.reduceLT, Int.reduceNeg, Int.reduceSub, Int.reduceToNat, Nat.reduceAdd, Nat.reduceDiv, Nat.reduceEqDiff, Nat.reduceLT, Nat.reduceLeDiff, Nat.reduceMod, Nat.reduceMul, Nat.reduceSub, eq_self, reduceIte, Ty.row, tyAll, Tm.row, tmAll, Fm.row, fmAll, u0', u1', w1, Fm.size]
    | ex =>
      simp only [Fm.size] at h
      have w1 : IntKind.i64.wrap (1 + (f.size : Int)) = ((1 + f.size : Nat) : Int) := by rw [wrap_i64 (by omega)]; omega
      have u0 := formedF sh (Fm.qu .ex s f) ho
      have u1 := ihf ho.2 (by omega)
      try simp only [Ty.row, tyAll, Tm.row, tmAll, Fm.row, fmAll, Int.cast_ofNat_Int] at u0 u1
      have u0' := clR.use u0
      have u1' := clR.use u1
      refine run_eq (run_of (pf := p65) rfl ?_)
      unfold p65
      simp only [R.loop_eq, wp0, wp1, wp2, wp3, wp4, wp5, Int.reduceAdd, Int.reduceEq, Int.reduceLE, Int.reduceLT, Int.reduceNeg, Int.reduceSub, Int.reduceToNat, Nat.reduceAdd, Nat.reduceDiv, Nat.reduceEqDiff, Nat.reduceLT, Nat.reduceLeDiff, Nat.reduceMod, Nat.reduceMul, Nat.reduceSub, eq_self, reduceIte, Ty.row, tyAll, Tm.row, tmAll, Fm.row, fmAll, u0', u1', w1, Fm.size]
    | allU =>
      simp only [Fm.size] at h
      have w1 : IntKind.i64.wrap (1 + (f.size : Int)) = ((1 + f.size : Nat) : Int) := by rw [wrap_i64 (by omega)]; omega
      have u0 := formedF sh (Fm.qu .allU s f) ho
      have u1 := ihf ho.2 (by omega)
      try simp only [Ty.row, tyAll, Tm.row, tmAll, Fm.row, fmAll, Int.cast_ofNat_Int] at u0 u1
      have u0' := clR.use u0
      have u1' := clR.use u1
      refine run_eq (run_of (pf := p65) rfl ?_)
      unfold p65
      simp only [R.loop_eq, wp0, wp1, wp2, wp3, wp4, wp5, Int.reduceAdd, Int.reduceEq, Int.reduceLE, Int.reduceLT, Int.reduceNeg, Int.reduceSub, Int.reduceToNat, Nat.reduceAdd, Nat.reduceDiv, Nat.reduceEqDiff, Nat.reduceLT, Nat.reduceLeDiff, Nat.reduceMod, Nat.reduceMul, Nat.reduceSub, eq_self, reduceIte, Ty.row, tyAll, Tm.row, tmAll, Fm.row, fmAll, u0', u1', w1, Fm.size]
    | exU =>
      simp only [Fm.size] at h
      have w1 : IntKind.i64.wrap (1 + (f.size : Int)) = ((1 + f.size : Nat) : Int) := by rw [wrap_i64 (by omega)]; omega
      have u0 := formedF sh (Fm.qu .exU s f) ho
      have u1 := ihf ho.2 (by omega)
      try simp only [Ty.row, tyAll, Tm.row, tmAll, Fm.row, fmAll, Int.cast_ofNat_Int] at u0 u1
      have u0' := clR.use u0
      have u1' := clR.use u1
      refine run_eq (run_of (pf := p65) rfl ?_)
      unfold p65
      simp only [R.loop_eq, wp0, wp1, wp2, wp3, wp4, wp5, Int.reduceAdd, Int.reduceEq, Int.reduceLE, Int.reduceLT, Int.reduceNeg, Int.reduceSub, Int.reduceToNat, Nat.reduceAdd, Nat.reduceDiv, Nat.reduceEqDiff, Nat.reduceLT, Nat.reduceLeDiff, Nat.reduceMod, Nat.reduceMul, Nat.reduceSub, eq_self, reduceIte, Ty.row, tyAll, Tm.row, tmAll, Fm.row, fmAll, u0', u1', w1, Fm.size]
theorem cformF (sh : Sh) (f : Fm) (ho : f.ok) (hs : f.size ≤ 4096) : ∃ n, callN T G n 48 [.ag f.row] sh = some (.tup [i64 (f.size : Int), i64 0], sh) := by
  have c1 : ¬ (4096 : Int) < (f.size : Int) := by omega
  have u0 := fnodesF sh f ho (by omega)
  try simp only [Ty.row, tyAll, Tm.row, tmAll, Fm.row, fmAll, Int.cast_ofNat_Int] at u0
  have u0' := clR.use u0
  refine run_eq (run_of (pf := p48) rfl ?_)
  unfold p48
  simp only [R.loop_eq, wp0, wp1, wp2, wp3, wp4, wp5, Int.reduceAdd, Int.reduceEq, Int.reduceLE, Int.reduceLT, Int.reduceNeg, Int.reduceSub, Int.reduceToNat, Nat.reduceAdd, Nat.reduceDiv, Nat.reduceEqDiff, Nat.reduceLT, Nat.reduceLeDiff, Nat.reduceMod, Nat.reduceMul, Nat.reduceSub, eq_self, reduceIte, Ty.row, tyAll, Tm.row, tmAll, Fm.row, fmAll, u0', c1]
theorem cformF' (sh : Sh) (f : Fm) (ho : f.ok) (hm : f.size ≤ 100000) (hs : ¬ f.size ≤ 4096) : ∃ n, callN T G n 48 [.ag f.row] sh = some (.tup [i64 0, i64 4], sh) := by
  have c1 : (4096 : Int) < (f.size : Int) := by omega
  have u0 := fnodesF sh f ho hm
  try simp only [Ty.row, tyAll, Tm.row, tmAll, Fm.row, fmAll, Int.cast_ofNat_Int] at u0
  have u0' := clR.use u0
  refine run_eq (run_of (pf := p48) rfl ?_)
  unfold p48
  simp only [R.loop_eq, wp0, wp1, wp2, wp3, wp4, wp5, Int.reduceAdd, Int.reduceEq, Int.reduceLE, Int.reduceLT, Int.reduceNeg, Int.reduceSub, Int.reduceToNat, Nat.reduceAdd, Nat.reduceDiv, Nat.reduceEqDiff, Nat.reduceLT, Nat.reduceLeDiff, Nat.reduceMod, Nat.reduceMul, Nat.reduceSub, eq_self, reduceIte, Ty.row, tyAll, Tm.row, tmAll, Fm.row, fmAll, u0', c1]
theorem fcheckF (sh : Sh) (f : Fm) (ho : f.ok) (hs : f.size ≤ 4096) : ∃ n, callN T G n 25 [.ag f.row] sh = some (i64 0, sh) := by
  have u0 := cformF sh f ho hs
  try simp only [Ty.row, tyAll, Tm.row, tmAll, Fm.row, fmAll, Int.cast_ofNat_Int] at u0
  have u0' := clR.use u0
  refine run_eq (run_of (pf := p25) rfl ?_)
  unfold p25
  simp only [R.loop_eq, wp0, wp1, wp2, wp3, wp4, wp5, Int.reduceAdd, Int.reduceEq, Int.reduceLE, Int.reduceLT, Int.reduceNeg, Int.reduceSub, Int.reduceToNat, Nat.reduceAdd, Nat.reduceDiv, Nat.reduceEqDiff, Nat.reduceLT, Nat.reduceLeDiff, Nat.reduceMod, Nat.reduceMul, Nat.reduceSub, eq_self, reduceIte, Ty.row, tyAll, Tm.row, tmAll, Fm.row, fmAll, u0']
theorem ownTm (sh : Sh) : ∀ a : Tm, ∃ n, callN T G n 32 [.ag a.row] sh = some (.ag a.row, sh) := by
  intro t
  induction t with
  | var i =>
    have u0 := ownNo sh
    try simp only [Ty.row, tyAll, Tm.row, tmAll, Int.cast_ofNat_Int] at u0
    have u0' := clR.use u0
    refine run_eq (run_of (pf := p32) rfl ?_)
    unfold p32
    simp only [R.loop_eq, wp0, wp1, wp2, wp3, wp4, wp5, Int.reduceAdd, Int.reduceEq, Int.reduceLE, Int.reduceLT, Int.reduceNeg, Int.reduceSub, Int.reduceToNat, Nat.reduceAdd, Nat.reduceDiv, Nat.reduceEqDiff, Nat.reduceLT, Nat.reduceLeDiff, Nat.reduceMod, Nat.reduceMul, Nat.reduceSub, eq_self, reduceIte, Ty.row, tyAll, Tm.row, tmAll, u0']
  | lam s a iha =>
    have u0 := own49 sh s
    have u1 := iha
    try simp only [Ty.row, tyAll, Tm.row, tmAll, Int.cast_ofNat_Int] at u0 u1
    have u0' := clR.use u0
    have u1' := clR.use u1
    refine run_eq (run_of (pf := p32) rfl ?_)
    unfold p32
    simp only [R.loop_eq, wp0, wp1, wp2, wp3, wp4, wp5, Int.reduceAdd, Int.reduceEq, Int.reduceLE, Int.reduceLT, Int.reduceNeg, Int.reduceSub, Int.reduceToNat, Nat.reduceAdd, Nat.reduceDiv, Nat.reduceEqDiff, Nat.reduceLT, Nat.reduceLeDiff, Nat.reduceMod, Nat.reduceMul, Nat.reduceSub, eq_self, reduceIte, Ty.row, tyAll, Tm.row, tmAll, u0', u1']
  | app a b iha ihb =>
    have u0 := ownNo sh
    have u1 := iha
    have u2 := ihb
    try simp only [Ty.row, tyAll, Tm.row, tmAll, Int.cast_ofNat_Int] at u0 u1 u2
    have u0' := clR.use u0
    have u1' := clR.use u1
    have u2' := clR.use u2
    refine run_eq (run_of (pf := p32) rfl ?_)
    unfold p32
    simp only [R.loop_eq, wp0, wp1, wp2, wp3, wp4, wp5, Int.reduceAdd, Int.reduceEq, Int.reduceLE, Int.reduceLT, Int.reduceNeg, Int.reduceSub, Int.reduceToNat, Nat.reduceAdd, Nat.reduceDiv, Nat.reduceEqDiff, Nat.reduceLT, Nat.reduceLeDiff, Nat.reduceMod, Nat.reduceMul, Nat.reduceSub, eq_self, reduceIte, Ty.row, tyAll, Tm.row, tmAll, u0', u1', u2']
  | zero =>
    have u0 := ownNo sh
    try simp only [Ty.row, tyAll, Tm.row, tmAll, Int.cast_ofNat_Int] at u0
    have u0' := clR.use u0
    refine run_eq (run_of (pf := p32) rfl ?_)
    unfold p32
    simp only [R.loop_eq, wp0, wp1, wp2, wp3, wp4, wp5, Int.reduceAdd, Int.reduceEq, Int.reduceLE, Int.reduceLT, Int.reduceNeg, Int.reduceSub, Int.reduceToNat, Nat.reduceAdd, Nat.reduceDiv, Nat.reduceEqDiff, Nat.reduceLT, Nat.reduceLeDiff, Nat.reduceMod, Nat.reduceMul, Nat.reduceSub, eq_self, reduceIte, Ty.row, tyAll, Tm.row, tmAll, u0']
  | succ a iha =>
    have u0 := ownNo sh
    have u1 := iha
    try simp only [Ty.row, tyAll, Tm.row, tmAll, Int.cast_ofNat_Int] at u0 u1
    have u0' := clR.use u0
    have u1' := clR.use u1
    refine run_eq (run_of (pf := p32) rfl ?_)
    unfold p32
    simp only [R.loop_eq, wp0, wp1, wp2, wp3, wp4, wp5, Int.reduceAdd, Int.reduceEq, Int.reduceLE, Int.reduceLT, Int.reduceNeg, Int.reduceSub, Int.reduceToNat, Nat.reduceAdd, Nat.reduceDiv, Nat.reduceEqDiff, Nat.reduceLT, Nat.reduceLeDiff, Nat.reduceMod, Nat.reduceMul, Nat.reduceSub, eq_self, reduceIte, Ty.row, tyAll, Tm.row, tmAll, u0', u1']
  | recu s a b c iha ihb ihc =>
    have u0 := own49 sh s
    have u1 := iha
    have u2 := ihb
    have u3 := ihc
    try simp only [Ty.row, tyAll, Tm.row, tmAll, Int.cast_ofNat_Int] at u0 u1 u2 u3
    have u0' := clR.use u0
    have u1' := clR.use u1
    have u2' := clR.use u2
    have u3' := clR.use u3
    refine run_eq (run_of (pf := p32) rfl ?_)
    unfold p32
    simp only [R.loop_eq, wp0, wp1, wp2, wp3, wp4, wp5, Int.reduceAdd, Int.reduceEq, Int.reduceLE, Int.reduceLT, Int.reduceNeg, Int.reduceSub, Int.reduceToNat, Nat.reduceAdd, Nat.reduceDiv, Nat.reduceEqDiff, Nat.reduceLT, Nat.reduceLeDiff, Nat.reduceMod, Nat.reduceMul, Nat.reduceSub, eq_self, reduceIte, Ty.row, tyAll, Tm.row, tmAll, u0', u1', u2', u3']
  | nil =>
    have u0 := ownNo sh
    try simp only [Ty.row, tyAll, Tm.row, tmAll, Int.cast_ofNat_Int] at u0
    have u0' := clR.use u0
    refine run_eq (run_of (pf := p32) rfl ?_)
    unfold p32
    simp only [R.loop_eq, wp0, wp1, wp2, wp3, wp4, wp5, Int.reduceAdd, Int.reduceEq, Int.reduceLE, Int.reduceLT, Int.reduceNeg, Int.reduceSub, Int.reduceToNat, Nat.reduceAdd, Nat.reduceDiv, Nat.reduceEqDiff, Nat.reduceLT, Nat.reduceLeDiff, Nat.reduceMod, Nat.reduceMul, Nat.reduceSub, eq_self, reduceIte, Ty.row, tyAll, Tm.row, tmAll, u0']
  | cons a b iha ihb =>
    have u0 := ownNo sh
    have u1 := iha
    have u2 := ihb
    try simp only [Ty.row, tyAll, Tm.row, tmAll, Int.cast_ofNat_Int] at u0 u1 u2
    have u0' := clR.use u0
    have u1' := clR.use u1
    have u2' := clR.use u2
    refine run_eq (run_of (pf := p32) rfl ?_)
    unfold p32
    simp only [R.loop_eq, wp0, wp1, wp2, wp3, wp4, wp5, Int.reduceAdd, Int.reduceEq, Int.reduceLE, Int.reduceLT, Int.reduceNeg, Int.reduceSub, Int.reduceToNat, Nat.reduceAdd, Nat.reduceDiv, Nat.reduceEqDiff, Nat.reduceLT, Nat.reduceLeDiff, Nat.reduceMod, Nat.reduceMul, Nat.reduceSub, eq_self, reduceIte, Ty.row, tyAll, Tm.row, tmAll, u0', u1', u2']
  | fold s a b c iha ihb ihc =>
    have u0 := own49 sh s
    have u1 := iha
    have u2 := ihb
    have u3 := ihc
    try simp only [Ty.row, tyAll, Tm.row, tmAll, Int.cast_ofNat_Int] at u0 u1 u2 u3
    have u0' := clR.use u0
    have u1' := clR.use u1
    have u2' := clR.use u2
    have u3' := clR.use u3
    refine run_eq (run_of (pf := p32) rfl ?_)
    unfold p32
    simp only [R.loop_eq, wp0, wp1, wp2, wp3, wp4, wp5, Int.reduceAdd, Int.reduceEq, Int.reduceLE, Int.reduceLT, Int.reduceNeg, Int.reduceSub, Int.reduceToNat, Nat.reduceAdd, Nat.reduceDiv, Nat.reduceEqDiff, Nat.reduceLT, Nat.reduceLeDiff, Nat.reduceMod, Nat.reduceMul, Nat.reduceSub, eq_self, reduceIte, Ty.row, tyAll, Tm.row, tmAll, u0', u1', u2', u3']
  | pair a b iha ihb =>
    have u0 := ownNo sh
    have u1 := iha
    have u2 := ihb
    try simp only [Ty.row, tyAll, Tm.row, tmAll, Int.cast_ofNat_Int] at u0 u1 u2
    have u0' := clR.use u0
    have u1' := clR.use u1
    have u2' := clR.use u2
    refine run_eq (run_of (pf := p32) rfl ?_)
    unfold p32
    simp only [R.loop_eq, wp0, wp1, wp2, wp3, wp4, wp5, Int.reduceAdd, Int.reduceEq, Int.reduceLE, Int.reduceLT, Int.reduceNeg, Int.reduceSub, Int.reduceToNat, Nat.reduceAdd, Nat.reduceDiv, Nat.reduceEqDiff, Nat.reduceLT, Nat.reduceLeDiff, Nat.reduceMod, Nat.reduceMul, Nat.reduceSub, eq_self, reduceIte, Ty.row, tyAll, Tm.row, tmAll, u0', u1', u2']
  | fst a iha =>
    have u0 := ownNo sh
    have u1 := iha
    try simp only [Ty.row, tyAll, Tm.row, tmAll, Int.cast_ofNat_Int] at u0 u1
    have u0' := clR.use u0
    have u1' := clR.use u1
    refine run_eq (run_of (pf := p32) rfl ?_)
    unfold p32
    simp only [R.loop_eq, wp0, wp1, wp2, wp3, wp4, wp5, Int.reduceAdd, Int.reduceEq, Int.reduceLE, Int.reduceLT, Int.reduceNeg, Int.reduceSub, Int.reduceToNat, Nat.reduceAdd, Nat.reduceDiv, Nat.reduceEqDiff, Nat.reduceLT, Nat.reduceLeDiff, Nat.reduceMod, Nat.reduceMul, Nat.reduceSub, eq_self, reduceIte, Ty.row, tyAll, Tm.row, tmAll, u0', u1']
  | snd a iha =>
    have u0 := ownNo sh
    have u1 := iha
    try simp only [Ty.row, tyAll, Tm.row, tmAll, Int.cast_ofNat_Int] at u0 u1
    have u0' := clR.use u0
    have u1' := clR.use u1
    refine run_eq (run_of (pf := p32) rfl ?_)
    unfold p32
    simp only [R.loop_eq, wp0, wp1, wp2, wp3, wp4, wp5, Int.reduceAdd, Int.reduceEq, Int.reduceLE, Int.reduceLT, Int.reduceNeg, Int.reduceSub, Int.reduceToNat, Nat.reduceAdd, Nat.reduceDiv, Nat.reduceEqDiff, Nat.reduceLT, Nat.reduceLeDiff, Nat.reduceMod, Nat.reduceMul, Nat.reduceSub, eq_self, reduceIte, Ty.row, tyAll, Tm.row, tmAll, u0', u1']
  | unit =>
    have u0 := ownNo sh
    try simp only [Ty.row, tyAll, Tm.row, tmAll, Int.cast_ofNat_Int] at u0
    have u0' := clR.use u0
    refine run_eq (run_of (pf := p32) rfl ?_)
    unfold p32
    simp only [R.loop_eq, wp0, wp1, wp2, wp3, wp4, wp5, Int.reduceAdd, Int.reduceEq, Int.reduceLE, Int.reduceLT, Int.reduceNeg, Int.reduceSub, Int.reduceToNat, Nat.reduceAdd, Nat.reduceDiv, Nat.reduceEqDiff, Nat.reduceLT, Nat.reduceLeDiff, Nat.reduceMod, Nat.reduceMul, Nat.reduceSub, eq_self, reduceIte, Ty.row, tyAll, Tm.row, tmAll, u0']
theorem sTy (sh : Sh) (a : Ty) : ∃ n, callN T G n 55 [.ag a.row, .ag a.row] sh = some (.v (.bool true), sh) := by
  have h := sameType sh a a
  rwa [decide_eq_true rfl] at h
theorem sNo (sh : Sh) : ∃ n, callN T G n 55 [.ag [i64 0, .sl 0 0 []], .ag [i64 0, .sl 0 0 []]] sh = some (.v (.bool true), sh) := by
  refine run_eq (run_of (pf := p55) rfl ?_)
  unfold p55
  simp only [R.loop_eq, wp0, wp1, wp2, wp3, wp4, wp5, Int.reduceAdd, Int.reduceEq, Int.reduceLE, Int.reduceLT, Int.reduceNeg, Int.reduceSub, Int.reduceToNat, Nat.reduceAdd, Nat.reduceDiv, Nat.reduceEqDiff, Nat.reduceLT, Nat.reduceLeDiff, Nat.reduceMod, Nat.reduceMul, Nat.reduceSub, eq_self, reduceIte, Ty.row, tyAll, Tm.row, tmAll, Fm.row, fmAll]
theorem sTm (sh : Sh) : ∀ a : Tm, ∃ n, callN T G n 80 [.ag a.row, .ag a.row] sh = some (.v (.bool true), sh) := by
  intro t
  induction t with
  | var i =>
    have u0 := sNo sh
    try simp only [Ty.row, tyAll, Tm.row, tmAll, Int.cast_ofNat_Int] at u0
    have u0' := clR.use u0
    refine run_eq (run_of (pf := p80) rfl ?_)
    unfold p80
    simp only [R.loop_eq, wp0, wp1, wp2, wp3, wp4, wp5, Int.reduceAdd, Int.reduceEq, Int.reduceLE, Int.reduceLT, Int.reduceNeg, Int.reduceSub, Int.reduceToNat, Nat.reduceAdd, Nat.reduceDiv, Nat.reduceEqDiff, Nat.reduceLT, Nat.reduceLeDiff, Nat.reduceMod, Nat.reduceMul, Nat.reduceSub, eq_self, reduceIte, Ty.row, tyAll, Tm.row, tmAll, u0']
  | lam s a iha =>
    have u0 := sTy sh s
    have u1 := iha
    try simp only [Ty.row, tyAll, Tm.row, tmAll, Int.cast_ofNat_Int] at u0 u1
    have u0' := clR.use u0
    have u1' := clR.use u1
    refine run_eq (run_of (pf := p80) rfl ?_)
    unfold p80
    simp only [R.loop_eq, wp0, wp1, wp2, wp3, wp4, wp5, Int.reduceAdd, Int.reduceEq, Int.reduceLE, Int.reduceLT, Int.reduceNeg, Int.reduceSub, Int.reduceToNat, Nat.reduceAdd, Nat.reduceDiv, Nat.reduceEqDiff, Nat.reduceLT, Nat.reduceLeDiff, Nat.reduceMod, Nat.reduceMul, Nat.reduceSub, eq_self, reduceIte, Ty.row, tyAll, Tm.row, tmAll, u0', u1']
  | app a b iha ihb =>
    have u0 := sNo sh
    have u1 := iha
    have u2 := ihb
    try simp only [Ty.row, tyAll, Tm.row, tmAll, Int.cast_ofNat_Int] at u0 u1 u2
    have u0' := clR.use u0
    have u1' := clR.use u1
    have u2' := clR.use u2
    refine run_eq (run_of (pf := p80) rfl ?_)
    unfold p80
    simp only [R.loop_eq, wp0, wp1, wp2, wp3, wp4, wp5, Int.reduceAdd, Int.reduceEq, Int.reduceLE, Int.reduceLT, Int.reduceNeg, Int.reduceSub, Int.reduceToNat, Nat.reduceAdd, Nat.reduceDiv, Nat.reduceEqDiff, Nat.reduceLT, Nat.reduceLeDiff, Nat.reduceMod, Nat.reduceMul, Nat.reduceSub, eq_self, reduceIte, Ty.row, tyAll, Tm.row, tmAll, u0', u1', u2']
  | zero =>
    have u0 := sNo sh
    try simp only [Ty.row, tyAll, Tm.row, tmAll, Int.cast_ofNat_Int] at u0
    have u0' := clR.use u0
    refine run_eq (run_of (pf := p80) rfl ?_)
    unfold p80
    simp only [R.loop_eq, wp0, wp1, wp2, wp3, wp4, wp5, Int.reduceAdd, Int.reduceEq, Int.reduceLE, Int.reduceLT, Int.reduceNeg, Int.reduceSub, Int.reduceToNat, Nat.reduceAdd, Nat.reduceDiv, Nat.reduceEqDiff, Nat.reduceLT, Nat.reduceLeDiff, Nat.reduceMod, Nat.reduceMul, Nat.reduceSub, eq_self, reduceIte, Ty.row, tyAll, Tm.row, tmAll, u0']
  | succ a iha =>
    have u0 := sNo sh
    have u1 := iha
    try simp only [Ty.row, tyAll, Tm.row, tmAll, Int.cast_ofNat_Int] at u0 u1
    have u0' := clR.use u0
    have u1' := clR.use u1
    refine run_eq (run_of (pf := p80) rfl ?_)
    unfold p80
    simp only [R.loop_eq, wp0, wp1, wp2, wp3, wp4, wp5, Int.reduceAdd, Int.reduceEq, Int.reduceLE, Int.reduceLT, Int.reduceNeg, Int.reduceSub, Int.reduceToNat, Nat.reduceAdd, Nat.reduceDiv, Nat.reduceEqDiff, Nat.reduceLT, Nat.reduceLeDiff, Nat.reduceMod, Nat.reduceMul, Nat.reduceSub, eq_self, reduceIte, Ty.row, tyAll, Tm.row, tmAll, u0', u1']
  | recu s a b c iha ihb ihc =>
    have u0 := sTy sh s
    have u1 := iha
    have u2 := ihb
    have u3 := ihc
    try simp only [Ty.row, tyAll, Tm.row, tmAll, Int.cast_ofNat_Int] at u0 u1 u2 u3
    have u0' := clR.use u0
    have u1' := clR.use u1
    have u2' := clR.use u2
    have u3' := clR.use u3
    refine run_eq (run_of (pf := p80) rfl ?_)
    unfold p80
    simp only [R.loop_eq, wp0, wp1, wp2, wp3, wp4, wp5, Int.reduceAdd, Int.reduceEq, Int.reduceLE, Int.reduceLT, Int.reduceNeg, Int.reduceSub, Int.reduceToNat, Nat.reduceAdd, Nat.reduceDiv, Nat.reduceEqDiff, Nat.reduceLT, Nat.reduceLeDiff, Nat.reduceMod, Nat.reduceMul, Nat.reduceSub, eq_self, reduceIte, Ty.row, tyAll, Tm.row, tmAll, u0', u1', u2', u3']
  | nil =>
    have u0 := sNo sh
    try simp only [Ty.row, tyAll, Tm.row, tmAll, Int.cast_ofNat_Int] at u0
    have u0' := clR.use u0
    refine run_eq (run_of (pf := p80) rfl ?_)
    unfold p80
    simp only [R.loop_eq, wp0, wp1, wp2, wp3, wp4, wp5, Int.reduceAdd, Int.reduceEq, Int.reduceLE, Int.reduceLT, Int.reduceNeg, Int.reduceSub, Int.reduceToNat, Nat.reduceAdd, Nat.reduceDiv, Nat.reduceEqDiff, Nat.reduceLT, Nat.reduceLeDiff, Nat.reduceMod, Nat.reduceMul, Nat.reduceSub, eq_self, reduceIte, Ty.row, tyAll, Tm.row, tmAll, u0']
  | cons a b iha ihb =>
    have u0 := sNo sh
    have u1 := iha
    have u2 := ihb
    try simp only [Ty.row, tyAll, Tm.row, tmAll, Int.cast_ofNat_Int] at u0 u1 u2
    have u0' := clR.use u0
    have u1' := clR.use u1
    have u2' := clR.use u2
    refine run_eq (run_of (pf := p80) rfl ?_)
    unfold p80
    simp only [R.loop_eq, wp0, wp1, wp2, wp3, wp4, wp5, Int.reduceAdd, Int.reduceEq, Int.reduceLE, Int.reduceLT, Int.reduceNeg, Int.reduceSub, Int.reduceToNat, Nat.reduceAdd, Nat.reduceDiv, Nat.reduceEqDiff, Nat.reduceLT, Nat.reduceLeDiff, Nat.reduceMod, Nat.reduceMul, Nat.reduceSub, eq_self, reduceIte, Ty.row, tyAll, Tm.row, tmAll, u0', u1', u2']
  | fold s a b c iha ihb ihc =>
    have u0 := sTy sh s
    have u1 := iha
    have u2 := ihb
    have u3 := ihc
    try simp only [Ty.row, tyAll, Tm.row, tmAll, Int.cast_ofNat_Int] at u0 u1 u2 u3
    have u0' := clR.use u0
    have u1' := clR.use u1
    have u2' := clR.use u2
    have u3' := clR.use u3
    refine run_eq (run_of (pf := p80) rfl ?_)
    unfold p80
    simp only [R.loop_eq, wp0, wp1, wp2, wp3, wp4, wp5, Int.reduceAdd, Int.reduceEq, Int.reduceLE, Int.reduceLT, Int.reduceNeg, Int.reduceSub, Int.reduceToNat, Nat.reduceAdd, Nat.reduceDiv, Nat.reduceEqDiff, Nat.reduceLT, Nat.reduceLeDiff, Nat.reduceMod, Nat.reduceMul, Nat.reduceSub, eq_self, reduceIte, Ty.row, tyAll, Tm.row, tmAll, u0', u1', u2', u3']
  | pair a b iha ihb =>
    have u0 := sNo sh
    have u1 := iha
    have u2 := ihb
    try simp only [Ty.row, tyAll, Tm.row, tmAll, Int.cast_ofNat_Int] at u0 u1 u2
    have u0' := clR.use u0
    have u1' := clR.use u1
    have u2' := clR.use u2
    refine run_eq (run_of (pf := p80) rfl ?_)
    unfold p80
    simp only [R.loop_eq, wp0, wp1, wp2, wp3, wp4, wp5, Int.reduceAdd, Int.reduceEq, Int.reduceLE, Int.reduceLT, Int.reduceNeg, Int.reduceSub, Int.reduceToNat, Nat.reduceAdd, Nat.reduceDiv, Nat.reduceEqDiff, Nat.reduceLT, Nat.reduceLeDiff, Nat.reduceMod, Nat.reduceMul, Nat.reduceSub, eq_self, reduceIte, Ty.row, tyAll, Tm.row, tmAll, u0', u1', u2']
  | fst a iha =>
    have u0 := sNo sh
    have u1 := iha
    try simp only [Ty.row, tyAll, Tm.row, tmAll, Int.cast_ofNat_Int] at u0 u1
    have u0' := clR.use u0
    have u1' := clR.use u1
    refine run_eq (run_of (pf := p80) rfl ?_)
    unfold p80
    simp only [R.loop_eq, wp0, wp1, wp2, wp3, wp4, wp5, Int.reduceAdd, Int.reduceEq, Int.reduceLE, Int.reduceLT, Int.reduceNeg, Int.reduceSub, Int.reduceToNat, Nat.reduceAdd, Nat.reduceDiv, Nat.reduceEqDiff, Nat.reduceLT, Nat.reduceLeDiff, Nat.reduceMod, Nat.reduceMul, Nat.reduceSub, eq_self, reduceIte, Ty.row, tyAll, Tm.row, tmAll, u0', u1']
  | snd a iha =>
    have u0 := sNo sh
    have u1 := iha
    try simp only [Ty.row, tyAll, Tm.row, tmAll, Int.cast_ofNat_Int] at u0 u1
    have u0' := clR.use u0
    have u1' := clR.use u1
    refine run_eq (run_of (pf := p80) rfl ?_)
    unfold p80
    simp only [R.loop_eq, wp0, wp1, wp2, wp3, wp4, wp5, Int.reduceAdd, Int.reduceEq, Int.reduceLE, Int.reduceLT, Int.reduceNeg, Int.reduceSub, Int.reduceToNat, Nat.reduceAdd, Nat.reduceDiv, Nat.reduceEqDiff, Nat.reduceLT, Nat.reduceLeDiff, Nat.reduceMod, Nat.reduceMul, Nat.reduceSub, eq_self, reduceIte, Ty.row, tyAll, Tm.row, tmAll, u0', u1']
  | unit =>
    have u0 := sNo sh
    try simp only [Ty.row, tyAll, Tm.row, tmAll, Int.cast_ofNat_Int] at u0
    have u0' := clR.use u0
    refine run_eq (run_of (pf := p80) rfl ?_)
    unfold p80
    simp only [R.loop_eq, wp0, wp1, wp2, wp3, wp4, wp5, Int.reduceAdd, Int.reduceEq, Int.reduceLE, Int.reduceLT, Int.reduceNeg, Int.reduceSub, Int.reduceToNat, Nat.reduceAdd, Nat.reduceDiv, Nat.reduceEqDiff, Nat.reduceLT, Nat.reduceLeDiff, Nat.reduceMod, Nat.reduceMul, Nat.reduceSub, eq_self, reduceIte, Ty.row, tyAll, Tm.row, tmAll, u0']
theorem sFm (sh : Sh) : ∀ f : Fm, ∃ n, callN T G n 60 [.ag f.row, .ag f.row] sh = some (.v (.bool true), sh) := by
  intro f
  induction f with
  | eq a b =>
      have u0 := sNo sh
      have u1 := sTm sh a
      have u2 := sTm sh b
      try simp only [Ty.row, tyAll, Tm.row, tmAll, Fm.row, fmAll, Int.cast_ofNat_Int] at u0 u1 u2
      have u0' := clR.use u0
      have u1' := clR.use u1
      have u2' := clR.use u2
      refine run_eq (run_of (pf := p60) rfl ?_)
      unfold p60
      simp only [R.loop_eq, wp0, wp1, wp2, wp3, wp4, wp5, Int.reduceAdd, Int.reduceEq, Int.reduceLE, Int.reduceLT, Int.reduceNeg, Int.reduceSub, Int.reduceToNat, Nat.reduceAdd, Nat.reduceDiv, Nat.reduceEqDiff, Nat.reduceLT, Nat.reduceLeDiff, Nat.reduceMod, Nat.reduceMul, Nat.reduceSub, eq_self, reduceIte, Ty.row, tyAll, Tm.row, tmAll, Fm.row, fmAll, u0', u1', u2']
  | bin c f g ihf ihg =>
    cases c with
    | false =>
      have u0 := sNo sh
      have u1 := ihf
      have u2 := ihg
      try simp only [Ty.row, tyAll, Tm.row, tmAll, Fm.row, fmAll, Int.cast_ofNat_Int] at u0 u1 u2
      have u0' := clR.use u0
      have u1' := clR.use u1
      have u2' := clR.use u2
      refine run_eq (run_of (pf := p60) rfl ?_)
      unfold p60
      simp only [R.loop_eq, wp0, wp1, wp2, wp3, wp4, wp5, Int.reduceAdd, Int.reduceEq, Int.reduceLE, Int.reduceLT, Int.reduceNeg, Int.reduceSub, Int.reduceToNat, Nat.reduceAdd, Nat.reduceDiv, Nat.reduceEqDiff, Nat.reduceLT, Nat.reduceLeDiff, Nat.reduceMod, Nat.reduceMul, Nat.reduceSub, eq_self, reduceIte, Ty.row, tyAll, Tm.row, tmAll, Fm.row, fmAll, u0', u1', u2']
    | true =>
      have u0 := sNo sh
      have u1 := ihf
      have u2 := ihg
      try simp only [Ty.row, tyAll, Tm.row, tmAll, Fm.row, fmAll, Int.cast_ofNat_Int] at u0 u1 u2
      have u0' := clR.use u0
      have u1' := clR.use u1
      have u2' := clR.use u2
      refine run_eq (run_of (pf := p60) rfl ?_)
      unfold p60
      simp only [R.loop_eq, wp0, wp1, wp2, wp3, wp4, wp5, Int.reduceAdd, Int.reduceEq, Int.reduceLE, Int.reduceLT, Int.reduceNeg, Int.reduceSub, Int.reduceToNat, Nat.reduceAdd, Nat.reduceDiv, Nat.reduceEqDiff, Nat.reduceLT, Nat.reduceLeDiff, Nat.reduceMod, Nat.reduceMul, Nat.reduceSub, eq_self, reduceIte, Ty.row, tyAll, Tm.row, tmAll, Fm.row, fmAll, u0', u1', u2']
  | qu k s f ihf =>
    cases k with
    | all =>
      have u0 := sTy sh s
      have u1 := ihf
      try simp only [Ty.row, tyAll, Tm.row, tmAll, Fm.row, fmAll, Int.cast_ofNat_Int] at u0 u1
      have u0' := clR.use u0
      have u1' := clR.use u1
      refine run_eq (run_of (pf := p60) rfl ?_)
      unfold p60
      simp only [R.loop_eq, wp0, wp1, wp2, wp3, wp4, wp5, Int.reduceAdd, Int.reduceEq, Int.reduceLE, Int.reduceLT, Int.reduceNeg, Int.reduceSub, Int.reduceToNat, Nat.reduceAdd, Nat.reduceDiv, Nat.reduceEqDiff, Nat.reduceLT, Nat.reduceLeDiff, Nat.reduceMod, Nat.reduceMul, Nat.reduceSub, eq_self, reduceIte, Ty.row, tyAll, Tm.row, tmAll, Fm.row, fmAll, u0', u1']
    | ex =>
      have u0 := sTy sh s
      have u1 := ihf
      try simp only [Ty.row, tyAll, Tm.row, tmAll, Fm.row, fmAll, Int.cast_ofNat_Int] at u0 u1
      have u0' := clR.use u0
      have u1' := clR.use u1
      refine run_eq (run_of (pf := p60) rfl ?_)
      unfold p60
      simp only [R.loop_eq, wp0, wp1, wp2, wp3, wp4, wp5, Int.reduceAdd, Int.reduceEq, Int.reduceLE, Int.reduceLT, Int.reduceNeg, Int.reduceSub, Int.reduceToNat, Nat.reduceAdd, Nat.reduceDiv, Nat.reduceEqDiff, Nat.reduceLT, Nat.reduceLeDiff, Nat.reduceMod, Nat.reduceMul, Nat.reduceSub, eq_self, reduceIte, Ty.row, tyAll, Tm.row, tmAll, Fm.row, fmAll, u0', u1']
    | allU =>
      have u0 := sTy sh s
      have u1 := ihf
      try simp only [Ty.row, tyAll, Tm.row, tmAll, Fm.row, fmAll, Int.cast_ofNat_Int] at u0 u1
      have u0' := clR.use u0
      have u1' := clR.use u1
      refine run_eq (run_of (pf := p60) rfl ?_)
      unfold p60
      simp only [R.loop_eq, wp0, wp1, wp2, wp3, wp4, wp5, Int.reduceAdd, Int.reduceEq, Int.reduceLE, Int.reduceLT, Int.reduceNeg, Int.reduceSub, Int.reduceToNat, Nat.reduceAdd, Nat.reduceDiv, Nat.reduceEqDiff, Nat.reduceLT, Nat.reduceLeDiff, Nat.reduceMod, Nat.reduceMul, Nat.reduceSub, eq_self, reduceIte, Ty.row, tyAll, Tm.row, tmAll, Fm.row, fmAll, u0', u1']
    | exU =>
      have u0 := sTy sh s
      have u1 := ihf
      try simp only [Ty.row, tyAll, Tm.row, tmAll, Fm.row, fmAll, Int.cast_ofNat_Int] at u0 u1
      have u0' := clR.use u0
      have u1' := clR.use u1
      refine run_eq (run_of (pf := p60) rfl ?_)
      unfold p60
      simp only [R.loop_eq, wp0, wp1, wp2, wp3, wp4, wp5, Int.reduceAdd, Int.reduceEq, Int.reduceLE, Int.reduceLT, Int.reduceNeg, Int.reduceSub, Int.reduceToNat, Nat.reduceAdd, Nat.reduceDiv, Nat.reduceEqDiff, Nat.reduceLT, Nat.reduceLeDiff, Nat.reduceMod, Nat.reduceMul, Nat.reduceSub, eq_self, reduceIte, Ty.row, tyAll, Tm.row, tmAll, Fm.row, fmAll, u0', u1']
/-- What a function makes of each term. -/
def Maps (F : Nat) (caps : List PV) (h : Tm → Nat → Tm) (L : List (Nat × List PV)) (p : Tm → Nat → Prop) : Prop :=
  ∀ (bx : List (Nat × List PV)) (nx : Nat) (t : Tm) (d : Nat), p t d → Has bx L → (∀ q ∈ L, q.1 < nx) →
    ∃ nx', nx ≤ nx' ∧ ∃ n, callN T G n F (.ag t.row :: i64 (d : Int) :: caps) ⟨bx, nx⟩ = some (.ag (h t d).row, ⟨bx, nx'⟩)
def Fm.mapT (h : Tm → Nat → Tm) : Nat → Fm → Fm
  | d, .eq a b => .eq (h a d) (h b d)
  | d, .bin c f g => .bin c (f.mapT h d) (g.mapT h d)
  | d, .qu k s f => .qu k s (f.mapT h (d + 1))
def Fm.allT (p : Tm → Nat → Prop) : Nat → Fm → Prop
  | d, .eq a b => p a d ∧ p b d
  | d, .bin _ f g => f.allT p d ∧ g.allT p d
  | d, .qu _ _ f => f.allT p (d + 1)
theorem rebuildF {F : Nat} {caps : List PV} {h : Tm → Nat → Tm} {L : List (Nat × List PV)} {p : Tm → Nat → Prop} (hF : Maps F caps h L p) (hcl : PV.clrs caps = some caps) (bx : List (Nat × List PV)) (gL : Has bx L) : ∀ (f : Fm) (nx d : Nat), f.allT p d → d + f.size ≤ 1000000 → (∀ q ∈ L, q.1 < nx) →
    ∃ nx', nx ≤ nx' ∧ ∃ n, callN T G n 66 [.ag f.row, i64 (d : Int), .fn F caps] ⟨bx, nx⟩ = some (.ag (f.mapT h d).row, ⟨bx, nx'⟩) := by
  intro f
  induction f with
  | eq a b =>
      intro nx d hp hs hl
      simp only [Fm.size] at hs
      obtain ⟨m1, l1, e1⟩ := hF bx nx a d hp.1 gL hl
      obtain ⟨m2, l2, e2⟩ := hF bx m1 b d hp.2 gL (fun q hq => by have := hl q hq; omega)
      refine ⟨m2, by omega, ?_⟩
      simp only [Fm.mapT]
      have u0 := e1
      have u1 := e2
      have u2 := ownNo ⟨bx, nx⟩
      have u3 := tquant1 ⟨bx, m2⟩
      try simp only [Ty.row, tyAll, Tm.row, tmAll, Fm.row, fmAll, Int.cast_ofNat_Int] at u0 u1 u2 u3
      have u0' := clR.use u0
      have u1' := clR.use u1
      have u2' := clR.use u2
      have u3' := clR.use u3
      refine run_eq (run_of (pf := p66) rfl ?_)
      unfold p66
      simp only [R.loop_eq, wp0, wp1, wp2, wp3, wp4, wp5, Int.reduceAdd, Int.reduceEq, Int.reduceLE, Int.reduceLT, Int.reduceNeg, Int.reduceSub, Int.reduceToNat, Nat.reduceAdd, Nat.reduceDiv, Nat.reduceEqDiff, Nat.reduceLT, Nat.reduceLeDiff, Nat.reduceMod, Nat.reduceMul, Nat.reduceSub, eq_self, reduceIte, Ty.row, tyAll, Tm.row, tmAll, Fm.row, fmAll, u0', u1', u2', u3', hcl]
  | bin c f g ihf ihg =>
    intro nx d hp hs hl
    cases c with
    | false =>
      simp only [Fm.size] at hs
      obtain ⟨m1, l1, e1⟩ := ihf nx d hp.1 (by omega) hl
      obtain ⟨m2, l2, e2⟩ := ihg m1 d hp.2 (by omega) (fun q hq => by have := hl q hq; omega)
      refine ⟨m2, by omega, ?_⟩
      simp only [Fm.mapT]
      have u0 := e1
      have u1 := e2
      have u2 := ownNo ⟨bx, nx⟩
      have u3 := tquant2 ⟨bx, nx⟩
      try simp only [Ty.row, tyAll, Tm.row, tmAll, Fm.row, fmAll, Int.cast_ofNat_Int] at u0 u1 u2 u3
      have u0' := clR.use u0
      have u1' := clR.use u1
      have u2' := clR.use u2
      have u3' := clR.use u3
      refine run_eq (run_of (pf := p66) rfl ?_)
      unfold p66
      simp only [R.loop_eq, wp0, wp1, wp2, wp3, wp4, wp5, Int.reduceAdd, Int.reduceEq, Int.reduceLE, Int.reduceLT, Int.reduceNeg, Int.reduceSub, Int.reduceToNat, Nat.reduceAdd, Nat.reduceDiv, Nat.reduceEqDiff, Nat.reduceLT, Nat.reduceLeDiff, Nat.reduceMod, Nat.reduceMul, Nat.reduceSub, eq_self, reduceIte, Ty.row, tyAll, Tm.row, tmAll, Fm.row, fmAll, u0', u1', u2', u3', hcl]
    | true =>
      simp only [Fm.size] at hs
      obtain ⟨m1, l1, e1⟩ := ihf nx d hp.1 (by omega) hl
      obtain ⟨m2, l2, e2⟩ := ihg m1 d hp.2 (by omega) (fun q hq => by have := hl q hq; omega)
      refine ⟨m2, by omega, ?_⟩
      simp only [Fm.mapT]
      have u0 := e1
      have u1 := e2
      have u2 := ownNo ⟨bx, nx⟩
      have u3 := tquant3 ⟨bx, nx⟩
      try simp only [Ty.row, tyAll, Tm.row, tmAll, Fm.row, fmAll, Int.cast_ofNat_Int] at u0 u1 u2 u3
      have u0' := clR.use u0
      have u1' := clR.use u1
      have u2' := clR.use u2
      have u3' := clR.use u3
      refine run_eq (run_of (pf := p66) rfl ?_)
      unfold p66
      simp only [R.loop_eq, wp0, wp1, wp2, wp3, wp4, wp5, Int.reduceAdd, Int.reduceEq, Int.reduceLE, Int.reduceLT, Int.reduceNeg, Int.reduceSub, Int.reduceToNat, Nat.reduceAdd, Nat.reduceDiv, Nat.reduceEqDiff, Nat.reduceLT, Nat.reduceLeDiff, Nat.reduceMod, Nat.reduceMul, Nat.reduceSub, eq_self, reduceIte, Ty.row, tyAll, Tm.row, tmAll, Fm.row, fmAll, u0', u1', u2', u3', hcl]
  | qu k s f ihf =>
    intro nx d hp hs hl
    cases k with
    | all =>
      simp only [Fm.size] at hs
      obtain ⟨m1, l1, e1⟩ := ihf nx (d + 1) hp (by omega) hl
      refine ⟨m1, by omega, ?_⟩
      have w1 : IntKind.i64.wrap ((d : Int) + 1) = ((d + 1 : Nat) : Int) := by rw [wrap_i64 (by omega)]; omega
      simp only [Fm.mapT]
      have u0 := e1
      have u1 := own49 ⟨bx, nx⟩ s
      have u2 := tquant4 ⟨bx, nx⟩
      try simp only [Ty.row, tyAll, Tm.row, tmAll, Fm.row, fmAll, Int.cast_ofNat_Int] at u0 u1 u2
      have u0' := clR.use u0
      have u1' := clR.use u1
      have u2' := clR.use u2
      refine run_eq (run_of (pf := p66) rfl ?_)
      unfold p66
      simp only [R.loop_eq, wp0, wp1, wp2, wp3, wp4, wp5, Int.reduceAdd, Int.reduceEq, Int.reduceLE, Int.reduceLT, Int.reduceNeg, Int.reduceSub, Int.reduceToNat, Nat.reduceAdd, Nat.reduceDiv, Nat.reduceEqDiff, Nat.reduceLT, Nat.reduceLeDiff, Nat.reduceMod, Nat.reduceMul, Nat.reduceSub, eq_self, reduceIte, Ty.row, tyAll, Tm.row, tmAll, Fm.row, fmAll, u0', u1', u2', hcl, w1]
    | ex =>
      simp only [Fm.size] at hs
      obtain ⟨m1, l1, e1⟩ := ihf nx (d + 1) hp (by omega) hl
      refine ⟨m1, by omega, ?_⟩
      have w1 : IntKind.i64.wrap ((d : Int) + 1) = ((d + 1 : Nat) : Int) := by rw [wrap_i64 (by omega)]; omega
      simp only [Fm.mapT]
      have u0 := e1
      have u1 := own49 ⟨bx, nx⟩ s
      have u2 := tquant5 ⟨bx, nx⟩
      try simp only [Ty.row, tyAll, Tm.row, tmAll, Fm.row, fmAll, Int.cast_ofNat_Int] at u0 u1 u2
      have u0' := clR.use u0
      have u1' := clR.use u1
      have u2' := clR.use u2
      refine run_eq (run_of (pf := p66) rfl ?_)
      unfold p66
      simp only [R.loop_eq, wp0, wp1, wp2, wp3, wp4, wp5, Int.reduceAdd, Int.reduceEq, Int.reduceLE, Int.reduceLT, Int.reduceNeg, Int.reduceSub, Int.reduceToNat, Nat.reduceAdd, Nat.reduceDiv, Nat.reduceEqDiff, Nat.reduceLT, Nat.reduceLeDiff, Nat.reduceMod, Nat.reduceMul, Nat.reduceSub, eq_self, reduceIte, Ty.row, tyAll, Tm.row, tmAll, Fm.row, fmAll, u0', u1', u2', hcl, w1]
    | allU =>
      simp only [Fm.size] at hs
      obtain ⟨m1, l1, e1⟩ := ihf nx (d + 1) hp (by omega) hl
      refine ⟨m1, by omega, ?_⟩
      have w1 : IntKind.i64.wrap ((d : Int) + 1) = ((d + 1 : Nat) : Int) := by rw [wrap_i64 (by omega)]; omega
      simp only [Fm.mapT]
      have u0 := e1
      have u1 := own49 ⟨bx, nx⟩ s
      have u2 := tquant6 ⟨bx, nx⟩
      try simp only [Ty.row, tyAll, Tm.row, tmAll, Fm.row, fmAll, Int.cast_ofNat_Int] at u0 u1 u2
      have u0' := clR.use u0
      have u1' := clR.use u1
      have u2' := clR.use u2
      refine run_eq (run_of (pf := p66) rfl ?_)
      unfold p66
      simp only [R.loop_eq, wp0, wp1, wp2, wp3, wp4, wp5, Int.reduceAdd, Int.reduceEq, Int.reduceLE, Int.reduceLT, Int.reduceNeg, Int.reduceSub, Int.reduceToNat, Nat.reduceAdd, Nat.reduceDiv, Nat.reduceEqDiff, Nat.reduceLT, Nat.reduceLeDiff, Nat.reduceMod, Nat.reduceMul, Nat.reduceSub, eq_self, reduceIte, Ty.row, tyAll, Tm.row, tmAll, Fm.row, fmAll, u0', u1', u2', hcl, w1]
    | exU =>
      simp only [Fm.size] at hs
      obtain ⟨m1, l1, e1⟩ := ihf nx (d + 1) hp (by omega) hl
      refine ⟨m1, by omega, ?_⟩
      have w1 : IntKind.i64.wrap ((d : Int) + 1) = ((d + 1 : Nat) : Int) := by rw [wrap_i64 (by omega)]; omega
      simp only [Fm.mapT]
      have u0 := e1
      have u1 := own49 ⟨bx, nx⟩ s
      have u2 := tquant7 ⟨bx, nx⟩
      try simp only [Ty.row, tyAll, Tm.row, tmAll, Fm.row, fmAll, Int.cast_ofNat_Int] at u0 u1 u2
      have u0' := clR.use u0
      have u1' := clR.use u1
      have u2' := clR.use u2
      refine run_eq (run_of (pf := p66) rfl ?_)
      unfold p66
      simp only [R.loop_eq, wp0, wp1, wp2, wp3, wp4, wp5, Int.reduceAdd, Int.reduceEq, Int.reduceLE, Int.reduceLT, Int.reduceNeg, Int.reduceSub, Int.reduceToNat, Nat.reduceAdd, Nat.reduceDiv, Nat.reduceEqDiff, Nat.reduceLT, Nat.reduceLeDiff, Nat.reduceMod, Nat.reduceMul, Nat.reduceSub, eq_self, reduceIte, Ty.row, tyAll, Tm.row, tmAll, Fm.row, fmAll, u0', u1', u2', hcl, w1]
end Go.Pi.Terms
