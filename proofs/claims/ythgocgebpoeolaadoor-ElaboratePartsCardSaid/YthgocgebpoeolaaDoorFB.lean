import Derived.Test.YthgocgebpoeolaaDoorFA
import Derived.Test.YthgocgebpoeolaaDoorSD2
set_option maxRecDepth 100000
set_option maxHeartbeats 1000000
set_option linter.unusedSimpArgs false
set_option linter.unusedVariables false
namespace Go.Pi.Terms
open Go Go.Pi Go.Proofs.YthgocgebpoeolaaDoor
theorem copyF (sh : Sh) : ∀ f : Fm, ∃ n, callN T G n 27 [.ag f.row] sh = some (.ag f.row, sh) := by
  intro f
  induction f with
  | eq a b =>
      have u0 := copyNo sh
      have u1 := copyTm sh a
      have u2 := copyTm sh b
      try simp only [Ty.row, tyAll, Tm.row, tmAll, Fm.row, fmAll, Int.cast_ofNat_Int] at u0 u1 u2
      have u0' := clR.use u0
      have u1' := clR.use u1
      have u2' := clR.use u2
      refine run_eq (run_of (pf := p27) rfl ?_)
      unfold p27
      simp only [R.loop_eq, wp0, wp1, wp2, wp3, wp4, wp5, Int.reduceAdd, Int.reduceEq, Int.reduceLE, Int.reduceLT, Int.reduceNeg, Int.reduceSub, Int.reduceToNat, Nat.reduceAdd, Nat.reduceDiv, Nat.reduceEqDiff, Nat.reduceLT, Nat.reduceLeDiff, Nat.reduceMod, Nat.reduceMul, Nat.reduceSub, eq_self, reduceIte, Ty.row, tyAll, Tm.row, tmAll, Fm.row, fmAll, u0', u1', u2']
  | bin c f g ihf ihg =>
    cases c with
    | false =>
      have u0 := copyNo sh
      have u1 := ihf
      have u2 := ihg
      try simp only [Ty.row, tyAll, Tm.row, tmAll, Fm.row, fmAll, Int.cast_ofNat_Int] at u0 u1 u2
      have u0' := clR.use u0
      have u1' := clR.use u1
      have u2' := clR.use u2
      refine run_eq (run_of (pf := p27) rfl ?_)
      unfold p27
      simp only [R.loop_eq, wp0, wp1, wp2, wp3, wp4, wp5, Int.reduceAdd, Int.reduceEq, Int.reduceLE, Int.reduceLT, Int.reduceNeg, Int.reduceSub, Int.reduceToNat, Nat.reduceAdd, Nat.reduceDiv, Nat.reduceEqDiff, Nat.reduceLT, Nat.reduceLeDiff, Nat.reduceMod, Nat.reduceMul, Nat.reduceSub, eq_self, reduceIte, Ty.row, tyAll, Tm.row, tmAll, Fm.row, fmAll, u0', u1', u2']
    | true =>
      have u0 := copyNo sh
      have u1 := ihf
      have u2 := ihg
      try simp only [Ty.row, tyAll, Tm.row, tmAll, Fm.row, fmAll, Int.cast_ofNat_Int] at u0 u1 u2
      have u0' := clR.use u0
      have u1' := clR.use u1
      have u2' := clR.use u2
      refine run_eq (run_of (pf := p27) rfl ?_)
      unfold p27
      simp only [R.loop_eq, wp0, wp1, wp2, wp3, wp4, wp5, Int.reduceAdd, Int.reduceEq, Int.reduceLE, Int.reduceLT, Int.reduceNeg, Int.reduceSub, Int.reduceToNat, Nat.reduceAdd, Nat.reduceDiv, Nat.reduceEqDiff, Nat.reduceLT, Nat.reduceLeDiff, Nat.reduceMod, Nat.reduceMul, Nat.reduceSub, eq_self, reduceIte, Ty.row, tyAll, Tm.row, tmAll, Fm.row, fmAll, u0', u1', u2']
  | qu k s f ihf =>
    cases k with
    | all =>
      have u0 := copy50 sh s
      have u1 := ihf
      try simp only [Ty.row, tyAll, Tm.row, tmAll, Fm.row, fmAll, Int.cast_ofNat_Int] at u0 u1
      have u0' := clR.use u0
      have u1' := clR.use u1
      refine run_eq (run_of (pf := p27) rfl ?_)
      unfold p27
      simp only [R.loop_eq, wp0, wp1, wp2, wp3, wp4, wp5, Int.reduceAdd, Int.reduceEq, Int.reduceLE, Int.reduceLT, Int.reduceNeg, Int.reduceSub, Int.reduceToNat, Nat.reduceAdd, Nat.reduceDiv, Nat.reduceEqDiff, Nat.reduceLT, Nat.reduceLeDiff, Nat.reduceMod, Nat.reduceMul, Nat.reduceSub, eq_self, reduceIte, Ty.row, tyAll, Tm.row, tmAll, Fm.row, fmAll, u0', u1']
    | ex =>
      have u0 := copy50 sh s
      have u1 := ihf
      try simp only [Ty.row, tyAll, Tm.row, tmAll, Fm.row, fmAll, Int.cast_ofNat_Int] at u0 u1
      have u0' := clR.use u0
      have u1' := clR.use u1
      refine run_eq (run_of (pf := p27) rfl ?_)
      unfold p27
      simp only [R.loop_eq, wp0, wp1, wp2, wp3, wp4, wp5, Int.reduceAdd, Int.reduceEq, Int.reduceLE, Int.reduceLT, Int.reduceNeg, Int.reduceSub, Int.reduceToNat, Nat.reduceAdd, Nat.reduceDiv, Nat.reduceEqDiff, Nat.reduceLT, Nat.reduceLeDiff, Nat.reduceMod, Nat.reduceMul, Nat.reduceSub, eq_self, reduceIte, Ty.row, tyAll, Tm.row, tmAll, Fm.row, fmAll, u0', u1']
    | allU =>
      have u0 := copy50 sh s
      have u1 := ihf
      try simp only [Ty.row, tyAll, Tm.row, tmAll, Fm.row, fmAll, Int.cast_ofNat_Int] at u0 u1
      have u0' := clR.use u0
      have u1' := clR.use u1
      refine run_eq (run_of (pf := p27) rfl ?_)
      unfold p27
      simp only [R.loop_eq, wp0, wp1, wp2, wp3, wp4, wp5, Int.reduceAdd, Int.reduceEq, Int.reduceLE, Int.reduceLT, Int.reduceNeg, Int.reduceSub, Int.reduceToNat, Nat.reduceAdd, Nat.reduceDiv, Nat.reduceEqDiff, Nat.reduceLT, Nat.reduceLeDiff, Nat.reduceMod, Nat.reduceMul, Nat.reduceSub, eq_self, reduceIte, Ty.row, tyAll, Tm.row, tmAll, Fm.row, fmAll, u0', u1']
    | exU =>
      have u0 := copy50 sh s
      have u1 := ihf
      try simp only [Ty.row, tyAll, Tm.row, tmAll, Fm.row, fmAll, Int.cast_ofNat_Int] at u0 u1
      have u0' := clR.use u0
      have u1' := clR.use u1
      refine run_eq (run_of (pf := p27) rfl ?_)
      unfold p27
      simp only [R.loop_eq, wp0, wp1, wp2, wp3, wp4, wp5, Int.reduceAdd, Int.reduceEq, Int.reduceLE, Int.reduceLT, Int.reduceNeg, Int.reduceSub, Int.reduceToNat, Nat.reduceAdd, Nat.reduceDiv, Nat.reduceEqDiff, Nat.reduceLT, Nat.reduceLeDiff, Nat.reduceMod, Nat.reduceMul, Nat.reduceSub, eq_self, reduceIte, Ty.row, tyAll, Tm.row, tmAll, Fm.row, fmAll, u0', u1']
theorem two2 (sh : Sh) (f g : Fm) : ∃ n, callN T G n 10 [i64 2, .ag f.row, .ag g.row] sh = some (.ag (Fm.bin false f g).row, sh) := by
  have u0 := copyF sh f
  have u1 := copyF sh g
  try simp only [Ty.row, tyAll, Tm.row, tmAll, Fm.row, fmAll, Int.cast_ofNat_Int] at u0 u1
  have u0' := clR.use u0
  have u1' := clR.use u1
  refine run_eq (run_of (pf := p10) rfl ?_)
  unfold p10
  simp only [R.loop_eq, wp0, wp1, wp2, wp3, wp4, wp5, Int.reduceAdd, Int.reduceEq, Int.reduceLE, Int.reduceLT, Int.reduceNeg, Int.reduceSub, Int.reduceToNat, Nat.reduceAdd, Nat.reduceDiv, Nat.reduceEqDiff, Nat.reduceLT, Nat.reduceLeDiff, Nat.reduceMod, Nat.reduceMul, Nat.reduceSub, eq_self, reduceIte, Ty.row, tyAll, Tm.row, tmAll, Fm.row, fmAll, u0', u1']
theorem two3 (sh : Sh) (f g : Fm) : ∃ n, callN T G n 10 [i64 3, .ag f.row, .ag g.row] sh = some (.ag (Fm.bin true f g).row, sh) := by
  have u0 := copyF sh f
  have u1 := copyF sh g
  try simp only [Ty.row, tyAll, Tm.row, tmAll, Fm.row, fmAll, Int.cast_ofNat_Int] at u0 u1
  have u0' := clR.use u0
  have u1' := clR.use u1
  refine run_eq (run_of (pf := p10) rfl ?_)
  unfold p10
  simp only [R.loop_eq, wp0, wp1, wp2, wp3, wp4, wp5, Int.reduceAdd, Int.reduceEq, Int.reduceLE, Int.reduceLT, Int.reduceNeg, Int.reduceSub, Int.reduceToNat, Nat.reduceAdd, Nat.reduceDiv, Nat.reduceEqDiff, Nat.reduceLT, Nat.reduceLeDiff, Nat.reduceMod, Nat.reduceMul, Nat.reduceSub, eq_self, reduceIte, Ty.row, tyAll, Tm.row, tmAll, Fm.row, fmAll, u0', u1']
theorem q_all (sh : Sh) (s : Ty) (f : Fm) : ∃ n, callN T G n 21 [i64 4, .ag s.row, .ag f.row] sh = some (.ag (Fm.qu .all s f).row, sh) := by
  have u0 := copy50 sh s
  have u1 := copyF sh f
  try simp only [Ty.row, tyAll, Tm.row, tmAll, Fm.row, fmAll, Int.cast_ofNat_Int] at u0 u1
  have u0' := clR.use u0
  have u1' := clR.use u1
  refine run_eq (run_of (pf := p21) rfl ?_)
  unfold p21
  simp only [R.loop_eq, wp0, wp1, wp2, wp3, wp4, wp5, Int.reduceAdd, Int.reduceEq, Int.reduceLE, Int.reduceLT, Int.reduceNeg, Int.reduceSub, Int.reduceToNat, Nat.reduceAdd, Nat.reduceDiv, Nat.reduceEqDiff, Nat.reduceLT, Nat.reduceLeDiff, Nat.reduceMod, Nat.reduceMul, Nat.reduceSub, eq_self, reduceIte, Ty.row, tyAll, Tm.row, tmAll, Fm.row, fmAll, u0', u1']
theorem q_ex (sh : Sh) (s : Ty) (f : Fm) : ∃ n, callN T G n 21 [i64 5, .ag s.row, .ag f.row] sh = some (.ag (Fm.qu .ex s f).row, sh) := by
  have u0 := copy50 sh s
  have u1 := copyF sh f
  try simp only [Ty.row, tyAll, Tm.row, tmAll, Fm.row, fmAll, Int.cast_ofNat_Int] at u0 u1
  have u0' := clR.use u0
  have u1' := clR.use u1
  refine run_eq (run_of (pf := p21) rfl ?_)
  unfold p21
  simp only [R.loop_eq, wp0, wp1, wp2, wp3, wp4, wp5, Int.reduceAdd, Int.reduceEq, Int.reduceLE, Int.reduceLT, Int.reduceNeg, Int.reduceSub, Int.reduceToNat, Nat.reduceAdd, Nat.reduceDiv, Nat.reduceEqDiff, Nat.reduceLT, Nat.reduceLeDiff, Nat.reduceMod, Nat.reduceMul, Nat.reduceSub, eq_self, reduceIte, Ty.row, tyAll, Tm.row, tmAll, Fm.row, fmAll, u0', u1']
theorem q_allU (sh : Sh) (s : Ty) (f : Fm) : ∃ n, callN T G n 21 [i64 6, .ag s.row, .ag f.row] sh = some (.ag (Fm.qu .allU s f).row, sh) := by
  have u0 := copy50 sh s
  have u1 := copyF sh f
  try simp only [Ty.row, tyAll, Tm.row, tmAll, Fm.row, fmAll, Int.cast_ofNat_Int] at u0 u1
  have u0' := clR.use u0
  have u1' := clR.use u1
  refine run_eq (run_of (pf := p21) rfl ?_)
  unfold p21
  simp only [R.loop_eq, wp0, wp1, wp2, wp3, wp4, wp5, Int.reduceAdd, Int.reduceEq, Int.reduceLE, Int.reduceLT, Int.reduceNeg, Int.reduceSub, Int.reduceToNat, Nat.reduceAdd, Nat.reduceDiv, Nat.reduceEqDiff, Nat.reduceLT, Nat.reduceLeDiff, Nat.reduceMod, Nat.reduceMul, Nat.reduceSub, eq_self, reduceIte, Ty.row, tyAll, Tm.row, tmAll, Fm.row, fmAll, u0', u1']
theorem q_exU (sh : Sh) (s : Ty) (f : Fm) : ∃ n, callN T G n 21 [i64 7, .ag s.row, .ag f.row] sh = some (.ag (Fm.qu .exU s f).row, sh) := by
  have u0 := copy50 sh s
  have u1 := copyF sh f
  try simp only [Ty.row, tyAll, Tm.row, tmAll, Fm.row, fmAll, Int.cast_ofNat_Int] at u0 u1
  have u0' := clR.use u0
  have u1' := clR.use u1
  refine run_eq (run_of (pf := p21) rfl ?_)
  unfold p21
  simp only [R.loop_eq, wp0, wp1, wp2, wp3, wp4, wp5, Int.reduceAdd, Int.reduceEq, Int.reduceLE, Int.reduceLT, Int.reduceNeg, Int.reduceSub, Int.reduceToNat, Nat.reduceAdd, Nat.reduceDiv, Nat.reduceEqDiff, Nat.reduceLT, Nat.reduceLeDiff, Nat.reduceMod, Nat.reduceMul, Nat.reduceSub, eq_self, reduceIte, Ty.row, tyAll, Tm.row, tmAll, Fm.row, fmAll, u0', u1']
theorem eqF (sh : Sh) (a b : Tm) : ∃ n, callN T G n 14 [.ag a.row, .ag b.row] sh = some (.ag (Fm.eq a b).row, sh) := by
  have u0 := copyTm sh a
  have u1 := copyTm sh b
  try simp only [Ty.row, tyAll, Tm.row, tmAll, Fm.row, fmAll, Int.cast_ofNat_Int] at u0 u1
  have u0' := clR.use u0
  have u1' := clR.use u1
  refine run_eq (run_of (pf := p14) rfl ?_)
  unfold p14
  simp only [R.loop_eq, wp0, wp1, wp2, wp3, wp4, wp5, Int.reduceAdd, Int.reduceEq, Int.reduceLE, Int.reduceLT, Int.reduceNeg, Int.reduceSub, Int.reduceToNat, Nat.reduceAdd, Nat.reduceDiv, Nat.reduceEqDiff, Nat.reduceLT, Nat.reduceLeDiff, Nat.reduceMod, Nat.reduceMul, Nat.reduceSub, eq_self, reduceIte, Ty.row, tyAll, Tm.row, tmAll, Fm.row, fmAll, u0', u1']
theorem sameAll0 (sh : Sh) : ∃ n, callN T G n 28 [.sl 0 0 [], .sl 0 0 []] sh = some (.v (.bool true), sh) := by
  refine run_eq (run_of (pf := p28) rfl ?_)
  unfold p28
  simp only [R.loop_eq, wp0, wp1, wp2, wp3, wp4, wp5, Int.reduceAdd, Int.reduceEq, Int.reduceLE, Int.reduceLT, Int.reduceNeg, Int.reduceSub, Int.reduceToNat, Nat.reduceAdd, Nat.reduceDiv, Nat.reduceEqDiff, Nat.reduceLT, Nat.reduceLeDiff, Nat.reduceMod, Nat.reduceMul, Nat.reduceSub, eq_self, reduceIte, Ty.row, tyAll, Tm.row, tmAll, Fm.row, fmAll]
theorem sameTm (sh : Sh) (a : Tm) : ∃ n, callN T G n 18 [.ag a.row, .ag a.row] sh = some (.v (.bool true), sh) := by
  have h := same17 sh a a
  rwa [decide_eq_true rfl] at h
theorem sameTy (sh : Sh) (a : Ty) : ∃ n, callN T G n 11 [.ag a.row, .ag a.row] sh = some (.v (.bool true), sh) := by
  have h := same15 sh a a
  rwa [decide_eq_true rfl] at h
theorem sameAll2 (sh : Sh) (a b : Tm) : ∃ n, callN T G n 28 [.sl 0 5 [a.row, b.row], .sl 0 5 [a.row, b.row]] sh = some (.v (.bool true), sh) := by
  have u0 := sameTm sh a
  have u1 := sameTm sh b
  try simp only [Ty.row, tyAll, Tm.row, tmAll, Fm.row, fmAll, Int.cast_ofNat_Int] at u0 u1
  have u0' := clR.use u0
  have u1' := clR.use u1
  refine run_eq (run_of (pf := p28) rfl ?_)
  unfold p28
  simp only [R.loop_eq, wp0, wp1, wp2, wp3, wp4, wp5, Int.reduceAdd, Int.reduceEq, Int.reduceLE, Int.reduceLT, Int.reduceNeg, Int.reduceSub, Int.reduceToNat, Nat.reduceAdd, Nat.reduceDiv, Nat.reduceEqDiff, Nat.reduceLT, Nat.reduceLeDiff, Nat.reduceMod, Nat.reduceMul, Nat.reduceSub, eq_self, reduceIte, Ty.row, tyAll, Tm.row, tmAll, Fm.row, fmAll, u0', u1']
theorem sameF (sh : Sh) : ∀ f : Fm, ∃ n, callN T G n 12 [.ag f.row, .ag f.row] sh = some (.v (.bool true), sh) := by
  intro f
  induction f with
  | eq a b =>
      have u0 := sameNo sh
      have u1 := sameAll2 sh a b
      try simp only [Ty.row, tyAll, Tm.row, tmAll, Fm.row, fmAll, Int.cast_ofNat_Int] at u0 u1
      have u0' := clR.use u0
      have u1' := clR.use u1
      refine run_eq (run_of (pf := p12) rfl ?_)
      unfold p12
      simp only [R.loop_eq, wp0, wp1, wp2, wp3, wp4, wp5, Int.reduceAdd, Int.reduceEq, Int.reduceLE, Int.reduceLT, Int.reduceNeg, Int.reduceSub, Int.reduceToNat, Nat.reduceAdd, Nat.reduceDiv, Nat.reduceEqDiff, Nat.reduceLT, Nat.reduceLeDiff, Nat.reduceMod, Nat.reduceMul, Nat.reduceSub, eq_self, reduceIte, Ty.row, tyAll, Tm.row, tmAll, Fm.row, fmAll, u0', u1']
  | bin c f g ihf ihg =>
    cases c with
    | false =>
      have u0 := sameNo sh
      have u1 := sameAll0 sh
      have u2 := ihf
      have u3 := ihg
      try simp only [Ty.row, tyAll, Tm.row, tmAll, Fm.row, fmAll, Int.cast_ofNat_Int] at u0 u1 u2 u3
      have u0' := clR.use u0
      have u1' := clR.use u1
      have u2' := clR.use u2
      have u3' := clR.use u3
      refine run_eq (run_of (pf := p12) rfl ?_)
      unfold p12
      simp only [R.loop_eq, wp0, wp1, wp2, wp3, wp4, wp5, Int.reduceAdd, Int.reduceEq, Int.reduceLE, Int.reduceLT, Int.reduceNeg, Int.reduceSub, Int.reduceToNat, Nat.reduceAdd, Nat.reduceDiv, Nat.reduceEqDiff, Nat.reduceLT, Nat.reduceLeDiff, Nat.reduceMod, Nat.reduceMul, Nat.reduceSub, eq_self, reduceIte, Ty.row, tyAll, Tm.row, tmAll, Fm.row, fmAll, u0', u1', u2', u3']
    | true =>
      have u0 := sameNo sh
      have u1 := sameAll0 sh
      have u2 := ihf
      have u3 := ihg
      try simp only [Ty.row, tyAll, Tm.row, tmAll, Fm.row, fmAll, Int.cast_ofNat_Int] at u0 u1 u2 u3
      have u0' := clR.use u0
      have u1' := clR.use u1
      have u2' := clR.use u2
      have u3' := clR.use u3
      refine run_eq (run_of (pf := p12) rfl ?_)
      unfold p12
      simp only [R.loop_eq, wp0, wp1, wp2, wp3, wp4, wp5, Int.reduceAdd, Int.reduceEq, Int.reduceLE, Int.reduceLT, Int.reduceNeg, Int.reduceSub, Int.reduceToNat, Nat.reduceAdd, Nat.reduceDiv, Nat.reduceEqDiff, Nat.reduceLT, Nat.reduceLeDiff, Nat.reduceMod, Nat.reduceMul, Nat.reduceSub, eq_self, reduceIte, Ty.row, tyAll, Tm.row, tmAll, Fm.row, fmAll, u0', u1', u2', u3']
  | qu k s f ihf =>
    cases k with
    | all =>
      have u0 := sameTy sh s
      have u1 := sameAll0 sh
      have u2 := ihf
      try simp only [Ty.row, tyAll, Tm.row, tmAll, Fm.row, fmAll, Int.cast_ofNat_Int] at u0 u1 u2
      have u0' := clR.use u0
      have u1' := clR.use u1
      have u2' := clR.use u2
      refine run_eq (run_of (pf := p12) rfl ?_)
      unfold p12
      simp only [R.loop_eq, wp0, wp1, wp2, wp3, wp4, wp5, Int.reduceAdd, Int.reduceEq, Int.reduceLE, Int.reduceLT, Int.reduceNeg, Int.reduceSub, Int.reduceToNat, Nat.reduceAdd, Nat.reduceDiv, Nat.reduceEqDiff, Nat.reduceLT, Nat.reduceLeDiff, Nat.reduceMod, Nat.reduceMul, Nat.reduceSub, eq_self, reduceIte, Ty.row, tyAll, Tm.row, tmAll, Fm.row, fmAll, u0', u1', u2']
    | ex =>
      have u0 := sameTy sh s
      have u1 := sameAll0 sh
      have u2 := ihf
      try simp only [Ty.row, tyAll, Tm.row, tmAll, Fm.row, fmAll, Int.cast_ofNat_Int] at u0 u1 u2
      have u0' := clR.use u0
      have u1' := clR.use u1
      have u2' := clR.use u2
      refine run_eq (run_of (pf := p12) rfl ?_)
      unfold p12
      simp only [R.loop_eq, wp0, wp1, wp2, wp3, wp4, wp5, Int.reduceAdd, Int.reduceEq, Int.reduceLE, Int.reduceLT, Int.reduceNeg, Int.reduceSub, Int.reduceToNat, Nat.reduceAdd, Nat.reduceDiv, Nat.reduceEqDiff, Nat.reduceLT, Nat.reduceLeDiff, Nat.reduceMod, Nat.reduceMul, Nat.reduceSub, eq_self, reduceIte, Ty.row, tyAll, Tm.row, tmAll, Fm.row, fmAll, u0', u1', u2']
    | allU =>
      have u0 := sameTy sh s
      have u1 := sameAll0 sh
      have u2 := ihf
      try simp only [Ty.row, tyAll, Tm.row, tmAll, Fm.row, fmAll, Int.cast_ofNat_Int] at u0 u1 u2
      have u0' := clR.use u0
      have u1' := clR.use u1
      have u2' := clR.use u2
      refine run_eq (run_of (pf := p12) rfl ?_)
      unfold p12
      simp only [R.loop_eq, wp0, wp1, wp2, wp3, wp4, wp5, Int.reduceAdd, Int.reduceEq, Int.reduceLE, Int.reduceLT, Int.reduceNeg, Int.reduceSub, Int.reduceToNat, Nat.reduceAdd, Nat.reduceDiv, Nat.reduceEqDiff, Nat.reduceLT, Nat.reduceLeDiff, Nat.reduceMod, Nat.reduceMul, Nat.reduceSub, eq_self, reduceIte, Ty.row, tyAll, Tm.row, tmAll, Fm.row, fmAll, u0', u1', u2']
    | exU =>
      have u0 := sameTy sh s
      have u1 := sameAll0 sh
      have u2 := ihf
      try simp only [Ty.row, tyAll, Tm.row, tmAll, Fm.row, fmAll, Int.cast_ofNat_Int] at u0 u1 u2
      have u0' := clR.use u0
      have u1' := clR.use u1
      have u2' := clR.use u2
      refine run_eq (run_of (pf := p12) rfl ?_)
      unfold p12
      simp only [R.loop_eq, wp0, wp1, wp2, wp3, wp4, wp5, Int.reduceAdd, Int.reduceEq, Int.reduceLE, Int.reduceLT, Int.reduceNeg, Int.reduceSub, Int.reduceToNat, Nat.reduceAdd, Nat.reduceDiv, Nat.reduceEqDiff, Nat.reduceLT, Nat.reduceLeDiff, Nat.reduceMod, Nat.reduceMul, Nat.reduceSub, eq_self, reduceIte, Ty.row, tyAll, Tm.row, tmAll, Fm.row, fmAll, u0', u1', u2']
end Go.Pi.Terms
