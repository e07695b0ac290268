import Derived.Test.YtckcklkbdbafbaaDoorTV
set_option maxRecDepth 100000
set_option maxHeartbeats 1000000
set_option linter.unusedSimpArgs false
set_option linter.unusedVariables false
namespace Go.Pi.Terms
open Go Go.Pi Go.Proofs.YtckcklkbdbafbaaDoor
theorem ownNo (sh : Sh) : ∃ n, callN T G n 49 [.ag [i64 0, .sl 0 0 []]] sh = some (.ag [i64 0, .sl 0 0 []], sh) := by
  refine run_eq (run_of (pf := p49) rfl ?_)
  unfold p49
  simp only [R.loop_eq, wp0, wp1, wp2, wp3, wp4, PV.cellsT, appMax, dropSh, fillB, fillS, putD, splice, src, startSt, Int.reduceAdd, Int.reduceEq, Int.reduceLE, Int.reduceLT, Int.reduceNeg, Int.reduceSub, Int.reduceToNat, Nat.reduceAdd, Nat.reduceEqDiff, Nat.reduceLT, Nat.reduceLeDiff, Nat.reduceMul, Nat.reduceSub, if_false, if_true, ite_false, ite_true, reduceIte, Ty.row, tyAll]
theorem ownTm (sh : Sh) : ∀ a : Tm, ∃ n, callN T G n 53 [.ag a.row] sh = some (.ag a.row, sh)
  | .var i => by
    have u0 := ownNo sh
    try simp only [Ty.row, tyAll, Tm.row, tmAll, Int.cast_ofNat_Int] at u0
    have u0' := clR.use u0
    refine run_eq (run_of (pf := p53) rfl ?_)
    unfold p53
    simp only [R.loop_eq, wp0, wp1, wp2, wp3, wp4, PV.cellsT, appMax, dropSh, fillB, fillS, putD, splice, src, startSt, Int.reduceAdd, Int.reduceEq, Int.reduceLE, Int.reduceLT, Int.reduceNeg, Int.reduceSub, Int.reduceToNat, Nat.reduceAdd, Nat.reduceEqDiff, Nat.reduceLT, Nat.reduceLeDiff, Nat.reduceMul, Nat.reduceSub, if_false, if_true, ite_false, ite_true, reduceIte, Ty.row, tyAll, u0', Tm.row, tmAll]
  | .lam s a => by
    have u0 := ownTm sh a
    have u1 := own49 sh s
    try simp only [Ty.row, tyAll, Tm.row, tmAll, Int.cast_ofNat_Int] at u0 u1
    have u0' := clR.use u0
    have u1' := clR.use u1
    refine run_eq (run_of (pf := p53) rfl ?_)
    unfold p53
    simp only [R.loop_eq, wp0, wp1, wp2, wp3, wp4, PV.cellsT, appMax, dropSh, fillB, fillS, putD, splice, src, startSt, Int.reduceAdd, Int.reduceEq, Int.reduceLE, Int.reduceLT, Int.reduceNeg, Int.reduceSub, Int.reduceToNat, Nat.reduceAdd, Nat.reduceEqDiff, Nat.reduceLT, Nat.reduceLeDiff, Nat.reduceMul, Nat.reduceSub, if_false, if_true, ite_false, ite_true, reduceIte, Ty.row, tyAll, u0', u1', Tm.row, tmAll]
  | .app a b => by
    have u0 := ownTm sh a
    have u1 := ownTm sh b
    have u2 := ownNo sh
    try simp only [Ty.row, tyAll, Tm.row, tmAll, Int.cast_ofNat_Int] at u0 u1 u2
    have u0' := clR.use u0
    have u1' := clR.use u1
    have u2' := clR.use u2
    refine run_eq (run_of (pf := p53) rfl ?_)
    unfold p53
    simp only [R.loop_eq, wp0, wp1, wp2, wp3, wp4, PV.cellsT, appMax, dropSh, fillB, fillS, putD, splice, src, startSt, Int.reduceAdd, Int.reduceEq, Int.reduceLE, Int.reduceLT, Int.reduceNeg, Int.reduceSub, Int.reduceToNat, Nat.reduceAdd, Nat.reduceEqDiff, Nat.reduceLT, Nat.reduceLeDiff, Nat.reduceMul, Nat.reduceSub, if_false, if_true, ite_false, ite_true, reduceIte, Ty.row, tyAll, u0', u1', u2', Tm.row, tmAll]
  | .zero => by
    have u0 := ownNo sh
    try simp only [Ty.row, tyAll, Tm.row, tmAll, Int.cast_ofNat_Int] at u0
    have u0' := clR.use u0
    refine run_eq (run_of (pf := p53) rfl ?_)
    unfold p53
    simp only [R.loop_eq, wp0, wp1, wp2, wp3, wp4, PV.cellsT, appMax, dropSh, fillB, fillS, putD, splice, src, startSt, Int.reduceAdd, Int.reduceEq, Int.reduceLE, Int.reduceLT, Int.reduceNeg, Int.reduceSub, Int.reduceToNat, Nat.reduceAdd, Nat.reduceEqDiff, Nat.reduceLT, Nat.reduceLeDiff, Nat.reduceMul, Nat.reduceSub, if_false, if_true, ite_false, ite_true, reduceIte, Ty.row, tyAll, u0', Tm.row, tmAll]
  | .succ a => by
    have u0 := ownTm sh a
    have u1 := ownNo sh
    try simp only [Ty.row, tyAll, Tm.row, tmAll, Int.cast_ofNat_Int] at u0 u1
    have u0' := clR.use u0
    have u1' := clR.use u1
    refine run_eq (run_of (pf := p53) rfl ?_)
    unfold p53
    simp only [R.loop_eq, wp0, wp1, wp2, wp3, wp4, PV.cellsT, appMax, dropSh, fillB, fillS, putD, splice, src, startSt, Int.reduceAdd, Int.reduceEq, Int.reduceLE, Int.reduceLT, Int.reduceNeg, Int.reduceSub, Int.reduceToNat, Nat.reduceAdd, Nat.reduceEqDiff, Nat.reduceLT, Nat.reduceLeDiff, Nat.reduceMul, Nat.reduceSub, if_false, if_true, ite_false, ite_true, reduceIte, Ty.row, tyAll, u0', u1', Tm.row, tmAll]
  | .recu s a b c => by
    have u0 := ownTm sh a
    have u1 := ownTm sh b
    have u2 := ownTm sh c
    have u3 := own49 sh s
    try simp only [Ty.row, tyAll, Tm.row, tmAll, Int.cast_ofNat_Int] at u0 u1 u2 u3
    have u0' := clR.use u0
    have u1' := clR.use u1
    have u2' := clR.use u2
    have u3' := clR.use u3
    refine run_eq (run_of (pf := p53) rfl ?_)
    unfold p53
    simp only [R.loop_eq, wp0, wp1, wp2, wp3, wp4, PV.cellsT, appMax, dropSh, fillB, fillS, putD, splice, src, startSt, Int.reduceAdd, Int.reduceEq, Int.reduceLE, Int.reduceLT, Int.reduceNeg, Int.reduceSub, Int.reduceToNat, Nat.reduceAdd, Nat.reduceEqDiff, Nat.reduceLT, Nat.reduceLeDiff, Nat.reduceMul, Nat.reduceSub, if_false, if_true, ite_false, ite_true, reduceIte, Ty.row, tyAll, u0', u1', u2', u3', Tm.row, tmAll]
  | .nil => by
    have u0 := ownNo sh
    try simp only [Ty.row, tyAll, Tm.row, tmAll, Int.cast_ofNat_Int] at u0
    have u0' := clR.use u0
    refine run_eq (run_of (pf := p53) rfl ?_)
    unfold p53
    simp only [R.loop_eq, wp0, wp1, wp2, wp3, wp4, PV.cellsT, appMax, dropSh, fillB, fillS, putD, splice, src, startSt, Int.reduceAdd, Int.reduceEq, Int.reduceLE, Int.reduceLT, Int.reduceNeg, Int.reduceSub, Int.reduceToNat, Nat.reduceAdd, Nat.reduceEqDiff, Nat.reduceLT, Nat.reduceLeDiff, Nat.reduceMul, Nat.reduceSub, if_false, if_true, ite_false, ite_true, reduceIte, Ty.row, tyAll, u0', Tm.row, tmAll]
  | .cons a b => by
    have u0 := ownTm sh a
    have u1 := ownTm sh b
    have u2 := ownNo sh
    try simp only [Ty.row, tyAll, Tm.row, tmAll, Int.cast_ofNat_Int] at u0 u1 u2
    have u0' := clR.use u0
    have u1' := clR.use u1
    have u2' := clR.use u2
    refine run_eq (run_of (pf := p53) rfl ?_)
    unfold p53
    simp only [R.loop_eq, wp0, wp1, wp2, wp3, wp4, PV.cellsT, appMax, dropSh, fillB, fillS, putD, splice, src, startSt, Int.reduceAdd, Int.reduceEq, Int.reduceLE, Int.reduceLT, Int.reduceNeg, Int.reduceSub, Int.reduceToNat, Nat.reduceAdd, Nat.reduceEqDiff, Nat.reduceLT, Nat.reduceLeDiff, Nat.reduceMul, Nat.reduceSub, if_false, if_true, ite_false, ite_true, reduceIte, Ty.row, tyAll, u0', u1', u2', Tm.row, tmAll]
  | .fold s a b c => by
    have u0 := ownTm sh a
    have u1 := ownTm sh b
    have u2 := ownTm sh c
    have u3 := own49 sh s
    try simp only [Ty.row, tyAll, Tm.row, tmAll, Int.cast_ofNat_Int] at u0 u1 u2 u3
    have u0' := clR.use u0
    have u1' := clR.use u1
    have u2' := clR.use u2
    have u3' := clR.use u3
    refine run_eq (run_of (pf := p53) rfl ?_)
    unfold p53
    simp only [R.loop_eq, wp0, wp1, wp2, wp3, wp4, PV.cellsT, appMax, dropSh, fillB, fillS, putD, splice, src, startSt, Int.reduceAdd, Int.reduceEq, Int.reduceLE, Int.reduceLT, Int.reduceNeg, Int.reduceSub, Int.reduceToNat, Nat.reduceAdd, Nat.reduceEqDiff, Nat.reduceLT, Nat.reduceLeDiff, Nat.reduceMul, Nat.reduceSub, if_false, if_true, ite_false, ite_true, reduceIte, Ty.row, tyAll, u0', u1', u2', u3', Tm.row, tmAll]
  | .pair a b => by
    have u0 := ownTm sh a
    have u1 := ownTm sh b
    have u2 := ownNo sh
    try simp only [Ty.row, tyAll, Tm.row, tmAll, Int.cast_ofNat_Int] at u0 u1 u2
    have u0' := clR.use u0
    have u1' := clR.use u1
    have u2' := clR.use u2
    refine run_eq (run_of (pf := p53) rfl ?_)
    unfold p53
    simp only [R.loop_eq, wp0, wp1, wp2, wp3, wp4, PV.cellsT, appMax, dropSh, fillB, fillS, putD, splice, src, startSt, Int.reduceAdd, Int.reduceEq, Int.reduceLE, Int.reduceLT, Int.reduceNeg, Int.reduceSub, Int.reduceToNat, Nat.reduceAdd, Nat.reduceEqDiff, Nat.reduceLT, Nat.reduceLeDiff, Nat.reduceMul, Nat.reduceSub, if_false, if_true, ite_false, ite_true, reduceIte, Ty.row, tyAll, u0', u1', u2', Tm.row, tmAll]
  | .fst a => by
    have u0 := ownTm sh a
    have u1 := ownNo sh
    try simp only [Ty.row, tyAll, Tm.row, tmAll, Int.cast_ofNat_Int] at u0 u1
    have u0' := clR.use u0
    have u1' := clR.use u1
    refine run_eq (run_of (pf := p53) rfl ?_)
    unfold p53
    simp only [R.loop_eq, wp0, wp1, wp2, wp3, wp4, PV.cellsT, appMax, dropSh, fillB, fillS, putD, splice, src, startSt, Int.reduceAdd, Int.reduceEq, Int.reduceLE, Int.reduceLT, Int.reduceNeg, Int.reduceSub, Int.reduceToNat, Nat.reduceAdd, Nat.reduceEqDiff, Nat.reduceLT, Nat.reduceLeDiff, Nat.reduceMul, Nat.reduceSub, if_false, if_true, ite_false, ite_true, reduceIte, Ty.row, tyAll, u0', u1', Tm.row, tmAll]
  | .snd a => by
    have u0 := ownTm sh a
    have u1 := ownNo sh
    try simp only [Ty.row, tyAll, Tm.row, tmAll, Int.cast_ofNat_Int] at u0 u1
    have u0' := clR.use u0
    have u1' := clR.use u1
    refine run_eq (run_of (pf := p53) rfl ?_)
    unfold p53
    simp only [R.loop_eq, wp0, wp1, wp2, wp3, wp4, PV.cellsT, appMax, dropSh, fillB, fillS, putD, splice, src, startSt, Int.reduceAdd, Int.reduceEq, Int.reduceLE, Int.reduceLT, Int.reduceNeg, Int.reduceSub, Int.reduceToNat, Nat.reduceAdd, Nat.reduceEqDiff, Nat.reduceLT, Nat.reduceLeDiff, Nat.reduceMul, Nat.reduceSub, if_false, if_true, ite_false, ite_true, reduceIte, Ty.row, tyAll, u0', u1', Tm.row, tmAll]
  | .unit => by
    have u0 := ownNo sh
    try simp only [Ty.row, tyAll, Tm.row, tmAll, Int.cast_ofNat_Int] at u0
    have u0' := clR.use u0
    refine run_eq (run_of (pf := p53) rfl ?_)
    unfold p53
    simp only [R.loop_eq, wp0, wp1, wp2, wp3, wp4, PV.cellsT, appMax, dropSh, fillB, fillS, putD, splice, src, startSt, Int.reduceAdd, Int.reduceEq, Int.reduceLE, Int.reduceLT, Int.reduceNeg, Int.reduceSub, Int.reduceToNat, Nat.reduceAdd, Nat.reduceEqDiff, Nat.reduceLT, Nat.reduceLeDiff, Nat.reduceMul, Nat.reduceSub, if_false, if_true, ite_false, ite_true, reduceIte, Ty.row, tyAll, u0', Tm.row, tmAll]
theorem size19 (sh : Sh) (t : Tm) (ho : t.ok) (h : t.size ≤ 4096) : ∃ n, callN T G n 19 [.ag t.row] sh = some (.tup [i64 t.size, i64 0], sh) := by
  have u0 := checkTerm sh t ho h
  try simp only [Ty.row, tyAll, Tm.row, tmAll, Int.cast_ofNat_Int] at u0
  have u0' := clR.use u0
  refine run_eq (run_of (pf := p19) rfl ?_)
  unfold p19
  simp only [R.loop_eq, wp0, wp1, wp2, wp3, wp4, PV.cellsT, appMax, dropSh, fillB, fillS, putD, splice, src, startSt, Int.reduceAdd, Int.reduceEq, Int.reduceLE, Int.reduceLT, Int.reduceNeg, Int.reduceSub, Int.reduceToNat, Nat.reduceAdd, Nat.reduceEqDiff, Nat.reduceLT, Nat.reduceLeDiff, Nat.reduceMul, Nat.reduceSub, if_false, if_true, ite_false, ite_true, reduceIte, Ty.row, tyAll, u0', Tm.row, tmAll]
theorem of75_0 (sh : Sh) (k : Int) : ∃ n, callN T G n 75 [i64 k, .sl 0 0 []] sh = some (.ag [i64 k, i64 0, i64 0, .sl 0 0 [], .sl 0 0 []], sh) := by
  refine run_eq (run_of (pf := p75) rfl ?_)
  unfold p75
  simp only [R.loop_eq, wp0, wp1, wp2, wp3, wp4, PV.cellsT, appMax, dropSh, fillB, fillS, putD, splice, src, startSt, Int.reduceAdd, Int.reduceEq, Int.reduceLE, Int.reduceLT, Int.reduceNeg, Int.reduceSub, Int.reduceToNat, Nat.reduceAdd, Nat.reduceEqDiff, Nat.reduceLT, Nat.reduceLeDiff, Nat.reduceMul, Nat.reduceSub, if_false, if_true, ite_false, ite_true, reduceIte, Ty.row, tyAll, Tm.row, tmAll]
theorem of75_1 (sh : Sh) (k : Int) (a : Tm) : ∃ n, callN T G n 75 [i64 k, .sl 0 5 [a.row]] sh = some (.ag [i64 k, i64 0, i64 0, .sl 0 0 [], .sl 0 5 [a.row]], sh) := by
  refine run_eq (run_of (pf := p75) rfl ?_)
  unfold p75
  simp only [R.loop_eq, wp0, wp1, wp2, wp3, wp4, PV.cellsT, appMax, dropSh, fillB, fillS, putD, splice, src, startSt, Int.reduceAdd, Int.reduceEq, Int.reduceLE, Int.reduceLT, Int.reduceNeg, Int.reduceSub, Int.reduceToNat, Nat.reduceAdd, Nat.reduceEqDiff, Nat.reduceLT, Nat.reduceLeDiff, Nat.reduceMul, Nat.reduceSub, if_false, if_true, ite_false, ite_true, reduceIte, Ty.row, tyAll, Tm.row, tmAll]
theorem of75_2 (sh : Sh) (k : Int) (a b : Tm) : ∃ n, callN T G n 75 [i64 k, .sl 0 5 [a.row, b.row]] sh = some (.ag [i64 k, i64 0, i64 0, .sl 0 0 [], .sl 0 5 [a.row, b.row]], sh) := by
  refine run_eq (run_of (pf := p75) rfl ?_)
  unfold p75
  simp only [R.loop_eq, wp0, wp1, wp2, wp3, wp4, PV.cellsT, appMax, dropSh, fillB, fillS, putD, splice, src, startSt, Int.reduceAdd, Int.reduceEq, Int.reduceLE, Int.reduceLT, Int.reduceNeg, Int.reduceSub, Int.reduceToNat, Nat.reduceAdd, Nat.reduceEqDiff, Nat.reduceLT, Nat.reduceLeDiff, Nat.reduceMul, Nat.reduceSub, if_false, if_true, ite_false, ite_true, reduceIte, Ty.row, tyAll, Tm.row, tmAll]
theorem of75_3 (sh : Sh) (k : Int) (a b c : Tm) : ∃ n, callN T G n 75 [i64 k, .sl 0 5 [a.row, b.row, c.row]] sh = some (.ag [i64 k, i64 0, i64 0, .sl 0 0 [], .sl 0 5 [a.row, b.row, c.row]], sh) := by
  refine run_eq (run_of (pf := p75) rfl ?_)
  unfold p75
  simp only [R.loop_eq, wp0, wp1, wp2, wp3, wp4, PV.cellsT, appMax, dropSh, fillB, fillS, putD, splice, src, startSt, Int.reduceAdd, Int.reduceEq, Int.reduceLE, Int.reduceLT, Int.reduceNeg, Int.reduceSub, Int.reduceToNat, Nat.reduceAdd, Nat.reduceEqDiff, Nat.reduceLT, Nat.reduceLeDiff, Nat.reduceMul, Nat.reduceSub, if_false, if_true, ite_false, ite_true, reduceIte, Ty.row, tyAll, Tm.row, tmAll]
theorem app54_2 (sh : Sh) (f a b : Tm) : ∃ n, callN T G n 54 [.ag f.row, .sl 0 5 [a.row, b.row]] sh = some (.ag (Tm.app (Tm.app f a) b).row, sh) := by
  have u0 := of75_2 sh 3 f a
  have u1 := of75_2 sh 3 (.app f a) b
  try simp only [Ty.row, tyAll, Tm.row, tmAll, Int.cast_ofNat_Int] at u0 u1
  have u0' := clR.use u0
  have u1' := clR.use u1
  refine run_eq (run_of (pf := p54) rfl ?_)
  unfold p54
  simp only [R.loop_eq, wp0, wp1, wp2, wp3, wp4, PV.cellsT, appMax, dropSh, fillB, fillS, putD, splice, src, startSt, Int.reduceAdd, Int.reduceEq, Int.reduceLE, Int.reduceLT, Int.reduceNeg, Int.reduceSub, Int.reduceToNat, Nat.reduceAdd, Nat.reduceEqDiff, Nat.reduceLT, Nat.reduceLeDiff, Nat.reduceMul, Nat.reduceSub, if_false, if_true, ite_false, ite_true, reduceIte, Ty.row, tyAll, u0', u1', Tm.row, tmAll]
theorem apply20_2 (sh : Sh) (f a b : Tm) (h1 : f.ok) (h2 : a.ok) (h3 : b.ok) (hs : f.size + a.size + b.size + 2 ≤ 4096) :
    ∃ n, callN T G n 20 [.ag f.row, .sl 0 5 [a.row, b.row]] sh = some (.tup [.ag (Tm.app (Tm.app f a) b).row, i64 0], sh) := by
  have w1 : IntKind.i64.wrap ((a.size : Int) + 1) = (a.size : Int) + 1 := wrap_i64 (by omega)
  have w2 : IntKind.i64.wrap ((f.size : Int) + ((a.size : Int) + 1)) = (f.size : Int) + ((a.size : Int) + 1) := wrap_i64 (by omega)
  have w3 : IntKind.i64.wrap ((b.size : Int) + 1) = (b.size : Int) + 1 := wrap_i64 (by omega)
  have w4 : IntKind.i64.wrap ((f.size : Int) + ((a.size : Int) + 1) + ((b.size : Int) + 1)) = (f.size : Int) + ((a.size : Int) + 1) + ((b.size : Int) + 1) := wrap_i64 (by omega)
  have c1 : ¬ (4096 : Int) < (f.size : Int) + ((a.size : Int) + 1) + ((b.size : Int) + 1) := by omega
  have u0 := checkTerm sh f h1 (by omega)
  have u1 := checkTerm sh a h2 (by omega)
  have u2 := checkTerm sh b h3 (by omega)
  have u3 := app54_2 sh f a b
  have u4 := ownTm sh (.app (.app f a) b)
  try simp only [Ty.row, tyAll, Tm.row, tmAll, Int.cast_ofNat_Int] at u0 u1 u2 u3 u4
  have u0' := clR.use u0
  have u1' := clR.use u1
  have u2' := clR.use u2
  have u3' := clR.use u3
  have u4' := clR.use u4
  refine run_eq (run_of (pf := p20) rfl ?_)
  unfold p20
  simp only [R.loop_eq, wp0, wp1, wp2, wp3, wp4, PV.cellsT, appMax, dropSh, fillB, fillS, putD, splice, src, startSt, Int.reduceAdd, Int.reduceEq, Int.reduceLE, Int.reduceLT, Int.reduceNeg, Int.reduceSub, Int.reduceToNat, Nat.reduceAdd, Nat.reduceEqDiff, Nat.reduceLT, Nat.reduceLeDiff, Nat.reduceMul, Nat.reduceSub, if_false, if_true, ite_false, ite_true, reduceIte, Ty.row, tyAll, u0', u1', u2', u3', u4', Tm.row, tmAll, w1, w2, w3, w4, c1]
theorem law5 (l : List Int) : ∃ n sh', callN T G n 5 [ints .i64 l] ⟨[], 0⟩ = some (.v (.bool true), sh') := by
  have u0 := clR.use (sane8 ⟨[], 0⟩)
  have u1 := few9 ⟨[], 0⟩ l
  unfold ints at u1
  by_cases hl : l.length ≤ 500
  · have e : decide (l.length ≤ 500) = true := decide_eq_true hl
    rw [e] at u1
    have u1' := clR.use u1
    have u2 := new10 l
    unfold ints at u2
    have u2' := clR.use u2
    obtain ⟨g, zg, a1, hz, hg, hb, ha1, m3⟩ := context11 l hl 0 (Nat.zero_le _)
    obtain ⟨s1, a2, hs2, ha2, m4⟩ := type12 l hl 1 a1 (by omega) ha1
    obtain ⟨x, a3, hx, ex, ha3, m5⟩ := rec_two l hl g zg s1 a2 hz (by omega) hb (by omega) trivial ha2
    obtain ⟨s2, a4, hs4, ha4, m6⟩ := type12 l hl 1 a3 (by omega) ha3
    obtain ⟨y, a5, hy, ey, ha5, m7⟩ := rec_two l hl g zg s2 a4 hz (by omega) hb (by omega) trivial ha4
    obtain ⟨s3, a6, hs6, ha6, m8⟩ := type12 l hl 1 a5 (by omega) ha5
    obtain ⟨z, a7, hzz, ez, ha7, m9⟩ := rec_one l hl g zg s3 a6 hz (by omega) hb (by omega) trivial ha6
    obtain ⟨s4, a8, hs8, ha8, m10⟩ := type12 l hl 1 a7 (by omega) ha7
    have m11 := size19 (dk l a7) x hx.ok (by omega)
    have m12 := size19 (dk l a7) y hy.ok (by omega)
    have m13 := size19 (dk l a7) z hzz.ok (by omega)
    have m14 := apply20_2 (dk l a7) x y z hx.ok hy.ok hzz.ok (by omega)
    have hok : (Tm.app (Tm.app x y) z).ok := ⟨⟨hx.ok, hy.ok⟩, hzz.ok⟩
    have m15 := size19 (dk l a7) (.app (.app x y) z) hok (by simp only [Tm.size]; omega)
    have m16 := t1 (dk l a8) 2 x s4
    have hlam : (Tm.lam s4 x).ok := ⟨by omega, hx.ok⟩
    have m17 := size19 (dk l a8) (.lam s4 x) hlam (by simp only [Tm.size]; omega)
    have w1 : IntKind.i64.wrap ((x.size : Int) + (y.size : Int)) = (x.size : Int) + (y.size : Int) := wrap_i64 (by omega)
    have w2 : IntKind.i64.wrap ((x.size : Int) + (y.size : Int) + (z.size : Int)) = (x.size : Int) + (y.size : Int) + (z.size : Int) := wrap_i64 (by omega)
    have w3 : IntKind.i64.wrap ((x.size : Int) + (y.size : Int) + (z.size : Int) + 2) = (x.size : Int) + (y.size : Int) + (z.size : Int) + 2 := wrap_i64 (by omega)
    have w4 : IntKind.i64.wrap ((x.size : Int) + 1) = (x.size : Int) + 1 := wrap_i64 (by omega)
    have d1 : ((Tm.app (Tm.app x y) z).size : Int) = (x.size : Int) + (y.size : Int) + (z.size : Int) + 2 := by simp only [Tm.size]; omega
    have d2 : ((Tm.lam s4 x).size : Int) = (x.size : Int) + 1 := by simp only [Tm.size]; omega
    rw [d1] at m15
    rw [d2] at m17
    simp only [Ty.row, tyAll, Tm.row, tmAll, Int.cast_ofNat_Int] at m3 m4 m5 m6 m7 m8 m9 m10 m11 m12 m13 m14 m15 m16 m17
    have v3 := clR.use m3
    have v4 := clR.use m4
    have v5 := clR.use m5
    have v6 := clR.use m6
    have v7 := clR.use m7
    have v8 := clR.use m8
    have v9 := clR.use m9
    have v10 := clR.use m10
    have v11 := clR.use m11
    have v12 := clR.use m12
    have v13 := clR.use m13
    have v14 := clR.use m14
    have v15 := clR.use m15
    have v16 := clR.use m16
    have v17 := clR.use m17
    refine ⟨_, dk l a8, (run_eq (run_of (pf := p5) rfl ?_)).choose_spec⟩
    unfold p5 ints
    simp only [R.loop_eq, wp0, wp1, wp2, wp3, wp4, PV.cellsT, appMax, dropSh, fillB, fillS, putD, splice, src, startSt, Int.reduceAdd, Int.reduceEq, Int.reduceLE, Int.reduceLT, Int.reduceNeg, Int.reduceSub, Int.reduceToNat, Nat.reduceAdd, Nat.reduceEqDiff, Nat.reduceLT, Nat.reduceLeDiff, Nat.reduceMul, Nat.reduceSub, if_false, if_true, ite_false, ite_true, reduceIte, Ty.row, tyAll, Tm.row, tmAll, u0, u1', u2', v3, v4, v5, v6, v7, v8, v9, v10, v11, v12, v13, v14, v15, v16, v17, w1, w2, w3, w4]
  · have e : decide (l.length ≤ 500) = false := decide_eq_false hl
    rw [e] at u1
    have u1' := clR.use u1
    refine ⟨_, ⟨[], 0⟩, (run_eq (run_of (pf := p5) rfl ?_)).choose_spec⟩
    unfold p5 ints
    simp only [R.loop_eq, wp0, wp1, wp2, wp3, wp4, PV.cellsT, appMax, dropSh, fillB, fillS, putD, splice, src, startSt, Int.reduceAdd, Int.reduceEq, Int.reduceLE, Int.reduceLT, Int.reduceNeg, Int.reduceSub, Int.reduceToNat, Nat.reduceAdd, Nat.reduceEqDiff, Nat.reduceLT, Nat.reduceLeDiff, Nat.reduceMul, Nat.reduceSub, if_false, if_true, ite_false, ite_true, reduceIte, u0, u1']
end Go.Pi.Terms
