import Derived.Test.YtoljfmfmdghoeaaGreatDoorSI
import Derived.Test.YtoljfmfmdghoeaaGreatDoorSE
set_option maxRecDepth 100000
set_option maxHeartbeats 1000000
set_option linter.unusedSimpArgs false
set_option linter.unusedVariables false
namespace Go.Pi.Terms
open Go Go.Pi Go.Proofs.YtoljfmfmdghoeaaGreatDoor
theorem limits10_4 (sh : Sh) : ∃ n, callN T G n 10 [i64 4] sh = some (.v (.bool true), sh) := by
  refine run_eq (run_of (pf := p10) rfl ?_)
  unfold p10
  simp only [R.loop_eq, wp0, wp1, wp2, wp3, wp4, PV.cellsT, appMax, dropSh, fillB, fillS, putD, splice, src, startSt, Int.reduceAdd, Int.reduceEq, Int.reduceLE, Int.reduceLT, Int.reduceNeg, Int.reduceSub, Int.reduceToNat, Nat.reduceAdd, Nat.reduceDiv, Nat.reduceEqDiff, Nat.reduceLT, Nat.reduceLeDiff, Nat.reduceMod, Nat.reduceMul, Nat.reduceSub, eq_self, if_false, if_true, ite_false, ite_true, reduceIte, Ty.row, tyAll, Tm.row, tmAll, eqR, reflR]
theorem limits10_5 (sh : Sh) : ∃ n, callN T G n 10 [i64 5] sh = some (.v (.bool true), sh) := by
  refine run_eq (run_of (pf := p10) rfl ?_)
  unfold p10
  simp only [R.loop_eq, wp0, wp1, wp2, wp3, wp4, PV.cellsT, appMax, dropSh, fillB, fillS, putD, splice, src, startSt, Int.reduceAdd, Int.reduceEq, Int.reduceLE, Int.reduceLT, Int.reduceNeg, Int.reduceSub, Int.reduceToNat, Nat.reduceAdd, Nat.reduceDiv, Nat.reduceEqDiff, Nat.reduceLT, Nat.reduceLeDiff, Nat.reduceMod, Nat.reduceMul, Nat.reduceSub, eq_self, if_false, if_true, ite_false, ite_true, reduceIte, Ty.row, tyAll, Tm.row, tmAll, eqR, reflR]
theorem same30 (sh : Sh) (a b : Ty) : ∃ n, callN T G n 30 [.ag a.row, .ag b.row] sh = some (.v (.bool (decide (a = b))), sh) := by
  have u0 := sameType sh a b
  try simp only [Ty.row, tyAll, Tm.row, tmAll, eqR, reflR, Int.cast_ofNat_Int] at u0
  have u0' := clR.use u0
  refine run_eq (run_of (pf := p30) rfl ?_)
  unfold p30
  simp only [R.loop_eq, wp0, wp1, wp2, wp3, wp4, PV.cellsT, appMax, dropSh, fillB, fillS, putD, splice, src, startSt, Int.reduceAdd, Int.reduceEq, Int.reduceLE, Int.reduceLT, Int.reduceNeg, Int.reduceSub, Int.reduceToNat, Nat.reduceAdd, Nat.reduceDiv, Nat.reduceEqDiff, Nat.reduceLT, Nat.reduceLeDiff, Nat.reduceMod, Nat.reduceMul, Nat.reduceSub, eq_self, if_false, if_true, ite_false, ite_true, reduceIte, Ty.row, tyAll, Tm.row, tmAll, eqR, reflR, u0']
theorem equation15 (t u : Tm) (N : Nat) (bx : List (Nat × List PV)) (nx : Nat) (hs : Simp t N u) (ht : HasTy [] t .nat) (hsz : t.size ≤ 2000) :
    ∃ nx' n, callN T G n 15 [.ag t.row] ⟨bx, nx⟩ = some (.tup [.ag (eqR t u), .ag (reflR t), i64 0], ⟨bx, nx'⟩) := by
  have h0 : ∀ v ∈ ([] : List Ty), v.nodes ≤ 64 := fun _ h => by cases h
  have hu := hs.typed h0 ht
  have hle := hs.le
  obtain ⟨m, hm⟩ := term16 [] h0 (by simp) .nat t u N bx nx hs ht (by omega)
  have q1 := typeOf14 ⟨bx, nx⟩ ht 0 (fun h => (h rfl).elim) (by simp) h0 (by omega)
  simp only [List.map_nil] at q1
  have q2 := same30 ⟨bx, nx⟩ .nat .nat
  have d : decide (Ty.nat = Ty.nat) = true := by decide
  rw [d] at q2
  refine ⟨m, ?_⟩
  have u0 := q1
  have u1 := q2
  have u2 := hm
  have u3 := fcheck31 ⟨bx, m⟩ t u ht.ok hu.ok (by omega)
  try simp only [Ty.row, tyAll, Tm.row, tmAll, eqR, reflR, Int.cast_ofNat_Int] at u0 u1 u2 u3
  have u0' := clR.use u0
  have u1' := clR.use u1
  have u2' := clR.use u2
  have u3' := clR.use u3
  refine run_eq (run_of (pf := p15) rfl ?_)
  unfold p15
  simp only [R.loop_eq, wp0, wp1, wp2, wp3, wp4, PV.cellsT, appMax, dropSh, fillB, fillS, putD, splice, src, startSt, Int.reduceAdd, Int.reduceEq, Int.reduceLE, Int.reduceLT, Int.reduceNeg, Int.reduceSub, Int.reduceToNat, Nat.reduceAdd, Nat.reduceDiv, Nat.reduceEqDiff, Nat.reduceLT, Nat.reduceLeDiff, Nat.reduceMod, Nat.reduceMul, Nat.reduceSub, eq_self, if_false, if_true, ite_false, ite_true, reduceIte, Ty.row, tyAll, Tm.row, tmAll, eqR, reflR, u0', u1', u2', u3']
theorem nat67 (sh : Sh) : ∃ n, callN T G n 67 [] sh = some (.ag Ty.nat.row, sh) := by
  refine run_eq (run_of (pf := p67) rfl ?_)
  unfold p67
  simp only [R.loop_eq, wp0, wp1, wp2, wp3, wp4, PV.cellsT, appMax, dropSh, fillB, fillS, putD, splice, src, startSt, Int.reduceAdd, Int.reduceEq, Int.reduceLE, Int.reduceLT, Int.reduceNeg, Int.reduceSub, Int.reduceToNat, Nat.reduceAdd, Nat.reduceDiv, Nat.reduceEqDiff, Nat.reduceLT, Nat.reduceLeDiff, Nat.reduceMod, Nat.reduceMul, Nat.reduceSub, eq_self, if_false, if_true, ite_false, ite_true, reduceIte, Ty.row, tyAll, Tm.row, tmAll, eqR, reflR]
theorem nat28 (sh : Sh) : ∃ n, callN T G n 28 [] sh = some (.ag Ty.nat.row, sh) := by
  have u0 := nat67 sh
  try simp only [Ty.row, tyAll, Tm.row, tmAll, eqR, reflR, Int.cast_ofNat_Int] at u0
  have u0' := clR.use u0
  refine run_eq (run_of (pf := p28) rfl ?_)
  unfold p28
  simp only [R.loop_eq, wp0, wp1, wp2, wp3, wp4, PV.cellsT, appMax, dropSh, fillB, fillS, putD, splice, src, startSt, Int.reduceAdd, Int.reduceEq, Int.reduceLE, Int.reduceLT, Int.reduceNeg, Int.reduceSub, Int.reduceToNat, Nat.reduceAdd, Nat.reduceDiv, Nat.reduceEqDiff, Nat.reduceLT, Nat.reduceLeDiff, Nat.reduceMod, Nat.reduceMul, Nat.reduceSub, eq_self, if_false, if_true, ite_false, ite_true, reduceIte, Ty.row, tyAll, Tm.row, tmAll, eqR, reflR, u0']
variable [Inhabited DkT]
theorem number14 (l : List Int) (hl : l.length ≤ 500) : ∃ (x : Tm) (a : Nat), HasTy [] x .nat ∧ x.size ≤ 2000 ∧ ∃ n, callN T G n 14 [.sp mm 0] (dk l 0) = some (.ag x.row, dk l a) := by
  obtain ⟨x, a, hx, ex, ha, m⟩ := rec_two l hl [] 0 .nat 0 (fun h => (h rfl).elim) (by simp) (fun _ h => by cases h) (by decide) trivial (Nat.zero_le _)
  refine ⟨x, a, hx, by omega, ?_⟩
  have m2 := nat28 (dk l 0)
  simp only [Ty.row, tyAll, Tm.row, tmAll, eqR, reflR, List.map_nil, Int.cast_ofNat_Int] at m m2
  have v := clR.use m
  have v2 := clR.use m2
  refine run_eq (run_of (pf := p14) rfl ?_)
  unfold p14
  simp only [R.loop_eq, wp0, wp1, wp2, wp3, wp4, PV.cellsT, appMax, dropSh, fillB, fillS, putD, splice, src, startSt, Int.reduceAdd, Int.reduceEq, Int.reduceLE, Int.reduceLT, Int.reduceNeg, Int.reduceSub, Int.reduceToNat, Nat.reduceAdd, Nat.reduceDiv, Nat.reduceEqDiff, Nat.reduceLT, Nat.reduceLeDiff, Nat.reduceMod, Nat.reduceMul, Nat.reduceSub, eq_self, if_false, if_true, ite_false, ite_true, reduceIte, Ty.row, tyAll, Tm.row, tmAll, eqR, reflR, v, v2]
theorem law4m (hm : mm = 6) (l : List Int) : Runs T G 4 [ints .i64 l] ⟨[], 0⟩ fun r s' => r = .v (.bool true) ∧ True := by
  have u0 := clR.use (awakeM hm)
  have u1 := few9 ⟨[], mm⟩ l
  unfold ints at u1
  by_cases hl : l.length ≤ 500
  · have e : decide (l.length ≤ 500) = true := decide_eq_true hl
    rw [e] at u1
    have u1' := clR.use u1
    have u2 := new10m l
    unfold ints at u2
    have u2' := clR.use u2
    obtain ⟨t, a, ht, hsz, m3⟩ := number14 l hl
    obtain ⟨N, u, hs⟩ := simp_ex t.size t (Nat.le_refl _)
    have h0 : ∀ v ∈ ([] : List Ty), v.nodes ≤ 64 := fun _ h => by cases h
    have hu := hs.typed h0 ht
    have hle := hs.le
    obtain ⟨x1, m4⟩ := equation15 t u N (dk l a).boxes (dk l a).nx hs ht hsz
    obtain ⟨r, m5, er, her, rfl⟩ := accepts16 ⟨(dk l a).boxes, x1⟩ t u ht hu hsz (by omega) hs.reds.conv
    obtain ⟨x2, m6⟩ := term16 [] h0 (by simp) .nat t u N (dk l a).boxes x1 hs ht (by omega)
    have m7 := same17 ⟨(dk l a).boxes, x2⟩ t t
    have m8 := same17 ⟨(dk l a).boxes, x2⟩ u u
    have l4 := limits10_4 ⟨(dk l a).boxes, x2⟩
    have l5 := limits10_5 ⟨(dk l a).boxes, x2⟩
    have m4' : ∃ n, callN T G n 15 [.ag t.row] (dk l a) = some (.tup [.ag (eqR t u), .ag (reflR t), i64 0], ⟨(dk l a).boxes, x1⟩) := m4
    simp only [Ty.row, tyAll, Tm.row, tmAll, eqR, reflR, Int.cast_ofNat_Int, List.map_nil] at m3 m4' m5 m6 m7 m8
    have v3 := clR.use m3
    have v4 := clR.use m4'
    have v5 := clR.use m5
    have v6 := clR.use m6
    have v7 := clR.use m7
    have v8 := clR.use m8
    have w4 := clR.use l4
    have w5 := clR.use l5
    refine run_of (pf := p4) rfl ?_
    unfold p4 ints
    rcases her with rfl | rfl | rfl <;>
      simp only [R.loop_eq, wp0, wp1, wp2, wp3, wp4, PV.cellsT, appMax, dropSh, fillB, fillS, putD, splice, src, startSt, Int.reduceAdd, Int.reduceEq, Int.reduceLE, Int.reduceLT, Int.reduceNeg, Int.reduceSub, Int.reduceToNat, Nat.reduceAdd, Nat.reduceDiv, Nat.reduceEqDiff, Nat.reduceLT, Nat.reduceLeDiff, Nat.reduceMod, Nat.reduceMul, Nat.reduceSub, eq_self, if_false, if_true, ite_false, ite_true, reduceIte, Ty.row, tyAll, Tm.row, tmAll, eqR, reflR, u0, u1', u2', v3, v4, v5, v6, v7, v8, w4, w5, decide_true]
  · have e : decide (l.length ≤ 500) = false := decide_eq_false hl
    rw [e] at u1
    have u1' := clR.use u1
    have u3 := clR.use awakeB
    rw [← hm] at u3
    refine run_of (pf := p4) rfl ?_
    unfold p4 ints
    simp only [wp0, wp1, wp2, wp3, wp4, PV.cellsT, appMax, dropSh, fillB, fillS, putD, splice, src, startSt, Int.reduceAdd, Int.reduceEq, Int.reduceLE, Int.reduceLT, Int.reduceNeg, Int.reduceSub, Int.reduceToNat, Nat.reduceAdd, Nat.reduceDiv, Nat.reduceEqDiff, Nat.reduceLT, Nat.reduceLeDiff, Nat.reduceMod, Nat.reduceMul, Nat.reduceSub, eq_self, if_false, if_true, ite_false, ite_true, reduceIte, u0, u1', u3]
omit [Inhabited DkT] in
theorem law4 (l : List Int) : ∃ n sh', callN T G n 4 [ints .i64 l] ⟨[], 0⟩ = some (.v (.bool true), sh') := by
  obtain ⟨n, sh', h, _⟩ := run_ex (@law4m ⟨⟨6⟩⟩ rfl l)
  exact ⟨n, sh', h⟩
end Go.Pi.Terms
