import Derived.Test.YtoljfmfmdghoeaaDoorSE
set_option maxRecDepth 100000
set_option maxHeartbeats 1000000
set_option linter.unusedSimpArgs false
set_option linter.unusedVariables false
namespace Go.Pi.Terms
open Go Go.Pi Go.Proofs.YtoljfmfmdghoeaaDoor
variable [Inhabited DkT]
theorem plain41 (l : List Int) (hl : l.length ≤ 500) (at_ : Nat) (ha : at_ ≤ l.length) :
    ∃ (t : Ty) (at' : Nat), t.nodes ≤ 3 ∧ at' ≤ l.length ∧ ∃ n, callN T G n 41 [.sp mm 0] (dk l at_) = some (.ag t.row, dk l at') := by
  obtain ⟨r, a1, hr, ha1, hn⟩ := next36 l at_ 6 (by omega) ha hl
  have u := clR.use hn
  have hx : r = 0 ∨ r = 1 ∨ r = 2 ∨ r = 3 ∨ r = 4 ∨ r = 5 := by omega
  rcases hx with rfl | rfl | rfl | rfl | rfl | rfl
  · refine ⟨.nat, a1, by decide, ha1, ?_⟩
    have u0 := nat34 (dk l a1)
    try simp only [Ty.row, tyAll, Tm.row, tmAll, Int.cast_ofNat_Int] at u0
    have u0' := clR.use u0
    refine run_eq (run_of (pf := p41) rfl ?_)
    unfold p41
    simp only [R.loop_eq, wp0, wp1, wp2, wp3, wp4, PV.cellsT, appMax, dropSh, fillB, fillS, putD, splice, src, startSt, Int.reduceAdd, Int.reduceEq, Int.reduceLE, Int.reduceLT, Int.reduceNeg, Int.reduceSub, Int.reduceToNat, Nat.reduceAdd, Nat.reduceDiv, Nat.reduceEqDiff, Nat.reduceLT, Nat.reduceLeDiff, Nat.reduceMod, Nat.reduceMul, Nat.reduceSub, eq_self, if_false, if_true, ite_false, ite_true, reduceIte, Ty.row, tyAll, Tm.row, tmAll, u0', u]
  · refine ⟨.nat, a1, by decide, ha1, ?_⟩
    have u0 := nat34 (dk l a1)
    try simp only [Ty.row, tyAll, Tm.row, tmAll, Int.cast_ofNat_Int] at u0
    have u0' := clR.use u0
    refine run_eq (run_of (pf := p41) rfl ?_)
    unfold p41
    simp only [R.loop_eq, wp0, wp1, wp2, wp3, wp4, PV.cellsT, appMax, dropSh, fillB, fillS, putD, splice, src, startSt, Int.reduceAdd, Int.reduceEq, Int.reduceLE, Int.reduceLT, Int.reduceNeg, Int.reduceSub, Int.reduceToNat, Nat.reduceAdd, Nat.reduceDiv, Nat.reduceEqDiff, Nat.reduceLT, Nat.reduceLeDiff, Nat.reduceMod, Nat.reduceMul, Nat.reduceSub, eq_self, if_false, if_true, ite_false, ite_true, reduceIte, Ty.row, tyAll, Tm.row, tmAll, u0', u]
  · refine ⟨.list, a1, by decide, ha1, ?_⟩
    have u0 := list37 (dk l a1)
    try simp only [Ty.row, tyAll, Tm.row, tmAll, Int.cast_ofNat_Int] at u0
    have u0' := clR.use u0
    refine run_eq (run_of (pf := p41) rfl ?_)
    unfold p41
    simp only [R.loop_eq, wp0, wp1, wp2, wp3, wp4, PV.cellsT, appMax, dropSh, fillB, fillS, putD, splice, src, startSt, Int.reduceAdd, Int.reduceEq, Int.reduceLE, Int.reduceLT, Int.reduceNeg, Int.reduceSub, Int.reduceToNat, Nat.reduceAdd, Nat.reduceDiv, Nat.reduceEqDiff, Nat.reduceLT, Nat.reduceLeDiff, Nat.reduceMod, Nat.reduceMul, Nat.reduceSub, eq_self, if_false, if_true, ite_false, ite_true, reduceIte, Ty.row, tyAll, Tm.row, tmAll, u0', u]
  · refine ⟨.unit, a1, by decide, ha1, ?_⟩
    have u0 := unit38 (dk l a1)
    try simp only [Ty.row, tyAll, Tm.row, tmAll, Int.cast_ofNat_Int] at u0
    have u0' := clR.use u0
    refine run_eq (run_of (pf := p41) rfl ?_)
    unfold p41
    simp only [R.loop_eq, wp0, wp1, wp2, wp3, wp4, PV.cellsT, appMax, dropSh, fillB, fillS, putD, splice, src, startSt, Int.reduceAdd, Int.reduceEq, Int.reduceLE, Int.reduceLT, Int.reduceNeg, Int.reduceSub, Int.reduceToNat, Nat.reduceAdd, Nat.reduceDiv, Nat.reduceEqDiff, Nat.reduceLT, Nat.reduceLeDiff, Nat.reduceMod, Nat.reduceMul, Nat.reduceSub, eq_self, if_false, if_true, ite_false, ite_true, reduceIte, Ty.row, tyAll, Tm.row, tmAll, u0', u]
  · refine ⟨(.pair .nat .list), a1, by decide, ha1, ?_⟩
    have u0 := nat34 (dk l a1)
    have u1 := list37 (dk l a1)
    have u2 := two39 (dk l a1) .nat .list
    try simp only [Ty.row, tyAll, Tm.row, tmAll, Int.cast_ofNat_Int] at u0 u1 u2
    have u0' := clR.use u0
    have u1' := clR.use u1
    have u2' := clR.use u2
    refine run_eq (run_of (pf := p41) rfl ?_)
    unfold p41
    simp only [R.loop_eq, wp0, wp1, wp2, wp3, wp4, PV.cellsT, appMax, dropSh, fillB, fillS, putD, splice, src, startSt, Int.reduceAdd, Int.reduceEq, Int.reduceLE, Int.reduceLT, Int.reduceNeg, Int.reduceSub, Int.reduceToNat, Nat.reduceAdd, Nat.reduceDiv, Nat.reduceEqDiff, Nat.reduceLT, Nat.reduceLeDiff, Nat.reduceMod, Nat.reduceMul, Nat.reduceSub, eq_self, if_false, if_true, ite_false, ite_true, reduceIte, Ty.row, tyAll, Tm.row, tmAll, u0', u1', u2', u]
  · refine ⟨(.pair .nat .nat), a1, by decide, ha1, ?_⟩
    have u0 := nat34 (dk l a1)
    have u1 := two39 (dk l a1) .nat .nat
    try simp only [Ty.row, tyAll, Tm.row, tmAll, Int.cast_ofNat_Int] at u0 u1
    have u0' := clR.use u0
    have u1' := clR.use u1
    refine run_eq (run_of (pf := p41) rfl ?_)
    unfold p41
    simp only [R.loop_eq, wp0, wp1, wp2, wp3, wp4, PV.cellsT, appMax, dropSh, fillB, fillS, putD, splice, src, startSt, Int.reduceAdd, Int.reduceEq, Int.reduceLE, Int.reduceLT, Int.reduceNeg, Int.reduceSub, Int.reduceToNat, Nat.reduceAdd, Nat.reduceDiv, Nat.reduceEqDiff, Nat.reduceLT, Nat.reduceLeDiff, Nat.reduceMod, Nat.reduceMul, Nat.reduceSub, eq_self, if_false, if_true, ite_false, ite_true, reduceIte, Ty.row, tyAll, Tm.row, tmAll, u0', u1', u]
theorem data18 (l : List Int) (hl : l.length ≤ 500) (at_ : Nat) (ha : at_ ≤ l.length) :
    ∃ (x : Tm) (t : Ty) (at' : Nat), HasTy [] x t ∧ x.size ≤ 709 ∧ t.nodes ≤ 3 ∧ at' ≤ l.length ∧ ∃ n, callN T G n 18 [.sp mm 0] (dk l at_) = some (.tup [.ag x.row, .ag t.row], dk l at') := by
  obtain ⟨t, a1, ht, ha1, m1⟩ := plain41 l hl at_ ha
  obtain ⟨x, a2, hx, ex, ha2, m2⟩ := rec_three l hl [] 0 t a1 (fun h => (h rfl).elim) (by simp) (fun _ h => by cases h) ht trivial ha1
  refine ⟨x, t, a2, hx, ex, ht, ha2, ?_⟩
  simp only [Ty.row, tyAll, Tm.row, tmAll, List.map_nil] at m1 m2
  have v1 := clR.use m1
  have v2 := clR.use m2
  refine run_eq (run_of (pf := p18) rfl ?_)
  unfold p18
  simp only [R.loop_eq, wp0, wp1, wp2, wp3, wp4, PV.cellsT, appMax, dropSh, fillB, fillS, putD, splice, src, startSt, Int.reduceAdd, Int.reduceEq, Int.reduceLE, Int.reduceLT, Int.reduceNeg, Int.reduceSub, Int.reduceToNat, Nat.reduceAdd, Nat.reduceDiv, Nat.reduceEqDiff, Nat.reduceLT, Nat.reduceLeDiff, Nat.reduceMod, Nat.reduceMul, Nat.reduceSub, eq_self, if_false, if_true, ite_false, ite_true, reduceIte, Ty.row, tyAll, Tm.row, tmAll, v1, v2]
theorem law4m (hm : mm = 6) (l : List Int) : Runs T G 4 [ints .i64 l] ⟨[], 0⟩ fun r s' => r = .v (.bool true) ∧ True := by
  have u0 := clR.use (awakeM hm)
  have u1 := few9 ⟨[], mm⟩ l
  unfold ints at u1
  by_cases hl : l.length ≤ 500
  · have e : decide (l.length ≤ 500) = true := decide_eq_true hl
    rw [e] at u1
    have u1' := clR.use u1
    have u2 := new10m l
    unfold ints at u2
    have u2' := clR.use u2
    obtain ⟨a, s, a1, ha, ea, hs, hA1, m3⟩ := data18 l hl 0 (Nat.zero_le _)
    obtain ⟨t, a2, ht, hA2, m4⟩ := type12 l hl 1 a1 (by omega) hA1
    obtain ⟨b, a3, hb, eb, hA3, m5⟩ := rec_three l hl [] 0 t a2 (fun h => (h rfl).elim) (by simp) (fun _ h => by cases h) (by omega) trivial hA2
    obtain ⟨n, x, hx⟩ := simp_ex a.size a (Nat.le_refl _)
    obtain ⟨m, y, hy⟩ := simp_ex b.size b (Nat.le_refl _)
    have hxy := hx.pair hy
    have h0 : ∀ v ∈ ([] : List Ty), v.nodes ≤ 64 := fun _ h => by cases h
    have hpn : (Ty.pair s t).nodes ≤ 64 := by simp only [Ty.nodes]; omega
    obtain ⟨x1, m6⟩ := term16 [] h0 (by simp) s a x n (dk l a3).boxes (dk l a3).nx hx ha (by omega)
    obtain ⟨x2, m7⟩ := term16 [] h0 (by simp) t b y m (dk l a3).boxes x1 hy hb (by omega)
    obtain ⟨x3, m8⟩ := term16 [] h0 (by simp) (.pair s t) (.pair a b) (.pair x y) (n + m) (dk l a3).boxes x2 hxy (.pair ha hb hpn) (by simp only [Tm.size]; omega)
    have m9 := same17 ⟨(dk l a3).boxes, x3⟩ (.pair x y) (.pair x y)
    have hl1 := hx.le
    have hl2 := hy.le
    have w1 : IntKind.i64.wrap ((n : Int) + (m : Int)) = ((n + m : Nat) : Int) := by rw [wrap_i64 (by omega)]; omega
    have m6' : ∃ nn, callN T G nn 16 [.ag a.row] (dk l a3) = some (.tup [.ag x.row, i64 (n : Int), i64 0], ⟨(dk l a3).boxes, x1⟩) := m6
    simp only [Ty.row, tyAll, Tm.row, tmAll, Int.cast_ofNat_Int, List.map_nil] at m3 m4 m5 m6' m7 m8 m9
    have v3 := clR.use m3
    have v4 := clR.use m4
    have v5 := clR.use m5
    have v6 := clR.use m6'
    have v7 := clR.use m7
    have v8 := clR.use m8
    have v9 := clR.use m9
    refine run_of (pf := p4) rfl ?_
    unfold p4 ints
    simp only [R.loop_eq, wp0, wp1, wp2, wp3, wp4, PV.cellsT, appMax, dropSh, fillB, fillS, putD, splice, src, startSt, Int.reduceAdd, Int.reduceEq, Int.reduceLE, Int.reduceLT, Int.reduceNeg, Int.reduceSub, Int.reduceToNat, Nat.reduceAdd, Nat.reduceDiv, Nat.reduceEqDiff, Nat.reduceLT, Nat.reduceLeDiff, Nat.reduceMod, Nat.reduceMul, Nat.reduceSub, eq_self, if_false, if_true, ite_false, ite_true, reduceIte, Ty.row, tyAll, Tm.row, tmAll, u0, u1', u2', v3, v4, v5, v6, v7, v8, v9, w1, decide_true]
  · have e : decide (l.length ≤ 500) = false := decide_eq_false hl
    rw [e] at u1
    have u1' := clR.use u1
    have u3 := clR.use awakeB
    rw [← hm] at u3
    refine run_of (pf := p4) rfl ?_
    unfold p4 ints
    simp only [wp0, wp1, wp2, wp3, wp4, PV.cellsT, appMax, dropSh, fillB, fillS, putD, splice, src, startSt, Int.reduceAdd, Int.reduceEq, Int.reduceLE, Int.reduceLT, Int.reduceNeg, Int.reduceSub, Int.reduceToNat, Nat.reduceAdd, Nat.reduceDiv, Nat.reduceEqDiff, Nat.reduceLT, Nat.reduceLeDiff, Nat.reduceMod, Nat.reduceMul, Nat.reduceSub, eq_self, if_false, if_true, ite_false, ite_true, reduceIte, u0, u1', u3]
omit [Inhabited DkT] in
theorem law4 (l : List Int) : ∃ n sh', callN T G n 4 [ints .i64 l] ⟨[], 0⟩ = some (.v (.bool true), sh') := by
  obtain ⟨n, sh', h, _⟩ := run_ex (@law4m ⟨⟨6⟩⟩ rfl l)
  exact ⟨n, sh', h⟩
end Go.Pi.Terms
