import Derived.Test.YtckcklkbdbafbaaDoorTJ
set_option maxRecDepth 100000
set_option maxHeartbeats 1000000
set_option linter.unusedSimpArgs false
set_option linter.unusedVariables false
namespace Go.Pi.Terms
open Go Go.Pi Go.Proofs.YtckcklkbdbafbaaDoor
theorem vars40 (g : List Ty) (t : Ty) (zg : Nat) (hz : g ≠ [] → zg = 2) (hg : g.length ≤ 1000) (sh : Sh) :
    ∃ (is : List Nat) (z : Nat), (is ≠ [] → z = 1) ∧ is.length ≤ g.length ∧ (∀ j ∈ is, j < g.length ∧ g.getD (g.length - 1 - j) .nat = t) ∧
      ∃ n, callN T G n 40 [.sl 0 zg (g.map Ty.row), .ag t.row] sh = some (.sl 0 z (is.map fun j : Nat => [i64 (j : Int)]), sh) := by
  have key : Runs T G 40 [.sl 0 zg (g.map Ty.row), .ag t.row] sh fun r s' => ∃ (is : List Nat) (z : Nat), (is ≠ [] → z = 1) ∧ is.length ≤ g.length ∧ (∀ j ∈ is, j < g.length ∧ g.getD (g.length - 1 - j) .nat = t) ∧ r = .sl 0 z (is.map fun j : Nat => [i64 (j : Int)]) ∧ s' = sh := by
    refine run_of (pf := p40) rfl ?_
    unfold p40
    simp only [wp0, wp1, wp2, wp3, wp4, PV.cellsT, appMax, dropSh, fillB, fillS, putD, splice, src, startSt, Int.reduceAdd, Int.reduceEq, Int.reduceLE, Int.reduceLT, Int.reduceNeg, Int.reduceSub, Int.reduceToNat, Nat.reduceAdd, Nat.reduceEqDiff, Nat.reduceLT, Nat.reduceLeDiff, Nat.reduceMul, Nat.reduceSub, if_false, if_true, ite_false, ite_true, reduceIte, List.length_map, show t.row = [i64 t.kind, .sl 0 t.asz t.arows] from rfl]
    refine vars_loop g t zg _ hz hg sh _ _ _ _ _ _ _ ?_ g.length 0 [] 1 0 _ _ _ _ _ _ _ _ _ _ _ _ _ _ _ _ _ _ _ _ (by omega) (Nat.le_refl _) .one (fun _ => rfl) (fun h => (h rfl).elim) (Nat.zero_le _) (fun j hj => by cases hj)
    intro is tok z lv tk y6 y10 y11 y12 y13 y14 y15 y16 y17 y18 y19 y20 y21 y22 y23 y24 y25 y26 h1 h2 h3
    simp only [wp0, wp1, wp2, wp3, wp4, PV.cellsT, appMax, dropSh, fillB, fillS, putD, splice, src, startSt, Int.reduceAdd, Int.reduceEq, Int.reduceLE, Int.reduceLT, Int.reduceNeg, Int.reduceSub, Int.reduceToNat, Nat.reduceAdd, Nat.reduceEqDiff, Nat.reduceLT, Nat.reduceLeDiff, Nat.reduceMul, Nat.reduceSub, if_false, if_true, ite_false, ite_true, reduceIte]
    first | exact ⟨is, z, h1, h2, h3, rfl, rfl⟩ | exact ⟨is, z, h1, h2, h3, rfl⟩
  obtain ⟨n, r, s', h, is, z, h1, h2, h3, rfl, rfl⟩ := key
  exact ⟨is, z, h1, h2, h3, n, h⟩

theorem longer41 (g l : List Ty) (zg zl : Nat) (hz : g ≠ [] → zg = 2) (hl : l ≠ [] → zl = 2) (h1 : g.length ≤ 1000) (h2 : l.length ≤ 1000) (sh : Sh) :
    ∃ n, callN T G n 41 [.sl 0 zg (g.map Ty.row), .sl 0 zl (l.map Ty.row)] sh = some (.sl 0 2 ((g ++ l).map Ty.row), sh) := by
  have a1 : (zg = 2 ∨ g = []) = True := by
    simp only [eq_iff_iff, iff_true]
    by_cases e : g = []
    · exact .inr e
    · exact .inl (hz e)
  have a2 : (zl = 2 ∨ l = []) = True := by
    simp only [eq_iff_iff, iff_true]
    by_cases e : l = []
    · exact .inr e
    · exact .inl (hl e)
  have b1 : g.length ≤ 4294967296 := by omega
  have b2 : g.length + l.length ≤ 4294967296 := by omega
  refine run_eq (run_of (pf := p41) rfl ?_)
  unfold p41
  simp only [R.loop_eq, wp0, wp1, wp2, wp3, wp4, PV.cellsT, appMax, dropSh, fillB, fillS, putD, splice, src, startSt, Int.reduceAdd, Int.reduceEq, Int.reduceLE, Int.reduceLT, Int.reduceNeg, Int.reduceSub, Int.reduceToNat, Nat.reduceAdd, Nat.reduceEqDiff, Nat.reduceLT, Nat.reduceLeDiff, Nat.reduceMul, Nat.reduceSub, if_false, if_true, ite_false, ite_true, reduceIte, List.length_map, List.map_eq_nil_iff, a1, a2, b1, b2, List.map_append]
def Ty.srow (t : Ty) : List PV := [i64 t.kind, .sl 0 t.asz t.arows, i64 (t.nodes : Int)]
theorem of71 (sh : Sh) (t : Ty) (h : t.nodes ≤ 64) : ∃ n, callN T G n 71 [.ag t.row] sh = some (.ag t.srow, sh) := by
  have u0 := checkType sh t h
  try simp only [Ty.row] at u0
  have u0' := clR.use u0
  refine run_eq (run_of (pf := p71) rfl ?_)
  unfold p71
  simp only [R.loop_eq, wp0, wp1, wp2, wp3, wp4, PV.cellsT, appMax, dropSh, fillB, fillS, putD, splice, src, startSt, Int.reduceAdd, Int.reduceEq, Int.reduceLE, Int.reduceLT, Int.reduceNeg, Int.reduceSub, Int.reduceToNat, Nat.reduceAdd, Nat.reduceEqDiff, Nat.reduceLT, Nat.reduceLeDiff, Nat.reduceMul, Nat.reduceSub, if_false, if_true, ite_false, ite_true, reduceIte, Ty.row, tyAll, u0', Ty.srow]
theorem context11 (l : List Int) (hl : l.length ≤ 500) (at_ : Nat) (ha : at_ ≤ l.length) :
    ∃ (g : List Ty) (zg at' : Nat), (g ≠ [] → zg = 2) ∧ g.length ≤ 3 ∧ (∀ t ∈ g, t.nodes ≤ 3) ∧ at' ≤ l.length ∧ ∃ n, callN T G n 11 [.sp 0 0] (dk l at_) = some (.sl 0 zg (g.map Ty.row), dk l at') := by
  obtain ⟨r, a0, hr, ha0, hn⟩ := next36 l at_ 4 (by omega) ha hl
  obtain ⟨t1, a1, hb1, ha1, h1⟩ := type12 l hl 1 a0 (by omega) ha0
  obtain ⟨t2, a2, hb2, ha2, h2⟩ := type12 l hl 1 a1 (by omega) ha1
  obtain ⟨t3, a3, hb3, ha3, h3⟩ := type12 l hl 1 a2 (by omega) ha2
  have v1 := clR.use h1
  have v2 := clR.use h2
  have v3 := clR.use h3
  simp only [Ty.row, tyAll, Int.cast_ofNat_Int] at v1 v2 v3
  have hb1 : t1.nodes ≤ 3 := by omega
  have hb2 : t2.nodes ≤ 3 := by omega
  have hb3 : t3.nodes ≤ 3 := by omega
  have hx : r = 0 ∨ r = 1 ∨ r = 2 ∨ r = 3 := by omega
  rcases hx with rfl | rfl | rfl | rfl
  · have u := clR.use hn
    refine ⟨[], 0, a0, fun h => (h rfl).elim, by simp, by simp, ha0, ?_⟩
    refine run_eq (run_of (pf := p11) rfl ?_)
    unfold p11
    simp only [R.loop_eq, wp0, wp1, wp2, wp3, wp4, PV.cellsT, appMax, dropSh, fillB, fillS, putD, splice, src, startSt, Int.reduceAdd, Int.reduceEq, Int.reduceLE, Int.reduceLT, Int.reduceNeg, Int.reduceSub, Int.reduceToNat, Nat.reduceAdd, Nat.reduceEqDiff, Nat.reduceLT, Nat.reduceLeDiff, Nat.reduceMul, Nat.reduceSub, if_false, if_true, ite_false, ite_true, reduceIte, Ty.row, tyAll, u]
  · have u := clR.use hn
    refine ⟨[t1], 2, a1, fun _ => rfl, by simp, by simp; omega, ha1, ?_⟩
    refine run_eq (run_of (pf := p11) rfl ?_)
    unfold p11
    simp only [R.loop_eq, wp0, wp1, wp2, wp3, wp4, PV.cellsT, appMax, dropSh, fillB, fillS, putD, splice, src, startSt, Int.reduceAdd, Int.reduceEq, Int.reduceLE, Int.reduceLT, Int.reduceNeg, Int.reduceSub, Int.reduceToNat, Nat.reduceAdd, Nat.reduceEqDiff, Nat.reduceLT, Nat.reduceLeDiff, Nat.reduceMul, Nat.reduceSub, if_false, if_true, ite_false, ite_true, reduceIte, Ty.row, tyAll, u, v1, v2, v3]
  · have u := clR.use hn
    refine ⟨[t1, t2], 2, a2, fun _ => rfl, by simp, by simp; omega, ha2, ?_⟩
    refine run_eq (run_of (pf := p11) rfl ?_)
    unfold p11
    simp only [R.loop_eq, wp0, wp1, wp2, wp3, wp4, PV.cellsT, appMax, dropSh, fillB, fillS, putD, splice, src, startSt, Int.reduceAdd, Int.reduceEq, Int.reduceLE, Int.reduceLT, Int.reduceNeg, Int.reduceSub, Int.reduceToNat, Nat.reduceAdd, Nat.reduceEqDiff, Nat.reduceLT, Nat.reduceLeDiff, Nat.reduceMul, Nat.reduceSub, if_false, if_true, ite_false, ite_true, reduceIte, Ty.row, tyAll, u, v1, v2, v3]
  · have u := clR.use hn
    refine ⟨[t1, t2, t3], 2, a3, fun _ => rfl, by simp, by simp; omega, ha3, ?_⟩
    refine run_eq (run_of (pf := p11) rfl ?_)
    unfold p11
    simp only [R.loop_eq, wp0, wp1, wp2, wp3, wp4, PV.cellsT, appMax, dropSh, fillB, fillS, putD, splice, src, startSt, Int.reduceAdd, Int.reduceEq, Int.reduceLE, Int.reduceLT, Int.reduceNeg, Int.reduceSub, Int.reduceToNat, Nat.reduceAdd, Nat.reduceEqDiff, Nat.reduceLT, Nat.reduceLeDiff, Nat.reduceMul, Nat.reduceSub, if_false, if_true, ite_false, ite_true, reduceIte, Ty.row, tyAll, u, v1, v2, v3]
end Go.Pi.Terms
