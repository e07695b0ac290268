import Derived.Test.YtckcklkbdbafbaaDoorTV
set_option maxRecDepth 100000
set_option maxHeartbeats 1000000
set_option linter.unusedSimpArgs false
set_option linter.unusedVariables false
namespace Go.Pi.Terms
open Go Go.Pi Go.Proofs.YtckcklkbdbafbaaDoor
theorem typeOf48_appno (sh : Sh) {g : List Ty} {x y : Tm} {s t u : Ty} (hx : HasTy g x (.fn s t)) (hn : (Ty.fn s t).nodes ≤ 64) (hy : HasTy g y u) (hu : s ≠ u) (zg : Nat) (hz : g ≠ [] → zg = 3) (hs : g.length + x.size + y.size ≤ 90000) :
    ∃ n, callN T G n 48 [.sl 0 zg (g.map Ty.srow), .ag (Tm.app x y).row] sh = some (.tup [.ag z3, i64 7], sh) := by
  have u := node_app_no sh x y s t u hn hu
  have ua := typeOf48 sh hx zg hz (by omega)
  have ub := typeOf48 sh hy zg hz (by omega)
  simp only [Ty.row, tyAll, Tm.row, tmAll, srow_eq, z3, List.cons_append, List.nil_append] at u ua ub
  have u' := clR.use u
  have ua' := clR.use ua
  have ub' := clR.use ub
  refine run_eq (run_of (pf := p48) rfl ?_)
  unfold p48
  simp only [R.loop_eq, wp0, wp1, wp2, wp3, wp4, PV.cellsT, appMax, dropSh, fillB, fillS, putD, splice, src, startSt, Int.reduceAdd, Int.reduceEq, Int.reduceLE, Int.reduceLT, Int.reduceNeg, Int.reduceSub, Int.reduceToNat, Nat.reduceAdd, Nat.reduceEqDiff, Nat.reduceLT, Nat.reduceLeDiff, Nat.reduceMul, Nat.reduceSub, if_false, if_true, ite_false, ite_true, reduceIte, Ty.row, tyAll, Tm.row, tmAll, List.length_map, srow_eq, z3, Int.toNat_one, Int.toNat_zero, u', ua', ub']

theorem typeOf48_varno (sh : Sh) {g : List Ty} {i : Nat} (hi : g.length ≤ i) (zg : Nat) :
    ∃ n, callN T G n 48 [.sl 0 zg (g.map Ty.srow), .ag (Tm.var i).row] sh = some (.tup [.ag z3, i64 6], sh) := by
  have c1 : (g.length : Int) ≤ (i : Int) := by omega
  refine run_eq (run_of (pf := p48) rfl ?_)
  unfold p48
  simp only [R.loop_eq, wp0, wp1, wp2, wp3, wp4, PV.cellsT, appMax, dropSh, fillB, fillS, putD, splice, src, startSt, Int.reduceAdd, Int.reduceEq, Int.reduceLE, Int.reduceLT, Int.reduceNeg, Int.reduceSub, Int.reduceToNat, Nat.reduceAdd, Nat.reduceEqDiff, Nat.reduceLT, Nat.reduceLeDiff, Nat.reduceMul, Nat.reduceSub, if_false, if_true, ite_false, ite_true, reduceIte, Ty.row, tyAll, Tm.row, tmAll, List.length_map, c1, z3]

theorem typeOf14_err (sh : Sh) {g : List Ty} {x : Tm} {e : Int} (he : e = 6 ∨ e = 7) (zg : Nat) (hz : g ≠ [] → zg = 2) (hg : g.length ≤ 16) (hb : ∀ t ∈ g, t.nodes ≤ 64) (ho : x.ok) (hs : x.size ≤ 4096)
    (h : ∀ z, (g ≠ [] → z = 3) → ∃ n, callN T G n 48 [.sl 0 z (g.map Ty.srow), .ag x.row] sh = some (.tup [.ag z3, i64 e], sh)) :
    ∃ n, callN T G n 14 [.sl 0 zg (g.map Ty.row), .ag x.row] sh = some (.tup [.ag [i64 0, .sl 0 0 []], i64 e], sh) := by
  obtain ⟨z3', h3, hf⟩ := from47 g zg hz (by omega) hb sh
  have u0 := clR.use (context46 g zg hz hg hb sh)
  have u1 := check27 sh x ho hs
  have u2 := clR.use hf
  have u3 := h z3' h3
  simp only [Ty.row, tyAll, Tm.row, tmAll, srow_eq, z3] at u1 u3
  have u1' := clR.use u1
  have u3' := clR.use u3
  refine run_eq (run_of (pf := p14) rfl ?_)
  unfold p14
  rcases he with rfl | rfl <;> simp only [R.loop_eq, wp0, wp1, wp2, wp3, wp4, PV.cellsT, appMax, dropSh, fillB, fillS, putD, splice, src, startSt, Int.reduceAdd, Int.reduceEq, Int.reduceLE, Int.reduceLT, Int.reduceNeg, Int.reduceSub, Int.reduceToNat, Nat.reduceAdd, Nat.reduceEqDiff, Nat.reduceLT, Nat.reduceLeDiff, Nat.reduceMul, Nat.reduceSub, if_false, if_true, ite_false, ite_true, reduceIte, Ty.row, tyAll, Tm.row, tmAll, srow_eq, u0, u1', u2, u3']

theorem law4 (l : List Int) (i : Int) (w : (Lit.int .u8 i).wf = true) : ∃ n sh', callN T G n 4 [ints .i64 l, .v (.int .u8 i)] ⟨[], 0⟩ = some (.v (.bool true), sh') := by
  have u0 := clR.use (sane8 ⟨[], 0⟩)
  have u1 := few9 ⟨[], 0⟩ l
  unfold ints at u1
  by_cases hl : l.length ≤ 500
  · have e : decide (l.length ≤ 500) = true := decide_eq_true hl
    rw [e] at u1
    have u1' := clR.use u1
    have u2 := new10 l
    unfold ints at u2
    have u2' := clR.use u2
    have hi : 0 ≤ i ∧ i < 256 := by
      have w2 : IntKind.u8.min ≤ i ∧ i ≤ IntKind.u8.max := by simpa [Lit.wf] using w
      have w3 : IntKind.u8.min = 0 := by decide
      have w4 : IntKind.u8.max = 255 := by decide
      omega
    have ht : i.tmod 6 = i % 6 := Int.tmod_eq_emod_of_nonneg hi.1
    obtain ⟨k, hk, hk6⟩ : ∃ k : Nat, i.tmod 6 = (k : Int) ∧ k < 6 := ⟨(i.tmod 6).toNat, by omega, by omega⟩
    have hw : IntKind.i64.wrap (k : Int) = (k : Int) := wrap_i64 (by omega)
    obtain ⟨g, zg, a1, hz, hg, hb, ha1, m3⟩ := context11 l hl 0 (Nat.zero_le _)
    obtain ⟨a, a2, hs2, ha2, m4⟩ := type12 l hl 1 a1 (by omega) ha1
    obtain ⟨b, a3, hs3, ha3, m5⟩ := type12 l hl 1 a2 (by omega) ha2
    obtain ⟨c, a4, hs4, ha4, m6⟩ := type12 l hl 1 a3 (by omega) ha3
    have hn3 : a.nodes ≤ 3 ∧ b.nodes ≤ 3 ∧ c.nodes ≤ 3 := by omega
    have hb' : ∀ t ∈ g, t.nodes ≤ 64 := fun t ht => by have := hb t ht; omega
    obtain ⟨x, a5, hx, ex, ha5, m7⟩ := rec_one l hl (g ++ [a]) 2 b a4 (fun _ => rfl) (by simp; omega) (fun t ht => by
      rcases List.mem_append.1 ht with h | h
      · exact hb t h
      · simp at h; subst h; omega) (by omega) trivial ha4
    have m8 := t1 (dk l a5) 2 x a
    obtain ⟨y, a6, hy, ey, ha6, m9⟩ := rec_one l hl g zg c a5 hz (by omega) hb (by omega) trivial ha5
    have m10 := n2 (dk l a6) 3 (.lam a x) y
    have hfn : (Ty.fn a b).nodes ≤ 64 := by simp only [Ty.nodes]; omega
    have hlam : HasTy g (.lam a x) (.fn a b) := .lam hx hfn
    have hsz : (Tm.app (.lam a x) y).size ≤ 4096 := by simp only [Tm.size]; omega
    have hok : (Tm.app (.lam a x) y).ok := ⟨hlam.ok, hy.ok⟩
    have m13 := var18 (dk l a6) k
    have m15 := same15 (dk l a6) a c
    have m16 := same15 (dk l a6) b b
    have c1 : (zg = 2 ∨ g = []) = True := by
      simp only [eq_iff_iff, iff_true]
      by_cases e : g = []
      · exact .inr e
      · exact .inl (hz e)
    have c2 : g.length ≤ 4294967296 := by omega
    have c3 : g.length + 1 ≤ 4294967296 := by omega
    have b1 : (true != true) = false := rfl
    have b2 : (false != false) = false := rfl
    simp only [Ty.row, tyAll, Tm.row, tmAll, Int.cast_ofNat_Int, List.map_append, List.map_cons, List.map_nil, List.cons_append, List.nil_append] at m3 m4 m5 m6 m7 m8 m9 m10 m13 m15 m16
    have v3 := clR.use m3
    have v4 := clR.use m4
    have v5 := clR.use m5
    have v6 := clR.use m6
    have v7 := clR.use m7
    have v8 := clR.use m8
    have v9 := clR.use m9
    have v10 := clR.use m10
    have v13 := clR.use m13
    have v15 := clR.use m15
    have v16 := clR.use m16
    refine ⟨_, dk l a6, (run_eq (run_of (pf := p4) rfl ?_)).choose_spec⟩
    unfold p4 ints
    by_cases hac : a = c
    · subst hac
      have m11 := typeOf14 (dk l a6) (HasTy.app hlam hy hfn) zg hz (by omega) hb' hsz
      have hd : decide (a = a) = true := decide_eq_true rfl
      by_cases hkg : k < g.length
      · have m14 := typeOf14 (dk l a6) (HasTy.var hkg) zg hz (by omega) hb' (show (Tm.var k).size ≤ 4096 by simp only [Tm.size]; omega)
        have m17 := same15 (dk l a6) (g.getD (g.length - 1 - k) .nat) (g.getD (g.length - 1 - k) .nat)
        have d1 : ¬ ((g.length : Int) ≤ (k : Int)) := by omega
        have w1 : IntKind.i64.wrap ((g.length : Int) - 1) = (g.length : Int) - 1 := wrap_i64 (by omega)
        have w2 : IntKind.i64.wrap ((g.length : Int) - 1 - (k : Int)) = ((g.length - 1 - k : Nat) : Int) := by rw [wrap_i64 (by omega)]; omega
        have d2 : ((g.length - 1 - k : Nat) : Int) < (g.length : Int) := by omega
        have d3 : (0 : Int) ≤ ((g.length - 1 - k : Nat) : Int) := by omega
        have d4 := getD_row g (i := g.length - 1 - k) (by omega)
        have hzg : zg = 2 := hz (by intro e; subst e; simp at hkg)
        subst hzg
        simp only [Ty.row, tyAll, Tm.row, tmAll] at m11 m14 m17
        have v11 := clR.use m11
        have v14 := clR.use m14
        have v17 := clR.use m17
        simp only [R.loop_eq, wp0, wp1, wp2, wp3, wp4, PV.cellsT, appMax, dropSh, fillB, fillS, putD, splice, src, startSt, Int.reduceAdd, Int.reduceEq, Int.reduceLE, Int.reduceLT, Int.reduceNeg, Int.reduceSub, Int.reduceToNat, Nat.reduceAdd, Nat.reduceEqDiff, Nat.reduceLT, Nat.reduceLeDiff, Nat.reduceMul, Nat.reduceSub, if_false, if_true, ite_false, ite_true, reduceIte, Ty.row, tyAll, Tm.row, tmAll, u0, u1', u2', v3, v4, v5, v6, v7, v8, v9, v10, v11, v13, v14, v15, v16, hd, hk, hw, List.length_map, List.map_eq_nil_iff, List.length_append, c1, c2, c3, b1, b2, d1, w1, w2, d2, d3, d4, Int.toNat_natCast, v17, decide_true]
      · have m14 := typeOf14_err (dk l a6) (g := g) (x := .var k) (e := 6) (.inl rfl) zg hz (by omega) hb' trivial (by simp only [Tm.size]; omega) fun z _ => typeOf48_varno (dk l a6) (by omega) z
        have d1 : (g.length : Int) ≤ (k : Int) := by omega
        simp only [Ty.row, tyAll, Tm.row, tmAll] at m11 m14
        have v11 := clR.use m11
        have v14 := clR.use m14
        simp only [R.loop_eq, wp0, wp1, wp2, wp3, wp4, PV.cellsT, appMax, dropSh, fillB, fillS, putD, splice, src, startSt, Int.reduceAdd, Int.reduceEq, Int.reduceLE, Int.reduceLT, Int.reduceNeg, Int.reduceSub, Int.reduceToNat, Nat.reduceAdd, Nat.reduceEqDiff, Nat.reduceLT, Nat.reduceLeDiff, Nat.reduceMul, Nat.reduceSub, if_false, if_true, ite_false, ite_true, reduceIte, Ty.row, tyAll, Tm.row, tmAll, u0, u1', u2', v3, v4, v5, v6, v7, v8, v9, v10, v11, v13, v14, v15, v16, hd, hk, hw, List.length_map, List.map_eq_nil_iff, List.length_append, c1, c2, c3, b1, b2, d1]
    · have m11 := typeOf14_err (dk l a6) (g := g) (x := .app (.lam a x) y) (e := 7) (.inr rfl) zg hz (by omega) hb' hok hsz fun z h3 => typeOf48_appno (dk l a6) hlam hfn hy hac z h3 (by simp only [Tm.size]; omega)
      have hd : decide (a = c) = false := decide_eq_false hac
      by_cases hkg : k < g.length
      · have m14 := typeOf14 (dk l a6) (HasTy.var hkg) zg hz (by omega) hb' (show (Tm.var k).size ≤ 4096 by simp only [Tm.size]; omega)
        have m17 := same15 (dk l a6) (g.getD (g.length - 1 - k) .nat) (g.getD (g.length - 1 - k) .nat)
        have d1 : ¬ ((g.length : Int) ≤ (k : Int)) := by omega
        have w1 : IntKind.i64.wrap ((g.length : Int) - 1) = (g.length : Int) - 1 := wrap_i64 (by omega)
        have w2 : IntKind.i64.wrap ((g.length : Int) - 1 - (k : Int)) = ((g.length - 1 - k : Nat) : Int) := by rw [wrap_i64 (by omega)]; omega
        have d2 : ((g.length - 1 - k : Nat) : Int) < (g.length : Int) := by omega
        have d3 : (0 : Int) ≤ ((g.length - 1 - k : Nat) : Int) := by omega
        have d4 := getD_row g (i := g.length - 1 - k) (by omega)
        have hzg : zg = 2 := hz (by intro e; subst e; simp at hkg)
        subst hzg
        simp only [Ty.row, tyAll, Tm.row, tmAll] at m11 m14 m17
        have v11 := clR.use m11
        have v14 := clR.use m14
        have v17 := clR.use m17
        simp only [R.loop_eq, wp0, wp1, wp2, wp3, wp4, PV.cellsT, appMax, dropSh, fillB, fillS, putD, splice, src, startSt, Int.reduceAdd, Int.reduceEq, Int.reduceLE, Int.reduceLT, Int.reduceNeg, Int.reduceSub, Int.reduceToNat, Nat.reduceAdd, Nat.reduceEqDiff, Nat.reduceLT, Nat.reduceLeDiff, Nat.reduceMul, Nat.reduceSub, if_false, if_true, ite_false, ite_true, reduceIte, Ty.row, tyAll, Tm.row, tmAll, u0, u1', u2', v3, v4, v5, v6, v7, v8, v9, v10, v11, v13, v14, v15, v16, hd, hk, hw, List.length_map, List.map_eq_nil_iff, List.length_append, c1, c2, c3, b1, b2, d1, w1, w2, d2, d3, d4, Int.toNat_natCast, v17, decide_true]
      · have m14 := typeOf14_err (dk l a6) (g := g) (x := .var k) (e := 6) (.inl rfl) zg hz (by omega) hb' trivial (by simp only [Tm.size]; omega) fun z _ => typeOf48_varno (dk l a6) (by omega) z
        have d1 : (g.length : Int) ≤ (k : Int) := by omega
        simp only [Ty.row, tyAll, Tm.row, tmAll] at m11 m14
        have v11 := clR.use m11
        have v14 := clR.use m14
        simp only [R.loop_eq, wp0, wp1, wp2, wp3, wp4, PV.cellsT, appMax, dropSh, fillB, fillS, putD, splice, src, startSt, Int.reduceAdd, Int.reduceEq, Int.reduceLE, Int.reduceLT, Int.reduceNeg, Int.reduceSub, Int.reduceToNat, Nat.reduceAdd, Nat.reduceEqDiff, Nat.reduceLT, Nat.reduceLeDiff, Nat.reduceMul, Nat.reduceSub, if_false, if_true, ite_false, ite_true, reduceIte, Ty.row, tyAll, Tm.row, tmAll, u0, u1', u2', v3, v4, v5, v6, v7, v8, v9, v10, v11, v13, v14, v15, v16, hd, hk, hw, List.length_map, List.map_eq_nil_iff, List.length_append, c1, c2, c3, b1, b2, d1]
  · have e : decide (l.length ≤ 500) = false := decide_eq_false hl
    rw [e] at u1
    have u1' := clR.use u1
    refine ⟨_, ⟨[], 0⟩, (run_eq (run_of (pf := p4) rfl ?_)).choose_spec⟩
    unfold p4 ints
    simp only [R.loop_eq, wp0, wp1, wp2, wp3, wp4, PV.cellsT, appMax, dropSh, fillB, fillS, putD, splice, src, startSt, Int.reduceAdd, Int.reduceEq, Int.reduceLE, Int.reduceLT, Int.reduceNeg, Int.reduceSub, Int.reduceToNat, Nat.reduceAdd, Nat.reduceEqDiff, Nat.reduceLT, Nat.reduceLeDiff, Nat.reduceMul, Nat.reduceSub, if_false, if_true, ite_false, ite_true, reduceIte, u0, u1']
end Go.Pi.Terms
