import Derived.Test.YthgocgebpoeolaaDoorFB
import Derived.Test.YthgocgebpoeolaaDoorTU
set_option linter.unusedSectionVars false
set_option maxRecDepth 100000
set_option maxHeartbeats 1000000
set_option linter.unusedSimpArgs false
set_option linter.unusedVariables false
namespace Go.Pi.Terms
open Go Go.Pi Go.Proofs.YthgocgebpoeolaaDoor
variable [Inhabited DkT]
theorem map_snoc (g : List Ty) (s : Ty) : (g ++ [s]).map Ty.row = g.map Ty.row ++ [s.row] := by simp
/-- Twice the nodes of what is one deeper. -/
def fsz : Nat → Nat
  | 0 => 123
  | D + 1 => 2 * fsz D + 1
theorem fsz_pos : ∀ D, 123 ≤ fsz D
  | 0 => Nat.le_refl _
  | D + 1 => by have := fsz_pos D; simp only [fsz]; omega
theorem formula_made (l : List Int) (hl : l.length ≤ 500) : ∀ (D : Nat) (g : List Ty) (zg at_ : Nat), D ≤ 8 → (g ≠ [] → zg = 2) → g.length + D ≤ 100 → (∀ u ∈ g, u.nodes ≤ 3) → at_ ≤ l.length →
    ∃ (f : Fm) (at' : Nat), HasF g f ∧ f.size ≤ fsz D ∧ at' ≤ l.length ∧ ∃ n, callN T G n 8 [.sp mm 0, .sl 0 zg (g.map Ty.row), i64 (D : Int)] (dk l at_) = some (.ag f.row, dk l at') := by
  intro D
  induction D with
  | zero =>
    intro g zg at_ hD hz hg hb ha
    obtain ⟨x, a1, hx, ex, ha1, mx⟩ := rec_one l hl g zg .nat at_ hz (by omega) hb (by decide) trivial ha
    obtain ⟨y, a2, hy, ey, ha2, my⟩ := rec_one l hl g zg .nat a1 hz (by omega) hb (by decide) trivial ha1
    refine ⟨.eq x y, a2, .eq hx hy, by simp only [Fm.size, fsz]; omega, ha2, ?_⟩
    have u0 := nat34 (dk l at_)
    have u1 := mx
    have u2 := my
    have u3 := eqF (dk l a2) x y
    try simp only [Ty.row, tyAll, Tm.row, tmAll, Fm.row, fmAll, Int.cast_ofNat_Int] at u0 u1 u2 u3
    have u0' := clR.use u0
    have u1' := clR.use u1
    have u2' := clR.use u2
    have u3' := clR.use u3
    refine run_eq (run_of (pf := p8) rfl ?_)
    unfold p8
    simp only [R.loop_eq, wp0, wp1, wp2, wp3, wp4, wp5, Int.reduceAdd, Int.reduceEq, Int.reduceLE, Int.reduceLT, Int.reduceNeg, Int.reduceSub, Int.reduceToNat, Nat.reduceAdd, Nat.reduceDiv, Nat.reduceEqDiff, Nat.reduceLT, Nat.reduceLeDiff, Nat.reduceMod, Nat.reduceMul, Nat.reduceSub, eq_self, reduceIte, Ty.row, tyAll, Tm.row, tmAll, Fm.row, fmAll, u0', u1', u2', u3']
  | succ D ih =>
    intro g zg at_ hD hz hg hb ha
    have w1 : IntKind.i64.wrap (((D + 1 : Nat) : Int) - 1) = (D : Int) := by rw [wrap_i64 (by omega)]; omega
    have c1 : (0 : Int) < ((D + 1 : Nat) : Int) := by omega
    obtain ⟨r, a0, hr, ha0, hn⟩ := next36 l at_ 9 (by omega) ha hl
    have one : ∀ s : Ty, s.nodes ≤ 3 → ∀ u ∈ g ++ [s], u.nodes ≤ 3 := fun s hs u hu => by
      rcases List.mem_append.1 hu with h | h
      · exact hb u h
      · obtain rfl := List.mem_singleton.1 h; exact hs
    have hx : r = 0 ∨ r = 1 ∨ r = 2 ∨ r = 3 ∨ r = 4 ∨ r = 5 ∨ r = 6 ∨ r = 7 ∨ r = 8 := by omega
    rcases hx with rfl | rfl | rfl | rfl | rfl | rfl | rfl | rfl | rfl
    · obtain ⟨f, a1, hf, ef, ha1, mf⟩ := ih g zg a0 (by omega) hz (by omega) hb ha0
      obtain ⟨h, a2, hh, eh, ha2, mh⟩ := ih g zg a1 (by omega) hz (by omega) hb ha1
      refine ⟨.bin false f h, a2, .bin hf hh, by simp only [Fm.size, fsz]; omega, ha2, ?_⟩
      have u0 := hn
      have u1 := mf
      have u2 := mh
      have u3 := two2 (dk l a2) f h
      try simp only [Ty.row, tyAll, Tm.row, tmAll, Fm.row, fmAll, Int.cast_ofNat_Int] at u0 u1 u2 u3
      have u0' := clR.use u0
      have u1' := clR.use u1
      have u2' := clR.use u2
      have u3' := clR.use u3
      refine run_eq (run_of (pf := p8) rfl ?_)
      unfold p8
      simp only [R.loop_eq, wp0, wp1, wp2, wp3, wp4, wp5, Int.reduceAdd, Int.reduceEq, Int.reduceLE, Int.reduceLT, Int.reduceNeg, Int.reduceSub, Int.reduceToNat, Nat.reduceAdd, Nat.reduceDiv, Nat.reduceEqDiff, Nat.reduceLT, Nat.reduceLeDiff, Nat.reduceMod, Nat.reduceMul, Nat.reduceSub, eq_self, reduceIte, Ty.row, tyAll, Tm.row, tmAll, Fm.row, fmAll, u0', u1', u2', u3', w1, c1]
    · obtain ⟨f, a1, hf, ef, ha1, mf⟩ := ih g zg a0 (by omega) hz (by omega) hb ha0
      obtain ⟨h, a2, hh, eh, ha2, mh⟩ := ih g zg a1 (by omega) hz (by omega) hb ha1
      refine ⟨.bin true f h, a2, .bin hf hh, by simp only [Fm.size, fsz]; omega, ha2, ?_⟩
      have u0 := hn
      have u1 := mf
      have u2 := mh
      have u3 := two3 (dk l a2) f h
      try simp only [Ty.row, tyAll, Tm.row, tmAll, Fm.row, fmAll, Int.cast_ofNat_Int] at u0 u1 u2 u3
      have u0' := clR.use u0
      have u1' := clR.use u1
      have u2' := clR.use u2
      have u3' := clR.use u3
      refine run_eq (run_of (pf := p8) rfl ?_)
      unfold p8
      simp only [R.loop_eq, wp0, wp1, wp2, wp3, wp4, wp5, Int.reduceAdd, Int.reduceEq, Int.reduceLE, Int.reduceLT, Int.reduceNeg, Int.reduceSub, Int.reduceToNat, Nat.reduceAdd, Nat.reduceDiv, Nat.reduceEqDiff, Nat.reduceLT, Nat.reduceLeDiff, Nat.reduceMod, Nat.reduceMul, Nat.reduceSub, eq_self, reduceIte, Ty.row, tyAll, Tm.row, tmAll, Fm.row, fmAll, u0', u1', u2', u3', w1, c1]
    · obtain ⟨f, a1, hf, ef, ha1, mf⟩ := ih g zg a0 (by omega) hz (by omega) hb ha0
      obtain ⟨h, a2, hh, eh, ha2, mh⟩ := ih g zg a1 (by omega) hz (by omega) hb ha1
      refine ⟨.bin true f h, a2, .bin hf hh, by simp only [Fm.size, fsz]; omega, ha2, ?_⟩
      have u0 := hn
      have u1 := mf
      have u2 := mh
      have u3 := two3 (dk l a2) f h
      try simp only [Ty.row, tyAll, Tm.row, tmAll, Fm.row, fmAll, Int.cast_ofNat_Int] at u0 u1 u2 u3
      have u0' := clR.use u0
      have u1' := clR.use u1
      have u2' := clR.use u2
      have u3' := clR.use u3
      refine run_eq (run_of (pf := p8) rfl ?_)
      unfold p8
      simp only [R.loop_eq, wp0, wp1, wp2, wp3, wp4, wp5, Int.reduceAdd, Int.reduceEq, Int.reduceLE, Int.reduceLT, Int.reduceNeg, Int.reduceSub, Int.reduceToNat, Nat.reduceAdd, Nat.reduceDiv, Nat.reduceEqDiff, Nat.reduceLT, Nat.reduceLeDiff, Nat.reduceMod, Nat.reduceMul, Nat.reduceSub, eq_self, reduceIte, Ty.row, tyAll, Tm.row, tmAll, Fm.row, fmAll, u0', u1', u2', u3', w1, c1]
    · obtain ⟨s, a1, hs, ha1, ms⟩ := type12 l hl 1 a0 (by omega) ha0
      have hs1 : s.nodes ≤ 3 := by omega
      obtain ⟨f, a2, hf, ef, ha2, mf⟩ := ih (g ++ [s]) 2 a1 (by omega) (fun _ => rfl) (by simp only [List.length_append, List.length_cons, List.length_nil]; omega) (one s hs1) ha1
      simp only [map_snoc] at mf
      have ml := longer41 g [s] zg 2 hz (fun _ => rfl) (by omega) (by simp) (dk l a1)
      simp only [map_snoc, List.map_cons, List.map_nil] at ml
      refine ⟨.qu .all s f, a2, .qu (by omega) hf, by have := fsz_pos D; simp only [Fm.size, fsz]; omega, ha2, ?_⟩
      have u0 := hn
      have u1 := ms
      have u2 := mf
      have u3 := ml
      have u4 := q_all (dk l a2) s f
      try simp only [Ty.row, tyAll, Tm.row, tmAll, Fm.row, fmAll, Int.cast_ofNat_Int] at u0 u1 u2 u3 u4
      have u0' := clR.use u0
      have u1' := clR.use u1
      have u2' := clR.use u2
      have u3' := clR.use u3
      have u4' := clR.use u4
      refine run_eq (run_of (pf := p8) rfl ?_)
      unfold p8
      simp only [R.loop_eq, wp0, wp1, wp2, wp3, wp4, wp5, Int.reduceAdd, Int.reduceEq, Int.reduceLE, Int.reduceLT, Int.reduceNeg, Int.reduceSub, Int.reduceToNat, Nat.reduceAdd, Nat.reduceDiv, Nat.reduceEqDiff, Nat.reduceLT, Nat.reduceLeDiff, Nat.reduceMod, Nat.reduceMul, Nat.reduceSub, eq_self, reduceIte, Ty.row, tyAll, Tm.row, tmAll, Fm.row, fmAll, u0', u1', u2', u3', u4', w1, c1]
    · obtain ⟨s, a1, hs, ha1, ms⟩ := type12 l hl 1 a0 (by omega) ha0
      have hs1 : s.nodes ≤ 3 := by omega
      obtain ⟨f, a2, hf, ef, ha2, mf⟩ := ih (g ++ [s]) 2 a1 (by omega) (fun _ => rfl) (by simp only [List.length_append, List.length_cons, List.length_nil]; omega) (one s hs1) ha1
      simp only [map_snoc] at mf
      have ml := longer41 g [s] zg 2 hz (fun _ => rfl) (by omega) (by simp) (dk l a1)
      simp only [map_snoc, List.map_cons, List.map_nil] at ml
      refine ⟨.qu .all s f, a2, .qu (by omega) hf, by have := fsz_pos D; simp only [Fm.size, fsz]; omega, ha2, ?_⟩
      have u0 := hn
      have u1 := ms
      have u2 := mf
      have u3 := ml
      have u4 := q_all (dk l a2) s f
      try simp only [Ty.row, tyAll, Tm.row, tmAll, Fm.row, fmAll, Int.cast_ofNat_Int] at u0 u1 u2 u3 u4
      have u0' := clR.use u0
      have u1' := clR.use u1
      have u2' := clR.use u2
      have u3' := clR.use u3
      have u4' := clR.use u4
      refine run_eq (run_of (pf := p8) rfl ?_)
      unfold p8
      simp only [R.loop_eq, wp0, wp1, wp2, wp3, wp4, wp5, Int.reduceAdd, Int.reduceEq, Int.reduceLE, Int.reduceLT, Int.reduceNeg, Int.reduceSub, Int.reduceToNat, Nat.reduceAdd, Nat.reduceDiv, Nat.reduceEqDiff, Nat.reduceLT, Nat.reduceLeDiff, Nat.reduceMod, Nat.reduceMul, Nat.reduceSub, eq_self, reduceIte, Ty.row, tyAll, Tm.row, tmAll, Fm.row, fmAll, u0', u1', u2', u3', u4', w1, c1]
    · obtain ⟨s, a1, hs, ha1, ms⟩ := type12 l hl 1 a0 (by omega) ha0
      have hs1 : s.nodes ≤ 3 := by omega
      obtain ⟨f, a2, hf, ef, ha2, mf⟩ := ih (g ++ [s]) 2 a1 (by omega) (fun _ => rfl) (by simp only [List.length_append, List.length_cons, List.length_nil]; omega) (one s hs1) ha1
      simp only [map_snoc] at mf
      have ml := longer41 g [s] zg 2 hz (fun _ => rfl) (by omega) (by simp) (dk l a1)
      simp only [map_snoc, List.map_cons, List.map_nil] at ml
      refine ⟨.qu .ex s f, a2, .qu (by omega) hf, by have := fsz_pos D; simp only [Fm.size, fsz]; omega, ha2, ?_⟩
      have u0 := hn
      have u1 := ms
      have u2 := mf
      have u3 := ml
      have u4 := q_ex (dk l a2) s f
      try simp only [Ty.row, tyAll, Tm.row, tmAll, Fm.row, fmAll, Int.cast_ofNat_Int] at u0 u1 u2 u3 u4
      have u0' := clR.use u0
      have u1' := clR.use u1
      have u2' := clR.use u2
      have u3' := clR.use u3
      have u4' := clR.use u4
      refine run_eq (run_of (pf := p8) rfl ?_)
      unfold p8
      simp only [R.loop_eq, wp0, wp1, wp2, wp3, wp4, wp5, Int.reduceAdd, Int.reduceEq, Int.reduceLE, Int.reduceLT, Int.reduceNeg, Int.reduceSub, Int.reduceToNat, Nat.reduceAdd, Nat.reduceDiv, Nat.reduceEqDiff, Nat.reduceLT, Nat.reduceLeDiff, Nat.reduceMod, Nat.reduceMul, Nat.reduceSub, eq_self, reduceIte, Ty.row, tyAll, Tm.row, tmAll, Fm.row, fmAll, u0', u1', u2', u3', u4', w1, c1]
    · obtain ⟨s, a1, hs, ha1, ms⟩ := type12 l hl 0 a0 (by omega) ha0
      have hs1 : s.nodes ≤ 3 := by omega
      obtain ⟨q, b1, hq, hb1, mq⟩ := next36 l a1 2 (by omega) ha1 hl
      obtain ⟨f, a2, hf, ef, ha2, mf⟩ := ih (g ++ [s]) 2 b1 (by omega) (fun _ => rfl) (by simp only [List.length_append, List.length_cons, List.length_nil]; omega) (one s hs1) hb1
      simp only [map_snoc] at mf
      have ml := longer41 g [s] zg 2 hz (fun _ => rfl) (by omega) (by simp) (dk l b1)
      simp only [map_snoc, List.map_cons, List.map_nil] at ml
      have hq2 : q = 0 ∨ q = 1 := by omega
      rcases hq2 with rfl | rfl
      · refine ⟨.qu .allU s f, a2, .qu (by omega) hf, by have := fsz_pos D; simp only [Fm.size, fsz]; omega, ha2, ?_⟩
        have u0 := hn
        have u1 := ms
        have u2 := mq
        have u3 := mf
        have u4 := ml
        have u5 := q_allU (dk l a2) s f
        try simp only [Ty.row, tyAll, Tm.row, tmAll, Fm.row, fmAll, Int.cast_ofNat_Int] at u0 u1 u2 u3 u4 u5
        have u0' := clR.use u0
        have u1' := clR.use u1
        have u2' := clR.use u2
        have u3' := clR.use u3
        have u4' := clR.use u4
        have u5' := clR.use u5
        refine run_eq (run_of (pf := p8) rfl ?_)
        unfold p8
        simp only [R.loop_eq, wp0, wp1, wp2, wp3, wp4, wp5, Int.reduceAdd, Int.reduceEq, Int.reduceLE, Int.reduceLT, Int.reduceNeg, Int.reduceSub, Int.reduceToNat, Nat.reduceAdd, Nat.reduceDiv, Nat.reduceEqDiff, Nat.reduceLT, Nat.reduceLeDiff, Nat.reduceMod, Nat.reduceMul, Nat.reduceSub, eq_self, reduceIte, Ty.row, tyAll, Tm.row, tmAll, Fm.row, fmAll, u0', u1', u2', u3', u4', u5', w1, c1]
      · refine ⟨.qu .exU s f, a2, .qu (by omega) hf, by have := fsz_pos D; simp only [Fm.size, fsz]; omega, ha2, ?_⟩
        have u0 := hn
        have u1 := ms
        have u2 := mq
        have u3 := mf
        have u4 := ml
        have u5 := q_exU (dk l a2) s f
        try simp only [Ty.row, tyAll, Tm.row, tmAll, Fm.row, fmAll, Int.cast_ofNat_Int] at u0 u1 u2 u3 u4 u5
        have u0' := clR.use u0
        have u1' := clR.use u1
        have u2' := clR.use u2
        have u3' := clR.use u3
        have u4' := clR.use u4
        have u5' := clR.use u5
        refine run_eq (run_of (pf := p8) rfl ?_)
        unfold p8
        simp only [R.loop_eq, wp0, wp1, wp2, wp3, wp4, wp5, Int.reduceAdd, Int.reduceEq, Int.reduceLE, Int.reduceLT, Int.reduceNeg, Int.reduceSub, Int.reduceToNat, Nat.reduceAdd, Nat.reduceDiv, Nat.reduceEqDiff, Nat.reduceLT, Nat.reduceLeDiff, Nat.reduceMod, Nat.reduceMul, Nat.reduceSub, eq_self, reduceIte, Ty.row, tyAll, Tm.row, tmAll, Fm.row, fmAll, u0', u1', u2', u3', u4', u5', w1, c1]
    · obtain ⟨x, a1, hx, ex, ha1, mx⟩ := rec_one l hl g zg .nat a0 hz (by omega) hb (by decide) trivial ha0
      obtain ⟨y, a2, hy, ey, ha2, my⟩ := rec_one l hl g zg .nat a1 hz (by omega) hb (by decide) trivial ha1
      refine ⟨.eq x y, a2, .eq hx hy, by simp only [Fm.size, fsz]; have := fsz_pos D; omega, ha2, ?_⟩
      have u0 := hn
      have u1 := nat34 (dk l a0)
      have u2 := mx
      have u3 := my
      have u4 := eqF (dk l a2) x y
      try simp only [Ty.row, tyAll, Tm.row, tmAll, Fm.row, fmAll, Int.cast_ofNat_Int] at u0 u1 u2 u3 u4
      have u0' := clR.use u0
      have u1' := clR.use u1
      have u2' := clR.use u2
      have u3' := clR.use u3
      have u4' := clR.use u4
      refine run_eq (run_of (pf := p8) rfl ?_)
      unfold p8
      simp only [R.loop_eq, wp0, wp1, wp2, wp3, wp4, wp5, Int.reduceAdd, Int.reduceEq, Int.reduceLE, Int.reduceLT, Int.reduceNeg, Int.reduceSub, Int.reduceToNat, Nat.reduceAdd, Nat.reduceDiv, Nat.reduceEqDiff, Nat.reduceLT, Nat.reduceLeDiff, Nat.reduceMod, Nat.reduceMul, Nat.reduceSub, eq_self, reduceIte, Ty.row, tyAll, Tm.row, tmAll, Fm.row, fmAll, u0', u1', u2', u3', u4', c1]
    · obtain ⟨x, a1, hx, ex, ha1, mx⟩ := rec_one l hl g zg .nat a0 hz (by omega) hb (by decide) trivial ha0
      obtain ⟨y, a2, hy, ey, ha2, my⟩ := rec_one l hl g zg .nat a1 hz (by omega) hb (by decide) trivial ha1
      refine ⟨.eq x y, a2, .eq hx hy, by simp only [Fm.size, fsz]; have := fsz_pos D; omega, ha2, ?_⟩
      have u0 := hn
      have u1 := nat34 (dk l a0)
      have u2 := mx
      have u3 := my
      have u4 := eqF (dk l a2) x y
      try simp only [Ty.row, tyAll, Tm.row, tmAll, Fm.row, fmAll, Int.cast_ofNat_Int] at u0 u1 u2 u3 u4
      have u0' := clR.use u0
      have u1' := clR.use u1
      have u2' := clR.use u2
      have u3' := clR.use u3
      have u4' := clR.use u4
      refine run_eq (run_of (pf := p8) rfl ?_)
      unfold p8
      simp only [R.loop_eq, wp0, wp1, wp2, wp3, wp4, wp5, Int.reduceAdd, Int.reduceEq, Int.reduceLE, Int.reduceLT, Int.reduceNeg, Int.reduceSub, Int.reduceToNat, Nat.reduceAdd, Nat.reduceDiv, Nat.reduceEqDiff, Nat.reduceLT, Nat.reduceLeDiff, Nat.reduceMod, Nat.reduceMul, Nat.reduceSub, eq_self, reduceIte, Ty.row, tyAll, Tm.row, tmAll, Fm.row, fmAll, u0', u1', u2', u3', u4', c1]
end Go.Pi.Terms
