import Derived.Test.YthgocgebpoeolaaDoorFD
set_option maxRecDepth 100000
set_option maxHeartbeats 1000000
set_option linter.unusedSimpArgs false
set_option linter.unusedVariables false
namespace Go.Pi.Terms
open Go Go.Pi Go.Proofs.YthgocgebpoeolaaDoor
theorem mapT_id : ∀ (f : Fm) (d : Nat), f.mapT (fun t _ => t) d = f
  | .eq _ _, _ => rfl
  | .bin _ f g, d => by simp only [Fm.mapT, mapT_id f d, mapT_id g d]
  | .qu _ _ f, d => by simp only [Fm.mapT, mapT_id f (d + 1)]
theorem mapT_up (k n : Nat) : ∀ (f : Fm) (d : Nat), f.mapT (fun t d => t.up (k + d) n) d = f.up n (k + d)
  | .eq _ _, _ => rfl
  | .bin _ f g, d => by simp only [Fm.mapT, Fm.up, mapT_up k n f d, mapT_up k n g d]
  | .qu _ _ f, d => by simp only [Fm.mapT, Fm.up, mapT_up k n f (d + 1), Nat.add_assoc]
theorem mapT_put (k : Nat) (s : Tm) : ∀ (f : Fm) (d : Nat), f.mapT (fun t d => t.put (k + d) s) d = f.put s (k + d)
  | .eq _ _, _ => rfl
  | .bin _ f g, d => by simp only [Fm.mapT, Fm.put, mapT_put k s f d, mapT_put k s g d]
  | .qu _ _ f, d => by simp only [Fm.mapT, Fm.put, mapT_put k s f (d + 1), Nat.add_assoc]
theorem allT_of {p : Tm → Nat → Prop} : ∀ (f : Fm) (d : Nat) (N B : Nat), d + f.size ≤ N → f.low B → (∀ t e, e + t.size ≤ N → t.low B → p t e) → f.allT p d
  | .eq a b, d, N, B, h, hl, hp => by
    simp only [Fm.size] at h
    exact ⟨hp a d (by omega) hl.1, hp b d (by omega) hl.2⟩
  | .bin _ f g, d, N, B, h, hl, hp => by
    simp only [Fm.size] at h
    exact ⟨allT_of f d N B (by omega) hl.1 hp, allT_of g d N B (by omega) hl.2 hp⟩
  | .qu _ _ f, d, N, B, h, hl, hp => by
    simp only [Fm.size] at h
    exact allT_of f (d + 1) N B (by omega) hl hp
theorem own_maps : Maps 67 [] (fun t _ => t) [] (fun _ _ => True) := by
  intro bx nx t d _ _ _
  refine ⟨nx, Nat.le_refl _, ?_⟩
  have u0 := ownTm ⟨bx, nx⟩ t
  try simp only [Ty.row, tyAll, Tm.row, tmAll, Fm.row, fmAll, Int.cast_ofNat_Int] at u0
  have u0' := clR.use u0
  refine run_eq (run_of (pf := p67) rfl ?_)
  unfold p67
  simp only [R.loop_eq, wp0, wp1, wp2, wp3, wp4, wp5, Int.reduceAdd, Int.reduceEq, Int.reduceLE, Int.reduceLT, Int.reduceNeg, Int.reduceSub, Int.reduceToNat, Nat.reduceAdd, Nat.reduceDiv, Nat.reduceEqDiff, Nat.reduceLT, Nat.reduceLeDiff, Nat.reduceMod, Nat.reduceMul, Nat.reduceSub, eq_self, reduceIte, Ty.row, tyAll, Tm.row, tmAll, Fm.row, fmAll, u0']
theorem allT_true : ∀ (f : Fm) (d : Nat), f.allT (fun _ _ => True) d
  | .eq _ _, _ => ⟨trivial, trivial⟩
  | .bin _ f g, d => ⟨allT_true f d, allT_true g d⟩
  | .qu _ _ f, d => allT_true f (d + 1)
theorem ownF (bx : List (Nat × List PV)) (nx : Nat) (f : Fm) (hs : f.size ≤ 100000) : ∃ nx', nx ≤ nx' ∧ ∃ n, callN T G n 50 [.ag f.row] ⟨bx, nx⟩ = some (.ag f.row, ⟨bx, nx'⟩) := by
  obtain ⟨m, l, e⟩ := rebuildF own_maps rfl bx (fun p hp => by cases hp) f nx 0 (allT_true f 0) (by omega) (fun q hq => by cases hq)
  rw [mapT_id] at e
  refine ⟨m, l, ?_⟩
  have u0 := e
  try simp only [Ty.row, tyAll, Tm.row, tmAll, Fm.row, fmAll, Int.cast_ofNat_Int] at u0
  have u0' := clR.use u0
  refine run_eq (run_of (pf := p50) rfl ?_)
  unfold p50
  simp only [R.loop_eq, wp0, wp1, wp2, wp3, wp4, wp5, Int.reduceAdd, Int.reduceEq, Int.reduceLE, Int.reduceLT, Int.reduceNeg, Int.reduceSub, Int.reduceToNat, Nat.reduceAdd, Nat.reduceDiv, Nat.reduceEqDiff, Nat.reduceLT, Nat.reduceLeDiff, Nat.reduceMod, Nat.reduceMul, Nat.reduceSub, eq_self, reduceIte, Ty.row, tyAll, Tm.row, tmAll, Fm.row, fmAll, u0', dp0]
theorem put_maps (iA iS at_ : Nat) (s : Tm) (hb : at_ ≤ 500000) (hs : s.size ≤ 1000000) (hls : s.low 1073741824) : Maps 92 [.sp iA 0, .sp iS 0] (fun t d => t.put (at_ + d) s) [(iA, [i64 (at_ : Int)]), (iS, s.row)] (fun t d => d + t.size ≤ 500000 ∧ t.low 1073741824) := by
  intro bx nx t d hp gL _
  have gA : getB bx iA = some [i64 (at_ : Int)] := gL (iA, _) (by simp)
  have gS : getB bx iS = some s.row := gL (iS, s.row) (List.mem_cons_of_mem _ (List.mem_singleton.2 rfl))
  have w1 : IntKind.i64.wrap ((at_ : Int) + (d : Int)) = ((at_ + d : Nat) : Int) := by rw [wrap_i64 (by omega)]; omega
  obtain ⟨m, h⟩ := put71 bx nx t s (at_ + d) (by omega) hp.2 hs hls
  have l : nx ≤ m := nx_le h
  simp only [Tm.row, tmAll] at gS
  refine ⟨m, l, ?_⟩
  have u0 := h
  try simp only [Ty.row, tyAll, Tm.row, tmAll, Fm.row, fmAll, Int.cast_ofNat_Int] at u0
  have u0' := clR.use u0
  refine run_eq (run_of (pf := p92) rfl ?_)
  unfold p92
  simp only [R.loop_eq, wp0, wp1, wp2, wp3, wp4, wp5, Int.reduceAdd, Int.reduceEq, Int.reduceLE, Int.reduceLT, Int.reduceNeg, Int.reduceSub, Int.reduceToNat, Nat.reduceAdd, Nat.reduceDiv, Nat.reduceEqDiff, Nat.reduceLT, Nat.reduceLeDiff, Nat.reduceMod, Nat.reduceMul, Nat.reduceSub, eq_self, reduceIte, Ty.row, tyAll, Tm.row, tmAll, Fm.row, fmAll, u0', gA, gS, w1]
theorem putF (bx : List (Nat × List PV)) (nx : Nat) (f : Fm) (at_ : Nat) (s : Tm) (hb : at_ ≤ 100000) (hs : f.size ≤ 100000) (hl : f.low 1073741824) (hss : s.size ≤ 1000000) (hls : s.low 1073741824) : ∃ nx', nx ≤ nx' ∧ ∃ n, callN T G n 79 [.ag f.row, i64 (at_ : Int), .ag s.row] ⟨bx, nx⟩ = some (.ag (f.put s at_).row, ⟨bx, nx'⟩) := by
  have gL : Has ((nx + 1, s.row) :: (nx, [i64 (at_ : Int)]) :: bx) [(nx, [i64 (at_ : Int)]), (nx + 1, s.row)] := by
    intro p hp
    simp only [List.mem_cons, List.not_mem_nil, or_false] at hp
    rcases hp with rfl | rfl
    · rw [getB_ne (by omega), getB_eq]
    · exact getB_eq _ _ _
  obtain ⟨m, l, e⟩ := rebuildF (put_maps nx (nx + 1) at_ s (by omega) hss hls) rfl _ gL f (nx + 2) 0 (allT_of f 0 100000 1073741824 (by omega) hl fun t e h1 h2 => ⟨by omega, h2⟩) (by omega) (fun q hq => by
    simp only [List.mem_cons, List.not_mem_nil, or_false] at hq
    rcases hq with rfl | rfl <;> simp only <;> omega)
  rw [mapT_put] at e
  simp only [Nat.add_zero] at e
  refine ⟨m, by omega, ?_⟩
  have u0 := e
  try simp only [Ty.row, tyAll, Tm.row, tmAll, Fm.row, fmAll, Int.cast_ofNat_Int] at u0
  have u0' := clR.use u0
  refine run_eq (run_of (pf := p79) rfl ?_)
  unfold p79
  simp only [R.loop_eq, wp0, wp1, wp2, wp3, wp4, wp5, Int.reduceAdd, Int.reduceEq, Int.reduceLE, Int.reduceLT, Int.reduceNeg, Int.reduceSub, Int.reduceToNat, Nat.reduceAdd, Nat.reduceDiv, Nat.reduceEqDiff, Nat.reduceLT, Nat.reduceLeDiff, Nat.reduceMod, Nat.reduceMul, Nat.reduceSub, eq_self, reduceIte, Ty.row, tyAll, Tm.row, tmAll, Fm.row, fmAll, u0', dp2]
end Go.Pi.Terms
