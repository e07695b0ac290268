import Derived.Test.YtckcklkbdbafbaaDoorTG
set_option maxRecDepth 100000
set_option maxHeartbeats 1000000
set_option linter.unusedSimpArgs false
set_option linter.unusedVariables false
namespace Go.Pi.Terms
open Go Go.Pi Go.Proofs.YtckcklkbdbafbaaDoor

/-- The deck in its box. -/
def dk (l : List Int) (at_ : Nat) : Sh := ⟨[(0, [.sl 0 1 (l.map fun x => [.v (.int .i64 x)]), i64 at_])], 1⟩

theorem lt_tmod (x : Int) {k : Int} (h : 0 < k) : -k < x.tmod k := by
  by_cases hx : 0 ≤ x
  · have := Int.tmod_nonneg k hx
    omega
  · have h1 : (-(-x)).tmod k = -((-x).tmod k) := Int.neg_tmod _ _
    rw [Int.neg_neg] at h1
    have h2 := Int.tmod_lt_of_pos (-x) h
    omega

theorem mod66 (sh : Sh) (x k : Int) (h : 1 ≤ k ∧ k ≤ 1000) : ∃ n, callN T G n 66 [i64 x, i64 k] sh = some (i64 ((x.tmod k + k).tmod k), sh) := by
  have h0 : ¬ k = 0 := by omega
  have hm : -k < x.tmod k ∧ x.tmod k < k := ⟨lt_tmod _ (by omega), Int.tmod_lt_of_pos x (by omega)⟩
  have w : IntKind.i64.wrap (x.tmod k + k) = x.tmod k + k := wrap_i64 (by omega)
  refine run_eq (run_of (pf := p66) rfl ?_)
  unfold p66
  simp only [R.loop_eq, wp0, wp1, wp2, wp3, wp4, PV.cellsT, appMax, dropSh, fillB, fillS, putD, splice, src, startSt, Int.reduceAdd, Int.reduceEq, Int.reduceLE, Int.reduceLT, Int.reduceNeg, Int.reduceSub, Int.reduceToNat, Nat.reduceAdd, Nat.reduceEqDiff, Nat.reduceLT, Nat.reduceLeDiff, Nat.reduceMul, Nat.reduceSub, if_false, if_true, ite_false, ite_true, reduceIte, h0, w]

theorem next36 (l : List Int) (at_ : Nat) (k : Int) (h : 1 ≤ k ∧ k ≤ 1000) (ha : at_ ≤ l.length) (hl : l.length ≤ 500) :
    ∃ r at', (0 ≤ r ∧ r < k) ∧ at' ≤ l.length ∧ ∃ n, callN T G n 36 [.sp 0 0, i64 k] (dk l at_) = some (i64 r, dk l at') := by
  have hk : ¬ k < 1 := by omega
  by_cases h1 : at_ < l.length
  · have hm : -k < (l.getD at_ 0).tmod k ∧ (l.getD at_ 0).tmod k < k := ⟨lt_tmod _ (by omega), Int.tmod_lt_of_pos _ (by omega)⟩
    refine ⟨((l.getD at_ 0).tmod k + k).tmod k, at_ + 1, ⟨Int.tmod_nonneg _ (by omega), Int.tmod_lt_of_pos _ (by omega)⟩, by omega, ?_⟩
    have u := fun sh => clR.use (mod66 sh (l.getD at_ 0) k h)
    have c1 : ¬ ((l.length : Int) ≤ (at_ : Int)) := by omega
    have c2 : (at_ : Int) < (l.length : Int) := by omega
    have c3 : (0 : Int) ≤ (at_ : Int) := by omega
    have c4 : ((l.map fun x => [PV.v (.int .i64 x)]).getD at_ []) = [PV.v (.int .i64 (l.getD at_ 0))] := by
      simp [List.getD_eq_getElem?_getD, h1]
    have w : IntKind.i64.wrap ((at_ : Int) + 1) = ((at_ + 1 : Nat) : Int) := by rw [wrap_i64 (by omega)]; omega
    refine run_eq (run_of (pf := p36) rfl ?_)
    unfold p36 dk
    simp only [R.loop_eq, wp0, wp1, wp2, wp3, wp4, PV.cellsT, appMax, dropSh, fillB, fillS, putD, splice, src, startSt, Int.reduceAdd, Int.reduceEq, Int.reduceLE, Int.reduceLT, Int.reduceNeg, Int.reduceSub, Int.reduceToNat, Nat.reduceAdd, Nat.reduceEqDiff, Nat.reduceLT, Nat.reduceLeDiff, Nat.reduceMul, Nat.reduceSub, if_false, if_true, ite_false, ite_true, reduceIte, hk, u, c1, c2, c3, c4, w, List.length_map, getB, setB, Int.toNat_natCast]
  · refine ⟨0, at_, by omega, ha, ?_⟩
    have c1 : ((l.length : Int) ≤ (at_ : Int)) := by omega
    refine run_eq (run_of (pf := p36) rfl ?_)
    unfold p36 dk
    simp only [R.loop_eq, wp0, wp1, wp2, wp3, wp4, PV.cellsT, appMax, dropSh, fillB, fillS, putD, splice, src, startSt, Int.reduceAdd, Int.reduceEq, Int.reduceLE, Int.reduceLT, Int.reduceNeg, Int.reduceSub, Int.reduceToNat, Nat.reduceAdd, Nat.reduceEqDiff, Nat.reduceLT, Nat.reduceLeDiff, Nat.reduceMul, Nat.reduceSub, if_false, if_true, ite_false, ite_true, reduceIte, hk, c1, List.length_map, getB, setB]

theorem few9 (sh : Sh) (l : List Int) : ∃ n, callN T G n 9 [ints .i64 l] sh = some (.v (.bool (decide (l.length ≤ 500))), sh) := by
  refine run_eq (run_of (pf := p9) rfl ?_)
  unfold p9 ints
  have h1 : ((l.length : Int) ≤ 500) = (l.length ≤ 500) := by simp only [eq_iff_iff]; omega
  simp only [R.loop_eq, wp0, wp1, wp2, wp3, wp4, PV.cellsT, appMax, dropSh, fillB, fillS, putD, splice, src, startSt, Int.reduceAdd, Int.reduceEq, Int.reduceLE, Int.reduceLT, Int.reduceNeg, Int.reduceSub, Int.reduceToNat, Nat.reduceAdd, Nat.reduceEqDiff, Nat.reduceLT, Nat.reduceLeDiff, Nat.reduceMul, Nat.reduceSub, if_false, if_true, ite_false, ite_true, reduceIte, List.length_map, h1]

theorem new10 (l : List Int) : ∃ n, callN T G n 10 [ints .i64 l] ⟨[], 0⟩ = some (.sp 0 0, dk l 0) := by
  refine run_eq (run_of (pf := p10) rfl ?_)
  unfold p10 ints dk
  simp only [R.loop_eq, wp0, wp1, wp2, wp3, wp4, PV.cellsT, appMax, dropSh, fillB, fillS, putD, splice, src, startSt, Int.reduceAdd, Int.reduceEq, Int.reduceLE, Int.reduceLT, Int.reduceNeg, Int.reduceSub, Int.reduceToNat, Nat.reduceAdd, Nat.reduceEqDiff, Nat.reduceLT, Nat.reduceLeDiff, Nat.reduceMul, Nat.reduceSub, if_false, if_true, ite_false, ite_true, reduceIte, getB, setB]
end Go.Pi.Terms
