import Derived.Test.YtckcklkbdbafbaaDoorTU
set_option maxRecDepth 100000
set_option maxHeartbeats 1000000
set_option linter.unusedSimpArgs false
set_option linter.unusedVariables false
namespace Go.Pi.Terms
open Go Go.Pi Go.Proofs.YtckcklkbdbafbaaDoor
theorem HasTy.weak {g : List Ty} {x : Tm} {t : Ty} (h : HasTy g x t) (l : List Ty) : HasTy (l ++ g) x t := by
  induction h with
  | @var g i hi =>
    refine .v (by simp; omega) ?_
    rw [List.getD_eq_getElem?_getD, List.getD_eq_getElem?_getD, List.getElem?_append_right (by simp; omega)]
    congr 2
    simp
    omega
  | lam h hn ih => exact .lam (by rw [List.append_assoc]; exact ih) hn
  | app ha hb hn iha ihb => exact .app iha ihb hn
  | zero => exact .zero
  | succ ha iha => exact .succ iha
  | recu ha hb hc hn iha ihb ihc => exact .recu iha ihb ihc hn
  | nil => exact .nil
  | cons ha hb iha ihb => exact .cons iha ihb
  | fold ha hb hc hn iha ihb ihc => exact .fold iha ihb ihc hn
  | pair ha hb hn iha ihb => exact .pair iha ihb hn
  | fst ha hn iha => exact .fst iha hn
  | snd ha hn iha => exact .snd iha hn
  | unit => exact .unit

theorem law3 (l : List Int) : ∃ n sh', callN T G n 3 [ints .i64 l] ⟨[], 0⟩ = some (.v (.bool true), sh') := by
  have u0 := clR.use (sane8 ⟨[], 0⟩)
  have u1 := few9 ⟨[], 0⟩ l
  unfold ints at u1
  by_cases hl : l.length ≤ 500
  · have e : decide (l.length ≤ 500) = true := decide_eq_true hl
    rw [e] at u1
    have u1' := clR.use u1
    have u2 := new10 l
    unfold ints at u2
    have u2' := clR.use u2
    obtain ⟨g, zg, a1, hz, hg, hb, ha1, m3⟩ := context11 l hl 0 (Nat.zero_le _)
    obtain ⟨s, a2, hs, ha2, m4⟩ := type12 l hl 1 a1 (by omega) ha1
    have hs3 : s.nodes ≤ 3 := by omega
    obtain ⟨x, a3, hx, ex, ha3, m5⟩ := rec_three l hl g zg s a2 hz (by omega) hb hs3 trivial ha2
    have hb' : ∀ t ∈ g, t.nodes ≤ 64 := fun t ht => by have := hb t ht; omega
    have m6 := typeOf14 (dk l a3) hx zg hz (by omega) hb' (by omega)
    obtain ⟨s1, a4, hs1, ha4, m7⟩ := type12 l hl 1 a3 (by omega) ha3
    obtain ⟨s2, a5, hs2, ha5, m8⟩ := type12 l hl 1 a4 (by omega) ha4
    have m9 := typeOf14 (dk l a5) (hx.weak [s1, s2]) 2 (fun _ => rfl) (by simp; omega) (fun t ht => by
      rcases List.mem_append.1 ht with h | h
      · simp at h; rcases h with rfl | rfl <;> omega
      · exact hb' t h) (by omega)
    have m10 := same15 (dk l a5) s s
    simp only [Ty.row, tyAll, Tm.row, tmAll, Int.cast_ofNat_Int, List.map_append, List.map_cons, List.map_nil, List.cons_append, List.nil_append] at m3 m4 m5 m6 m7 m8 m9 m10
    have u3 := clR.use m3
    have u4 := clR.use m4
    have u5 := clR.use m5
    have u6 := clR.use m6
    have u7 := clR.use m7
    have u8 := clR.use m8
    have u9 := clR.use m9
    have u10 := clR.use m10
    have c1 : (zg = 2 ∨ g = []) = True := by
      simp only [eq_iff_iff, iff_true]
      by_cases e : g = []
      · exact .inr e
      · exact .inl (hz e)
    have c2 : 2 + g.length ≤ 4294967296 := by omega
    refine ⟨_, dk l a5, (run_eq (run_of (pf := p3) rfl ?_)).choose_spec⟩
    unfold p3 ints
    simp only [R.loop_eq, wp0, wp1, wp2, wp3, wp4, PV.cellsT, appMax, dropSh, fillB, fillS, putD, splice, src, startSt, Int.reduceAdd, Int.reduceEq, Int.reduceLE, Int.reduceLT, Int.reduceNeg, Int.reduceSub, Int.reduceToNat, Nat.reduceAdd, Nat.reduceEqDiff, Nat.reduceLT, Nat.reduceLeDiff, Nat.reduceMul, Nat.reduceSub, if_false, if_true, ite_false, ite_true, reduceIte, Ty.row, tyAll, Tm.row, tmAll, u0, u1', u2', u3, u4, u5, u6, u7, u8, u9, u10, List.length_map, List.map_eq_nil_iff, c1, c2]


  · have e : decide (l.length ≤ 500) = false := decide_eq_false hl
    rw [e] at u1
    have u1' := clR.use u1
    refine ⟨_, ⟨[], 0⟩, (run_eq (run_of (pf := p3) rfl ?_)).choose_spec⟩
    unfold p3 ints
    simp only [R.loop_eq, wp0, wp1, wp2, wp3, wp4, PV.cellsT, appMax, dropSh, fillB, fillS, putD, splice, src, startSt, Int.reduceAdd, Int.reduceEq, Int.reduceLE, Int.reduceLT, Int.reduceNeg, Int.reduceSub, Int.reduceToNat, Nat.reduceAdd, Nat.reduceEqDiff, Nat.reduceLT, Nat.reduceLeDiff, Nat.reduceMul, Nat.reduceSub, if_false, if_true, ite_false, ite_true, reduceIte, u0, u1']
end Go.Pi.Terms
