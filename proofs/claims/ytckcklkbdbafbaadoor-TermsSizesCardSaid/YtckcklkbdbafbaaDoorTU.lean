import Derived.Test.YtckcklkbdbafbaaDoorTS
set_option maxRecDepth 100000
set_option maxHeartbeats 1000000
set_option linter.unusedSimpArgs false
set_option linter.unusedVariables false
namespace Go.Pi.Terms
open Go Go.Pi Go.Proofs.YtckcklkbdbafbaaDoor
/-- The first phase of mk.Term. -/
theorem term_start (l : List Int) (hl : l.length ≤ 500) (g : List Ty) (zg : Nat) (hz : g ≠ [] → zg = 2) (hg : g.length ≤ 900) (t : Ty) (d : Int) (BB : Nat) (hBB : 1 ≤ BB)
    (HK : ∀ (rg : List PV) (hr : RG l g zg t d rg) (at_ : Nat) (ha : at_ ≤ l.length) (lv : Nat → Bool) (tk n : Nat), R T G [] [.pc q13_2] ⟨rg, ⟨dk l at_, lv, tk⟩⟩ (FQ [.c 8 5 true] false n (Made l g t BB))) (at_ : Nat) (ha : at_ ≤ l.length) :
    ∃ (x : Tm) (at' : Nat), HasTy g x t ∧ x.size ≤ BB ∧ at' ≤ l.length ∧ ∃ n, callN T G n 13 [.sp 0 0, .sl 0 zg (g.map Ty.row), .ag t.row, i64 d] (dk l at_) = some (.ag x.row, dk l at') := by
  have key : Runs T G 13 [.sp 0 0, .sl 0 zg (g.map Ty.row), .ag t.row, i64 d] (dk l at_) (Made l g t BB) := by
    refine run_of (pf := p13) rfl ?_
    obtain ⟨is, z, hz1, hl1, hj, mv⟩ := vars40 g t zg hz (by omega) (dk l at_)
    simp only [Ty.row, tyAll] at mv
    have v := clR.use mv
    obtain ⟨rg, hrg⟩ : ∃ rg : List PV, rg = [PV.sp 0 0, .sl 0 zg (g.map Ty.row), .ag t.row, i64 d] ++ List.replicate 334 .un := ⟨_, rfl⟩
    have e0 : startSt p13.nt [.sp 0 0, .sl 0 zg (g.map Ty.row), .ag t.row, i64 d] (dk l at_) = ⟨rg, ⟨dk l at_, fun _ => false, 2⟩⟩ := by rw [hrg]; rfl
    have h1 : rg.length = 338 := by rw [hrg]; rfl
    have h2 : rg.getD 0 .un = .sp 0 0 := by rw [hrg]; rfl
    have h3 : rg.getD 1 .un = .sl 0 zg (g.map Ty.row) := by rw [hrg]; rfl
    have h4 : rg.getD 3 .un = i64 d := by rw [hrg]; rfl
    have h5 : rg.getD 2 .un = .ag [i64 t.kind, .sl 0 t.asz t.arows] := by rw [hrg]; rfl
    rw [e0]
    show R T G [] [.pc (.seq _ (.seq _ (.seq _ q13_2)))] _ (FQ [.c 8 5 true] false _ _)
    by_cases he : is = []
    · subst he
      simp only [wp0, wp1, wp2, wp3, wp4, PV.cellsT, appMax, dropSh, fillB, fillS, putD, splice, src, startSt, Int.reduceAdd, Int.reduceEq, Int.reduceLE, Int.reduceLT, Int.reduceNeg, Int.reduceSub, Int.reduceToNat, Nat.reduceAdd, Nat.reduceEqDiff, Nat.reduceLT, Nat.reduceLeDiff, Nat.reduceMul, Nat.reduceSub, if_false, if_true, ite_false, ite_true, reduceIte, gs, List.length_set, h1, h2, h3, h4, h5, v]
      refine HK _ ⟨?_, ?_, ?_, ?_, ⟨(rg.getD 6 .un).genOf + 1, ?_⟩, ⟨(rg.getD 8 .un).genOf + 1, ?_⟩⟩ at_ ha _ _ _
      all_goals simp only [gs, List.length_set, h1, h2, h3, h4, Nat.reduceEqDiff, false_and, if_false, Nat.reduceLT, and_self, if_true]
    · obtain rfl := hz1 he
      obtain ⟨r, a1, hr, ha1, hn⟩ := next36 l at_ 3 (by omega) ha hl
      have hlen : 0 < is.length := List.length_pos_iff.2 he
      have c1 : (0 : Int) < (is.length : Int) := by omega
      have u := clR.use hn
      by_cases hr0 : 0 < r
      · obtain ⟨r2, a2, hr2, ha2, hn2⟩ := next36 l a1 (is.length : Int) (by omega) ha1 hl
        obtain ⟨j, rfl⟩ : ∃ j : Nat, r2 = (j : Int) := ⟨r2.toNat, by omega⟩
        have hjl : j < is.length := by omega
        have c2 : (j : Int) < (is.length : Int) := by omega
        have c3 : (0 : Int) ≤ (j : Int) := by omega
        have c4 : (is.map fun j : Nat => [i64 (j : Int)]).getD j [] = [i64 ((is.getD j 0 : Nat) : Int)] := by simp [List.getD_eq_getElem?_getD, hjl]
        have hm : is.getD j 0 ∈ is := by
          rw [List.getD_eq_getElem?_getD, List.getElem?_eq_getElem hjl]
          exact List.getElem_mem _
        have m2 := var18 (dk l a2) (is.getD j 0)
        simp only [Tm.row, tmAll] at m2
        have u2 := clR.use hn2
        have u3 := clR.use m2
        simp only [wp0, wp1, wp2, wp3, wp4, PV.cellsT, appMax, dropSh, fillB, fillS, putD, splice, src, startSt, Int.reduceAdd, Int.reduceEq, Int.reduceLE, Int.reduceLT, Int.reduceNeg, Int.reduceSub, Int.reduceToNat, Nat.reduceAdd, Nat.reduceEqDiff, Nat.reduceLT, Nat.reduceLeDiff, Nat.reduceMul, Nat.reduceSub, if_false, if_true, ite_false, ite_true, reduceIte, gs, List.length_set, List.length_map, h1, h2, h3, h4, h5, v, u, u2, u3, c1, c2, c3, c4, hr0, Int.toNat_natCast]
        exact ⟨.var (is.getD j 0), a2, .v (hj _ hm).1 (hj _ hm).2, by simp only [Tm.size]; omega, ha2, rfl, rfl⟩
      · simp only [wp0, wp1, wp2, wp3, wp4, PV.cellsT, appMax, dropSh, fillB, fillS, putD, splice, src, startSt, Int.reduceAdd, Int.reduceEq, Int.reduceLE, Int.reduceLT, Int.reduceNeg, Int.reduceSub, Int.reduceToNat, Nat.reduceAdd, Nat.reduceEqDiff, Nat.reduceLT, Nat.reduceLeDiff, Nat.reduceMul, Nat.reduceSub, if_false, if_true, ite_false, ite_true, reduceIte, gs, List.length_set, List.length_map, h1, h2, h3, h4, h5, v, u, c1, hr0]
        refine HK _ ⟨?_, ?_, ?_, ?_, ⟨(rg.getD 6 .un).genOf + 1, ?_⟩, ⟨(rg.getD 8 .un).genOf + 1, ?_⟩⟩ a1 ha1 _ _ _
        all_goals simp only [gs, List.length_set, h1, h2, h3, h4, Nat.reduceEqDiff, false_and, if_false, Nat.reduceLT, and_self, if_true]
  obtain ⟨n, r, s', h, x, at', h1, h2, h3, rfl, rfl⟩ := key
  exact ⟨x, at', h1, h2, h3, n, h⟩

/-- No depth left: the middle phase is passed over. -/
theorem term_none (l : List Int) (g : List Ty) (zg : Nat) (t : Ty) (d : Int) (hd : d ≤ 0) (rg : List PV) (hr : RG l g zg t d rg) (at_ : Nat) (lv : Nat → Bool) (tk : Nat) (Q : Out → Prop)
    (HK : ∀ (rg : List PV) (hr : RG l g zg t d rg), R T G [] [.pc q13_3] ⟨rg, ⟨dk l at_, lv, tk⟩⟩ Q) : R T G [] [.pc q13_2] ⟨rg, ⟨dk l at_, lv, tk⟩⟩ Q := by
  obtain ⟨h1, h2, h3, h4, ⟨g6, h6⟩, ⟨g8, h8⟩⟩ := hr
  have d1 : ¬ (0 < d) := by omega
  unfold q13_2
  simp only [wp0, wp1, wp2, wp3, wp4, PV.cellsT, appMax, dropSh, fillB, fillS, putD, splice, src, startSt, Int.reduceAdd, Int.reduceEq, Int.reduceLE, Int.reduceLT, Int.reduceNeg, Int.reduceSub, Int.reduceToNat, Nat.reduceAdd, Nat.reduceEqDiff, Nat.reduceLT, Nat.reduceLeDiff, Nat.reduceMul, Nat.reduceSub, if_false, if_true, ite_false, ite_true, reduceIte, gs, List.length_set, h1, h2, h3, h4, h6, h8, d1]
  refine HK _ ⟨?_, ?_, ?_, ?_, ⟨g6, ?_⟩, ⟨g8, ?_⟩⟩
  all_goals simp only [gs, List.length_set, h1, h2, h3, h4, h6, h8, Nat.reduceEqDiff, false_and, if_false, Nat.reduceLT, and_self, if_true]

theorem rec_small (l : List Int) (hl : l.length ≤ 500) (d : Int) (hd : d ≤ 0 ∧ -900 ≤ d) : Rec l d 3 890 fun u => u.nodes ≤ 2 := by
  intro g zg t at_ hz hg hb ht hp ha
  refine term_start l hl g zg hz (by omega) t d 3 (by omega) (fun rg hr at_ ha lv tk n => term_none l g zg t d hd.1 rg hr at_ lv tk _ fun rg hr => ?_) at_ ha
  refine term_low l hl g zg hz 900 (by omega) (by omega) hb t ht d (by omega) 3 (by omega) ?_ rg hr at_ ha lv tk n
  intro g2 zg2 u at2 _ _ _ _ hu _
  have := u.nodes_pos
  have h2 : t.nodes = 2 := by omega
  cases t with
  | pair a b => have := a.nodes_pos; have := b.nodes_pos; simp only [Ty.nodes] at h2; omega
  | fn a b => have := a.nodes_pos; have := b.nodes_pos; simp only [Ty.nodes] at h2; omega
  | _ => simp only [Ty.nodes] at h2; omega

theorem rec_zero (l : List Int) (hl : l.length ≤ 500) : Rec l 0 7 880 fun _ => True := by
  intro g zg t at_ hz hg hb ht hp ha
  refine term_start l hl g zg hz (by omega) t 0 7 (by omega) (fun rg hr at_ ha lv tk n => term_none l g zg t 0 (by omega) rg hr at_ lv tk _ fun rg hr => ?_) at_ ha
  refine term_low l hl g zg hz 890 (by omega) (by omega) hb t ht 0 (by omega) 7 (by omega) ?_ rg hr at_ ha lv tk n
  intro g2 zg2 u at2 q1 q2 q3 q4 hu q5
  exact rec_small l hl _ (by omega) g2 zg2 u at2 q1 q2 q3 q4 (show u.nodes ≤ 2 by omega) q5

theorem rec_succ (l : List Int) (hl : l.length ≤ 500) (d : Int) (hd : 0 < d ∧ d ≤ 100) (B c : Nat) (hc : 3 ≤ c ∧ c ≤ 900) (h : Rec l (d - 1) B c fun _ => True) : Rec l d (3 * B + 40) (c - 3) fun _ => True := by
  intro g zg t at_ hz hg hb ht hp ha
  exact term_start l hl g zg hz (by omega) t d (3 * B + 40) (by omega) (fun rg hr at_ ha lv tk n => term_depth l hl g zg hz c hc.2 (by omega) hb t ht d hd B h rg hr at_ ha lv tk n) at_ ha

theorem rec_one (l : List Int) (hl : l.length ≤ 500) : Rec l 1 61 877 fun _ => True := rec_succ l hl 1 (by omega) 7 880 (by omega) (rec_zero l hl)
theorem rec_two (l : List Int) (hl : l.length ≤ 500) : Rec l 2 223 874 fun _ => True := rec_succ l hl 2 (by omega) 61 877 (by omega) (rec_one l hl)
theorem rec_three (l : List Int) (hl : l.length ≤ 500) : Rec l 3 709 871 fun _ => True := rec_succ l hl 3 (by omega) 223 874 (by omega) (rec_two l hl)
end Go.Pi.Terms
