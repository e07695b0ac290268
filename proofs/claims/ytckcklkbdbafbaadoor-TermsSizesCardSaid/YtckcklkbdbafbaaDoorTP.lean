import Derived.Test.YtckcklkbdbafbaaDoorTO
set_option maxRecDepth 100000
set_option maxHeartbeats 1000000
set_option linter.unusedSimpArgs false
set_option linter.unusedVariables false
namespace Go.Pi.Terms
open Go Go.Pi Go.Proofs.YtckcklkbdbafbaaDoor
/-- A term has a type in a context; all types are small. -/
inductive HasTy : List Ty → Tm → Ty → Prop where
  | var {g : List Ty} {i : Nat} (h : i < g.length) : HasTy g (.var i) (g.getD (g.length - 1 - i) .nat)
  | lam {g : List Ty} {s t : Ty} {a : Tm} (h : HasTy (g ++ [s]) a t) (hn : (Ty.fn s t).nodes ≤ 64) : HasTy g (.lam s a) (.fn s t)
  | app {g : List Ty} {s t : Ty} {a b : Tm} (ha : HasTy g a (.fn s t)) (hb : HasTy g b s) (hn : (Ty.fn s t).nodes ≤ 64) : HasTy g (.app a b) t
  | zero {g : List Ty} : HasTy g .zero .nat
  | succ {g : List Ty} {a : Tm} (ha : HasTy g a .nat) : HasTy g (.succ a) .nat
  | recu {g : List Ty} {s : Ty} {a b c : Tm} (ha : HasTy g a s) (hb : HasTy g b (.fn .nat (.fn s s))) (hc : HasTy g c .nat) (hn : s.nodes ≤ 64) : HasTy g (.recu s a b c) s
  | nil {g : List Ty} : HasTy g .nil .list
  | cons {g : List Ty} {a b : Tm} (ha : HasTy g a .nat) (hb : HasTy g b .list) : HasTy g (.cons a b) .list
  | fold {g : List Ty} {s : Ty} {a b c : Tm} (ha : HasTy g a s) (hb : HasTy g b (.fn .nat (.fn .list (.fn s s)))) (hc : HasTy g c .list) (hn : s.nodes ≤ 64) : HasTy g (.fold s a b c) s
  | pair {g : List Ty} {s t : Ty} {a b : Tm} (ha : HasTy g a s) (hb : HasTy g b t) (hn : (Ty.pair s t).nodes ≤ 64) : HasTy g (.pair a b) (.pair s t)
  | fst {g : List Ty} {s t : Ty} {a : Tm} (ha : HasTy g a (.pair s t)) (hn : (Ty.pair s t).nodes ≤ 64) : HasTy g (.fst a) s
  | snd {g : List Ty} {s t : Ty} {a : Tm} (ha : HasTy g a (.pair s t)) (hn : (Ty.pair s t).nodes ≤ 64) : HasTy g (.snd a) t
  | unit {g : List Ty} : HasTy g .unit .unit

theorem HasTy.ok {g : List Ty} {x : Tm} {t : Ty} (h : HasTy g x t) : x.ok := by
  induction h with
  | lam h hn ih => simp only [Ty.nodes] at hn; exact ⟨by omega, ih⟩
  | app ha hb hn iha ihb => exact ⟨iha, ihb⟩
  | succ ha iha => exact iha
  | recu ha hb hc hn iha ihb ihc => exact ⟨hn, iha, ihb, ihc⟩
  | cons ha hb iha ihb => exact ⟨iha, ihb⟩
  | fold ha hb hc hn iha ihb ihc => exact ⟨hn, iha, ihb, ihc⟩
  | pair ha hb hn iha ihb => exact ⟨iha, ihb⟩
  | fst ha hn iha => exact iha
  | snd ha hn iha => exact iha
  | _ => trivial

theorem getD_srow (g : List Ty) {i : Nat} (h : i < g.length) : (g.map Ty.srow).getD i [] = (g.getD i .nat).srow := by
  simp [List.getD_eq_getElem?_getD, h]

theorem srow_eq (t : Ty) : t.srow = [i64 t.kind, .sl 0 t.asz t.arows, i64 (t.nodes : Int)] := rfl

theorem typeOf48 (sh : Sh) {g : List Ty} {x : Tm} {t : Ty} (h : HasTy g x t) : ∀ (zg : Nat), (g ≠ [] → zg = 3) → g.length + x.size ≤ 100000 → ∃ n, callN T G n 48 [.sl 0 zg (g.map Ty.srow), .ag x.row] sh = some (.tup [.ag t.srow, i64 0], sh) := by
  induction h with
  | @var g i hi =>
    intro zg hz hs
    simp only [Tm.size] at hs
    obtain rfl := hz (by intro e; subst e; simp at hi)
    have c1 : ¬ ((g.length : Int) ≤ (i : Int)) := by omega
    have w1 : IntKind.i64.wrap ((g.length : Int) - 1) = (g.length : Int) - 1 := wrap_i64 (by omega)
    have w2 : IntKind.i64.wrap ((g.length : Int) - 1 - (i : Int)) = ((g.length - 1 - i : Nat) : Int) := by rw [wrap_i64 (by omega)]; omega
    have c2 : ((g.length - 1 - i : Nat) : Int) < (g.length : Int) := by omega
    have c3 : (0 : Int) ≤ ((g.length - 1 - i : Nat) : Int) := by omega
    have c4 := getD_srow g (i := g.length - 1 - i) (by omega)
    simp only [srow_eq] at c4
    refine run_eq (run_of (pf := p48) rfl ?_)
    unfold p48
    simp only [R.loop_eq, wp0, wp1, wp2, wp3, wp4, PV.cellsT, appMax, dropSh, fillB, fillS, putD, splice, src, startSt, Int.reduceAdd, Int.reduceEq, Int.reduceLE, Int.reduceLT, Int.reduceNeg, Int.reduceSub, Int.reduceToNat, Nat.reduceAdd, Nat.reduceEqDiff, Nat.reduceLT, Nat.reduceLeDiff, Nat.reduceMul, Nat.reduceSub, if_false, if_true, ite_false, ite_true, reduceIte, Ty.row, tyAll, Tm.row, tmAll, List.length_map, c1, w1, w2, c2, c3, c4, Int.toNat_natCast, srow_eq]
  | @lam g s t a h hn ih =>
    intro zg hz hs
    simp only [Tm.size] at hs
    have hn' : 1 + s.nodes + t.nodes ≤ 64 := hn
    have u0 := clR.use (of71 sh s (by omega))
    have u1 := ih 3 (fun _ => rfl) (by simp only [List.length_append, List.length_cons, List.length_nil]; omega)
    have u2 := clR.use (join72_fn sh s t hn)
    simp only [List.map_append, List.map_cons, List.map_nil] at u1
    simp only [Ty.row, tyAll, Tm.row, tmAll, srow_eq] at u0 u1 u2
    have u1' := clR.use u1
    have hz' : zg = 3 ∨ g.map Ty.srow = [] := by
      by_cases e : g = []
      · exact .inr (by rw [e]; rfl)
      · exact .inl (hz e)
    have c1 := @sl_full 0 zg 3 .i64 .i64 (g.length : Int) (g.map Ty.srow) hz' (by rw [List.length_map])
    have c2 : g.length ≤ 4294967295 := by omega
    refine run_eq (run_of (pf := p48) rfl ?_)
    unfold p48
    simp only [R.loop_eq, wp0, wp1, wp2, wp3, wp4, PV.cellsT, appMax, dropSh, fillB, fillS, putD, splice, src, startSt, Int.reduceAdd, Int.reduceEq, Int.reduceLE, Int.reduceLT, Int.reduceNeg, Int.reduceSub, Int.reduceToNat, Nat.reduceAdd, Nat.reduceEqDiff, Nat.reduceLT, Nat.reduceLeDiff, Nat.reduceMul, Nat.reduceSub, if_false, if_true, ite_false, ite_true, reduceIte, Ty.row, tyAll, Tm.row, tmAll, List.length_map, c1, c2, u0, u1', u2, srow_eq]
  | @app g s t a b ha hb hn iha ihb =>
    intro zg hz hs
    simp only [Tm.size] at hs
    have u := node_app sh a b s t hn
    have ua := iha zg hz (by omega)
    have ub := ihb zg hz (by omega)
    simp only [Ty.row, tyAll, Tm.row, tmAll, srow_eq, z3, List.cons_append, List.nil_append] at u ua ub
    have u' := clR.use u
    have ua' := clR.use ua
    have ub' := clR.use ub
    refine run_eq (run_of (pf := p48) rfl ?_)
    unfold p48
    simp only [R.loop_eq, wp0, wp1, wp2, wp3, wp4, PV.cellsT, appMax, dropSh, fillB, fillS, putD, splice, src, startSt, Int.reduceAdd, Int.reduceEq, Int.reduceLE, Int.reduceLT, Int.reduceNeg, Int.reduceSub, Int.reduceToNat, Nat.reduceAdd, Nat.reduceEqDiff, Nat.reduceLT, Nat.reduceLeDiff, Nat.reduceMul, Nat.reduceSub, if_false, if_true, ite_false, ite_true, reduceIte, Ty.row, tyAll, Tm.row, tmAll, List.length_map, srow_eq, Int.toNat_one, Int.toNat_zero, u', ua', ub']
  | @zero g =>
    intro zg hz hs
    simp only [Tm.size] at hs
    have u := node_zero sh
    simp only [Ty.row, tyAll, Tm.row, tmAll, srow_eq, z3, List.cons_append, List.nil_append] at u
    have u' := clR.use u
    refine run_eq (run_of (pf := p48) rfl ?_)
    unfold p48
    simp only [R.loop_eq, wp0, wp1, wp2, wp3, wp4, PV.cellsT, appMax, dropSh, fillB, fillS, putD, splice, src, startSt, Int.reduceAdd, Int.reduceEq, Int.reduceLE, Int.reduceLT, Int.reduceNeg, Int.reduceSub, Int.reduceToNat, Nat.reduceAdd, Nat.reduceEqDiff, Nat.reduceLT, Nat.reduceLeDiff, Nat.reduceMul, Nat.reduceSub, if_false, if_true, ite_false, ite_true, reduceIte, Ty.row, tyAll, Tm.row, tmAll, List.length_map, srow_eq, Int.toNat_one, Int.toNat_zero, u']
  | @succ g a ha iha =>
    intro zg hz hs
    simp only [Tm.size] at hs
    have u := node_succ sh a
    have ua := iha zg hz (by omega)
    simp only [Ty.row, tyAll, Tm.row, tmAll, srow_eq, z3, List.cons_append, List.nil_append] at u ua
    have u' := clR.use u
    have ua' := clR.use ua
    refine run_eq (run_of (pf := p48) rfl ?_)
    unfold p48
    simp only [R.loop_eq, wp0, wp1, wp2, wp3, wp4, PV.cellsT, appMax, dropSh, fillB, fillS, putD, splice, src, startSt, Int.reduceAdd, Int.reduceEq, Int.reduceLE, Int.reduceLT, Int.reduceNeg, Int.reduceSub, Int.reduceToNat, Nat.reduceAdd, Nat.reduceEqDiff, Nat.reduceLT, Nat.reduceLeDiff, Nat.reduceMul, Nat.reduceSub, if_false, if_true, ite_false, ite_true, reduceIte, Ty.row, tyAll, Tm.row, tmAll, List.length_map, srow_eq, Int.toNat_one, Int.toNat_zero, u', ua']
  | @recu g s a b c ha hb hc hn iha ihb ihc =>
    intro zg hz hs
    simp only [Tm.size] at hs
    have u := node_recu sh a b c s hn
    have ua := iha zg hz (by omega)
    have ub := ihb zg hz (by omega)
    have uc := ihc zg hz (by omega)
    simp only [Ty.row, tyAll, Tm.row, tmAll, srow_eq, z3, List.cons_append, List.nil_append] at u ua ub uc
    have u' := clR.use u
    have ua' := clR.use ua
    have ub' := clR.use ub
    have uc' := clR.use uc
    refine run_eq (run_of (pf := p48) rfl ?_)
    unfold p48
    simp only [R.loop_eq, wp0, wp1, wp2, wp3, wp4, PV.cellsT, appMax, dropSh, fillB, fillS, putD, splice, src, startSt, Int.reduceAdd, Int.reduceEq, Int.reduceLE, Int.reduceLT, Int.reduceNeg, Int.reduceSub, Int.reduceToNat, Nat.reduceAdd, Nat.reduceEqDiff, Nat.reduceLT, Nat.reduceLeDiff, Nat.reduceMul, Nat.reduceSub, if_false, if_true, ite_false, ite_true, reduceIte, Ty.row, tyAll, Tm.row, tmAll, List.length_map, srow_eq, Int.toNat_one, Int.toNat_zero, u', ua', ub', uc']
  | @nil g =>
    intro zg hz hs
    simp only [Tm.size] at hs
    have u := node_nil sh
    simp only [Ty.row, tyAll, Tm.row, tmAll, srow_eq, z3, List.cons_append, List.nil_append] at u
    have u' := clR.use u
    refine run_eq (run_of (pf := p48) rfl ?_)
    unfold p48
    simp only [R.loop_eq, wp0, wp1, wp2, wp3, wp4, PV.cellsT, appMax, dropSh, fillB, fillS, putD, splice, src, startSt, Int.reduceAdd, Int.reduceEq, Int.reduceLE, Int.reduceLT, Int.reduceNeg, Int.reduceSub, Int.reduceToNat, Nat.reduceAdd, Nat.reduceEqDiff, Nat.reduceLT, Nat.reduceLeDiff, Nat.reduceMul, Nat.reduceSub, if_false, if_true, ite_false, ite_true, reduceIte, Ty.row, tyAll, Tm.row, tmAll, List.length_map, srow_eq, Int.toNat_one, Int.toNat_zero, u']
  | @cons g a b ha hb iha ihb =>
    intro zg hz hs
    simp only [Tm.size] at hs
    have u := node_cons sh a b
    have ua := iha zg hz (by omega)
    have ub := ihb zg hz (by omega)
    simp only [Ty.row, tyAll, Tm.row, tmAll, srow_eq, z3, List.cons_append, List.nil_append] at u ua ub
    have u' := clR.use u
    have ua' := clR.use ua
    have ub' := clR.use ub
    refine run_eq (run_of (pf := p48) rfl ?_)
    unfold p48
    simp only [R.loop_eq, wp0, wp1, wp2, wp3, wp4, PV.cellsT, appMax, dropSh, fillB, fillS, putD, splice, src, startSt, Int.reduceAdd, Int.reduceEq, Int.reduceLE, Int.reduceLT, Int.reduceNeg, Int.reduceSub, Int.reduceToNat, Nat.reduceAdd, Nat.reduceEqDiff, Nat.reduceLT, Nat.reduceLeDiff, Nat.reduceMul, Nat.reduceSub, if_false, if_true, ite_false, ite_true, reduceIte, Ty.row, tyAll, Tm.row, tmAll, List.length_map, srow_eq, Int.toNat_one, Int.toNat_zero, u', ua', ub']
  | @fold g s a b c ha hb hc hn iha ihb ihc =>
    intro zg hz hs
    simp only [Tm.size] at hs
    have u := node_fold sh a b c s hn
    have ua := iha zg hz (by omega)
    have ub := ihb zg hz (by omega)
    have uc := ihc zg hz (by omega)
    simp only [Ty.row, tyAll, Tm.row, tmAll, srow_eq, z3, List.cons_append, List.nil_append] at u ua ub uc
    have u' := clR.use u
    have ua' := clR.use ua
    have ub' := clR.use ub
    have uc' := clR.use uc
    refine run_eq (run_of (pf := p48) rfl ?_)
    unfold p48
    simp only [R.loop_eq, wp0, wp1, wp2, wp3, wp4, PV.cellsT, appMax, dropSh, fillB, fillS, putD, splice, src, startSt, Int.reduceAdd, Int.reduceEq, Int.reduceLE, Int.reduceLT, Int.reduceNeg, Int.reduceSub, Int.reduceToNat, Nat.reduceAdd, Nat.reduceEqDiff, Nat.reduceLT, Nat.reduceLeDiff, Nat.reduceMul, Nat.reduceSub, if_false, if_true, ite_false, ite_true, reduceIte, Ty.row, tyAll, Tm.row, tmAll, List.length_map, srow_eq, Int.toNat_one, Int.toNat_zero, u', ua', ub', uc']
  | @pair g s t a b ha hb hn iha ihb =>
    intro zg hz hs
    simp only [Tm.size] at hs
    have u := node_pair sh a b s t hn
    have ua := iha zg hz (by omega)
    have ub := ihb zg hz (by omega)
    simp only [Ty.row, tyAll, Tm.row, tmAll, srow_eq, z3, List.cons_append, List.nil_append] at u ua ub
    have u' := clR.use u
    have ua' := clR.use ua
    have ub' := clR.use ub
    refine run_eq (run_of (pf := p48) rfl ?_)
    unfold p48
    simp only [R.loop_eq, wp0, wp1, wp2, wp3, wp4, PV.cellsT, appMax, dropSh, fillB, fillS, putD, splice, src, startSt, Int.reduceAdd, Int.reduceEq, Int.reduceLE, Int.reduceLT, Int.reduceNeg, Int.reduceSub, Int.reduceToNat, Nat.reduceAdd, Nat.reduceEqDiff, Nat.reduceLT, Nat.reduceLeDiff, Nat.reduceMul, Nat.reduceSub, if_false, if_true, ite_false, ite_true, reduceIte, Ty.row, tyAll, Tm.row, tmAll, List.length_map, srow_eq, Int.toNat_one, Int.toNat_zero, u', ua', ub']
  | @fst g s t a ha hn iha =>
    intro zg hz hs
    simp only [Tm.size] at hs
    have u := node_fst sh a s t hn
    have ua := iha zg hz (by omega)
    simp only [Ty.row, tyAll, Tm.row, tmAll, srow_eq, z3, List.cons_append, List.nil_append] at u ua
    have u' := clR.use u
    have ua' := clR.use ua
    refine run_eq (run_of (pf := p48) rfl ?_)
    unfold p48
    simp only [R.loop_eq, wp0, wp1, wp2, wp3, wp4, PV.cellsT, appMax, dropSh, fillB, fillS, putD, splice, src, startSt, Int.reduceAdd, Int.reduceEq, Int.reduceLE, Int.reduceLT, Int.reduceNeg, Int.reduceSub, Int.reduceToNat, Nat.reduceAdd, Nat.reduceEqDiff, Nat.reduceLT, Nat.reduceLeDiff, Nat.reduceMul, Nat.reduceSub, if_false, if_true, ite_false, ite_true, reduceIte, Ty.row, tyAll, Tm.row, tmAll, List.length_map, srow_eq, Int.toNat_one, Int.toNat_zero, u', ua']
  | @snd g s t a ha hn iha =>
    intro zg hz hs
    simp only [Tm.size] at hs
    have u := node_snd sh a s t hn
    have ua := iha zg hz (by omega)
    simp only [Ty.row, tyAll, Tm.row, tmAll, srow_eq, z3, List.cons_append, List.nil_append] at u ua
    have u' := clR.use u
    have ua' := clR.use ua
    refine run_eq (run_of (pf := p48) rfl ?_)
    unfold p48
    simp only [R.loop_eq, wp0, wp1, wp2, wp3, wp4, PV.cellsT, appMax, dropSh, fillB, fillS, putD, splice, src, startSt, Int.reduceAdd, Int.reduceEq, Int.reduceLE, Int.reduceLT, Int.reduceNeg, Int.reduceSub, Int.reduceToNat, Nat.reduceAdd, Nat.reduceEqDiff, Nat.reduceLT, Nat.reduceLeDiff, Nat.reduceMul, Nat.reduceSub, if_false, if_true, ite_false, ite_true, reduceIte, Ty.row, tyAll, Tm.row, tmAll, List.length_map, srow_eq, Int.toNat_one, Int.toNat_zero, u', ua']
  | @unit g =>
    intro zg hz hs
    simp only [Tm.size] at hs
    have u := node_unit sh
    simp only [Ty.row, tyAll, Tm.row, tmAll, srow_eq, z3, List.cons_append, List.nil_append] at u
    have u' := clR.use u
    refine run_eq (run_of (pf := p48) rfl ?_)
    unfold p48
    simp only [R.loop_eq, wp0, wp1, wp2, wp3, wp4, PV.cellsT, appMax, dropSh, fillB, fillS, putD, splice, src, startSt, Int.reduceAdd, Int.reduceEq, Int.reduceLE, Int.reduceLT, Int.reduceNeg, Int.reduceSub, Int.reduceToNat, Nat.reduceAdd, Nat.reduceEqDiff, Nat.reduceLT, Nat.reduceLeDiff, Nat.reduceMul, Nat.reduceSub, if_false, if_true, ite_false, ite_true, reduceIte, Ty.row, tyAll, Tm.row, tmAll, List.length_map, srow_eq, Int.toNat_one, Int.toNat_zero, u']
end Go.Pi.Terms
