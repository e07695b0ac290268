import Derived.Test.YtckcklkbdbafbaaDoorTP
set_option maxRecDepth 100000
set_option maxHeartbeats 1000000
set_option linter.unusedSimpArgs false
set_option linter.unusedVariables false
namespace Go.Pi.Terms
open Go Go.Pi Go.Proofs.YtckcklkbdbafbaaDoor
theorem typeOf14 (sh : Sh) {g : List Ty} {x : Tm} {t : Ty} (h : HasTy g x t) (zg : Nat) (hz : g ≠ [] → zg = 2) (hg : g.length ≤ 16) (hb : ∀ t ∈ g, t.nodes ≤ 64) (hs : x.size ≤ 4096) :
    ∃ n, callN T G n 14 [.sl 0 zg (g.map Ty.row), .ag x.row] sh = some (.tup [.ag t.row, i64 0], sh) := by
  obtain ⟨z3, h3, hf⟩ := from47 g zg hz (by omega) hb sh
  have u0 := clR.use (context46 g zg hz hg hb sh)
  have u1 := check27 sh x h.ok hs
  have u2 := clR.use hf
  have u3 := typeOf48 sh h z3 h3 (by omega)
  have u4 := own49 sh t
  simp only [Ty.row, tyAll, Tm.row, tmAll, srow_eq] at u1 u3 u4
  have u1' := clR.use u1
  have u3' := clR.use u3
  have u4' := clR.use u4
  refine run_eq (run_of (pf := p14) rfl ?_)
  unfold p14
  simp only [R.loop_eq, wp0, wp1, wp2, wp3, wp4, PV.cellsT, appMax, dropSh, fillB, fillS, putD, splice, src, startSt, Int.reduceAdd, Int.reduceEq, Int.reduceLE, Int.reduceLT, Int.reduceNeg, Int.reduceSub, Int.reduceToNat, Nat.reduceAdd, Nat.reduceEqDiff, Nat.reduceLT, Nat.reduceLeDiff, Nat.reduceMul, Nat.reduceSub, if_false, if_true, ite_false, ite_true, reduceIte, Ty.row, tyAll, Tm.row, tmAll, srow_eq, u0, u1', u2, u3', u4']

theorem sane8 (sh : Sh) : ∃ n, callN T G n 8 [] sh = some (.v (.bool true), sh) := by
  have h : HasTy [] (.lam .nat (.var 0)) (.fn .nat .nat) := .lam (HasTy.var (g := [.nat]) (i := 0) (by decide)) (by decide)
  have u0 := nat34 sh
  have u1 := var18 sh 0
  have u2 := t1 sh 2 (.var 0) .nat
  have u3 := typeOf14 sh h 0 (fun e => (e rfl).elim) (by decide) (fun _ h => by cases h) (by decide)
  have u4 := fun35 sh .nat .nat
  have u5 := same15 sh (.fn .nat .nat) (.fn .nat .nat)
  simp only [Ty.row, tyAll, Tm.row, tmAll, Int.cast_ofNat_Int, List.map_nil] at u0 u1 u2 u3 u4 u5
  have u0' := clR.use u0
  have u1' := clR.use u1
  have u2' := clR.use u2
  have u3' := clR.use u3
  have u4' := clR.use u4
  have u5' := clR.use u5
  refine run_eq (run_of (pf := p8) rfl ?_)
  unfold p8
  simp only [R.loop_eq, wp0, wp1, wp2, wp3, wp4, PV.cellsT, appMax, dropSh, fillB, fillS, putD, splice, src, startSt, Int.reduceAdd, Int.reduceEq, Int.reduceLE, Int.reduceLT, Int.reduceNeg, Int.reduceSub, Int.reduceToNat, Nat.reduceAdd, Nat.reduceEqDiff, Nat.reduceLT, Nat.reduceLeDiff, Nat.reduceMul, Nat.reduceSub, if_false, if_true, ite_false, ite_true, reduceIte, Ty.row, tyAll, Tm.row, tmAll, u0', u1', u2', u3', u4', u5']
end Go.Pi.Terms
