import Derived.Test.YtckcklkbdbafbaaDoorTH
set_option maxRecDepth 100000
set_option maxHeartbeats 1000000
set_option linter.unusedSimpArgs false
set_option linter.unusedVariables false
namespace Go.Pi.Terms
open Go Go.Pi Go.Proofs.YtckcklkbdbafbaaDoor

theorem type12 (l : List Int) (hl : l.length ≤ 500) : ∀ (depth at_ : Nat), depth ≤ 4 → at_ ≤ l.length →
    ∃ (t : Ty) (at' : Nat), t.nodes + 1 ≤ 2 ^ (depth + 1) ∧ at' ≤ l.length ∧ ∃ n, callN T G n 12 [.sp 0 0, i64 (depth : Int)] (dk l at_) = some (.ag t.row, dk l at') := by
  intro depth
  induction depth with
  | zero =>
    intro at_ hd ha
    obtain ⟨r, a1, hr, ha1, hn⟩ := next36 l at_ 7 (by omega) ha hl
    have hx : r = 0 ∨ r = 1 ∨ r = 2 ∨ r = 3 ∨ r = 4 ∨ r = 5 ∨ r = 6 := by omega
    have u0 := clR.use (nat34 (dk l a1))
    have u1 := clR.use (list37 (dk l a1))
    have u2 := clR.use (unit38 (dk l a1))
    simp only [Ty.row, tyAll] at u0 u1 u2
    have b1 : Ty.nat.nodes + 1 ≤ 2 ^ (0 + 1) := by decide
    have b2 : Ty.list.nodes + 1 ≤ 2 ^ (0 + 1) := by decide
    have b3 : Ty.unit.nodes + 1 ≤ 2 ^ (0 + 1) := by decide
    rcases hx with rfl | rfl | rfl | rfl | rfl | rfl | rfl
    all_goals
      have u := clR.use hn
      first
      | refine ⟨.nat, a1, b1, ha1, ?_⟩
        refine run_eq (run_of (pf := p12) rfl ?_)
        unfold p12
        simp only [R.loop_eq, wp0, wp1, wp2, wp3, wp4, PV.cellsT, appMax, dropSh, fillB, fillS, putD, splice, src, startSt, Int.reduceAdd, Int.reduceEq, Int.reduceLE, Int.reduceLT, Int.reduceNeg, Int.reduceSub, Int.reduceToNat, Nat.reduceAdd, Nat.reduceEqDiff, Nat.reduceLT, Nat.reduceLeDiff, Nat.reduceMul, Nat.reduceSub, if_false, if_true, ite_false, ite_true, reduceIte, Ty.row, tyAll, u, u0, u1, u2]
        done
      | refine ⟨.list, a1, b2, ha1, ?_⟩
        refine run_eq (run_of (pf := p12) rfl ?_)
        unfold p12
        simp only [R.loop_eq, wp0, wp1, wp2, wp3, wp4, PV.cellsT, appMax, dropSh, fillB, fillS, putD, splice, src, startSt, Int.reduceAdd, Int.reduceEq, Int.reduceLE, Int.reduceLT, Int.reduceNeg, Int.reduceSub, Int.reduceToNat, Nat.reduceAdd, Nat.reduceEqDiff, Nat.reduceLT, Nat.reduceLeDiff, Nat.reduceMul, Nat.reduceSub, if_false, if_true, ite_false, ite_true, reduceIte, Ty.row, tyAll, u, u0, u1, u2]
        done
      | refine ⟨.unit, a1, b3, ha1, ?_⟩
        refine run_eq (run_of (pf := p12) rfl ?_)
        unfold p12
        simp only [R.loop_eq, wp0, wp1, wp2, wp3, wp4, PV.cellsT, appMax, dropSh, fillB, fillS, putD, splice, src, startSt, Int.reduceAdd, Int.reduceEq, Int.reduceLE, Int.reduceLT, Int.reduceNeg, Int.reduceSub, Int.reduceToNat, Nat.reduceAdd, Nat.reduceEqDiff, Nat.reduceLT, Nat.reduceLeDiff, Nat.reduceMul, Nat.reduceSub, if_false, if_true, ite_false, ite_true, reduceIte, Ty.row, tyAll, u, u0, u1, u2]
        done
  | succ depth ih =>
    intro at_ hd ha
    obtain ⟨r, a1, hr, ha1, hn⟩ := next36 l at_ 7 (by omega) ha hl
    have hx : r = 0 ∨ r = 1 ∨ r = 2 ∨ r = 3 ∨ r = 4 ∨ r = 5 ∨ r = 6 := by omega
    obtain ⟨t1, a2, hb1, ha2, h1⟩ := ih a1 (by omega) ha1
    obtain ⟨t2, a3, hb2, ha3, h2⟩ := ih a2 (by omega) ha2
    have p1 : 2 ≤ 2 ^ (depth + 1) := by have := Nat.one_le_two_pow (n := depth); omega
    have p2 : 2 ^ (depth + 1 + 1) = 2 ^ (depth + 1) + 2 ^ (depth + 1) := by omega
    have u0 := clR.use (nat34 (dk l a1))
    have u1 := clR.use (list37 (dk l a1))
    have u2 := clR.use (unit38 (dk l a1))
    have v1 := clR.use h1
    have v2 := clR.use h2
    have v3 := clR.use (two39 (dk l a3) t1 t2)
    have v4 := clR.use (fun35 (dk l a3) t1 t2)
    simp only [Ty.row, tyAll] at u0 u1 u2 v1 v2 v3 v4
    have d1 : (0 : Int) < ((depth + 1 : Nat) : Int) := by omega
    have d2 : IntKind.i64.wrap (((depth + 1 : Nat) : Int) - 1) = (depth : Int) := by rw [wrap_i64 (by omega)]; omega
    have b1 : Ty.nat.nodes + 1 ≤ 2 ^ (depth + 1 + 1) := by simp only [Ty.nodes]; omega
    have b2 : Ty.list.nodes + 1 ≤ 2 ^ (depth + 1 + 1) := by simp only [Ty.nodes]; omega
    have b3 : Ty.unit.nodes + 1 ≤ 2 ^ (depth + 1 + 1) := by simp only [Ty.nodes]; omega
    have b4 : (Ty.pair t1 t2).nodes + 1 ≤ 2 ^ (depth + 1 + 1) := by simp only [Ty.nodes]; omega
    have b5 : (Ty.fn t1 t2).nodes + 1 ≤ 2 ^ (depth + 1 + 1) := by simp only [Ty.nodes]; omega
    rcases hx with rfl | rfl | rfl | rfl | rfl | rfl | rfl
    all_goals
      have u := clR.use hn
      first
      | refine ⟨.nat, a1, b1, ha1, ?_⟩
        refine run_eq (run_of (pf := p12) rfl ?_)
        unfold p12
        simp only [R.loop_eq, wp0, wp1, wp2, wp3, wp4, PV.cellsT, appMax, dropSh, fillB, fillS, putD, splice, src, startSt, Int.reduceAdd, Int.reduceEq, Int.reduceLE, Int.reduceLT, Int.reduceNeg, Int.reduceSub, Int.reduceToNat, Nat.reduceAdd, Nat.reduceEqDiff, Nat.reduceLT, Nat.reduceLeDiff, Nat.reduceMul, Nat.reduceSub, if_false, if_true, ite_false, ite_true, reduceIte, Ty.row, tyAll, u, u0, u1, u2, v1, v2, v3, v4, d1, d2]
        done
      | refine ⟨.list, a1, b2, ha1, ?_⟩
        refine run_eq (run_of (pf := p12) rfl ?_)
        unfold p12
        simp only [R.loop_eq, wp0, wp1, wp2, wp3, wp4, PV.cellsT, appMax, dropSh, fillB, fillS, putD, splice, src, startSt, Int.reduceAdd, Int.reduceEq, Int.reduceLE, Int.reduceLT, Int.reduceNeg, Int.reduceSub, Int.reduceToNat, Nat.reduceAdd, Nat.reduceEqDiff, Nat.reduceLT, Nat.reduceLeDiff, Nat.reduceMul, Nat.reduceSub, if_false, if_true, ite_false, ite_true, reduceIte, Ty.row, tyAll, u, u0, u1, u2, v1, v2, v3, v4, d1, d2]
        done
      | refine ⟨.unit, a1, b3, ha1, ?_⟩
        refine run_eq (run_of (pf := p12) rfl ?_)
        unfold p12
        simp only [R.loop_eq, wp0, wp1, wp2, wp3, wp4, PV.cellsT, appMax, dropSh, fillB, fillS, putD, splice, src, startSt, Int.reduceAdd, Int.reduceEq, Int.reduceLE, Int.reduceLT, Int.reduceNeg, Int.reduceSub, Int.reduceToNat, Nat.reduceAdd, Nat.reduceEqDiff, Nat.reduceLT, Nat.reduceLeDiff, Nat.reduceMul, Nat.reduceSub, if_false, if_true, ite_false, ite_true, reduceIte, Ty.row, tyAll, u, u0, u1, u2, v1, v2, v3, v4, d1, d2]
        done
      | refine ⟨.pair t1 t2, a3, b4, ha3, ?_⟩
        refine run_eq (run_of (pf := p12) rfl ?_)
        unfold p12
        simp only [R.loop_eq, wp0, wp1, wp2, wp3, wp4, PV.cellsT, appMax, dropSh, fillB, fillS, putD, splice, src, startSt, Int.reduceAdd, Int.reduceEq, Int.reduceLE, Int.reduceLT, Int.reduceNeg, Int.reduceSub, Int.reduceToNat, Nat.reduceAdd, Nat.reduceEqDiff, Nat.reduceLT, Nat.reduceLeDiff, Nat.reduceMul, Nat.reduceSub, if_false, if_true, ite_false, ite_true, reduceIte, Ty.row, tyAll, u, u0, u1, u2, v1, v2, v3, v4, d1, d2]
        done
      | refine ⟨.fn t1 t2, a3, b5, ha3, ?_⟩
        refine run_eq (run_of (pf := p12) rfl ?_)
        unfold p12
        simp only [R.loop_eq, wp0, wp1, wp2, wp3, wp4, PV.cellsT, appMax, dropSh, fillB, fillS, putD, splice, src, startSt, Int.reduceAdd, Int.reduceEq, Int.reduceLE, Int.reduceLT, Int.reduceNeg, Int.reduceSub, Int.reduceToNat, Nat.reduceAdd, Nat.reduceEqDiff, Nat.reduceLT, Nat.reduceLeDiff, Nat.reduceMul, Nat.reduceSub, if_false, if_true, ite_false, ite_true, reduceIte, Ty.row, tyAll, u, u0, u1, u2, v1, v2, v3, v4, d1, d2]
        done
end Go.Pi.Terms
