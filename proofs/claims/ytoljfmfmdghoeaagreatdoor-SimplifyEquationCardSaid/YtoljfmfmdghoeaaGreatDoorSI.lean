import Derived.Test.YtoljfmfmdghoeaaGreatDoorSH
set_option maxRecDepth 100000
set_option maxHeartbeats 1000000
set_option linter.unusedSimpArgs false
set_option linter.unusedVariables false
namespace Go.Pi.Terms
open Go Go.Pi Go.Proofs.YtoljfmfmdghoeaaGreatDoor
/-- The cells of an equation, of a proof of a reflexivity. -/
abbrev eqR (a b : Tm) : List PV := [i64 1, i64 0, .sl 0 0 [], .sl 0 5 [a.row, b.row], .sl 0 0 []]
abbrev reflR (t : Tm) : List PV := [i64 18, i64 0, i64 0, .sl 0 0 [], .sl 0 5 [t.row], .sl 0 0 [], .sl 0 0 []]
abbrev chR : List PV := [.sl 0 0 [], .sl 0 0 [], .sl 0 0 []]
theorem formed134 (sh : Sh) (a b : Tm) : ∃ n, callN T G n 134 [.ag (eqR a b)] sh = some (.v (.bool true), sh) := by
  have u0 := noType sh
  try simp only [Ty.row, tyAll, Tm.row, tmAll, eqR, reflR, chR, Int.cast_ofNat_Int] at u0
  have u0' := clR.use u0
  refine run_eq (run_of (pf := p134) rfl ?_)
  unfold p134
  simp only [R.loop_eq, wp0, wp1, wp2, wp3, wp4, PV.cellsT, appMax, dropSh, fillB, fillS, putD, splice, src, startSt, Int.reduceAdd, Int.reduceEq, Int.reduceLE, Int.reduceLT, Int.reduceNeg, Int.reduceSub, Int.reduceToNat, Nat.reduceAdd, Nat.reduceDiv, Nat.reduceEqDiff, Nat.reduceLT, Nat.reduceLeDiff, Nat.reduceMod, Nat.reduceMul, Nat.reduceSub, eq_self, if_false, if_true, ite_false, ite_true, reduceIte, Ty.row, tyAll, Tm.row, tmAll, eqR, reflR, chR, u0']
theorem fnodes107 (sh : Sh) (a b : Tm) (ha : a.ok) (hb : b.ok) (hs : 1 + a.size + b.size ≤ 4096) : ∃ n, callN T G n 107 [.ag (eqR a b)] sh = some (.tup [i64 ((1 + a.size + b.size : Nat) : Int), .v (.bool true)], sh) := by
  have w1 : IntKind.i64.wrap (1 + (a.size : Int)) = ((1 + a.size : Nat) : Int) := by rw [wrap_i64 (by omega)]; omega
  have w2 : IntKind.i64.wrap (((1 + a.size : Nat) : Int) + (b.size : Int)) = ((1 + a.size + b.size : Nat) : Int) := by rw [wrap_i64 (by omega)]; omega
  have c1 : ¬ (4096 : Int) < ((1 + a.size + b.size : Nat) : Int) := by omega
  have u0 := formed134 sh a b
  have u1 := termNodes sh a ha (by omega)
  have u2 := termNodes sh b hb (by omega)
  try simp only [Ty.row, tyAll, Tm.row, tmAll, eqR, reflR, chR, Int.cast_ofNat_Int] at u0 u1 u2
  have u0' := clR.use u0
  have u1' := clR.use u1
  have u2' := clR.use u2
  refine run_eq (run_of (pf := p107) rfl ?_)
  unfold p107
  simp only [R.loop_eq, wp0, wp1, wp2, wp3, wp4, PV.cellsT, appMax, dropSh, fillB, fillS, putD, splice, src, startSt, Int.reduceAdd, Int.reduceEq, Int.reduceLE, Int.reduceLT, Int.reduceNeg, Int.reduceSub, Int.reduceToNat, Nat.reduceAdd, Nat.reduceDiv, Nat.reduceEqDiff, Nat.reduceLT, Nat.reduceLeDiff, Nat.reduceMod, Nat.reduceMul, Nat.reduceSub, eq_self, if_false, if_true, ite_false, ite_true, reduceIte, Ty.row, tyAll, Tm.row, tmAll, eqR, reflR, chR, u0', u1', u2', w1, w2]
theorem cform73 (sh : Sh) (a b : Tm) (ha : a.ok) (hb : b.ok) (hs : 1 + a.size + b.size ≤ 4096) : ∃ n, callN T G n 73 [.ag (eqR a b)] sh = some (.tup [i64 ((1 + a.size + b.size : Nat) : Int), i64 0], sh) := by
  have w1 : IntKind.i64.wrap (1 + (a.size : Int)) = ((1 + a.size : Nat) : Int) := by rw [wrap_i64 (by omega)]; omega
  have w2 : IntKind.i64.wrap (((1 + a.size : Nat) : Int) + (b.size : Int)) = ((1 + a.size + b.size : Nat) : Int) := by rw [wrap_i64 (by omega)]; omega
  have c1 : ¬ (4096 : Int) < ((1 + a.size + b.size : Nat) : Int) := by omega
  have u0 := fnodes107 sh a b ha hb hs
  try simp only [Ty.row, tyAll, Tm.row, tmAll, eqR, reflR, chR, Int.cast_ofNat_Int] at u0
  have u0' := clR.use u0
  refine run_eq (run_of (pf := p73) rfl ?_)
  unfold p73
  simp only [R.loop_eq, wp0, wp1, wp2, wp3, wp4, PV.cellsT, appMax, dropSh, fillB, fillS, putD, splice, src, startSt, Int.reduceAdd, Int.reduceEq, Int.reduceLE, Int.reduceLT, Int.reduceNeg, Int.reduceSub, Int.reduceToNat, Nat.reduceAdd, Nat.reduceDiv, Nat.reduceEqDiff, Nat.reduceLT, Nat.reduceLeDiff, Nat.reduceMod, Nat.reduceMul, Nat.reduceSub, eq_self, if_false, if_true, ite_false, ite_true, reduceIte, Ty.row, tyAll, Tm.row, tmAll, eqR, reflR, chR, u0', c1]
theorem fcheck31 (sh : Sh) (a b : Tm) (ha : a.ok) (hb : b.ok) (hs : 1 + a.size + b.size ≤ 4096) : ∃ n, callN T G n 31 [.ag (eqR a b)] sh = some (i64 0, sh) := by
  have u0 := cform73 sh a b ha hb hs
  try simp only [Ty.row, tyAll, Tm.row, tmAll, eqR, reflR, chR, Int.cast_ofNat_Int] at u0
  have u0' := clR.use u0
  refine run_eq (run_of (pf := p31) rfl ?_)
  unfold p31
  simp only [R.loop_eq, wp0, wp1, wp2, wp3, wp4, PV.cellsT, appMax, dropSh, fillB, fillS, putD, splice, src, startSt, Int.reduceAdd, Int.reduceEq, Int.reduceLE, Int.reduceLT, Int.reduceNeg, Int.reduceSub, Int.reduceToNat, Nat.reduceAdd, Nat.reduceDiv, Nat.reduceEqDiff, Nat.reduceLT, Nat.reduceLeDiff, Nat.reduceMod, Nat.reduceMul, Nat.reduceSub, eq_self, if_false, if_true, ite_false, ite_true, reduceIte, Ty.row, tyAll, Tm.row, tmAll, eqR, reflR, chR, u0']
theorem shape113 (sh : Sh) (a b : Tm) (ha : a.ok) (hb : b.ok) (hs : 1 + a.size + b.size ≤ 4096) : ∃ n, callN T G n 113 [.ag (eqR a b)] sh = some (.v (.bool true), sh) := by
  have u0 := zero69 sh
  have u1 := shape53 sh a ha
  have u2 := shape53 sh b hb
  try simp only [Ty.row, tyAll, Tm.row, tmAll, eqR, reflR, chR, Int.cast_ofNat_Int] at u0 u1 u2
  have u0' := clR.use u0
  have u1' := clR.use u1
  have u2' := clR.use u2
  refine run_eq (run_of (pf := p113) rfl ?_)
  unfold p113
  simp only [R.loop_eq, wp0, wp1, wp2, wp3, wp4, PV.cellsT, appMax, dropSh, fillB, fillS, putD, splice, src, startSt, Int.reduceAdd, Int.reduceEq, Int.reduceLE, Int.reduceLT, Int.reduceNeg, Int.reduceSub, Int.reduceToNat, Nat.reduceAdd, Nat.reduceDiv, Nat.reduceEqDiff, Nat.reduceLT, Nat.reduceLeDiff, Nat.reduceMod, Nat.reduceMul, Nat.reduceSub, eq_self, if_false, if_true, ite_false, ite_true, reduceIte, Ty.row, tyAll, Tm.row, tmAll, eqR, reflR, chR, u0', u1', u2']
theorem count114 (sh : Sh) (a b : Tm) (ha : a.ok) (hb : b.ok) (hs : 1 + a.size + b.size ≤ 4096) : ∃ n, callN T G n 114 [.ag (eqR a b)] sh = some (i64 ((1 + a.size + b.size : Nat) : Int), sh) := by
  have w1 : IntKind.i64.wrap (1 + (a.size : Int)) = ((1 + a.size : Nat) : Int) := by rw [wrap_i64 (by omega)]; omega
  have w2 : IntKind.i64.wrap (((1 + a.size : Nat) : Int) + (b.size : Int)) = ((1 + a.size + b.size : Nat) : Int) := by rw [wrap_i64 (by omega)]; omega
  have c1 : ¬ (4096 : Int) < ((1 + a.size + b.size : Nat) : Int) := by omega
  have u0 := count37 sh a (by omega)
  have u1 := count37 sh b (by omega)
  try simp only [Ty.row, tyAll, Tm.row, tmAll, eqR, reflR, chR, Int.cast_ofNat_Int] at u0 u1
  have u0' := clR.use u0
  have u1' := clR.use u1
  refine run_eq (run_of (pf := p114) rfl ?_)
  unfold p114
  simp only [R.loop_eq, wp0, wp1, wp2, wp3, wp4, PV.cellsT, appMax, dropSh, fillB, fillS, putD, splice, src, startSt, Int.reduceAdd, Int.reduceEq, Int.reduceLE, Int.reduceLT, Int.reduceNeg, Int.reduceSub, Int.reduceToNat, Nat.reduceAdd, Nat.reduceDiv, Nat.reduceEqDiff, Nat.reduceLT, Nat.reduceLeDiff, Nat.reduceMod, Nat.reduceMul, Nat.reduceSub, eq_self, if_false, if_true, ite_false, ite_true, reduceIte, Ty.row, tyAll, Tm.row, tmAll, eqR, reflR, chR, u0', u1', w1, w2]
theorem check80 (sh : Sh) (a b : Tm) (ha : a.ok) (hb : b.ok) (hs : 1 + a.size + b.size ≤ 4096) : ∃ n, callN T G n 80 [.ag (eqR a b)] sh = some (i64 0, sh) := by
  have w1 : IntKind.i64.wrap (1 + (a.size : Int)) = ((1 + a.size : Nat) : Int) := by rw [wrap_i64 (by omega)]; omega
  have w2 : IntKind.i64.wrap (((1 + a.size : Nat) : Int) + (b.size : Int)) = ((1 + a.size + b.size : Nat) : Int) := by rw [wrap_i64 (by omega)]; omega
  have c1 : ¬ (4096 : Int) < ((1 + a.size + b.size : Nat) : Int) := by omega
  have u0 := shape113 sh a b ha hb hs
  have u1 := count114 sh a b ha hb hs
  try simp only [Ty.row, tyAll, Tm.row, tmAll, eqR, reflR, chR, Int.cast_ofNat_Int] at u0 u1
  have u0' := clR.use u0
  have u1' := clR.use u1
  refine run_eq (run_of (pf := p80) rfl ?_)
  unfold p80
  simp only [R.loop_eq, wp0, wp1, wp2, wp3, wp4, PV.cellsT, appMax, dropSh, fillB, fillS, putD, splice, src, startSt, Int.reduceAdd, Int.reduceEq, Int.reduceLE, Int.reduceLT, Int.reduceNeg, Int.reduceSub, Int.reduceToNat, Nat.reduceAdd, Nat.reduceDiv, Nat.reduceEqDiff, Nat.reduceLT, Nat.reduceLeDiff, Nat.reduceMod, Nat.reduceMul, Nat.reduceSub, eq_self, if_false, if_true, ite_false, ite_true, reduceIte, Ty.row, tyAll, Tm.row, tmAll, eqR, reflR, chR, u0', u1', c1]
theorem copy77 (sh : Sh) (a b : Tm) : ∃ n, callN T G n 77 [.ag (eqR a b)] sh = some (.ag (eqR a b), sh) := by
  have u0 := copyNo sh
  have u1 := copyTm sh a
  have u2 := copyTm sh b
  try simp only [Ty.row, tyAll, Tm.row, tmAll, eqR, reflR, chR, Int.cast_ofNat_Int] at u0 u1 u2
  have u0' := clR.use u0
  have u1' := clR.use u1
  have u2' := clR.use u2
  refine run_eq (run_of (pf := p77) rfl ?_)
  unfold p77
  simp only [R.loop_eq, wp0, wp1, wp2, wp3, wp4, PV.cellsT, appMax, dropSh, fillB, fillS, putD, splice, src, startSt, Int.reduceAdd, Int.reduceEq, Int.reduceLE, Int.reduceLT, Int.reduceNeg, Int.reduceSub, Int.reduceToNat, Nat.reduceAdd, Nat.reduceDiv, Nat.reduceEqDiff, Nat.reduceLT, Nat.reduceLeDiff, Nat.reduceMod, Nat.reduceMul, Nat.reduceSub, eq_self, if_false, if_true, ite_false, ite_true, reduceIte, Ty.row, tyAll, Tm.row, tmAll, eqR, reflR, chR, u0', u1', u2']
theorem eq148 (sh : Sh) (a b : Tm) : ∃ n, callN T G n 148 [.ag a.row, .ag b.row] sh = some (.ag (eqR a b), sh) := by
  have u0 := copyTm sh a
  have u1 := copyTm sh b
  try simp only [Ty.row, tyAll, Tm.row, tmAll, eqR, reflR, chR, Int.cast_ofNat_Int] at u0 u1
  have u0' := clR.use u0
  have u1' := clR.use u1
  refine run_eq (run_of (pf := p148) rfl ?_)
  unfold p148
  simp only [R.loop_eq, wp0, wp1, wp2, wp3, wp4, PV.cellsT, appMax, dropSh, fillB, fillS, putD, splice, src, startSt, Int.reduceAdd, Int.reduceEq, Int.reduceLE, Int.reduceLT, Int.reduceNeg, Int.reduceSub, Int.reduceToNat, Nat.reduceAdd, Nat.reduceDiv, Nat.reduceEqDiff, Nat.reduceLT, Nat.reduceLeDiff, Nat.reduceMod, Nat.reduceMul, Nat.reduceSub, eq_self, if_false, if_true, ite_false, ite_true, reduceIte, Ty.row, tyAll, Tm.row, tmAll, eqR, reflR, chR, u0', u1']
theorem content152 (sh : Sh) (a b : Tm) : ∃ n, callN T G n 152 [.ag (eqR a b)] sh = some (.v (.bool false), sh) := by
  refine run_eq (run_of (pf := p152) rfl ?_)
  unfold p152
  simp only [R.loop_eq, wp0, wp1, wp2, wp3, wp4, PV.cellsT, appMax, dropSh, fillB, fillS, putD, splice, src, startSt, Int.reduceAdd, Int.reduceEq, Int.reduceLE, Int.reduceLT, Int.reduceNeg, Int.reduceSub, Int.reduceToNat, Nat.reduceAdd, Nat.reduceDiv, Nat.reduceEqDiff, Nat.reduceLT, Nat.reduceLeDiff, Nat.reduceMod, Nat.reduceMul, Nat.reduceSub, eq_self, if_false, if_true, ite_false, ite_true, reduceIte, Ty.row, tyAll, Tm.row, tmAll, eqR, reflR, chR]
theorem content111 (sh : Sh) (a b : Tm) (ha : a.ok) (hb : b.ok) (hs : 1 + a.size + b.size ≤ 4096) : ∃ n, callN T G n 111 [.ag (eqR a b)] sh = some (.tup [.v (.bool false), i64 0], sh) := by
  have u0 := check80 sh a b ha hb hs
  have u1 := content152 sh a b
  try simp only [Ty.row, tyAll, Tm.row, tmAll, eqR, reflR, chR, Int.cast_ofNat_Int] at u0 u1
  have u0' := clR.use u0
  have u1' := clR.use u1
  refine run_eq (run_of (pf := p111) rfl ?_)
  unfold p111
  simp only [R.loop_eq, wp0, wp1, wp2, wp3, wp4, PV.cellsT, appMax, dropSh, fillB, fillS, putD, splice, src, startSt, Int.reduceAdd, Int.reduceEq, Int.reduceLE, Int.reduceLT, Int.reduceNeg, Int.reduceSub, Int.reduceToNat, Nat.reduceAdd, Nat.reduceDiv, Nat.reduceEqDiff, Nat.reduceLT, Nat.reduceLeDiff, Nat.reduceMod, Nat.reduceMul, Nat.reduceSub, eq_self, if_false, if_true, ite_false, ite_true, reduceIte, Ty.row, tyAll, Tm.row, tmAll, eqR, reflR, chR, u0', u1']
theorem pnodes135 (sh : Sh) : ∃ n, callN T G n 135 [i64 18] sh = some (.tup [.ag [i64 1, i64 0, i64 0, .v (.bool false), .v (.bool false)], .v (.bool true)], sh) := by
  refine run_eq (run_of (pf := p135) rfl ?_)
  unfold p135
  simp only [R.loop_eq, wp0, wp1, wp2, wp3, wp4, PV.cellsT, appMax, dropSh, fillB, fillS, putD, splice, src, startSt, Int.reduceAdd, Int.reduceEq, Int.reduceLE, Int.reduceLT, Int.reduceNeg, Int.reduceSub, Int.reduceToNat, Nat.reduceAdd, Nat.reduceDiv, Nat.reduceEqDiff, Nat.reduceLT, Nat.reduceLeDiff, Nat.reduceMod, Nat.reduceMul, Nat.reduceSub, eq_self, if_false, if_true, ite_false, ite_true, reduceIte, Ty.row, tyAll, Tm.row, tmAll, eqR, reflR, chR]
theorem pshape108 (sh : Sh) (t : Tm) (ht : t.ok) (hs : t.size ≤ 2000) : ∃ n, callN T G n 108 [.ag (reflR t)] sh = some (.v (.bool true), sh) := by
  have u0 := pnodes135 sh
  have u1 := zero69 sh
  have u2 := shape53 sh t ht
  try simp only [Ty.row, tyAll, Tm.row, tmAll, eqR, reflR, chR, Int.cast_ofNat_Int] at u0 u1 u2
  have u0' := clR.use u0
  have u1' := clR.use u1
  have u2' := clR.use u2
  refine run_eq (run_of (pf := p108) rfl ?_)
  unfold p108
  simp only [R.loop_eq, wp0, wp1, wp2, wp3, wp4, PV.cellsT, appMax, dropSh, fillB, fillS, putD, splice, src, startSt, Int.reduceAdd, Int.reduceEq, Int.reduceLE, Int.reduceLT, Int.reduceNeg, Int.reduceSub, Int.reduceToNat, Nat.reduceAdd, Nat.reduceDiv, Nat.reduceEqDiff, Nat.reduceLT, Nat.reduceLeDiff, Nat.reduceMod, Nat.reduceMul, Nat.reduceSub, eq_self, if_false, if_true, ite_false, ite_true, reduceIte, Ty.row, tyAll, Tm.row, tmAll, eqR, reflR, chR, u0', u1', u2']
theorem psmall136 (sh : Sh) (t : Tm) (ht : t.ok) (hs : t.size ≤ 2000) : ∃ n, callN T G n 136 [.ag (reflR t)] sh = some (.v (.bool true), sh) := by
  have c1 : ¬ (4096 : Int) < (t.size : Int) := by omega
  have u0 := count37 sh t (by omega)
  try simp only [Ty.row, tyAll, Tm.row, tmAll, eqR, reflR, chR, Int.cast_ofNat_Int] at u0
  have u0' := clR.use u0
  refine run_eq (run_of (pf := p136) rfl ?_)
  unfold p136
  simp only [R.loop_eq, wp0, wp1, wp2, wp3, wp4, PV.cellsT, appMax, dropSh, fillB, fillS, putD, splice, src, startSt, Int.reduceAdd, Int.reduceEq, Int.reduceLE, Int.reduceLT, Int.reduceNeg, Int.reduceSub, Int.reduceToNat, Nat.reduceAdd, Nat.reduceDiv, Nat.reduceEqDiff, Nat.reduceLT, Nat.reduceLeDiff, Nat.reduceMod, Nat.reduceMul, Nat.reduceSub, eq_self, if_false, if_true, ite_false, ite_true, reduceIte, Ty.row, tyAll, Tm.row, tmAll, eqR, reflR, chR, u0', c1]
theorem pcount137 (sh : Sh) (t : Tm) (ht : t.ok) (hs : t.size ≤ 2000) : ∃ n, callN T G n 137 [.ag (reflR t)] sh = some (i64 (1 + (t.size : Int)), sh) := by
  have w1 : IntKind.i64.wrap (1 + (t.size : Int)) = 1 + (t.size : Int) := wrap_i64 (by omega)
  have u0 := count37 sh t (by omega)
  try simp only [Ty.row, tyAll, Tm.row, tmAll, eqR, reflR, chR, Int.cast_ofNat_Int] at u0
  have u0' := clR.use u0
  refine run_eq (run_of (pf := p137) rfl ?_)
  unfold p137
  simp only [R.loop_eq, wp0, wp1, wp2, wp3, wp4, PV.cellsT, appMax, dropSh, fillB, fillS, putD, splice, src, startSt, Int.reduceAdd, Int.reduceEq, Int.reduceLE, Int.reduceLT, Int.reduceNeg, Int.reduceSub, Int.reduceToNat, Nat.reduceAdd, Nat.reduceDiv, Nat.reduceEqDiff, Nat.reduceLT, Nat.reduceLeDiff, Nat.reduceMod, Nat.reduceMul, Nat.reduceSub, eq_self, if_false, if_true, ite_false, ite_true, reduceIte, Ty.row, tyAll, Tm.row, tmAll, eqR, reflR, chR, u0', w1]
theorem pfits109 (sh : Sh) (t : Tm) (ht : t.ok) (hs : t.size ≤ 2000) : ∃ n, callN T G n 109 [.ag (reflR t)] sh = some (.v (.bool true), sh) := by
  have c1 : 1 + (t.size : Int) ≤ 16384 := by omega
  have u0 := psmall136 sh t ht hs
  have u1 := pcount137 sh t ht hs
  try simp only [Ty.row, tyAll, Tm.row, tmAll, eqR, reflR, chR, Int.cast_ofNat_Int] at u0 u1
  have u0' := clR.use u0
  have u1' := clR.use u1
  refine run_eq (run_of (pf := p109) rfl ?_)
  unfold p109
  simp only [R.loop_eq, wp0, wp1, wp2, wp3, wp4, PV.cellsT, appMax, dropSh, fillB, fillS, putD, splice, src, startSt, Int.reduceAdd, Int.reduceEq, Int.reduceLE, Int.reduceLT, Int.reduceNeg, Int.reduceSub, Int.reduceToNat, Nat.reduceAdd, Nat.reduceDiv, Nat.reduceEqDiff, Nat.reduceLT, Nat.reduceLeDiff, Nat.reduceMod, Nat.reduceMul, Nat.reduceSub, eq_self, if_false, if_true, ite_false, ite_true, reduceIte, Ty.row, tyAll, Tm.row, tmAll, eqR, reflR, chR, u0', u1', c1]
theorem pcheck75 (sh : Sh) (t : Tm) (ht : t.ok) (hs : t.size ≤ 2000) : ∃ n, callN T G n 75 [.ag (reflR t)] sh = some (i64 0, sh) := by
  have u0 := pshape108 sh t ht hs
  have u1 := pfits109 sh t ht hs
  try simp only [Ty.row, tyAll, Tm.row, tmAll, eqR, reflR, chR, Int.cast_ofNat_Int] at u0 u1
  have u0' := clR.use u0
  have u1' := clR.use u1
  refine run_eq (run_of (pf := p75) rfl ?_)
  unfold p75
  simp only [R.loop_eq, wp0, wp1, wp2, wp3, wp4, PV.cellsT, appMax, dropSh, fillB, fillS, putD, splice, src, startSt, Int.reduceAdd, Int.reduceEq, Int.reduceLE, Int.reduceLT, Int.reduceNeg, Int.reduceSub, Int.reduceToNat, Nat.reduceAdd, Nat.reduceDiv, Nat.reduceEqDiff, Nat.reduceLT, Nat.reduceLeDiff, Nat.reduceMod, Nat.reduceMul, Nat.reduceSub, eq_self, if_false, if_true, ite_false, ite_true, reduceIte, Ty.row, tyAll, Tm.row, tmAll, eqR, reflR, chR, u0', u1']
theorem ctx78 (sh : Sh) : ∃ n, callN T G n 78 [.sl 0 0 []] sh = some (i64 0, sh) := by
  refine run_eq (run_of (pf := p78) rfl ?_)
  unfold p78
  simp only [R.loop_eq, wp0, wp1, wp2, wp3, wp4, PV.cellsT, appMax, dropSh, fillB, fillS, putD, splice, src, startSt, Int.reduceAdd, Int.reduceEq, Int.reduceLE, Int.reduceLT, Int.reduceNeg, Int.reduceSub, Int.reduceToNat, Nat.reduceAdd, Nat.reduceDiv, Nat.reduceEqDiff, Nat.reduceLT, Nat.reduceLeDiff, Nat.reduceMod, Nat.reduceMul, Nat.reduceSub, eq_self, if_false, if_true, ite_false, ite_true, reduceIte, Ty.row, tyAll, Tm.row, tmAll, eqR, reflR, chR]
theorem seq74 (sh : Sh) : ∃ n, callN T G n 74 [.sl 0 0 [], .ag [.sl 0 0 [], .sl 0 0 []]] sh = some (i64 0, sh) := by
  have u0 := ctx78 sh
  try simp only [Ty.row, tyAll, Tm.row, tmAll, eqR, reflR, chR, Int.cast_ofNat_Int] at u0
  have u0' := clR.use u0
  refine run_eq (run_of (pf := p74) rfl ?_)
  unfold p74
  simp only [R.loop_eq, wp0, wp1, wp2, wp3, wp4, PV.cellsT, appMax, dropSh, fillB, fillS, putD, splice, src, startSt, Int.reduceAdd, Int.reduceEq, Int.reduceLE, Int.reduceLT, Int.reduceNeg, Int.reduceSub, Int.reduceToNat, Nat.reduceAdd, Nat.reduceDiv, Nat.reduceEqDiff, Nat.reduceLT, Nat.reduceLeDiff, Nat.reduceMod, Nat.reduceMul, Nat.reduceSub, eq_self, if_false, if_true, ite_false, ite_true, reduceIte, Ty.row, tyAll, Tm.row, tmAll, eqR, reflR, chR, u0']
theorem typeOf60 (sh : Sh) (t : Tm) (ht : HasTy [] t .nat) (hs : t.size ≤ 2000) : ∃ n, callN T G n 60 [.sl 0 0 [], .ag t.row] sh = some (.tup [.ag Ty.nat.row, i64 0], sh) := by
  have q := typed14 sh ht 0 (fun h => (h rfl).elim) (by simp) (by omega)
  simp only [List.map_nil] at q
  have u0 := ctx78 sh
  have u1 := q
  try simp only [Ty.row, tyAll, Tm.row, tmAll, eqR, reflR, chR, Int.cast_ofNat_Int] at u0 u1
  have u0' := clR.use u0
  have u1' := clR.use u1
  refine run_eq (run_of (pf := p60) rfl ?_)
  unfold p60
  simp only [R.loop_eq, wp0, wp1, wp2, wp3, wp4, PV.cellsT, appMax, dropSh, fillB, fillS, putD, splice, src, startSt, Int.reduceAdd, Int.reduceEq, Int.reduceLE, Int.reduceLT, Int.reduceNeg, Int.reduceSub, Int.reduceToNat, Nat.reduceAdd, Nat.reduceDiv, Nat.reduceEqDiff, Nat.reduceLT, Nat.reduceLeDiff, Nat.reduceMod, Nat.reduceMul, Nat.reduceSub, eq_self, if_false, if_true, ite_false, ite_true, reduceIte, Ty.row, tyAll, Tm.row, tmAll, eqR, reflR, chR, u0', u1']
theorem ctyped149 (sh : Sh) (t : Tm) (ht : HasTy [] t .nat) (hs : t.size ≤ 2000) : ∃ n, callN T G n 149 [.ag chR, .ag t.row, i64 1] sh = some (i64 0, sh) := by
  have u0 := typeOf60 sh t ht hs
  try simp only [Ty.row, tyAll, Tm.row, tmAll, eqR, reflR, chR, Int.cast_ofNat_Int] at u0
  have u0' := clR.use u0
  refine run_eq (run_of (pf := p149) rfl ?_)
  unfold p149
  simp only [R.loop_eq, wp0, wp1, wp2, wp3, wp4, PV.cellsT, appMax, dropSh, fillB, fillS, putD, splice, src, startSt, Int.reduceAdd, Int.reduceEq, Int.reduceLE, Int.reduceLT, Int.reduceNeg, Int.reduceSub, Int.reduceToNat, Nat.reduceAdd, Nat.reduceDiv, Nat.reduceEqDiff, Nat.reduceLT, Nat.reduceLeDiff, Nat.reduceMod, Nat.reduceMul, Nat.reduceSub, eq_self, if_false, if_true, ite_false, ite_true, reduceIte, Ty.row, tyAll, Tm.row, tmAll, eqR, reflR, chR, u0']
theorem rule110 (sh : Sh) (t : Tm) (ht : HasTy [] t .nat) (hs : t.size ≤ 2000) : ∃ n, callN T G n 110 [.ag chR, .ag (reflR t)] sh = some (.tup [.ag (eqR t t), .sl 0 0 [], i64 0], sh) := by
  have u0 := eq148 sh t t
  have u1 := ctyped149 sh t ht hs
  try simp only [Ty.row, tyAll, Tm.row, tmAll, eqR, reflR, chR, Int.cast_ofNat_Int] at u0 u1
  have u0' := clR.use u0
  have u1' := clR.use u1
  refine run_eq (run_of (pf := p110) rfl ?_)
  unfold p110
  simp only [R.loop_eq, wp0, wp1, wp2, wp3, wp4, PV.cellsT, appMax, dropSh, fillB, fillS, putD, splice, src, startSt, Int.reduceAdd, Int.reduceEq, Int.reduceLE, Int.reduceLT, Int.reduceNeg, Int.reduceSub, Int.reduceToNat, Nat.reduceAdd, Nat.reduceDiv, Nat.reduceEqDiff, Nat.reduceLT, Nat.reduceLeDiff, Nat.reduceMod, Nat.reduceMul, Nat.reduceSub, eq_self, if_false, if_true, ite_false, ite_true, reduceIte, Ty.row, tyAll, Tm.row, tmAll, eqR, reflR, chR, u0', u1']
theorem infer76 (sh : Sh) (t : Tm) (ht : HasTy [] t .nat) (hs : t.size ≤ 2000) : ∃ n, callN T G n 76 [.ag chR, .ag (reflR t)] sh = some (.tup [.ag (eqR t t ++ [.sl 0 0 []]), i64 0], sh) := by
  have u0 := rule110 sh t ht hs
  have u1 := check80 sh t t ht.ok ht.ok (by omega)
  have u2 := content111 sh t t ht.ok ht.ok (by omega)
  try simp only [Ty.row, tyAll, Tm.row, tmAll, eqR, reflR, chR, Int.cast_ofNat_Int] at u0 u1 u2
  have u0' := clR.use u0
  have u1' := clR.use u1
  have u2' := clR.use u2
  refine run_eq (run_of (pf := p76) rfl ?_)
  unfold p76
  simp only [R.loop_eq, wp0, wp1, wp2, wp3, wp4, PV.cellsT, appMax, dropSh, fillB, fillS, putD, splice, src, startSt, Int.reduceAdd, Int.reduceEq, Int.reduceLE, Int.reduceLT, Int.reduceNeg, Int.reduceSub, Int.reduceToNat, Nat.reduceAdd, Nat.reduceDiv, Nat.reduceEqDiff, Nat.reduceLT, Nat.reduceLeDiff, Nat.reduceMod, Nat.reduceMul, Nat.reduceSub, eq_self, if_false, if_true, ite_false, ite_true, reduceIte, Ty.row, tyAll, Tm.row, tmAll, eqR, reflR, chR, u0', u1', u2', List.cons_append, List.nil_append]
theorem infer32 (sh : Sh) (t : Tm) (ht : HasTy [] t .nat) (hs : t.size ≤ 2000) : ∃ n, callN T G n 32 [.sl 0 0 [], .ag [.sl 0 0 [], .sl 0 0 []], .ag (reflR t)] sh = some (.tup [.ag (eqR t t ++ [.sl 0 1 []]), i64 0], sh) := by
  have m1 := infer76 sh t ht hs
  simp only [List.cons_append, List.nil_append] at m1
  have u0 := seq74 sh
  have u1 := pcheck75 sh t ht.ok hs
  have u2 := m1
  have u3 := copy77 sh t t
  try simp only [Ty.row, tyAll, Tm.row, tmAll, eqR, reflR, chR, Int.cast_ofNat_Int] at u0 u1 u2 u3
  have u0' := clR.use u0
  have u1' := clR.use u1
  have u2' := clR.use u2
  have u3' := clR.use u3
  refine run_eq (run_of (pf := p32) rfl ?_)
  unfold p32
  simp only [R.loop_eq, wp0, wp1, wp2, wp3, wp4, PV.cellsT, appMax, dropSh, fillB, fillS, putD, splice, src, startSt, Int.reduceAdd, Int.reduceEq, Int.reduceLE, Int.reduceLT, Int.reduceNeg, Int.reduceSub, Int.reduceToNat, Nat.reduceAdd, Nat.reduceDiv, Nat.reduceEqDiff, Nat.reduceLT, Nat.reduceLeDiff, Nat.reduceMod, Nat.reduceMul, Nat.reduceSub, eq_self, if_false, if_true, ite_false, ite_true, reduceIte, Ty.row, tyAll, Tm.row, tmAll, eqR, reflR, chR, u0', u1', u2', u3', List.cons_append, List.nil_append]
theorem quant153 (sh : Sh) : ∃ n, callN T G n 153 [i64 1] sh = some (.v (.bool false), sh) := by
  refine run_eq (run_of (pf := p153) rfl ?_)
  unfold p153
  simp only [R.loop_eq, wp0, wp1, wp2, wp3, wp4, PV.cellsT, appMax, dropSh, fillB, fillS, putD, splice, src, startSt, Int.reduceAdd, Int.reduceEq, Int.reduceLE, Int.reduceLT, Int.reduceNeg, Int.reduceSub, Int.reduceToNat, Nat.reduceAdd, Nat.reduceDiv, Nat.reduceEqDiff, Nat.reduceLT, Nat.reduceLeDiff, Nat.reduceMod, Nat.reduceMul, Nat.reduceSub, eq_self, if_false, if_true, ite_false, ite_true, reduceIte, Ty.row, tyAll, Tm.row, tmAll, eqR, reflR, chR]
theorem ftyped112 (sh : Sh) (a b : Tm) (ha : HasTy [] a .nat) (hb : HasTy [] b .nat) (hsa : a.size ≤ 2000) (hsb : b.size ≤ 2000) : ∃ n, callN T G n 112 [.sl 0 0 [], .ag (eqR a b)] sh = some (i64 0, sh) := by
  have q1 := typed14 sh ha 0 (fun h => (h rfl).elim) (by simp) (by omega)
  have q2 := typed14 sh hb 0 (fun h => (h rfl).elim) (by simp) (by omega)
  simp only [List.map_nil] at q1 q2
  have u0 := q1
  have u1 := q2
  have u2 := quant153 sh
  try simp only [Ty.row, tyAll, Tm.row, tmAll, eqR, reflR, chR, Int.cast_ofNat_Int] at u0 u1 u2
  have u0' := clR.use u0
  have u1' := clR.use u1
  have u2' := clR.use u2
  refine run_eq (run_of (pf := p112) rfl ?_)
  unfold p112
  simp only [R.loop_eq, wp0, wp1, wp2, wp3, wp4, PV.cellsT, appMax, dropSh, fillB, fillS, putD, splice, src, startSt, Int.reduceAdd, Int.reduceEq, Int.reduceLE, Int.reduceLT, Int.reduceNeg, Int.reduceSub, Int.reduceToNat, Nat.reduceAdd, Nat.reduceDiv, Nat.reduceEqDiff, Nat.reduceLT, Nat.reduceLeDiff, Nat.reduceMod, Nat.reduceMul, Nat.reduceSub, eq_self, if_false, if_true, ite_false, ite_true, reduceIte, Ty.row, tyAll, Tm.row, tmAll, eqR, reflR, chR, u0', u1', u2']
theorem fbelow79 (sh : Sh) (a b : Tm) (ha : HasTy [] a .nat) (hb : HasTy [] b .nat) (hsa : a.size ≤ 2000) (hsb : b.size ≤ 2000) : ∃ n, callN T G n 79 [.sl 0 0 [], .ag (eqR a b)] sh = some (i64 0, sh) := by
  have u0 := check80 sh a b ha.ok hb.ok (by omega)
  have u1 := ftyped112 sh a b ha hb hsa hsb
  try simp only [Ty.row, tyAll, Tm.row, tmAll, eqR, reflR, chR, Int.cast_ofNat_Int] at u0 u1
  have u0' := clR.use u0
  have u1' := clR.use u1
  refine run_eq (run_of (pf := p79) rfl ?_)
  unfold p79
  simp only [R.loop_eq, wp0, wp1, wp2, wp3, wp4, PV.cellsT, appMax, dropSh, fillB, fillS, putD, splice, src, startSt, Int.reduceAdd, Int.reduceEq, Int.reduceLE, Int.reduceLT, Int.reduceNeg, Int.reduceSub, Int.reduceToNat, Nat.reduceAdd, Nat.reduceDiv, Nat.reduceEqDiff, Nat.reduceLT, Nat.reduceLeDiff, Nat.reduceMod, Nat.reduceMul, Nat.reduceSub, eq_self, if_false, if_true, ite_false, ite_true, reduceIte, Ty.row, tyAll, Tm.row, tmAll, eqR, reflR, chR, u0', u1']
theorem ftyped33 (sh : Sh) (a b : Tm) (ha : HasTy [] a .nat) (hb : HasTy [] b .nat) (hsa : a.size ≤ 2000) (hsb : b.size ≤ 2000) : ∃ n, callN T G n 33 [.sl 0 0 [], .ag (eqR a b)] sh = some (i64 0, sh) := by
  have u0 := ctx78 sh
  have u1 := fbelow79 sh a b ha hb hsa hsb
  try simp only [Ty.row, tyAll, Tm.row, tmAll, eqR, reflR, chR, Int.cast_ofNat_Int] at u0 u1
  have u0' := clR.use u0
  have u1' := clR.use u1
  refine run_eq (run_of (pf := p33) rfl ?_)
  unfold p33
  simp only [R.loop_eq, wp0, wp1, wp2, wp3, wp4, PV.cellsT, appMax, dropSh, fillB, fillS, putD, splice, src, startSt, Int.reduceAdd, Int.reduceEq, Int.reduceLE, Int.reduceLT, Int.reduceNeg, Int.reduceSub, Int.reduceToNat, Nat.reduceAdd, Nat.reduceDiv, Nat.reduceEqDiff, Nat.reduceLT, Nat.reduceLeDiff, Nat.reduceMod, Nat.reduceMul, Nat.reduceSub, eq_self, if_false, if_true, ite_false, ite_true, reduceIte, Ty.row, tyAll, Tm.row, tmAll, eqR, reflR, chR, u0', u1']
theorem sameNoTy (sh : Sh) : ∃ n, callN T G n 35 [.ag [i64 0, .sl 0 0 []], .ag [i64 0, .sl 0 0 []]] sh = some (.v (.bool true), sh) := by
  refine run_eq (run_of (pf := p35) rfl ?_)
  unfold p35
  simp only [R.loop_eq, wp0, wp1, wp2, wp3, wp4, PV.cellsT, appMax, dropSh, fillB, fillS, putD, splice, src, startSt, Int.reduceAdd, Int.reduceEq, Int.reduceLE, Int.reduceLT, Int.reduceNeg, Int.reduceSub, Int.reduceToNat, Nat.reduceAdd, Nat.reduceDiv, Nat.reduceEqDiff, Nat.reduceLT, Nat.reduceLeDiff, Nat.reduceMod, Nat.reduceMul, Nat.reduceSub, eq_self, if_false, if_true, ite_false, ite_true, reduceIte, Ty.row, tyAll, Tm.row, tmAll, eqR, reflR, chR]
theorem fmatch81 (sh : Sh) (a b : Tm) (ha : HasTy [] a .nat) (hb : HasTy [] b .nat) (hsa : a.size ≤ 2000) (hsb : b.size ≤ 2000) (hc : Conv a b) : ∃ r, (∃ n, callN T G n 81 [.ag (eqR a a), .ag (eqR a b)] sh = some (r, sh)) ∧ ME r := by
  have m0 : ∃ n, callN T G n 11 [.ag a.row, .ag a.row, i64 1000] sh = some (i64 0, sh) := by
    have m1 := check36 sh a ha.ok (by omega)
    have m3 := same17 sh a a
    have d : decide (a = a) = true := decide_eq_true rfl
    rw [d] at m3
    have u0 := m1
    have u1 := m3
    try simp only [Ty.row, tyAll, Tm.row, tmAll, eqR, reflR, chR, Int.cast_ofNat_Int] at u0 u1
    have u0' := clR.use u0
    have u1' := clR.use u1
    refine run_eq (run_of (pf := p11) rfl ?_)
    unfold p11
    simp only [R.loop_eq, wp0, wp1, wp2, wp3, wp4, PV.cellsT, appMax, dropSh, fillB, fillS, putD, splice, src, startSt, Int.reduceAdd, Int.reduceEq, Int.reduceLE, Int.reduceLT, Int.reduceNeg, Int.reduceSub, Int.reduceToNat, Nat.reduceAdd, Nat.reduceDiv, Nat.reduceEqDiff, Nat.reduceLT, Nat.reduceLeDiff, Nat.reduceMod, Nat.reduceMul, Nat.reduceSub, eq_self, if_false, if_true, ite_false, ite_true, reduceIte, Ty.row, tyAll, Tm.row, tmAll, eqR, reflR, chR, u0', u1']
  obtain ⟨r, m4, e, he, rfl⟩ := match11 sh [] (by simp) (by simp) .nat a b ha hb (by omega) (by omega) hc 1000 (by omega)
  refine ⟨_, ?_, e, he, rfl⟩
  by_cases h0 : e = 0
  · subst h0
    have u0 := same15 sh .nat .nat
    have u1 := m0
    have u2 := m4
    have u3 := sameNoTy sh
    try simp only [Ty.row, tyAll, Tm.row, tmAll, eqR, reflR, chR, Int.cast_ofNat_Int] at u0 u1 u2 u3
    have u0' := clR.use u0
    have u1' := clR.use u1
    have u2' := clR.use u2
    have u3' := clR.use u3
    refine run_eq (run_of (pf := p81) rfl ?_)
    unfold p81
    simp only [R.loop_eq, wp0, wp1, wp2, wp3, wp4, PV.cellsT, appMax, dropSh, fillB, fillS, putD, splice, src, startSt, Int.reduceAdd, Int.reduceEq, Int.reduceLE, Int.reduceLT, Int.reduceNeg, Int.reduceSub, Int.reduceToNat, Nat.reduceAdd, Nat.reduceDiv, Nat.reduceEqDiff, Nat.reduceLT, Nat.reduceLeDiff, Nat.reduceMod, Nat.reduceMul, Nat.reduceSub, eq_self, if_false, if_true, ite_false, ite_true, reduceIte, Ty.row, tyAll, Tm.row, tmAll, eqR, reflR, chR, u0', u1', u2', u3']
  · have c1 : ¬ e = 0 := h0
    have u0 := same15 sh .nat .nat
    have u1 := m0
    have u2 := m4
    have u3 := sameNoTy sh
    try simp only [Ty.row, tyAll, Tm.row, tmAll, eqR, reflR, chR, Int.cast_ofNat_Int] at u0 u1 u2 u3
    have u0' := clR.use u0
    have u1' := clR.use u1
    have u2' := clR.use u2
    have u3' := clR.use u3
    refine run_eq (run_of (pf := p81) rfl ?_)
    unfold p81
    simp only [R.loop_eq, wp0, wp1, wp2, wp3, wp4, PV.cellsT, appMax, dropSh, fillB, fillS, putD, splice, src, startSt, Int.reduceAdd, Int.reduceEq, Int.reduceLE, Int.reduceLT, Int.reduceNeg, Int.reduceSub, Int.reduceToNat, Nat.reduceAdd, Nat.reduceDiv, Nat.reduceEqDiff, Nat.reduceLT, Nat.reduceLeDiff, Nat.reduceMod, Nat.reduceMul, Nat.reduceSub, eq_self, if_false, if_true, ite_false, ite_true, reduceIte, Ty.row, tyAll, Tm.row, tmAll, eqR, reflR, chR, u0', u1', u2', u3', c1]
theorem fmatch34 (sh : Sh) (a b : Tm) (ha : HasTy [] a .nat) (hb : HasTy [] b .nat) (hsa : a.size ≤ 2000) (hsb : b.size ≤ 2000) (hc : Conv a b) : ∃ r, (∃ n, callN T G n 34 [.ag (eqR a a), .ag (eqR a b)] sh = some (r, sh)) ∧ ME r := by
  obtain ⟨r, m, e, he, rfl⟩ := fmatch81 sh a b ha hb hsa hsb hc
  refine ⟨_, ?_, e, he, rfl⟩
  have u0 := check80 sh a a ha.ok ha.ok (by omega)
  have u1 := check80 sh a b ha.ok hb.ok (by omega)
  have u2 := m
  try simp only [Ty.row, tyAll, Tm.row, tmAll, eqR, reflR, chR, Int.cast_ofNat_Int] at u0 u1 u2
  have u0' := clR.use u0
  have u1' := clR.use u1
  have u2' := clR.use u2
  refine run_eq (run_of (pf := p34) rfl ?_)
  unfold p34
  simp only [R.loop_eq, wp0, wp1, wp2, wp3, wp4, PV.cellsT, appMax, dropSh, fillB, fillS, putD, splice, src, startSt, Int.reduceAdd, Int.reduceEq, Int.reduceLE, Int.reduceLT, Int.reduceNeg, Int.reduceSub, Int.reduceToNat, Nat.reduceAdd, Nat.reduceDiv, Nat.reduceEqDiff, Nat.reduceLT, Nat.reduceLeDiff, Nat.reduceMod, Nat.reduceMul, Nat.reduceSub, eq_self, if_false, if_true, ite_false, ite_true, reduceIte, Ty.row, tyAll, Tm.row, tmAll, eqR, reflR, chR, u0', u1', u2']
theorem accepts16 (sh : Sh) (a b : Tm) (ha : HasTy [] a .nat) (hb : HasTy [] b .nat) (hsa : a.size ≤ 2000) (hsb : b.size ≤ 2000) (hc : Conv a b) : ∃ r, (∃ n, callN T G n 16 [.sl 0 0 [], .ag [.sl 0 0 [], .sl 0 0 []], .ag (reflR a), .ag (eqR a b)] sh = some (r, sh)) ∧ ME r := by
  have m1 := infer32 sh a ha hsa
  simp only [List.cons_append, List.nil_append] at m1
  obtain ⟨r, m, e, he, rfl⟩ := fmatch34 sh a b ha hb hsa hsb hc
  refine ⟨_, ?_, e, he, rfl⟩
  have u0 := m1
  have u1 := ftyped33 sh a b ha hb hsa hsb
  have u2 := m
  try simp only [Ty.row, tyAll, Tm.row, tmAll, eqR, reflR, chR, Int.cast_ofNat_Int] at u0 u1 u2
  have u0' := clR.use u0
  have u1' := clR.use u1
  have u2' := clR.use u2
  refine run_eq (run_of (pf := p16) rfl ?_)
  unfold p16
  simp only [R.loop_eq, wp0, wp1, wp2, wp3, wp4, PV.cellsT, appMax, dropSh, fillB, fillS, putD, splice, src, startSt, Int.reduceAdd, Int.reduceEq, Int.reduceLE, Int.reduceLT, Int.reduceNeg, Int.reduceSub, Int.reduceToNat, Nat.reduceAdd, Nat.reduceDiv, Nat.reduceEqDiff, Nat.reduceLT, Nat.reduceLeDiff, Nat.reduceMod, Nat.reduceMul, Nat.reduceSub, eq_self, if_false, if_true, ite_false, ite_true, reduceIte, Ty.row, tyAll, Tm.row, tmAll, eqR, reflR, chR, u0', u1', u2']
end Go.Pi.Terms
