import Derived.Test.YtckcklkbdbafbaaDoorL5
set_option maxRecDepth 100000
set_option maxHeartbeats 1000000
set_option linter.unusedSimpArgs false
set_option linter.unusedVariables false
namespace Go.Pi.Terms
open Go Go.Pi Go.Proofs.YtckcklkbdbafbaaDoor
theorem shape78 (sh : Sh) : ∀ t : Ty, ∃ n, callN T G n 78 [.ag t.row] sh = some (.v (.bool true), sh)
  | .nat => by
    refine run_eq (run_of (pf := p78) rfl ?_)
    unfold p78
    simp only [R.loop_eq, wp0, wp1, wp2, wp3, wp4, PV.cellsT, appMax, dropSh, fillB, fillS, putD, splice, src, startSt, Int.reduceAdd, Int.reduceEq, Int.reduceLE, Int.reduceLT, Int.reduceNeg, Int.reduceSub, Int.reduceToNat, Nat.reduceAdd, Nat.reduceEqDiff, Nat.reduceLT, Nat.reduceLeDiff, Nat.reduceMul, Nat.reduceSub, if_false, if_true, ite_false, ite_true, reduceIte, Ty.row, tyAll]
  | .list => by
    refine run_eq (run_of (pf := p78) rfl ?_)
    unfold p78
    simp only [R.loop_eq, wp0, wp1, wp2, wp3, wp4, PV.cellsT, appMax, dropSh, fillB, fillS, putD, splice, src, startSt, Int.reduceAdd, Int.reduceEq, Int.reduceLE, Int.reduceLT, Int.reduceNeg, Int.reduceSub, Int.reduceToNat, Nat.reduceAdd, Nat.reduceEqDiff, Nat.reduceLT, Nat.reduceLeDiff, Nat.reduceMul, Nat.reduceSub, if_false, if_true, ite_false, ite_true, reduceIte, Ty.row, tyAll]
  | .unit => by
    refine run_eq (run_of (pf := p78) rfl ?_)
    unfold p78
    simp only [R.loop_eq, wp0, wp1, wp2, wp3, wp4, PV.cellsT, appMax, dropSh, fillB, fillS, putD, splice, src, startSt, Int.reduceAdd, Int.reduceEq, Int.reduceLE, Int.reduceLT, Int.reduceNeg, Int.reduceSub, Int.reduceToNat, Nat.reduceAdd, Nat.reduceEqDiff, Nat.reduceLT, Nat.reduceLeDiff, Nat.reduceMul, Nat.reduceSub, if_false, if_true, ite_false, ite_true, reduceIte, Ty.row, tyAll]
  | .pair a b => by
    have u0 := shape78 sh a
    have u1 := shape78 sh b
    try simp only [Ty.row] at u0 u1
    have u0' := clR.use u0
    have u1' := clR.use u1
    refine run_eq (run_of (pf := p78) rfl ?_)
    unfold p78
    simp only [R.loop_eq, wp0, wp1, wp2, wp3, wp4, PV.cellsT, appMax, dropSh, fillB, fillS, putD, splice, src, startSt, Int.reduceAdd, Int.reduceEq, Int.reduceLE, Int.reduceLT, Int.reduceNeg, Int.reduceSub, Int.reduceToNat, Nat.reduceAdd, Nat.reduceEqDiff, Nat.reduceLT, Nat.reduceLeDiff, Nat.reduceMul, Nat.reduceSub, if_false, if_true, ite_false, ite_true, reduceIte, Ty.row, tyAll, u0', u1']
  | .fn a b => by
    have u0 := shape78 sh a
    have u1 := shape78 sh b
    try simp only [Ty.row] at u0 u1
    have u0' := clR.use u0
    have u1' := clR.use u1
    refine run_eq (run_of (pf := p78) rfl ?_)
    unfold p78
    simp only [R.loop_eq, wp0, wp1, wp2, wp3, wp4, PV.cellsT, appMax, dropSh, fillB, fillS, putD, splice, src, startSt, Int.reduceAdd, Int.reduceEq, Int.reduceLE, Int.reduceLT, Int.reduceNeg, Int.reduceSub, Int.reduceToNat, Nat.reduceAdd, Nat.reduceEqDiff, Nat.reduceLT, Nat.reduceLeDiff, Nat.reduceMul, Nat.reduceSub, if_false, if_true, ite_false, ite_true, reduceIte, Ty.row, tyAll, u0', u1']
theorem size79 (sh : Sh) : ∀ t : Ty, t.nodes ≤ 1000 → ∃ n, callN T G n 79 [.ag t.row] sh = some (i64 (t.nodes : Int), sh)
  | .nat, h => by
    refine run_eq (run_of (pf := p79) rfl ?_)
    unfold p79
    simp only [R.loop_eq, wp0, wp1, wp2, wp3, wp4, PV.cellsT, appMax, dropSh, fillB, fillS, putD, splice, src, startSt, Int.reduceAdd, Int.reduceEq, Int.reduceLE, Int.reduceLT, Int.reduceNeg, Int.reduceSub, Int.reduceToNat, Nat.reduceAdd, Nat.reduceEqDiff, Nat.reduceLT, Nat.reduceLeDiff, Nat.reduceMul, Nat.reduceSub, if_false, if_true, ite_false, ite_true, reduceIte, Ty.row, tyAll, Ty.nodes, Int.cast_ofNat_Int]
  | .list, h => by
    refine run_eq (run_of (pf := p79) rfl ?_)
    unfold p79
    simp only [R.loop_eq, wp0, wp1, wp2, wp3, wp4, PV.cellsT, appMax, dropSh, fillB, fillS, putD, splice, src, startSt, Int.reduceAdd, Int.reduceEq, Int.reduceLE, Int.reduceLT, Int.reduceNeg, Int.reduceSub, Int.reduceToNat, Nat.reduceAdd, Nat.reduceEqDiff, Nat.reduceLT, Nat.reduceLeDiff, Nat.reduceMul, Nat.reduceSub, if_false, if_true, ite_false, ite_true, reduceIte, Ty.row, tyAll, Ty.nodes, Int.cast_ofNat_Int]
  | .unit, h => by
    refine run_eq (run_of (pf := p79) rfl ?_)
    unfold p79
    simp only [R.loop_eq, wp0, wp1, wp2, wp3, wp4, PV.cellsT, appMax, dropSh, fillB, fillS, putD, splice, src, startSt, Int.reduceAdd, Int.reduceEq, Int.reduceLE, Int.reduceLT, Int.reduceNeg, Int.reduceSub, Int.reduceToNat, Nat.reduceAdd, Nat.reduceEqDiff, Nat.reduceLT, Nat.reduceLeDiff, Nat.reduceMul, Nat.reduceSub, if_false, if_true, ite_false, ite_true, reduceIte, Ty.row, tyAll, Ty.nodes, Int.cast_ofNat_Int]
  | .pair a b, h => by
    have h' : 1 + a.nodes + b.nodes ≤ 1000 := h
    have w1 : IntKind.i64.wrap (1 + (a.nodes : Int)) = 1 + (a.nodes : Int) := wrap_i64 (by omega)
    have w2 : IntKind.i64.wrap (1 + (a.nodes : Int) + (b.nodes : Int)) = 1 + (a.nodes : Int) + (b.nodes : Int) := wrap_i64 (by omega)
    have e : ((Ty.pair a b).nodes : Int) = 1 + (a.nodes : Int) + (b.nodes : Int) := by simp only [Ty.nodes]; omega
    rw [e]
    have u0 := size79 sh a (by omega)
    have u1 := size79 sh b (by omega)
    try simp only [Ty.row] at u0 u1
    have u0' := clR.use u0
    have u1' := clR.use u1
    refine run_eq (run_of (pf := p79) rfl ?_)
    unfold p79
    simp only [R.loop_eq, wp0, wp1, wp2, wp3, wp4, PV.cellsT, appMax, dropSh, fillB, fillS, putD, splice, src, startSt, Int.reduceAdd, Int.reduceEq, Int.reduceLE, Int.reduceLT, Int.reduceNeg, Int.reduceSub, Int.reduceToNat, Nat.reduceAdd, Nat.reduceEqDiff, Nat.reduceLT, Nat.reduceLeDiff, Nat.reduceMul, Nat.reduceSub, if_false, if_true, ite_false, ite_true, reduceIte, Ty.row, tyAll, u0', u1', w1, w2]
  | .fn a b, h => by
    have h' : 1 + a.nodes + b.nodes ≤ 1000 := h
    have w1 : IntKind.i64.wrap (1 + (a.nodes : Int)) = 1 + (a.nodes : Int) := wrap_i64 (by omega)
    have w2 : IntKind.i64.wrap (1 + (a.nodes : Int) + (b.nodes : Int)) = 1 + (a.nodes : Int) + (b.nodes : Int) := wrap_i64 (by omega)
    have e : ((Ty.fn a b).nodes : Int) = 1 + (a.nodes : Int) + (b.nodes : Int) := by simp only [Ty.nodes]; omega
    rw [e]
    have u0 := size79 sh a (by omega)
    have u1 := size79 sh b (by omega)
    try simp only [Ty.row] at u0 u1
    have u0' := clR.use u0
    have u1' := clR.use u1
    refine run_eq (run_of (pf := p79) rfl ?_)
    unfold p79
    simp only [R.loop_eq, wp0, wp1, wp2, wp3, wp4, PV.cellsT, appMax, dropSh, fillB, fillS, putD, splice, src, startSt, Int.reduceAdd, Int.reduceEq, Int.reduceLE, Int.reduceLT, Int.reduceNeg, Int.reduceSub, Int.reduceToNat, Nat.reduceAdd, Nat.reduceEqDiff, Nat.reduceLT, Nat.reduceLeDiff, Nat.reduceMul, Nat.reduceSub, if_false, if_true, ite_false, ite_true, reduceIte, Ty.row, tyAll, u0', u1', w1, w2]
theorem check57 (sh : Sh) (t : Ty) (h : t.nodes ≤ 64) : ∃ n, callN T G n 57 [.ag t.row] sh = some (i64 0, sh) := by
  have c1 : ¬ (64 : Int) < (t.nodes : Int) := by omega
  have u0 := shape78 sh t
  have u1 := size79 sh t (by omega)
  try simp only [Ty.row] at u0 u1
  have u0' := clR.use u0
  have u1' := clR.use u1
  refine run_eq (run_of (pf := p57) rfl ?_)
  unfold p57
  simp only [R.loop_eq, wp0, wp1, wp2, wp3, wp4, PV.cellsT, appMax, dropSh, fillB, fillS, putD, splice, src, startSt, Int.reduceAdd, Int.reduceEq, Int.reduceLE, Int.reduceLT, Int.reduceNeg, Int.reduceSub, Int.reduceToNat, Nat.reduceAdd, Nat.reduceEqDiff, Nat.reduceLT, Nat.reduceLeDiff, Nat.reduceMul, Nat.reduceSub, if_false, if_true, ite_false, ite_true, reduceIte, Ty.row, tyAll, u0', u1', c1]
def Ty.args : Ty → List Ty
  | .fn a b => a :: b.args
  | _ => []
def Ty.res : Ty → Ty
  | .fn _ b => b.res
  | t => t
def Ty.dflt : Ty → Tm
  | .nat => .zero
  | .list => .nil
  | .unit => .unit
  | .pair a b => .pair a.dflt b.dflt
  | .fn a b => .lam a b.dflt
theorem dflt_nat : Ty.nat.dflt = .zero := rfl
theorem dflt_list : Ty.list.dflt = .nil := rfl
theorem dflt_unit : Ty.unit.dflt = .unit := rfl
theorem dflt_pair (a b : Ty) : (Ty.pair a b).dflt = .pair a.dflt b.dflt := rfl
theorem dflt_fn (a b : Ty) : (Ty.fn a b).dflt = .lam a b.dflt := rfl
theorem dflt_size : ∀ t : Ty, t.dflt.size ≤ t.nodes
  | .nat | .list | .unit => Nat.le_refl _
  | .pair a b => by have h1 := dflt_size a; have h2 := dflt_size b; simp only [Ty.dflt, Tm.size, Ty.nodes]; omega
  | .fn a b => by have h2 := dflt_size b; simp only [Ty.dflt, Tm.size, Ty.nodes]; omega
theorem dflt_ty : ∀ (t : Ty) (g : List Ty), t.nodes ≤ 64 → HasTy g t.dflt t
  | .nat, _, _ => .zero
  | .list, _, _ => .nil
  | .unit, _, _ => .unit
  | .pair a b, g, h => by
    have h' : 1 + a.nodes + b.nodes ≤ 64 := h
    exact .pair (dflt_ty a g (by omega)) (dflt_ty b g (by omega)) h
  | .fn a b, g, h => by
    have h' : 1 + a.nodes + b.nodes ≤ 64 := h
    exact .lam (dflt_ty b _ (by omega)) h
def Ty.tot (l : List Ty) : Nat := (l.map fun t => t.nodes + 1).sum
theorem args_tot : ∀ t : Ty, Ty.tot t.args + t.res.nodes ≤ t.nodes
  | .nat | .list | .unit => by simp [Ty.tot, Ty.args, Ty.res]
  | .pair a b => by simp [Ty.tot, Ty.args, Ty.res]
  | .fn a b => by
    have h := args_tot b
    simp only [Ty.tot, Ty.args, Ty.res, Ty.nodes, List.map_cons, List.sum_cons] at h ⊢
    omega
theorem tot_mem {l : List Ty} {t : Ty} (h : t ∈ l) : t.nodes + 1 ≤ Ty.tot l := by
  induction l with
  | nil => cases h
  | cons a l ih =>
    simp only [Ty.tot, List.map_cons, List.sum_cons]
    rcases List.mem_cons.1 h with rfl | h
    · omega
    · have := ih h
      simp only [Ty.tot] at this
      omega
theorem tot_len (l : List Ty) : l.length ≤ Ty.tot l := by
  induction l with
  | nil => simp [Ty.tot]
  | cons a l ih =>
    simp only [Ty.tot, List.map_cons, List.sum_cons, List.length_cons] at ih ⊢
    omega
def apps (f : Tm) : List Tm → Tm
  | [] => f
  | a :: l => apps (.app f a) l
theorem apps_ty : ∀ (s : Ty) (g : List Ty) (f : Tm), s.nodes ≤ 64 → HasTy g f s → HasTy g (apps f (s.args.map Ty.dflt)) s.res
  | .nat, _, _, _, h => h
  | .list, _, _, _, h => h
  | .unit, _, _, _, h => h
  | .pair a b, _, _, _, h => h
  | .fn a b, g, f, hn, h => by
    have h' : 1 + a.nodes + b.nodes ≤ 64 := hn
    exact apps_ty b g _ (by omega) (.app h (dflt_ty a g (by omega)) hn)
theorem apps_size (l : List Tm) : ∀ f : Tm, (apps f l).size = f.size + (l.map fun t => t.size + 1).sum := by
  induction l with
  | nil => intro f; simp [apps]
  | cons a l ih => intro f; simp only [apps, ih, Tm.size, List.map_cons, List.sum_cons]; omega
theorem dflt_tot (l : List Ty) : ((l.map Ty.dflt).map fun t => t.size + 1).sum ≤ Ty.tot l := by
  induction l with
  | nil => simp [Ty.tot]
  | cons a l ih =>
    have := dflt_size a
    simp only [Ty.tot, List.map_cons, List.sum_cons] at ih ⊢
    omega
theorem lam77 (sh : Sh) (x : Tm) (s : Ty) : ∃ n, callN T G n 77 [.ag x.row, .sl 0 2 [s.row]] sh = some (.ag (Tm.lam s x).row, sh) := by
  refine run_eq (run_of (pf := p77) rfl ?_)
  unfold p77
  simp only [R.loop_eq, wp0, wp1, wp2, wp3, wp4, PV.cellsT, appMax, dropSh, fillB, fillS, putD, splice, src, startSt, Int.reduceAdd, Int.reduceEq, Int.reduceLE, Int.reduceLT, Int.reduceNeg, Int.reduceSub, Int.reduceToNat, Nat.reduceAdd, Nat.reduceEqDiff, Nat.reduceLT, Nat.reduceLeDiff, Nat.reduceMul, Nat.reduceSub, if_false, if_true, ite_false, ite_true, reduceIte, Ty.row, tyAll, Tm.row, tmAll]
theorem inh56 (sh : Sh) : ∀ t : Ty, ∃ n, callN T G n 56 [.ag t.row] sh = some (.ag t.dflt.row, sh)
  | .nat => by
    have u0 := of75_0 sh 4
    try simp only [Ty.row, tyAll, Tm.row, tmAll, Int.cast_ofNat_Int] at u0
    have u0' := clR.use u0
    refine run_eq (run_of (pf := p56) rfl ?_)
    unfold p56
    simp only [R.loop_eq, wp0, wp1, wp2, wp3, wp4, PV.cellsT, appMax, dropSh, fillB, fillS, putD, splice, src, startSt, Int.reduceAdd, Int.reduceEq, Int.reduceLE, Int.reduceLT, Int.reduceNeg, Int.reduceSub, Int.reduceToNat, Nat.reduceAdd, Nat.reduceEqDiff, Nat.reduceLT, Nat.reduceLeDiff, Nat.reduceMul, Nat.reduceSub, if_false, if_true, ite_false, ite_true, reduceIte, Ty.row, tyAll, u0', Tm.row, tmAll, dflt_nat]
  | .list => by
    have u0 := of75_0 sh 7
    try simp only [Ty.row, tyAll, Tm.row, tmAll, Int.cast_ofNat_Int] at u0
    have u0' := clR.use u0
    refine run_eq (run_of (pf := p56) rfl ?_)
    unfold p56
    simp only [R.loop_eq, wp0, wp1, wp2, wp3, wp4, PV.cellsT, appMax, dropSh, fillB, fillS, putD, splice, src, startSt, Int.reduceAdd, Int.reduceEq, Int.reduceLE, Int.reduceLT, Int.reduceNeg, Int.reduceSub, Int.reduceToNat, Nat.reduceAdd, Nat.reduceEqDiff, Nat.reduceLT, Nat.reduceLeDiff, Nat.reduceMul, Nat.reduceSub, if_false, if_true, ite_false, ite_true, reduceIte, Ty.row, tyAll, u0', Tm.row, tmAll, dflt_list]
  | .unit => by
    have u0 := of75_0 sh 13
    try simp only [Ty.row, tyAll, Tm.row, tmAll, Int.cast_ofNat_Int] at u0
    have u0' := clR.use u0
    refine run_eq (run_of (pf := p56) rfl ?_)
    unfold p56
    simp only [R.loop_eq, wp0, wp1, wp2, wp3, wp4, PV.cellsT, appMax, dropSh, fillB, fillS, putD, splice, src, startSt, Int.reduceAdd, Int.reduceEq, Int.reduceLE, Int.reduceLT, Int.reduceNeg, Int.reduceSub, Int.reduceToNat, Nat.reduceAdd, Nat.reduceEqDiff, Nat.reduceLT, Nat.reduceLeDiff, Nat.reduceMul, Nat.reduceSub, if_false, if_true, ite_false, ite_true, reduceIte, Ty.row, tyAll, u0', Tm.row, tmAll, dflt_unit]
  | .pair a b => by
    have u0 := inh56 sh a
    have u1 := inh56 sh b
    have u2 := of75_2 sh 10 a.dflt b.dflt
    try simp only [Ty.row, tyAll, Tm.row, tmAll, Int.cast_ofNat_Int] at u0 u1 u2
    have u0' := clR.use u0
    have u1' := clR.use u1
    have u2' := clR.use u2
    refine run_eq (run_of (pf := p56) rfl ?_)
    unfold p56
    simp only [R.loop_eq, wp0, wp1, wp2, wp3, wp4, PV.cellsT, appMax, dropSh, fillB, fillS, putD, splice, src, startSt, Int.reduceAdd, Int.reduceEq, Int.reduceLE, Int.reduceLT, Int.reduceNeg, Int.reduceSub, Int.reduceToNat, Nat.reduceAdd, Nat.reduceEqDiff, Nat.reduceLT, Nat.reduceLeDiff, Nat.reduceMul, Nat.reduceSub, if_false, if_true, ite_false, ite_true, reduceIte, Ty.row, tyAll, u0', u1', u2', Tm.row, tmAll, dflt_pair]
  | .fn a b => by
    have u0 := inh56 sh b
    have u1 := own49 sh a
    have u2 := lam77 sh b.dflt a
    try simp only [Ty.row, tyAll, Tm.row, tmAll, Int.cast_ofNat_Int] at u0 u1 u2
    have u0' := clR.use u0
    have u1' := clR.use u1
    have u2' := clR.use u2
    refine run_eq (run_of (pf := p56) rfl ?_)
    unfold p56
    simp only [R.loop_eq, wp0, wp1, wp2, wp3, wp4, PV.cellsT, appMax, dropSh, fillB, fillS, putD, splice, src, startSt, Int.reduceAdd, Int.reduceEq, Int.reduceLE, Int.reduceLT, Int.reduceNeg, Int.reduceSub, Int.reduceToNat, Nat.reduceAdd, Nat.reduceEqDiff, Nat.reduceLT, Nat.reduceLeDiff, Nat.reduceMul, Nat.reduceSub, if_false, if_true, ite_false, ite_true, reduceIte, Ty.row, tyAll, u0', u1', u2', Tm.row, tmAll, dflt_fn]
theorem default21 (sh : Sh) (t : Ty) (h : t.nodes ≤ 64) : ∃ n, callN T G n 21 [.ag t.row] sh = some (.tup [.ag t.dflt.row, i64 0], sh) := by
  have u0 := typesCheck sh t h
  have u1 := inh56 sh t
  try simp only [Ty.row, tyAll, Tm.row, tmAll, Int.cast_ofNat_Int] at u0 u1
  have u0' := clR.use u0
  have u1' := clR.use u1
  refine run_eq (run_of (pf := p21) rfl ?_)
  unfold p21
  simp only [R.loop_eq, wp0, wp1, wp2, wp3, wp4, PV.cellsT, appMax, dropSh, fillB, fillS, putD, splice, src, startSt, Int.reduceAdd, Int.reduceEq, Int.reduceLE, Int.reduceLT, Int.reduceNeg, Int.reduceSub, Int.reduceToNat, Nat.reduceAdd, Nat.reduceEqDiff, Nat.reduceLT, Nat.reduceLeDiff, Nat.reduceMul, Nat.reduceSub, if_false, if_true, ite_false, ite_true, reduceIte, Ty.row, tyAll, u0', u1', Tm.row, tmAll]
def b22_0 : PC := (.seq (.seq (.ops [⟨.fa 0,[.s 1],some 13,none,none⟩,⟨.ldL 1 false,[.s 13],some 14,some 1,none⟩,⟨.bin .eql,[.s 14,.c (.v (.int .i64 4))],some 15,none,none⟩]) (.cond (.s 15) .skip (.exit 0))) (.block 1 (.seq (.ops [⟨.mv,[.s 6],some 16,none,none⟩,⟨.fa 1,[.s 1],some 17,none,none⟩,⟨.ldL 1 false,[.s 17],some 18,some 1,none⟩,⟨.ia 2,[.s 18,.c (.v (.int .i64 0))],some 19,none,none⟩,⟨.ldE 2 true,[.s 19],some 20,none,none⟩,⟨.callF 50,[.s 20],some 21,none,none⟩,⟨.bslice [.v (.int .i64 0),.sl 0 0 []] 1 2 [0],[.s 21],some 22,none,none⟩,⟨.app 2,[.s 16,.s 22],some 23,none,none⟩,⟨.mv,[.s 23],some 6,none,none⟩]) (.ops [⟨.fa 1,[.s 1],some 24,none,none⟩,⟨.ldL 1 false,[.s 24],some 25,some 1,none⟩,⟨.ia 2,[.s 25,.c (.v (.int .i64 1))],some 26,none,none⟩,⟨.ldE 2 true,[.s 26],some 27,none,none⟩,⟨.stL 2,[.s 1,.s 27],none,some 1,none⟩]))))
theorem res_loop (sh : Sh) (tot : List Ty) (r : Ty) (htot : tot.length ≤ 1000) (k : List Fr) (Q : Out → Prop) ( x0 x2 x3 x4 x5 x7 x8 x9 x10 x11 x12 x28 x29 x30 : PV)
    (hk : ∀ (tok z : Nat) (lv : Nat → Bool) (tk : Nat) ( y13 y14 y15 y16 y17 y18 y19 y20 y21 y22 y23 y24 y25 y26 y27 : PV), (tot ≠ [] → z = 2) → R T G [] k ⟨[x0, .bx 1 r.row, x2, x3, x4, x5, .sl tok z (tot.map Ty.row), x7, x8, x9, x10, x11, x12, y13, y14, y15, y16, y17, y18, y19, y20, y21, y22, y23, y24, y25, y26, y27, x28, x29, x30], ⟨sh, lv, tk⟩⟩ Q) :
    ∀ (s : Ty) (acc : List Ty) (tok z : Nat) (lv : Nat → Bool) (tk : Nat) ( x13 x14 x15 x16 x17 x18 x19 x20 x21 x22 x23 x24 x25 x26 x27 : PV), acc ++ s.args = tot → s.res = r → 2 ≤ tk → Tok lv tk tok → (tok = 1 → acc = []) → (tok ≠ 1 → z = 2) →
      R T G [] (.pc (.loop b22_0) :: .blk 0 :: k) ⟨[x0, .bx 1 s.row, x2, x3, x4, x5, .sl tok z (acc.map Ty.row), x7, x8, x9, x10, x11, x12, x13, x14, x15, x16, x17, x18, x19, x20, x21, x22, x23, x24, x25, x26, x27, x28, x29, x30], ⟨sh, lv, tk⟩⟩ Q := by
  intro s
  induction s with
  | fn a b iha ihb =>
    intro acc tok z lv tk  x13 x14 x15 x16 x17 x18 x19 x20 x21 x22 x23 x24 x25 x26 x27 e1 e2 htk ht h1 h2
    have u := copy50 sh a
    have hal : acc.length + 1 ≤ 1000 := by
      have := congrArg List.length e1
      simp only [Ty.args, List.length_append, List.length_cons] at this
      omega
    have ha2 := @e_appS noCall 2 z tok 1 (acc.map Ty.row) [a.row] sh lv tk ht (fun e => by rw [h1 e]; rfl) h2
    have ha3 : acc.map Ty.row ++ [a.row] = (acc ++ [a]).map Ty.row := by simp
    rw [ha3, if_pos (by simp [appMax]; omega)] at ha2
    have hr : ∀ t : Ty, t.row = [i64 t.kind, .sl 0 t.asz t.arows] := fun _ => rfl
    simp only [Ty.row, tyAll] at u
    simp only [hr] at ha2
    have u' := clR.use u
    rw [R.loop_eq]
    unfold b22_0
    simp only [wp0, wp1, wp2, wp3, wp4, PV.cellsT, appMax, dropSh, fillB, fillS, putD, splice, src, startSt, Int.reduceAdd, Int.reduceEq, Int.reduceLE, Int.reduceLT, Int.reduceNeg, Int.reduceSub, Int.reduceToNat, Nat.reduceAdd, Nat.reduceEqDiff, Nat.reduceLT, Nat.reduceLeDiff, Nat.reduceMul, Nat.reduceSub, if_false, if_true, ite_false, ite_true, reduceIte, Ty.row, tyAll, u', ha2, Int.toNat_zero, Int.toNat_one]
    exact ihb (acc ++ [a]) tk 2 (lvApp lv tk tok) (tk + 1) _ _ _ _ _ _ _ _ _ _ _ _ _ _ _ (by rw [← e1]; simp [Ty.args]) e2 (by omega) (.app htk) (fun e => by omega) (fun _ => rfl)
  | nat =>
    intro acc tok z lv tk  x13 x14 x15 x16 x17 x18 x19 x20 x21 x22 x23 x24 x25 x26 x27 e1 e2 htk ht h1 h2
    obtain rfl : acc = tot := by simpa [Ty.args] using e1
    obtain rfl : _ = r := e2
    rw [R.loop_eq]
    unfold b22_0
    simp only [wp0, wp1, wp2, wp3, wp4, PV.cellsT, appMax, dropSh, fillB, fillS, putD, splice, src, startSt, Int.reduceAdd, Int.reduceEq, Int.reduceLE, Int.reduceLT, Int.reduceNeg, Int.reduceSub, Int.reduceToNat, Nat.reduceAdd, Nat.reduceEqDiff, Nat.reduceLT, Nat.reduceLeDiff, Nat.reduceMul, Nat.reduceSub, if_false, if_true, ite_false, ite_true, reduceIte, Ty.row, tyAll]
    exact hk tok z lv tk _ _ _ _ _ _ _ _ _ _ _ _ _ _ _ (fun h => h2 fun e => h (h1 e))
  | list =>
    intro acc tok z lv tk  x13 x14 x15 x16 x17 x18 x19 x20 x21 x22 x23 x24 x25 x26 x27 e1 e2 htk ht h1 h2
    obtain rfl : acc = tot := by simpa [Ty.args] using e1
    obtain rfl : _ = r := e2
    rw [R.loop_eq]
    unfold b22_0
    simp only [wp0, wp1, wp2, wp3, wp4, PV.cellsT, appMax, dropSh, fillB, fillS, putD, splice, src, startSt, Int.reduceAdd, Int.reduceEq, Int.reduceLE, Int.reduceLT, Int.reduceNeg, Int.reduceSub, Int.reduceToNat, Nat.reduceAdd, Nat.reduceEqDiff, Nat.reduceLT, Nat.reduceLeDiff, Nat.reduceMul, Nat.reduceSub, if_false, if_true, ite_false, ite_true, reduceIte, Ty.row, tyAll]
    exact hk tok z lv tk _ _ _ _ _ _ _ _ _ _ _ _ _ _ _ (fun h => h2 fun e => h (h1 e))
  | unit =>
    intro acc tok z lv tk  x13 x14 x15 x16 x17 x18 x19 x20 x21 x22 x23 x24 x25 x26 x27 e1 e2 htk ht h1 h2
    obtain rfl : acc = tot := by simpa [Ty.args] using e1
    obtain rfl : _ = r := e2
    rw [R.loop_eq]
    unfold b22_0
    simp only [wp0, wp1, wp2, wp3, wp4, PV.cellsT, appMax, dropSh, fillB, fillS, putD, splice, src, startSt, Int.reduceAdd, Int.reduceEq, Int.reduceLE, Int.reduceLT, Int.reduceNeg, Int.reduceSub, Int.reduceToNat, Nat.reduceAdd, Nat.reduceEqDiff, Nat.reduceLT, Nat.reduceLeDiff, Nat.reduceMul, Nat.reduceSub, if_false, if_true, ite_false, ite_true, reduceIte, Ty.row, tyAll]
    exact hk tok z lv tk _ _ _ _ _ _ _ _ _ _ _ _ _ _ _ (fun h => h2 fun e => h (h1 e))
  | pair a b iha ihb =>
    intro acc tok z lv tk  x13 x14 x15 x16 x17 x18 x19 x20 x21 x22 x23 x24 x25 x26 x27 e1 e2 htk ht h1 h2
    obtain rfl : acc = tot := by simpa [Ty.args] using e1
    obtain rfl : _ = r := e2
    rw [R.loop_eq]
    unfold b22_0
    simp only [wp0, wp1, wp2, wp3, wp4, PV.cellsT, appMax, dropSh, fillB, fillS, putD, splice, src, startSt, Int.reduceAdd, Int.reduceEq, Int.reduceLE, Int.reduceLT, Int.reduceNeg, Int.reduceSub, Int.reduceToNat, Nat.reduceAdd, Nat.reduceEqDiff, Nat.reduceLT, Nat.reduceLeDiff, Nat.reduceMul, Nat.reduceSub, if_false, if_true, ite_false, ite_true, reduceIte, Ty.row, tyAll]
    exact hk tok z lv tk _ _ _ _ _ _ _ _ _ _ _ _ _ _ _ (fun h => h2 fun e => h (h1 e))
theorem result22 (sh : Sh) (s : Ty) (h : s.nodes ≤ 64) : ∃ z, (s.args ≠ [] → z = 2) ∧ ∃ n, callN T G n 22 [.ag s.row] sh = some (.tup [.sl 0 z (s.args.map Ty.row), .ag s.res.row, i64 0], sh) := by
  have hl := args_tot s
  have hl2 := tot_len s.args
  have u0 := check57 sh s h
  have u1 := copy50 sh s.res
  simp only [Ty.row, tyAll] at u0 u1
  have u0' := clR.use u0
  have u1' := clR.use u1
  have key : Runs T G 22 [.ag s.row] sh fun r s' => ∃ z, (s.args ≠ [] → z = 2) ∧ r = .tup [.sl 0 z (s.args.map Ty.row), .ag s.res.row, i64 0] ∧ s' = sh := by
    refine run_of (pf := p22) rfl ?_
    unfold p22
    simp only [wp0, wp1, wp2, wp3, wp4, PV.cellsT, appMax, dropSh, fillB, fillS, putD, splice, src, startSt, Int.reduceAdd, Int.reduceEq, Int.reduceLE, Int.reduceLT, Int.reduceNeg, Int.reduceSub, Int.reduceToNat, Nat.reduceAdd, Nat.reduceEqDiff, Nat.reduceLT, Nat.reduceLeDiff, Nat.reduceMul, Nat.reduceSub, if_false, if_true, ite_false, ite_true, reduceIte, Ty.row, tyAll, u0']
    refine res_loop sh s.args s.res (by omega) _ _ _ _ _ _ _ _ _ _ _ _ _ _ _ _ ?_ s [] 1 0 _ 2 _ _ _ _ _ _ _ _ _ _ _ _ _ _ _ (by simp) rfl (by omega) .one (fun _ => rfl) (fun h => (h rfl).elim)
    intro tok z lv tk  y13 y14 y15 y16 y17 y18 y19 y20 y21 y22 y23 y24 y25 y26 y27 hz
    simp only [wp0, wp1, wp2, wp3, wp4, PV.cellsT, appMax, dropSh, fillB, fillS, putD, splice, src, startSt, Int.reduceAdd, Int.reduceEq, Int.reduceLE, Int.reduceLT, Int.reduceNeg, Int.reduceSub, Int.reduceToNat, Nat.reduceAdd, Nat.reduceEqDiff, Nat.reduceLT, Nat.reduceLeDiff, Nat.reduceMul, Nat.reduceSub, if_false, if_true, ite_false, ite_true, reduceIte, Ty.row, tyAll, u1']
    exact ⟨z, hz, rfl⟩
  obtain ⟨n, r, s', h1, z, hz, rfl, rfl⟩ := key
  exact ⟨z, hz, n, h1⟩
def b54_0 : PC := (.seq (.ops [⟨.bin .lss,[.s 9,.s 8],some 10,none,none⟩]) (.seq (.cond (.s 10) .skip (.exit 0)) (.seq (.block 1 (.seq (.ops [⟨.ia 5,[.s 7,.s 9],some 11,none,none⟩,⟨.ldE 5 true,[.s 11],some 12,none,none⟩,⟨.alloc [.v (.int .i64 0),.v (.int .i64 0),.v (.int .i64 0),.sl 1 0 [],.sl 1 0 []],[],some 6,none,none⟩,⟨.stL 5,[.s 6,.s 12],none,some 6,none⟩]) (.ops [⟨.ldL 5 true,[.s 2],some 13,some 2,none⟩,⟨.ldL 5 true,[.s 6],some 14,some 6,none⟩,⟨.bslice [.v (.int .i64 0),.v (.int .i64 0),.v (.int .i64 0),.sl 0 0 [],.sl 0 0 []] 2 5 [0,1],[.s 13,.s 14],some 15,none,none⟩,⟨.callF 75,[.c (.v (.int .i64 3)),.s 15],some 16,none,none⟩,⟨.stL 5,[.s 2,.s 16],none,some 2,none⟩]))) (.ops [⟨.bin .add,[.s 9,.c (.v (.int .i64 1))],some 17,none,none⟩,⟨.mv,[.s 17],some 9,none,none⟩]))))
theorem getD_tm (l : List Tm) {i : Nat} (h : i < l.length) : (l.map Tm.row).getD i [] = (l.getD i .zero).row := by
  simp [List.getD_eq_getElem?_getD, h]
theorem drop_tm (l : List Tm) {i : Nat} (h : i < l.length) : l.drop i = l.getD i .zero :: l.drop (i + 1) := by
  rw [List.drop_eq_getElem_cons h]
  simp [List.getD_eq_getElem?_getD, h]
theorem apps_loop (l : List Tm) (zl : Nat) (hz : l ≠ [] → zl = 5) (hl : l.length ≤ 1000) (r : Tm) (sh : Sh) (lv : Nat → Bool) (tk : Nat) (k : List Fr) (Q : Out → Prop) ( x0 x1 x3 x4 x5 x18 : PV)
    (hk : ∀ ( y6 y10 y11 y12 y13 y14 y15 y16 y17 : PV), R T G [] k ⟨[x0, x1, .bx 1 r.row, x3, x4, x5, y6, .sl 0 zl (l.map Tm.row), i64 (l.length : Int), i64 (l.length : Int), y10, y11, y12, y13, y14, y15, y16, y17, x18], ⟨sh, lv, tk⟩⟩ Q) :
    ∀ (m i : Nat) (f : Tm) ( x6 x10 x11 x12 x13 x14 x15 x16 x17 : PV), i + m = l.length → apps f (l.drop i) = r → R T G [] (.pc (.loop b54_0) :: .blk 0 :: k) ⟨[x0, x1, .bx 1 f.row, x3, x4, x5, x6, .sl 0 zl (l.map Tm.row), i64 (l.length : Int), i64 (i : Int), x10, x11, x12, x13, x14, x15, x16, x17, x18], ⟨sh, lv, tk⟩⟩ Q := by
  intro m
  induction m with
  | zero =>
    intro i f  x6 x10 x11 x12 x13 x14 x15 x16 x17 hi hr
    have hi' : i = l.length := by omega
    subst hi'
    rw [List.drop_length] at hr
    obtain rfl : f = r := hr
    rw [R.loop_eq]
    unfold b54_0
    simp only [wp0, wp1, wp2, wp3, wp4, PV.cellsT, appMax, dropSh, fillB, fillS, putD, splice, src, startSt, Int.reduceAdd, Int.reduceEq, Int.reduceLE, Int.reduceLT, Int.reduceNeg, Int.reduceSub, Int.reduceToNat, Nat.reduceAdd, Nat.reduceEqDiff, Nat.reduceLT, Nat.reduceLeDiff, Nat.reduceMul, Nat.reduceSub, if_false, if_true, ite_false, ite_true, reduceIte, Int.lt_irrefl]
    exact hk _ _ _ _ _ _ _ _ _
  | succ m ih =>
    intro i f  x6 x10 x11 x12 x13 x14 x15 x16 x17 hi hr
    have hne : l ≠ [] := by intro e; subst e; simp at hi
    obtain rfl := hz hne
    have c1 : (i : Int) < (l.length : Int) := by omega
    have w3 : IntKind.i64.wrap ((i : Int) + 1) = ((i + 1 : Nat) : Int) := by rw [wrap_i64 (by omega)]; omega
    have c3 : (0 : Int) ≤ (i : Int) := by omega
    have c4 := getD_tm l (i := i) (by omega)
    rw [drop_tm l (by omega)] at hr
    have u := of75_2 sh 3 f (l.getD i .zero)
    simp only [Tm.row, tmAll] at u c4
    have u' := clR.use u
    rw [R.loop_eq]
    unfold b54_0
    simp only [wp0, wp1, wp2, wp3, wp4, PV.cellsT, appMax, dropSh, fillB, fillS, putD, splice, src, startSt, Int.reduceAdd, Int.reduceEq, Int.reduceLE, Int.reduceLT, Int.reduceNeg, Int.reduceSub, Int.reduceToNat, Nat.reduceAdd, Nat.reduceEqDiff, Nat.reduceLT, Nat.reduceLeDiff, Nat.reduceMul, Nat.reduceSub, if_false, if_true, ite_false, ite_true, reduceIte, Tm.row, tmAll, List.length_map, c1, w3, c3, c4, u', Int.toNat_natCast]
    exact ih (i + 1) (.app f (l.getD i .zero)) _ _ _ _ _ _ _ _ _ (by omega) hr
theorem app54 (sh : Sh) (f : Tm) (l : List Tm) (zl : Nat) (hz : l ≠ [] → zl = 5) (hl : l.length ≤ 1000) : ∃ n, callN T G n 54 [.ag f.row, .sl 0 zl (l.map Tm.row)] sh = some (.ag (apps f l).row, sh) := by
  refine run_eq (run_of (pf := p54) rfl ?_)
  unfold p54
  simp only [wp0, wp1, wp2, wp3, wp4, PV.cellsT, appMax, dropSh, fillB, fillS, putD, splice, src, startSt, Int.reduceAdd, Int.reduceEq, Int.reduceLE, Int.reduceLT, Int.reduceNeg, Int.reduceSub, Int.reduceToNat, Nat.reduceAdd, Nat.reduceEqDiff, Nat.reduceLT, Nat.reduceLeDiff, Nat.reduceMul, Nat.reduceSub, if_false, if_true, ite_false, ite_true, reduceIte, Tm.row, tmAll, List.length_map]
  refine apps_loop l zl hz hl (apps f l) sh _ _ _ _ _ _ _ _ _ _ ?_ l.length 0 f _ _ _ _ _ _ _ _ _ (by omega) rfl
  intro  y6 y10 y11 y12 y13 y14 y15 y16 y17
  simp only [wp0, wp1, wp2, wp3, wp4, PV.cellsT, appMax, dropSh, fillB, fillS, putD, splice, src, startSt, Int.reduceAdd, Int.reduceEq, Int.reduceLE, Int.reduceLT, Int.reduceNeg, Int.reduceSub, Int.reduceToNat, Nat.reduceAdd, Nat.reduceEqDiff, Nat.reduceLT, Nat.reduceLeDiff, Nat.reduceMul, Nat.reduceSub, if_false, if_true, ite_false, ite_true, reduceIte, Tm.row, tmAll]
def b20_0 : PC := (.seq (.ops [⟨.bin .lss,[.s 23,.s 22],some 24,none,none⟩]) (.seq (.cond (.s 24) .skip (.exit 0)) (.seq (.block 1 (.seq (.ops [⟨.ia 5,[.s 21,.s 23],some 25,none,none⟩,⟨.ldE 5 true,[.s 25],some 26,none,none⟩,⟨.alloc [.v (.int .i64 0),.v (.int .i64 0),.v (.int .i64 0),.sl 1 0 [],.sl 1 0 []],[],some 9,none,none⟩,⟨.stL 5,[.s 9,.s 26],none,some 9,none⟩]) (.seq (.ops [⟨.ldL 5 true,[.s 9],some 28,some 9,none⟩,⟨.callF 52,[.s 28],some 29,none,none⟩,⟨.mv,[.s 29],some 27,none,none⟩,⟨.ext 0,[.s 27],some 30,none,none⟩,⟨.ext 1,[.s 27],some 31,none,none⟩,⟨.mv,[.s 30],some 10,none,none⟩,⟨.mv,[.s 31],some 11,none,none⟩]) (.seq (.seq (.ops [⟨.mv,[.s 11],some 32,none,none⟩,⟨.bin .neq,[.s 32,.c (.v (.int .i64 0))],some 33,none,none⟩]) (.cond (.s 33) (.seq (.ops [⟨.build [.v (.int .i64 0),.v (.int .i64 0),.v (.int .i64 0),.sl 1 0 [],.sl 1 0 []] [],[],some 34,none,none⟩,⟨.mv,[.s 11],some 35,none,none⟩,⟨.stL 5,[.s 4,.s 34],none,some 4,none⟩,⟨.mv,[.s 35],some 5,none,none⟩]) .ret) .skip)) (.ops [⟨.mv,[.s 6],some 36,none,none⟩,⟨.mv,[.s 10],some 37,none,none⟩,⟨.bin .add,[.s 37,.c (.v (.int .i64 1))],some 38,none,none⟩,⟨.bin .add,[.s 36,.s 38],some 39,none,none⟩,⟨.mv,[.s 39],some 6,none,none⟩]))))) (.ops [⟨.bin .add,[.s 23,.c (.v (.int .i64 1))],some 40,none,none⟩,⟨.mv,[.s 40],some 23,none,none⟩]))))
def szs (l : List Tm) : Nat := (l.map fun t => t.size + 1).sum
theorem szs_cons (a : Tm) (l : List Tm) : szs (a :: l) = a.size + 1 + szs l := by simp [szs]
theorem apply_loop (l : List Tm) (zl : Nat) (hz : l ≠ [] → zl = 5) (hl : l.length ≤ 1000) (hok : ∀ t ∈ l, t.ok) (tot : Nat) (htot : tot ≤ 4096) (sh : Sh) (lv : Nat → Bool) (tk : Nat) (k : List Fr) (Q : Out → Prop) ( x0 x1 x2 x3 x7 x8 x12 x13 x14 x15 x16 x17 x18 x19 x20 x41 x42 x43 x44 x45 x46 x47 : PV)
    (hk : ∀ ( y9 y10 y11 y24 y25 y26 y27 y28 y29 y30 y31 y32 y33 y34 y35 y36 y37 y38 y39 y40 : PV), R T G [] k ⟨[x0, x1, x2, x3, .bx 1 [i64 0, i64 0, i64 0, .sl 1 0 [], .sl 1 0 []], i64 0, i64 (tot : Int), x7, x8, y9, y10, y11, x12, x13, x14, x15, x16, x17, x18, x19, x20, .sl 0 zl (l.map Tm.row), i64 (l.length : Int), i64 (l.length : Int), y24, y25, y26, y27, y28, y29, y30, y31, y32, y33, y34, y35, y36, y37, y38, y39, y40, x41, x42, x43, x44, x45, x46, x47], ⟨sh, lv, tk⟩⟩ Q) :
    ∀ (m i n : Nat) ( x9 x10 x11 x24 x25 x26 x27 x28 x29 x30 x31 x32 x33 x34 x35 x36 x37 x38 x39 x40 : PV), i + m = l.length → n + szs (l.drop i) = tot → R T G [] (.pc (.loop b20_0) :: .blk 0 :: k) ⟨[x0, x1, x2, x3, .bx 1 [i64 0, i64 0, i64 0, .sl 1 0 [], .sl 1 0 []], i64 0, i64 (n : Int), x7, x8, x9, x10, x11, x12, x13, x14, x15, x16, x17, x18, x19, x20, .sl 0 zl (l.map Tm.row), i64 (l.length : Int), i64 (i : Int), x24, x25, x26, x27, x28, x29, x30, x31, x32, x33, x34, x35, x36, x37, x38, x39, x40, x41, x42, x43, x44, x45, x46, x47], ⟨sh, lv, tk⟩⟩ Q := by
  intro m
  induction m with
  | zero =>
    intro i n  x9 x10 x11 x24 x25 x26 x27 x28 x29 x30 x31 x32 x33 x34 x35 x36 x37 x38 x39 x40 hi hr
    have hi' : i = l.length := by omega
    subst hi'
    rw [List.drop_length] at hr
    obtain rfl : n = tot := by simpa [szs] using hr
    rw [R.loop_eq]
    unfold b20_0
    simp only [wp0, wp1, wp2, wp3, wp4, PV.cellsT, appMax, dropSh, fillB, fillS, putD, splice, src, startSt, Int.reduceAdd, Int.reduceEq, Int.reduceLE, Int.reduceLT, Int.reduceNeg, Int.reduceSub, Int.reduceToNat, Nat.reduceAdd, Nat.reduceEqDiff, Nat.reduceLT, Nat.reduceLeDiff, Nat.reduceMul, Nat.reduceSub, if_false, if_true, ite_false, ite_true, reduceIte, Int.lt_irrefl]
    exact hk _ _ _ _ _ _ _ _ _ _ _ _ _ _ _ _ _ _ _ _
  | succ m ih =>
    intro i n  x9 x10 x11 x24 x25 x26 x27 x28 x29 x30 x31 x32 x33 x34 x35 x36 x37 x38 x39 x40 hi hr
    have hne : l ≠ [] := by intro e; subst e; simp at hi
    obtain rfl := hz hne
    have c1 : (i : Int) < (l.length : Int) := by omega
    have w3 : IntKind.i64.wrap ((i : Int) + 1) = ((i + 1 : Nat) : Int) := by rw [wrap_i64 (by omega)]; omega
    have c3 : (0 : Int) ≤ (i : Int) := by omega
    have c4 := getD_tm l (i := i) (by omega)
    have hm : l.getD i .zero ∈ l := by
      rw [List.getD_eq_getElem?_getD, List.getElem?_eq_getElem (by omega)]
      exact List.getElem_mem _
    rw [drop_tm l (by omega), szs_cons] at hr
    have w1 : IntKind.i64.wrap (((l.getD i .zero).size : Int) + 1) = ((l.getD i .zero).size : Int) + 1 := wrap_i64 (by omega)
    have w2 : IntKind.i64.wrap ((n : Int) + (((l.getD i .zero).size : Int) + 1)) = ((n + ((l.getD i .zero).size + 1) : Nat) : Int) := by rw [wrap_i64 (by omega)]; omega
    have u := checkTerm sh (l.getD i .zero) (hok _ hm) (by omega)
    simp only [Tm.row, tmAll] at u c4
    have u' := clR.use u
    rw [R.loop_eq]
    unfold b20_0
    simp only [wp0, wp1, wp2, wp3, wp4, PV.cellsT, appMax, dropSh, fillB, fillS, putD, splice, src, startSt, Int.reduceAdd, Int.reduceEq, Int.reduceLE, Int.reduceLT, Int.reduceNeg, Int.reduceSub, Int.reduceToNat, Nat.reduceAdd, Nat.reduceEqDiff, Nat.reduceLT, Nat.reduceLeDiff, Nat.reduceMul, Nat.reduceSub, if_false, if_true, ite_false, ite_true, reduceIte, Tm.row, tmAll, List.length_map, c1, w1, w2, w3, c3, c4, u', Int.toNat_natCast]
    exact ih (i + 1) (n + ((l.getD i .zero).size + 1)) _ _ _ _ _ _ _ _ _ _ _ _ _ _ _ _ _ _ _ _ (by omega) (by omega)
theorem apply20 (sh : Sh) (f : Tm) (l : List Tm) (zl : Nat) (hz : l ≠ [] → zl = 5) (hl : l.length ≤ 1000) (hf : f.ok) (hok : ∀ t ∈ l, t.ok) (hs : f.size + szs l ≤ 4096) :
    ∃ n, callN T G n 20 [.ag f.row, .sl 0 zl (l.map Tm.row)] sh = some (.tup [.ag (apps f l).row, i64 0], sh) := by
  have u0 := checkTerm sh f hf (by omega)
  have u1 := app54 sh f l zl hz hl
  have u2 := ownTm sh (apps f l)
  have c1 : ¬ (4096 : Int) < ((f.size + szs l : Nat) : Int) := by omega
  simp only [Tm.row, tmAll] at u0 u1 u2
  have u0' := clR.use u0
  have u1' := clR.use u1
  have u2' := clR.use u2
  refine run_eq (run_of (pf := p20) rfl ?_)
  unfold p20
  simp only [wp0, wp1, wp2, wp3, wp4, PV.cellsT, appMax, dropSh, fillB, fillS, putD, splice, src, startSt, Int.reduceAdd, Int.reduceEq, Int.reduceLE, Int.reduceLT, Int.reduceNeg, Int.reduceSub, Int.reduceToNat, Nat.reduceAdd, Nat.reduceEqDiff, Nat.reduceLT, Nat.reduceLeDiff, Nat.reduceMul, Nat.reduceSub, if_false, if_true, ite_false, ite_true, reduceIte, Tm.row, tmAll, List.length_map, u0']
  refine apply_loop l zl hz hl hok (f.size + szs l) hs sh _ _ _ _ _ _ _ _ _ _ _ _ _ _ _ _ _ _ _ _ _ _ _ _ _ _ ?_ l.length 0 f.size _ _ _ _ _ _ _ _ _ _ _ _ _ _ _ _ _ _ _ _ (by omega) rfl
  intro  y9 y10 y11 y24 y25 y26 y27 y28 y29 y30 y31 y32 y33 y34 y35 y36 y37 y38 y39 y40
  simp only [wp0, wp1, wp2, wp3, wp4, PV.cellsT, appMax, dropSh, fillB, fillS, putD, splice, src, startSt, Int.reduceAdd, Int.reduceEq, Int.reduceLE, Int.reduceLT, Int.reduceNeg, Int.reduceSub, Int.reduceToNat, Nat.reduceAdd, Nat.reduceEqDiff, Nat.reduceLT, Nat.reduceLeDiff, Nat.reduceMul, Nat.reduceSub, if_false, if_true, ite_false, ite_true, reduceIte, Tm.row, tmAll, c1, u1', u2']
def b6_0 : PC := (.seq (.ops [⟨.bin .lss,[.s 48,.s 47],some 49,none,none⟩]) (.seq (.cond (.s 49) .skip (.exit 0)) (.seq (.block 1 (.seq (.ops [⟨.ia 2,[.s 46,.s 48],some 50,none,none⟩,⟨.ldE 2 true,[.s 50],some 51,none,none⟩,⟨.alloc [.v (.int .i64 0),.sl 1 0 []],[],some 14,none,none⟩,⟨.stL 2,[.s 14,.s 51],none,some 14,none⟩]) (.seq (.ops [⟨.ldL 2 true,[.s 14],some 53,some 14,none⟩,⟨.callF 21,[.s 53],some 54,none,none⟩,⟨.mv,[.s 54],some 52,none,none⟩,⟨.ext 0,[.s 52],some 55,none,none⟩,⟨.ext 1,[.s 52],some 56,none,none⟩,⟨.alloc [.v (.int .i64 0),.v (.int .i64 0),.v (.int .i64 0),.sl 1 0 [],.sl 1 0 []],[],some 15,none,none⟩,⟨.stL 5,[.s 15,.s 55],none,some 15,none⟩,⟨.mv,[.s 56],some 16,none,none⟩]) (.seq (.seq (.ops [⟨.mv,[.s 16],some 57,none,none⟩,⟨.bin .neq,[.s 57,.c (.v (.int .i64 0))],some 58,none,none⟩]) (.cond (.s 58) (.seq (.ops [⟨.mv,[.c (.v (.bool false))],some 2,none,none⟩]) .ret) .skip)) (.ops [⟨.mv,[.s 12],some 59,none,none⟩,⟨.ldL 5 true,[.s 15],some 60,some 15,none⟩,⟨.bslice [.v (.int .i64 0),.v (.int .i64 0),.v (.int .i64 0),.sl 0 0 [],.sl 0 0 []] 1 5 [0],[.s 60],some 61,none,none⟩,⟨.app 5,[.s 59,.s 61],some 62,none,none⟩,⟨.mv,[.s 62],some 12,none,none⟩]))))) (.ops [⟨.bin .add,[.s 48,.c (.v (.int .i64 1))],some 63,none,none⟩,⟨.mv,[.s 63],some 48,none,none⟩]))))
theorem dflt_loop (l : List Ty) (zl : Nat) (hz : l ≠ [] → zl = 2) (hl : l.length ≤ 1000) (hb : ∀ t ∈ l, t.nodes ≤ 64) (sh : Sh) (k : List Fr) (Q : Out → Prop) ( x0 x1 x3 x4 x5 x6 x7 x8 x9 x10 x11 x13 x17 x18 x19 x20 x21 x22 x23 x24 x25 x26 x27 x28 x29 x30 x31 x32 x33 x34 x35 x36 x37 x38 x39 x40 x41 x42 x43 x44 x45 x64 x65 x66 x67 x68 x69 x70 x71 x72 x73 x74 x75 x76 x77 x78 x79 x80 x81 x82 x83 x84 x85 x86 x87 x88 x89 x90 x91 x92 x93 x94 x95 x96 x97 x98 : PV)
    (hk : ∀ (tok z : Nat) (lv : Nat → Bool) (tk : Nat) ( y14 y15 y16 y49 y50 y51 y52 y53 y54 y55 y56 y57 y58 y59 y60 y61 y62 y63 : PV), (l ≠ [] → z = 5) → R T G [] k ⟨[x0, x1, .v (.bool false), x3, x4, x5, x6, x7, x8, x9, x10, x11, .sl tok z (l.map fun t => t.dflt.row), x13, y14, y15, y16, x17, x18, x19, x20, x21, x22, x23, x24, x25, x26, x27, x28, x29, x30, x31, x32, x33, x34, x35, x36, x37, x38, x39, x40, x41, x42, x43, x44, x45, .sl 0 zl (l.map Ty.row), i64 (l.length : Int), i64 (l.length : Int), y49, y50, y51, y52, y53, y54, y55, y56, y57, y58, y59, y60, y61, y62, y63, x64, x65, x66, x67, x68, x69, x70, x71, x72, x73, x74, x75, x76, x77, x78, x79, x80, x81, x82, x83, x84, x85, x86, x87, x88, x89, x90, x91, x92, x93, x94, x95, x96, x97, x98], ⟨sh, lv, tk⟩⟩ Q) :
    ∀ (m i : Nat) (tok z : Nat) (lv : Nat → Bool) (tk : Nat) ( x14 x15 x16 x49 x50 x51 x52 x53 x54 x55 x56 x57 x58 x59 x60 x61 x62 x63 : PV), i + m = l.length → 2 ≤ tk → Tok lv tk tok → (tok = 1 → i = 0) → (tok ≠ 1 → z = 5) → R T G [] (.pc (.loop b6_0) :: .blk 0 :: k) ⟨[x0, x1, .v (.bool false), x3, x4, x5, x6, x7, x8, x9, x10, x11, .sl tok z ((l.take i).map fun t => t.dflt.row), x13, x14, x15, x16, x17, x18, x19, x20, x21, x22, x23, x24, x25, x26, x27, x28, x29, x30, x31, x32, x33, x34, x35, x36, x37, x38, x39, x40, x41, x42, x43, x44, x45, .sl 0 zl (l.map Ty.row), i64 (l.length : Int), i64 (i : Int), x49, x50, x51, x52, x53, x54, x55, x56, x57, x58, x59, x60, x61, x62, x63, x64, x65, x66, x67, x68, x69, x70, x71, x72, x73, x74, x75, x76, x77, x78, x79, x80, x81, x82, x83, x84, x85, x86, x87, x88, x89, x90, x91, x92, x93, x94, x95, x96, x97, x98], ⟨sh, lv, tk⟩⟩ Q := by
  intro m
  induction m with
  | zero =>
    intro i tok z lv tk  x14 x15 x16 x49 x50 x51 x52 x53 x54 x55 x56 x57 x58 x59 x60 x61 x62 x63 hi htk ht h1 h2
    have hi' : i = l.length := by omega
    subst hi'
    rw [R.loop_eq]
    unfold b6_0
    simp only [wp0, wp1, wp2, wp3, wp4, PV.cellsT, appMax, dropSh, fillB, fillS, putD, splice, src, startSt, Int.reduceAdd, Int.reduceEq, Int.reduceLE, Int.reduceLT, Int.reduceNeg, Int.reduceSub, Int.reduceToNat, Nat.reduceAdd, Nat.reduceEqDiff, Nat.reduceLT, Nat.reduceLeDiff, Nat.reduceMul, Nat.reduceSub, if_false, if_true, ite_false, ite_true, reduceIte, Int.lt_irrefl, List.take_length]
    exact hk tok z lv tk _ _ _ _ _ _ _ _ _ _ _ _ _ _ _ _ _ _ (fun hne => h2 fun e => hne (List.length_eq_zero_iff.1 (h1 e)))
  | succ m ih =>
    intro i tok z lv tk  x14 x15 x16 x49 x50 x51 x52 x53 x54 x55 x56 x57 x58 x59 x60 x61 x62 x63 hi htk ht h1 h2
    have hne : l ≠ [] := by intro e; subst e; simp at hi
    obtain rfl := hz hne
    have c1 : (i : Int) < (l.length : Int) := by omega
    have w3 : IntKind.i64.wrap ((i : Int) + 1) = ((i + 1 : Nat) : Int) := by rw [wrap_i64 (by omega)]; omega
    have c3 : (0 : Int) ≤ (i : Int) := by omega
    have c4 := getD_row l (i := i) (by omega)
    have hm : l.getD i .nat ∈ l := by
      rw [List.getD_eq_getElem?_getD, List.getElem?_eq_getElem (by omega)]
      exact List.getElem_mem _
    have u := default21 sh (l.getD i .nat) (hb _ hm)
    have ha3 : ((l.take i).map fun t => t.dflt.row) ++ [(l.getD i .nat).dflt.row] = (l.take (i + 1)).map fun t => t.dflt.row := by
      rw [List.take_add_one, List.map_append]
      simp [List.getD_eq_getElem?_getD, List.getElem?_eq_getElem (show i < l.length by omega)]
    have ha2 := @e_appS noCall 5 z tok 1 ((l.take i).map fun t => t.dflt.row) [(l.getD i .nat).dflt.row] sh lv tk ht (fun e => by rw [h1 e]; rfl) h2
    rw [ha3] at ha2
    have ha1 : ((l.take i).map fun t => t.dflt.row).length + [(l.getD i .nat).dflt.row].length ≤ appMax := by simp [appMax]; omega
    rw [if_pos ha1] at ha2
    simp only [Tm.row] at ha2
    simp only [Ty.row, tyAll, Tm.row] at u c4
    have u' := clR.use u
    rw [R.loop_eq]
    unfold b6_0
    simp only [wp0, wp1, wp2, wp3, wp4, PV.cellsT, appMax, dropSh, fillB, fillS, putD, splice, src, startSt, Int.reduceAdd, Int.reduceEq, Int.reduceLE, Int.reduceLT, Int.reduceNeg, Int.reduceSub, Int.reduceToNat, Nat.reduceAdd, Nat.reduceEqDiff, Nat.reduceLT, Nat.reduceLeDiff, Nat.reduceMul, Nat.reduceSub, if_false, if_true, ite_false, ite_true, reduceIte, Tm.row, List.length_map, c1, w3, c3, c4, u', ha2, Int.toNat_natCast]
    exact ih (i + 1) tk 5 (lvApp lv tk tok) (tk + 1) _ _ _ _ _ _ _ _ _ _ _ _ _ _ _ _ _ _ (by omega) (by omega) (.app htk) (fun e => by omega) (fun _ => rfl)
theorem law6 (l : List Int) : ∃ n sh', callN T G n 6 [ints .i64 l] ⟨[], 0⟩ = some (.v (.bool true), sh') := by
  have u0 := clR.use (sane8 ⟨[], 0⟩)
  have u1 := few9 ⟨[], 0⟩ l
  unfold ints at u1
  by_cases hl : l.length ≤ 500
  · have e : decide (l.length ≤ 500) = true := decide_eq_true hl
    rw [e] at u1
    have u1' := clR.use u1
    have u2 := new10 l
    unfold ints at u2
    have u2' := clR.use u2
    obtain ⟨s, a2, hs, ha2, m4⟩ := type12 l hl 3 0 (by omega) (by omega)
    have hs64 : s.nodes ≤ 15 := by omega
    have m5 := default21 (dk l a2) s (by omega)
    have hx : HasTy [] s.dflt s := dflt_ty s [] (by omega)
    have hsz := dflt_size s
    have m6 := typeOf14 (dk l a2) hx 0 (fun e => (e rfl).elim) (by simp) (fun _ h => by cases h) (by omega)
    obtain ⟨z, hz, m7⟩ := result22 (dk l a2) s (by omega)
    have hat := args_tot s
    have hal := tot_len s.args
    have hb : ∀ t ∈ s.args, t.nodes ≤ 64 := fun t ht => by have := tot_mem ht; omega
    have hdt := dflt_tot s.args
    have hne : s.args.map Ty.dflt ≠ [] → s.args ≠ [] := fun h e => h (by rw [e]; rfl)
    have hokl : ∀ t ∈ s.args.map Ty.dflt, t.ok := fun t ht => by
      obtain ⟨u, hu, rfl⟩ := List.mem_map.1 ht
      exact (dflt_ty u [] (hb u hu)).ok
    have hz8 : (apps s.dflt (s.args.map Ty.dflt)).size ≤ 4096 := by rw [apps_size]; omega
    have hy := apps_ty s [] s.dflt (by omega) hx
    have m9 := typeOf14 (dk l a2) hy 0 (fun e => (e rfl).elim) (by simp) (fun _ h => by cases h) hz8
    have m10 := same15 (dk l a2) s s
    have m11 := same15 (dk l a2) s.res s.res
    simp only [Ty.row, tyAll, Tm.row, tmAll, Int.cast_ofNat_Int, List.map_nil] at m4 m5 m6 m7 m9 m10 m11
    have v4 := clR.use m4
    have v5 := clR.use m5
    have v6 := clR.use m6
    have v7 := clR.use m7
    have v9 := clR.use m9
    have v10 := clR.use m10
    have v11 := clR.use m11
    refine ⟨_, dk l a2, (run_eq (run_of (pf := p6) rfl ?_)).choose_spec⟩
    unfold p6 ints
    simp only [wp0, wp1, wp2, wp3, wp4, PV.cellsT, appMax, dropSh, fillB, fillS, putD, splice, src, startSt, Int.reduceAdd, Int.reduceEq, Int.reduceLE, Int.reduceLT, Int.reduceNeg, Int.reduceSub, Int.reduceToNat, Nat.reduceAdd, Nat.reduceEqDiff, Nat.reduceLT, Nat.reduceLeDiff, Nat.reduceMul, Nat.reduceSub, if_false, if_true, ite_false, ite_true, reduceIte, Ty.row, tyAll, Tm.row, tmAll, u0, u1', u2', v4, v5, v6, v7, List.length_map]
    refine dflt_loop s.args z hz (by omega) hb (dk l a2) _ _ _ _ _ _ _ _ _ _ _ _ _ _ _ _ _ _ _ _ _ _ _ _ _ _ _ _ _ _ _ _ _ _ _ _ _ _ _ _ _ _ _ _ _ _ _ _ _ _ _ _ _ _ _ _ _ _ _ _ _ _ _ _ _ _ _ _ _ _ _ _ _ _ _ _ _ _ ?_ s.args.length 0 1 0 _ _ _ _ _ _ _ _ _ _ _ _ _ _ _ _ _ _ _ _ (by omega) (by omega) .one (fun _ => rfl) (fun h => (h rfl).elim)
    intro tok z' lv tk  y14 y15 y16 y49 y50 y51 y52 y53 y54 y55 y56 y57 y58 y59 y60 y61 y62 y63 hz'
    have m8 := apply20 (dk l a2) s.dflt (s.args.map Ty.dflt) z' (fun h => hz' (hne h)) (by simp; omega) hx.ok hokl (by simp only [szs]; omega)
    have e8 : (s.args.map Ty.dflt).map Tm.row = s.args.map fun t => t.dflt.row := by simp [Function.comp_def]
    rw [e8] at m8
    simp only [Tm.row, tmAll] at m8
    have v8 := clR.use m8
    simp only [wp0, wp1, wp2, wp3, wp4, PV.cellsT, appMax, dropSh, fillB, fillS, putD, splice, src, startSt, Int.reduceAdd, Int.reduceEq, Int.reduceLE, Int.reduceLT, Int.reduceNeg, Int.reduceSub, Int.reduceToNat, Nat.reduceAdd, Nat.reduceEqDiff, Nat.reduceLT, Nat.reduceLeDiff, Nat.reduceMul, Nat.reduceSub, if_false, if_true, ite_false, ite_true, reduceIte, Ty.row, tyAll, Tm.row, tmAll, Function.comp_def, v8, v9, v10, v11]
  · have e : decide (l.length ≤ 500) = false := decide_eq_false hl
    rw [e] at u1
    have u1' := clR.use u1
    refine ⟨_, ⟨[], 0⟩, (run_eq (run_of (pf := p6) rfl ?_)).choose_spec⟩
    unfold p6 ints
    simp only [R.loop_eq, wp0, wp1, wp2, wp3, wp4, PV.cellsT, appMax, dropSh, fillB, fillS, putD, splice, src, startSt, Int.reduceAdd, Int.reduceEq, Int.reduceLE, Int.reduceLT, Int.reduceNeg, Int.reduceSub, Int.reduceToNat, Nat.reduceAdd, Nat.reduceEqDiff, Nat.reduceLT, Nat.reduceLeDiff, Nat.reduceMul, Nat.reduceSub, if_false, if_true, ite_false, ite_true, reduceIte, u0, u1']
end Go.Pi.Terms
