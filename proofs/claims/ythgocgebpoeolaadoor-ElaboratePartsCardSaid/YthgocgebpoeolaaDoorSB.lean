import Derived.Test.YthgocgebpoeolaaDoorSA
set_option maxRecDepth 100000
set_option maxHeartbeats 1000000
set_option linter.unusedSimpArgs false
set_option linter.unusedVariables false
namespace Go.Pi.Terms
open Go Go.Pi Go.Proofs.YthgocgebpoeolaaDoor
theorem ownNo (sh : Sh) : ∃ n, callN T G n 49 [.ag [i64 0, .sl 0 0 []]] sh = some (.ag [i64 0, .sl 0 0 []], sh) := by
  refine run_eq (run_of (pf := p49) rfl ?_)
  unfold p49
  simp only [R.loop_eq, wp0, wp1, wp2, wp3, wp4, wp5, Int.reduceAdd, Int.reduceEq, Int.reduceLE, Int.reduceLT, Int.reduceNeg, Int.reduceSub, Int.reduceToNat, Nat.reduceAdd, Nat.reduceDiv, Nat.reduceEqDiff, Nat.reduceLT, Nat.reduceLeDiff, Nat.reduceMod, Nat.reduceMul, Nat.reduceSub, eq_self, reduceIte, Ty.row, tyAll, Tm.row, tmAll]
theorem up_var (k n i : Nat) : (Tm.var i).up k n = .var (if k ≤ i then i + n else i) := rfl
theorem up_app (k n : Nat) (a : Tm) (b : Tm) : (Tm.app a b).up k n = .app (a.up k n) (b.up k n) := rfl
theorem up_zero' (k n : Nat) : (Tm.zero).up k n = .zero := rfl
theorem up_succ (k n : Nat) (a : Tm) : (Tm.succ a).up k n = .succ (a.up k n) := rfl
theorem up_recu (k n : Nat) (s : Ty) (a : Tm) (b : Tm) (c : Tm) : (Tm.recu s a b c).up k n = .recu s (a.up k n) (b.up k n) (c.up k n) := rfl
theorem up_nil (k n : Nat) : (Tm.nil).up k n = .nil := rfl
theorem up_cons (k n : Nat) (a : Tm) (b : Tm) : (Tm.cons a b).up k n = .cons (a.up k n) (b.up k n) := rfl
theorem up_fold (k n : Nat) (s : Ty) (a : Tm) (b : Tm) (c : Tm) : (Tm.fold s a b c).up k n = .fold s (a.up k n) (b.up k n) (c.up k n) := rfl
theorem up_pair (k n : Nat) (a : Tm) (b : Tm) : (Tm.pair a b).up k n = .pair (a.up k n) (b.up k n) := rfl
theorem up_fst (k n : Nat) (a : Tm) : (Tm.fst a).up k n = .fst (a.up k n) := rfl
theorem up_snd (k n : Nat) (a : Tm) : (Tm.snd a).up k n = .snd (a.up k n) := rfl
theorem up_unit (k n : Nat) : (Tm.unit).up k n = .unit := rfl
theorem put_var (k i : Nat) (s' : Tm) : (Tm.var i).put k s' = if i = k then s'.up 0 k else if k < i then .var (i - 1) else .var i := rfl
theorem put_app (k : Nat) (s' : Tm) (a : Tm) (b : Tm) : (Tm.app a b).put k s' = .app (a.put k s') (b.put k s') := rfl
theorem put_zero' (k : Nat) (s' : Tm) : (Tm.zero).put k s' = .zero := rfl
theorem put_succ (k : Nat) (s' : Tm) (a : Tm) : (Tm.succ a).put k s' = .succ (a.put k s') := rfl
theorem put_recu (k : Nat) (s' : Tm) (s : Ty) (a : Tm) (b : Tm) (c : Tm) : (Tm.recu s a b c).put k s' = .recu s (a.put k s') (b.put k s') (c.put k s') := rfl
theorem put_nil (k : Nat) (s' : Tm) : (Tm.nil).put k s' = .nil := rfl
theorem put_cons (k : Nat) (s' : Tm) (a : Tm) (b : Tm) : (Tm.cons a b).put k s' = .cons (a.put k s') (b.put k s') := rfl
theorem put_fold (k : Nat) (s' : Tm) (s : Ty) (a : Tm) (b : Tm) (c : Tm) : (Tm.fold s a b c).put k s' = .fold s (a.put k s') (b.put k s') (c.put k s') := rfl
theorem put_pair (k : Nat) (s' : Tm) (a : Tm) (b : Tm) : (Tm.pair a b).put k s' = .pair (a.put k s') (b.put k s') := rfl
theorem put_fst (k : Nat) (s' : Tm) (a : Tm) : (Tm.fst a).put k s' = .fst (a.put k s') := rfl
theorem put_snd (k : Nat) (s' : Tm) (a : Tm) : (Tm.snd a).put k s' = .snd (a.put k s') := rfl
theorem put_unit (k : Nat) (s' : Tm) : (Tm.unit).put k s' = .unit := rfl
theorem var83 (sh : Sh) (i : Nat) : ∃ n, callN T G n 89 [i64 (i : Int)] sh = some (.ag (Tm.var i).row, sh) := by
  refine run_eq (run_of (pf := p89) rfl ?_)
  unfold p89
  simp only [R.loop_eq, wp0, wp1, wp2, wp3, wp4, wp5, Int.reduceAdd, Int.reduceEq, Int.reduceLE, Int.reduceLT, Int.reduceNeg, Int.reduceSub, Int.reduceToNat, Nat.reduceAdd, Nat.reduceDiv, Nat.reduceEqDiff, Nat.reduceLT, Nat.reduceLeDiff, Nat.reduceMod, Nat.reduceMul, Nat.reduceSub, eq_self, reduceIte, Ty.row, tyAll, Tm.row, tmAll]
theorem lift95 (bx : List (Nat × List PV)) (nx iF iB fr am : Nat) (hF : getB bx iF = some [i64 (fr : Int)]) (hB : getB bx iB = some [i64 (am : Int)]) (i d : Nat) (hb : i ≤ 1073741824 ∧ d ≤ 1000000 ∧ fr ≤ 1000000 ∧ am ≤ 1000000) :
    ∃ n, callN T G n 88 [i64 (i : Int), i64 (d : Int), .sp iF 0, .sp iB 0] ⟨bx, nx⟩ = some (.ag ((Tm.var i).up (fr + d) am).row, ⟨bx, nx⟩) := by
  have w1 : IntKind.i64.wrap ((i : Int) - (d : Int)) = (i : Int) - (d : Int) := wrap_i64 (by omega)
  have w2 : IntKind.i64.wrap ((i : Int) + (am : Int)) = ((i + am : Nat) : Int) := by rw [wrap_i64 (by omega)]; omega
  rw [up_var]
  by_cases h : fr + d ≤ i
  · have c1 : (fr : Int) ≤ (i : Int) - (d : Int) := by omega
    rw [if_pos h]
    have u0 := var83 ⟨bx, nx⟩ (i + am)
    try simp only [Ty.row, tyAll, Tm.row, tmAll, Int.cast_ofNat_Int] at u0
    have u0' := clR.use u0
    refine run_eq (run_of (pf := p88) rfl ?_)
    unfold p88
    simp only [R.loop_eq, wp0, wp1, wp2, wp3, wp4, wp5, Int.reduceAdd, Int.reduceEq, Int.reduceLE, Int.reduceLT, Int.reduceNeg, Int.reduceSub, Int.reduceToNat, Nat.reduceAdd, Nat.reduceDiv, Nat.reduceEqDiff, Nat.reduceLT, Nat.reduceLeDiff, Nat.reduceMod, Nat.reduceMul, Nat.reduceSub, eq_self, reduceIte, Ty.row, tyAll, Tm.row, tmAll, u0', hF, hB, w1, w2, c1]
  · have c1 : ¬ (fr : Int) ≤ (i : Int) - (d : Int) := by omega
    rw [if_neg h]
    have u0 := var83 ⟨bx, nx⟩ i
    try simp only [Ty.row, tyAll, Tm.row, tmAll, Int.cast_ofNat_Int] at u0
    have u0' := clR.use u0
    refine run_eq (run_of (pf := p88) rfl ?_)
    unfold p88
    simp only [R.loop_eq, wp0, wp1, wp2, wp3, wp4, wp5, Int.reduceAdd, Int.reduceEq, Int.reduceLE, Int.reduceLT, Int.reduceNeg, Int.reduceSub, Int.reduceToNat, Nat.reduceAdd, Nat.reduceDiv, Nat.reduceEqDiff, Nat.reduceLT, Nat.reduceLeDiff, Nat.reduceMod, Nat.reduceMul, Nat.reduceSub, eq_self, reduceIte, Ty.row, tyAll, Tm.row, tmAll, u0', hF, hB, w1, c1]
theorem lift94 (bx : List (Nat × List PV)) (nx iO iR iF iB fr am : Nat) (hO : getB bx iO = some [.fn 88 [.sp iF 0, .sp iB 0]]) (hR : getB bx iR = some [.fn 99 [.sp iO 0, .sp iR 0]]) (hF : getB bx iF = some [i64 (fr : Int)]) (hB : getB bx iB = some [i64 (am : Int)]) (hb : fr ≤ 1000000 ∧ am ≤ 1000000) :
    ∀ (t : Tm) (d : Nat), d + t.size ≤ 1000000 → t.low 1073741824 → ∃ n, callN T G n 99 [.ag t.row, i64 (d : Int), .sp iO 0, .sp iR 0] ⟨bx, nx⟩ = some (.ag (t.up (fr + d) am).row, ⟨bx, nx⟩) := by
  intro t
  induction t with
  | var i =>
    intro d hs hl
    simp only [Tm.size] at hs
    have hi : i ≤ 1073741824 := hl
    have u0 := lift95 bx nx iF iB fr am hF hB i d (by omega)
    try simp only [Ty.row, tyAll, Tm.row, tmAll, Int.cast_ofNat_Int] at u0
    have u0' := clR.use u0
    refine run_eq (run_of (pf := p99) rfl ?_)
    unfold p99
    simp only [R.loop_eq, wp0, wp1, wp2, wp3, wp4, wp5, Int.reduceAdd, Int.reduceEq, Int.reduceLE, Int.reduceLT, Int.reduceNeg, Int.reduceSub, Int.reduceToNat, Nat.reduceAdd, Nat.reduceDiv, Nat.reduceEqDiff, Nat.reduceLT, Nat.reduceLeDiff, Nat.reduceMod, Nat.reduceMul, Nat.reduceSub, eq_self, reduceIte, Ty.row, tyAll, Tm.row, tmAll, u0', hO, hR]
  | lam s a iha =>
    intro d hs hl
    simp only [Tm.size] at hs
    have w1 : IntKind.i64.wrap ((d : Int) + 1) = ((d + 1 : Nat) : Int) := by rw [wrap_i64 (by omega)]; omega
    rw [up_lam]
    have u0 := iha (d + 1) (by omega) hl
    have u1 := own49 ⟨bx, nx⟩ s
    try simp only [Ty.row, tyAll, Tm.row, tmAll, Int.cast_ofNat_Int] at u0 u1
    have u0' := clR.use u0
    have u1' := clR.use u1
    refine run_eq (run_of (pf := p99) rfl ?_)
    unfold p99
    simp only [R.loop_eq, wp0, wp1, wp2, wp3, wp4, wp5, Int.reduceAdd, Int.reduceEq, Int.reduceLE, Int.reduceLT, Int.reduceNeg, Int.reduceSub, Int.reduceToNat, Nat.reduceAdd, Nat.reduceDiv, Nat.reduceEqDiff, Nat.reduceLT, Nat.reduceLeDiff, Nat.reduceMod, Nat.reduceMul, Nat.reduceSub, eq_self, reduceIte, Ty.row, tyAll, Tm.row, tmAll, u0', u1', hO, hR, w1, Nat.add_assoc]
  | app a b iha ihb =>
    intro d hs hl
    simp only [Tm.size] at hs
    rw [up_app]
    have u0 := iha d (by omega) hl.1
    have u1 := ihb d (by omega) hl.2
    have u2 := ownNo ⟨bx, nx⟩
    try simp only [Ty.row, tyAll, Tm.row, tmAll, Int.cast_ofNat_Int] at u0 u1 u2
    have u0' := clR.use u0
    have u1' := clR.use u1
    have u2' := clR.use u2
    refine run_eq (run_of (pf := p99) rfl ?_)
    unfold p99
    simp only [R.loop_eq, wp0, wp1, wp2, wp3, wp4, wp5, Int.reduceAdd, Int.reduceEq, Int.reduceLE, Int.reduceLT, Int.reduceNeg, Int.reduceSub, Int.reduceToNat, Nat.reduceAdd, Nat.reduceDiv, Nat.reduceEqDiff, Nat.reduceLT, Nat.reduceLeDiff, Nat.reduceMod, Nat.reduceMul, Nat.reduceSub, eq_self, reduceIte, Ty.row, tyAll, Tm.row, tmAll, u0', u1', u2', hO, hR]
  | zero =>
    intro d hs hl
    simp only [Tm.size] at hs
    rw [up_zero']
    have u0 := ownNo ⟨bx, nx⟩
    try simp only [Ty.row, tyAll, Tm.row, tmAll, Int.cast_ofNat_Int] at u0
    have u0' := clR.use u0
    refine run_eq (run_of (pf := p99) rfl ?_)
    unfold p99
    simp only [R.loop_eq, wp0, wp1, wp2, wp3, wp4, wp5, Int.reduceAdd, Int.reduceEq, Int.reduceLE, Int.reduceLT, Int.reduceNeg, Int.reduceSub, Int.reduceToNat, Nat.reduceAdd, Nat.reduceDiv, Nat.reduceEqDiff, Nat.reduceLT, Nat.reduceLeDiff, Nat.reduceMod, Nat.reduceMul, Nat.reduceSub, eq_self, reduceIte, Ty.row, tyAll, Tm.row, tmAll, u0', hO, hR]
  | succ a iha =>
    intro d hs hl
    simp only [Tm.size] at hs
    rw [up_succ]
    have u0 := iha d (by omega) hl
    have u1 := ownNo ⟨bx, nx⟩
    try simp only [Ty.row, tyAll, Tm.row, tmAll, Int.cast_ofNat_Int] at u0 u1
    have u0' := clR.use u0
    have u1' := clR.use u1
    refine run_eq (run_of (pf := p99) rfl ?_)
    unfold p99
    simp only [R.loop_eq, wp0, wp1, wp2, wp3, wp4, wp5, Int.reduceAdd, Int.reduceEq, Int.reduceLE, Int.reduceLT, Int.reduceNeg, Int.reduceSub, Int.reduceToNat, Nat.reduceAdd, Nat.reduceDiv, Nat.reduceEqDiff, Nat.reduceLT, Nat.reduceLeDiff, Nat.reduceMod, Nat.reduceMul, Nat.reduceSub, eq_self, reduceIte, Ty.row, tyAll, Tm.row, tmAll, u0', u1', hO, hR]
  | recu s a b c iha ihb ihc =>
    intro d hs hl
    simp only [Tm.size] at hs
    rw [up_recu]
    have u0 := iha d (by omega) hl.1
    have u1 := ihb d (by omega) hl.2.1
    have u2 := ihc d (by omega) hl.2.2
    have u3 := own49 ⟨bx, nx⟩ s
    try simp only [Ty.row, tyAll, Tm.row, tmAll, Int.cast_ofNat_Int] at u0 u1 u2 u3
    have u0' := clR.use u0
    have u1' := clR.use u1
    have u2' := clR.use u2
    have u3' := clR.use u3
    refine run_eq (run_of (pf := p99) rfl ?_)
    unfold p99
    simp only [R.loop_eq, wp0, wp1, wp2, wp3, wp4, wp5, Int.reduceAdd, Int.reduceEq, Int.reduceLE, Int.reduceLT, Int.reduceNeg, Int.reduceSub, Int.reduceToNat, Nat.reduceAdd, Nat.reduceDiv, Nat.reduceEqDiff, Nat.reduceLT, Nat.reduceLeDiff, Nat.reduceMod, Nat.reduceMul, Nat.reduceSub, eq_self, reduceIte, Ty.row, tyAll, Tm.row, tmAll, u0', u1', u2', u3', hO, hR]
  | nil =>
    intro d hs hl
    simp only [Tm.size] at hs
    rw [up_nil]
    have u0 := ownNo ⟨bx, nx⟩
    try simp only [Ty.row, tyAll, Tm.row, tmAll, Int.cast_ofNat_Int] at u0
    have u0' := clR.use u0
    refine run_eq (run_of (pf := p99) rfl ?_)
    unfold p99
    simp only [R.loop_eq, wp0, wp1, wp2, wp3, wp4, wp5, Int.reduceAdd, Int.reduceEq, Int.reduceLE, Int.reduceLT, Int.reduceNeg, Int.reduceSub, Int.reduceToNat, Nat.reduceAdd, Nat.reduceDiv, Nat.reduceEqDiff, Nat.reduceLT, Nat.reduceLeDiff, Nat.reduceMod, Nat.reduceMul, Nat.reduceSub, eq_self, reduceIte, Ty.row, tyAll, Tm.row, tmAll, u0', hO, hR]
  | cons a b iha ihb =>
    intro d hs hl
    simp only [Tm.size] at hs
    rw [up_cons]
    have u0 := iha d (by omega) hl.1
    have u1 := ihb d (by omega) hl.2
    have u2 := ownNo ⟨bx, nx⟩
    try simp only [Ty.row, tyAll, Tm.row, tmAll, Int.cast_ofNat_Int] at u0 u1 u2
    have u0' := clR.use u0
    have u1' := clR.use u1
    have u2' := clR.use u2
    refine run_eq (run_of (pf := p99) rfl ?_)
    unfold p99
    simp only [R.loop_eq, wp0, wp1, wp2, wp3, wp4, wp5, Int.reduceAdd, Int.reduceEq, Int.reduceLE, Int.reduceLT, Int.reduceNeg, Int.reduceSub, Int.reduceToNat, Nat.reduceAdd, Nat.reduceDiv, Nat.reduceEqDiff, Nat.reduceLT, Nat.reduceLeDiff, Nat.reduceMod, Nat.reduceMul, Nat.reduceSub, eq_self, reduceIte, Ty.row, tyAll, Tm.row, tmAll, u0', u1', u2', hO, hR]
  | fold s a b c iha ihb ihc =>
    intro d hs hl
    simp only [Tm.size] at hs
    rw [up_fold]
    have u0 := iha d (by omega) hl.1
    have u1 := ihb d (by omega) hl.2.1
    have u2 := ihc d (by omega) hl.2.2
    have u3 := own49 ⟨bx, nx⟩ s
    try simp only [Ty.row, tyAll, Tm.row, tmAll, Int.cast_ofNat_Int] at u0 u1 u2 u3
    have u0' := clR.use u0
    have u1' := clR.use u1
    have u2' := clR.use u2
    have u3' := clR.use u3
    refine run_eq (run_of (pf := p99) rfl ?_)
    unfold p99
    simp only [R.loop_eq, wp0, wp1, wp2, wp3, wp4, wp5, Int.reduceAdd, Int.reduceEq, Int.reduceLE, Int.reduceLT, Int.reduceNeg, Int.reduceSub, Int.reduceToNat, Nat.reduceAdd, Nat.reduceDiv, Nat.reduceEqDiff, Nat.reduceLT, Nat.reduceLeDiff, Nat.reduceMod, Nat.reduceMul, Nat.reduceSub, eq_self, reduceIte, Ty.row, tyAll, Tm.row, tmAll, u0', u1', u2', u3', hO, hR]
  | pair a b iha ihb =>
    intro d hs hl
    simp only [Tm.size] at hs
    rw [up_pair]
    have u0 := iha d (by omega) hl.1
    have u1 := ihb d (by omega) hl.2
    have u2 := ownNo ⟨bx, nx⟩
    try simp only [Ty.row, tyAll, Tm.row, tmAll, Int.cast_ofNat_Int] at u0 u1 u2
    have u0' := clR.use u0
    have u1' := clR.use u1
    have u2' := clR.use u2
    refine run_eq (run_of (pf := p99) rfl ?_)
    unfold p99
    simp only [R.loop_eq, wp0, wp1, wp2, wp3, wp4, wp5, Int.reduceAdd, Int.reduceEq, Int.reduceLE, Int.reduceLT, Int.reduceNeg, Int.reduceSub, Int.reduceToNat, Nat.reduceAdd, Nat.reduceDiv, Nat.reduceEqDiff, Nat.reduceLT, Nat.reduceLeDiff, Nat.reduceMod, Nat.reduceMul, Nat.reduceSub, eq_self, reduceIte, Ty.row, tyAll, Tm.row, tmAll, u0', u1', u2', hO, hR]
  | fst a iha =>
    intro d hs hl
    simp only [Tm.size] at hs
    rw [up_fst]
    have u0 := iha d (by omega) hl
    have u1 := ownNo ⟨bx, nx⟩
    try simp only [Ty.row, tyAll, Tm.row, tmAll, Int.cast_ofNat_Int] at u0 u1
    have u0' := clR.use u0
    have u1' := clR.use u1
    refine run_eq (run_of (pf := p99) rfl ?_)
    unfold p99
    simp only [R.loop_eq, wp0, wp1, wp2, wp3, wp4, wp5, Int.reduceAdd, Int.reduceEq, Int.reduceLE, Int.reduceLT, Int.reduceNeg, Int.reduceSub, Int.reduceToNat, Nat.reduceAdd, Nat.reduceDiv, Nat.reduceEqDiff, Nat.reduceLT, Nat.reduceLeDiff, Nat.reduceMod, Nat.reduceMul, Nat.reduceSub, eq_self, reduceIte, Ty.row, tyAll, Tm.row, tmAll, u0', u1', hO, hR]
  | snd a iha =>
    intro d hs hl
    simp only [Tm.size] at hs
    rw [up_snd]
    have u0 := iha d (by omega) hl
    have u1 := ownNo ⟨bx, nx⟩
    try simp only [Ty.row, tyAll, Tm.row, tmAll, Int.cast_ofNat_Int] at u0 u1
    have u0' := clR.use u0
    have u1' := clR.use u1
    refine run_eq (run_of (pf := p99) rfl ?_)
    unfold p99
    simp only [R.loop_eq, wp0, wp1, wp2, wp3, wp4, wp5, Int.reduceAdd, Int.reduceEq, Int.reduceLE, Int.reduceLT, Int.reduceNeg, Int.reduceSub, Int.reduceToNat, Nat.reduceAdd, Nat.reduceDiv, Nat.reduceEqDiff, Nat.reduceLT, Nat.reduceLeDiff, Nat.reduceMod, Nat.reduceMul, Nat.reduceSub, eq_self, reduceIte, Ty.row, tyAll, Tm.row, tmAll, u0', u1', hO, hR]
  | unit =>
    intro d hs hl
    simp only [Tm.size] at hs
    rw [up_unit]
    have u0 := ownNo ⟨bx, nx⟩
    try simp only [Ty.row, tyAll, Tm.row, tmAll, Int.cast_ofNat_Int] at u0
    have u0' := clR.use u0
    refine run_eq (run_of (pf := p99) rfl ?_)
    unfold p99
    simp only [R.loop_eq, wp0, wp1, wp2, wp3, wp4, wp5, Int.reduceAdd, Int.reduceEq, Int.reduceLE, Int.reduceLT, Int.reduceNeg, Int.reduceSub, Int.reduceToNat, Nat.reduceAdd, Nat.reduceDiv, Nat.reduceEqDiff, Nat.reduceLT, Nat.reduceLeDiff, Nat.reduceMod, Nat.reduceMul, Nat.reduceSub, eq_self, reduceIte, Ty.row, tyAll, Tm.row, tmAll, u0', hO, hR]
theorem rebuild80 (bx : List (Nat × List PV)) (nx nx' : Nat) (t r : Tm) (f : Nat) (caps : List PV) (hc : PV.clrs caps = some caps)
    (h : ∃ n, callN T G n 99 [.ag t.row, i64 0, .sp nx 0, .sp (nx + 1) 0] ⟨(nx + 1, [.fn 99 [.sp nx 0, .sp (nx + 1) 0]]) :: (nx, [.fn f caps]) :: bx, nx + 2⟩ = some (.ag r.row, ⟨(nx + 1, [.fn 99 [.sp nx 0, .sp (nx + 1) 0]]) :: (nx, [.fn f caps]) :: bx, nx'⟩)) :
    ∃ n, callN T G n 87 [.ag t.row, .fn f caps] ⟨bx, nx⟩ = some (.ag r.row, ⟨bx, nx'⟩) := by
  have g1 : getB ((nx + 1, [PV.fn 99 [.sp nx 0, .sp (nx + 1) 0]]) :: (nx, [.fn f caps]) :: bx) (nx + 1) = some [.fn 99 [.sp nx 0, .sp (nx + 1) 0]] := getB_eq _ _ _
  simp only [Tm.row, tmAll] at h
  have h' := clR.use h
  refine run_eq (run_of (pf := p87) rfl ?_)
  unfold p87
  simp only [R.loop_eq, wp0, wp1, wp2, wp3, wp4, wp5, Int.reduceAdd, Int.reduceEq, Int.reduceLE, Int.reduceLT, Int.reduceNeg, Int.reduceSub, Int.reduceToNat, Nat.reduceAdd, Nat.reduceDiv, Nat.reduceEqDiff, Nat.reduceLT, Nat.reduceLeDiff, Nat.reduceMod, Nat.reduceMul, Nat.reduceSub, eq_self, reduceIte, Tm.row, tmAll, getB_eq, setB, g1, h', dr2]
theorem lift82 (bx : List (Nat × List PV)) (nx : Nat) (t : Tm) (fr am : Nat) (hb : fr ≤ 1000000 ∧ am ≤ 1000000) (hs : t.size ≤ 1000000) (hl : t.low 1073741824) :
    ∃ n, callN T G n 73 [.ag t.row, i64 (fr : Int), i64 (am : Int)] ⟨bx, nx⟩ = some (.ag (t.up fr am).row, ⟨bx, nx + 2 + 2⟩) := by
  have hF : getB ((nx + 2 + 1, [PV.fn 99 [.sp (nx + 2) 0, .sp (nx + 2 + 1) 0]]) :: (nx + 2, [.fn 88 [.sp nx 0, .sp (nx + 1) 0]]) :: (nx + 1, [i64 (am : Int)]) :: (nx, [i64 (fr : Int)]) :: bx) nx = some [i64 (fr : Int)] := by
    rw [getB_ne (by omega), getB_ne (by omega), getB_ne (by omega), getB_eq]
  have hB : getB ((nx + 2 + 1, [PV.fn 99 [.sp (nx + 2) 0, .sp (nx + 2 + 1) 0]]) :: (nx + 2, [.fn 88 [.sp nx 0, .sp (nx + 1) 0]]) :: (nx + 1, [i64 (am : Int)]) :: (nx, [i64 (fr : Int)]) :: bx) (nx + 1) = some [i64 (am : Int)] := by
    rw [getB_ne (by omega), getB_ne (by omega), getB_eq]
  have hO : getB ((nx + 2 + 1, [PV.fn 99 [.sp (nx + 2) 0, .sp (nx + 2 + 1) 0]]) :: (nx + 2, [.fn 88 [.sp nx 0, .sp (nx + 1) 0]]) :: (nx + 1, [i64 (am : Int)]) :: (nx, [i64 (fr : Int)]) :: bx) (nx + 2) = some [.fn 88 [.sp nx 0, .sp (nx + 1) 0]] := by
    rw [getB_ne (by omega), getB_eq]
  have h := rebuild80 ((nx + 1, [i64 (am : Int)]) :: (nx, [i64 (fr : Int)]) :: bx) (nx + 2) (nx + 2 + 2) t (t.up fr am) 88 [.sp nx 0, .sp (nx + 1) 0] rfl
    (lift94 _ _ _ _ _ _ fr am hO (getB_eq _ _ _) hF hB hb t 0 (by omega) hl)
  simp only [Tm.row, tmAll] at h
  have h' := clR.use h
  refine run_eq (run_of (pf := p73) rfl ?_)
  unfold p73
  simp only [R.loop_eq, wp0, wp1, wp2, wp3, wp4, wp5, Int.reduceAdd, Int.reduceEq, Int.reduceLE, Int.reduceLT, Int.reduceNeg, Int.reduceSub, Int.reduceToNat, Nat.reduceAdd, Nat.reduceDiv, Nat.reduceEqDiff, Nat.reduceLT, Nat.reduceLeDiff, Nat.reduceMod, Nat.reduceMul, Nat.reduceSub, eq_self, reduceIte, Tm.row, tmAll, h', dr2]
theorem put81 (bx : List (Nat × List PV)) (nx iA iS at_ : Nat) (s : Tm) (hA : getB bx iA = some [i64 (at_ : Int)]) (hS : getB bx iS = some s.row) (i d : Nat) (hb : i ≤ 1073741824 ∧ at_ + d ≤ 1000000) (hs : s.size ≤ 1000000) (hl : s.low 1073741824) :
    ∃ nx' n, callN T G n 98 [i64 (i : Int), i64 (d : Int), .sp iA 0, .sp iS 0] ⟨bx, nx⟩ = some (.ag ((Tm.var i).put (at_ + d) s).row, ⟨bx, nx'⟩) := by
  have w1 : IntKind.i64.wrap ((i : Int) - (d : Int)) = (i : Int) - (d : Int) := wrap_i64 (by omega)
  have w2 : IntKind.i64.wrap ((at_ : Int) + (d : Int)) = ((at_ + d : Nat) : Int) := by rw [wrap_i64 (by omega)]; omega
  simp only [Tm.row, tmAll] at hS
  rw [put_var]
  by_cases h : i = at_ + d
  · rw [if_pos h]
    have w3 : IntKind.i64.wrap ((i : Int) - (d : Int)) = (at_ : Int) := by rw [w1]; omega
    refine ⟨nx + 2 + 2, ?_⟩
    have u0 := lift82 bx nx s 0 (at_ + d) (by omega) hs hl
    try simp only [Ty.row, tyAll, Tm.row, tmAll, Int.cast_ofNat_Int] at u0
    have u0' := clR.use u0
    refine run_eq (run_of (pf := p98) rfl ?_)
    unfold p98
    simp only [R.loop_eq, wp0, wp1, wp2, wp3, wp4, wp5, Int.reduceAdd, Int.reduceEq, Int.reduceLE, Int.reduceLT, Int.reduceNeg, Int.reduceSub, Int.reduceToNat, Nat.reduceAdd, Nat.reduceDiv, Nat.reduceEqDiff, Nat.reduceLT, Nat.reduceLeDiff, Nat.reduceMod, Nat.reduceMul, Nat.reduceSub, eq_self, reduceIte, Ty.row, tyAll, Tm.row, tmAll, u0', hA, hS, w3, w2]
  · rw [if_neg h]
    have c1 : ¬ (i : Int) - (d : Int) = (at_ : Int) := by omega
    refine ⟨nx, ?_⟩
    by_cases h2 : at_ + d < i
    · rw [if_pos h2]
      have c2 : (at_ : Int) < (i : Int) - (d : Int) := by omega
      have w3 : IntKind.i64.wrap ((i : Int) - 1) = ((i - 1 : Nat) : Int) := by rw [wrap_i64 (by omega)]; omega
      have u0 := var83 ⟨bx, nx⟩ (i - 1)
      try simp only [Ty.row, tyAll, Tm.row, tmAll, Int.cast_ofNat_Int] at u0
      have u0' := clR.use u0
      refine run_eq (run_of (pf := p98) rfl ?_)
      unfold p98
      simp only [R.loop_eq, wp0, wp1, wp2, wp3, wp4, wp5, Int.reduceAdd, Int.reduceEq, Int.reduceLE, Int.reduceLT, Int.reduceNeg, Int.reduceSub, Int.reduceToNat, Nat.reduceAdd, Nat.reduceDiv, Nat.reduceEqDiff, Nat.reduceLT, Nat.reduceLeDiff, Nat.reduceMod, Nat.reduceMul, Nat.reduceSub, eq_self, reduceIte, Ty.row, tyAll, Tm.row, tmAll, u0', hA, hS, w1, w3, c1, c2]
    · rw [if_neg h2]
      have c2 : ¬ (at_ : Int) < (i : Int) - (d : Int) := by omega
      have u0 := var83 ⟨bx, nx⟩ i
      try simp only [Ty.row, tyAll, Tm.row, tmAll, Int.cast_ofNat_Int] at u0
      have u0' := clR.use u0
      refine run_eq (run_of (pf := p98) rfl ?_)
      unfold p98
      simp only [R.loop_eq, wp0, wp1, wp2, wp3, wp4, wp5, Int.reduceAdd, Int.reduceEq, Int.reduceLE, Int.reduceLT, Int.reduceNeg, Int.reduceSub, Int.reduceToNat, Nat.reduceAdd, Nat.reduceDiv, Nat.reduceEqDiff, Nat.reduceLT, Nat.reduceLeDiff, Nat.reduceMod, Nat.reduceMul, Nat.reduceSub, eq_self, reduceIte, Ty.row, tyAll, Tm.row, tmAll, u0', hA, hS, w1, c1, c2]
theorem put94 (bx : List (Nat × List PV)) (iO iR iA iS at_ : Nat) (s' : Tm) (hO : getB bx iO = some [.fn 98 [.sp iA 0, .sp iS 0]]) (hR : getB bx iR = some [.fn 99 [.sp iO 0, .sp iR 0]]) (hA : getB bx iA = some [i64 (at_ : Int)]) (hS : getB bx iS = some s'.row) (hs' : s'.size ≤ 1000000) (hl' : s'.low 1073741824) :
    ∀ (t : Tm) (d nx : Nat), at_ + d + t.size ≤ 1000000 → t.low 1073741824 → ∃ nx' n, callN T G n 99 [.ag t.row, i64 (d : Int), .sp iO 0, .sp iR 0] ⟨bx, nx⟩ = some (.ag (t.put (at_ + d) s').row, ⟨bx, nx'⟩) := by
  intro t
  induction t with
  | var i =>
    intro d nx hs hl
    simp only [Tm.size] at hs
    have hi : i ≤ 1073741824 := hl
    obtain ⟨m, h⟩ := put81 bx nx iA iS at_ s' hA hS i d (by omega) hs' hl'
    refine ⟨m, ?_⟩
    have u0 := h
    try simp only [Ty.row, tyAll, Tm.row, tmAll, Int.cast_ofNat_Int] at u0
    have u0' := clR.use u0
    refine run_eq (run_of (pf := p99) rfl ?_)
    unfold p99
    simp only [R.loop_eq, wp0, wp1, wp2, wp3, wp4, wp5, Int.reduceAdd, Int.reduceEq, Int.reduceLE, Int.reduceLT, Int.reduceNeg, Int.reduceSub, Int.reduceToNat, Nat.reduceAdd, Nat.reduceDiv, Nat.reduceEqDiff, Nat.reduceLT, Nat.reduceLeDiff, Nat.reduceMod, Nat.reduceMul, Nat.reduceSub, eq_self, reduceIte, Ty.row, tyAll, Tm.row, tmAll, u0', hO, hR]
  | lam s a iha =>
    intro d nx hs hl
    simp only [Tm.size] at hs
    have w1 : IntKind.i64.wrap ((d : Int) + 1) = ((d + 1 : Nat) : Int) := by rw [wrap_i64 (by omega)]; omega
    rw [put_lam]
    obtain ⟨m, h⟩ := iha (d + 1) nx (by omega) hl
    refine ⟨m, ?_⟩
    have u0 := h
    have u1 := own49 ⟨bx, nx⟩ s
    try simp only [Ty.row, tyAll, Tm.row, tmAll, Int.cast_ofNat_Int] at u0 u1
    have u0' := clR.use u0
    have u1' := clR.use u1
    refine run_eq (run_of (pf := p99) rfl ?_)
    unfold p99
    simp only [R.loop_eq, wp0, wp1, wp2, wp3, wp4, wp5, Int.reduceAdd, Int.reduceEq, Int.reduceLE, Int.reduceLT, Int.reduceNeg, Int.reduceSub, Int.reduceToNat, Nat.reduceAdd, Nat.reduceDiv, Nat.reduceEqDiff, Nat.reduceLT, Nat.reduceLeDiff, Nat.reduceMod, Nat.reduceMul, Nat.reduceSub, eq_self, reduceIte, Ty.row, tyAll, Tm.row, tmAll, u0', u1', hO, hR, w1, Nat.add_assoc]
  | app a b iha ihb =>
    intro d nx hs hl
    simp only [Tm.size] at hs
    rw [put_app]
    obtain ⟨m0, h0⟩ := iha d (nx) (by omega) hl.1
    obtain ⟨m1, h1⟩ := ihb d (m0) (by omega) hl.2
    refine ⟨m1, ?_⟩
    have u0 := h0
    have u1 := h1
    have u2 := ownNo ⟨bx, nx⟩
    try simp only [Ty.row, tyAll, Tm.row, tmAll, Int.cast_ofNat_Int] at u0 u1 u2
    have u0' := clR.use u0
    have u1' := clR.use u1
    have u2' := clR.use u2
    refine run_eq (run_of (pf := p99) rfl ?_)
    unfold p99
    simp only [R.loop_eq, wp0, wp1, wp2, wp3, wp4, wp5, Int.reduceAdd, Int.reduceEq, Int.reduceLE, Int.reduceLT, Int.reduceNeg, Int.reduceSub, Int.reduceToNat, Nat.reduceAdd, Nat.reduceDiv, Nat.reduceEqDiff, Nat.reduceLT, Nat.reduceLeDiff, Nat.reduceMod, Nat.reduceMul, Nat.reduceSub, eq_self, reduceIte, Ty.row, tyAll, Tm.row, tmAll, u0', u1', u2', hO, hR]
  | zero =>
    intro d nx hs hl
    simp only [Tm.size] at hs
    rw [put_zero']
    refine ⟨nx, ?_⟩
    have u0 := ownNo ⟨bx, nx⟩
    try simp only [Ty.row, tyAll, Tm.row, tmAll, Int.cast_ofNat_Int] at u0
    have u0' := clR.use u0
    refine run_eq (run_of (pf := p99) rfl ?_)
    unfold p99
    simp only [R.loop_eq, wp0, wp1, wp2, wp3, wp4, wp5, Int.reduceAdd, Int.reduceEq, Int.reduceLE, Int.reduceLT, Int.reduceNeg, Int.reduceSub, Int.reduceToNat, Nat.reduceAdd, Nat.reduceDiv, Nat.reduceEqDiff, Nat.reduceLT, Nat.reduceLeDiff, Nat.reduceMod, Nat.reduceMul, Nat.reduceSub, eq_self, reduceIte, Ty.row, tyAll, Tm.row, tmAll, u0', hO, hR]
  | succ a iha =>
    intro d nx hs hl
    simp only [Tm.size] at hs
    rw [put_succ]
    obtain ⟨m0, h0⟩ := iha d (nx) (by omega) hl
    refine ⟨m0, ?_⟩
    have u0 := h0
    have u1 := ownNo ⟨bx, nx⟩
    try simp only [Ty.row, tyAll, Tm.row, tmAll, Int.cast_ofNat_Int] at u0 u1
    have u0' := clR.use u0
    have u1' := clR.use u1
    refine run_eq (run_of (pf := p99) rfl ?_)
    unfold p99
    simp only [R.loop_eq, wp0, wp1, wp2, wp3, wp4, wp5, Int.reduceAdd, Int.reduceEq, Int.reduceLE, Int.reduceLT, Int.reduceNeg, Int.reduceSub, Int.reduceToNat, Nat.reduceAdd, Nat.reduceDiv, Nat.reduceEqDiff, Nat.reduceLT, Nat.reduceLeDiff, Nat.reduceMod, Nat.reduceMul, Nat.reduceSub, eq_self, reduceIte, Ty.row, tyAll, Tm.row, tmAll, u0', u1', hO, hR]
  | recu s a b c iha ihb ihc =>
    intro d nx hs hl
    simp only [Tm.size] at hs
    rw [put_recu]
    obtain ⟨m0, h0⟩ := iha d (nx) (by omega) hl.1
    obtain ⟨m1, h1⟩ := ihb d (m0) (by omega) hl.2.1
    obtain ⟨m2, h2⟩ := ihc d (m1) (by omega) hl.2.2
    refine ⟨m2, ?_⟩
    have u0 := h0
    have u1 := h1
    have u2 := h2
    have u3 := own49 ⟨bx, nx⟩ s
    try simp only [Ty.row, tyAll, Tm.row, tmAll, Int.cast_ofNat_Int] at u0 u1 u2 u3
    have u0' := clR.use u0
    have u1' := clR.use u1
    have u2' := clR.use u2
    have u3' := clR.use u3
    refine run_eq (run_of (pf := p99) rfl ?_)
    unfold p99
    simp only [R.loop_eq, wp0, wp1, wp2, wp3, wp4, wp5, Int.reduceAdd, Int.reduceEq, Int.reduceLE, Int.reduceLT, Int.reduceNeg, Int.reduceSub, Int.reduceToNat, Nat.reduceAdd, Nat.reduceDiv, Nat.reduceEqDiff, Nat.reduceLT, Nat.reduceLeDiff, Nat.reduceMod, Nat.reduceMul, Nat.reduceSub, eq_self, reduceIte, Ty.row, tyAll, Tm.row, tmAll, u0', u1', u2', u3', hO, hR]
  | nil =>
    intro d nx hs hl
    simp only [Tm.size] at hs
    rw [put_nil]
    refine ⟨nx, ?_⟩
    have u0 := ownNo ⟨bx, nx⟩
    try simp only [Ty.row, tyAll, Tm.row, tmAll, Int.cast_ofNat_Int] at u0
    have u0' := clR.use u0
    refine run_eq (run_of (pf := p99) rfl ?_)
    unfold p99
    simp only [R.loop_eq, wp0, wp1, wp2, wp3, wp4, wp5, Int.reduceAdd, Int.reduceEq, Int.reduceLE, Int.reduceLT, Int.reduceNeg, Int.reduceSub, Int.reduceToNat, Nat.reduceAdd, Nat.reduceDiv, Nat.reduceEqDiff, Nat.reduceLT, Nat.reduceLeDiff, Nat.reduceMod, Nat.reduceMul, Nat.reduceSub, eq_self, reduceIte, Ty.row, tyAll, Tm.row, tmAll, u0', hO, hR]
  | cons a b iha ihb =>
    intro d nx hs hl
    simp only [Tm.size] at hs
    rw [put_cons]
    obtain ⟨m0, h0⟩ := iha d (nx) (by omega) hl.1
    obtain ⟨m1, h1⟩ := ihb d (m0) (by omega) hl.2
    refine ⟨m1, ?_⟩
    have u0 := h0
    have u1 := h1
    have u2 := ownNo ⟨bx, nx⟩
    try simp only [Ty.row, tyAll, Tm.row, tmAll, Int.cast_ofNat_Int] at u0 u1 u2
    have u0' := clR.use u0
    have u1' := clR.use u1
    have u2' := clR.use u2
    refine run_eq (run_of (pf := p99) rfl ?_)
    unfold p99
    simp only [R.loop_eq, wp0, wp1, wp2, wp3, wp4, wp5, Int.reduceAdd, Int.reduceEq, Int.reduceLE, Int.reduceLT, Int.reduceNeg, Int.reduceSub, Int.reduceToNat, Nat.reduceAdd, Nat.reduceDiv, Nat.reduceEqDiff, Nat.reduceLT, Nat.reduceLeDiff, Nat.reduceMod, Nat.reduceMul, Nat.reduceSub, eq_self, reduceIte, Ty.row, tyAll, Tm.row, tmAll, u0', u1', u2', hO, hR]
  | fold s a b c iha ihb ihc =>
    intro d nx hs hl
    simp only [Tm.size] at hs
    rw [put_fold]
    obtain ⟨m0, h0⟩ := iha d (nx) (by omega) hl.1
    obtain ⟨m1, h1⟩ := ihb d (m0) (by omega) hl.2.1
    obtain ⟨m2, h2⟩ := ihc d (m1) (by omega) hl.2.2
    refine ⟨m2, ?_⟩
    have u0 := h0
    have u1 := h1
    have u2 := h2
    have u3 := own49 ⟨bx, nx⟩ s
    try simp only [Ty.row, tyAll, Tm.row, tmAll, Int.cast_ofNat_Int] at u0 u1 u2 u3
    have u0' := clR.use u0
    have u1' := clR.use u1
    have u2' := clR.use u2
    have u3' := clR.use u3
    refine run_eq (run_of (pf := p99) rfl ?_)
    unfold p99
    simp only [R.loop_eq, wp0, wp1, wp2, wp3, wp4, wp5, Int.reduceAdd, Int.reduceEq, Int.reduceLE, Int.reduceLT, Int.reduceNeg, Int.reduceSub, Int.reduceToNat, Nat.reduceAdd, Nat.reduceDiv, Nat.reduceEqDiff, Nat.reduceLT, Nat.reduceLeDiff, Nat.reduceMod, Nat.reduceMul, Nat.reduceSub, eq_self, reduceIte, Ty.row, tyAll, Tm.row, tmAll, u0', u1', u2', u3', hO, hR]
  | pair a b iha ihb =>
    intro d nx hs hl
    simp only [Tm.size] at hs
    rw [put_pair]
    obtain ⟨m0, h0⟩ := iha d (nx) (by omega) hl.1
    obtain ⟨m1, h1⟩ := ihb d (m0) (by omega) hl.2
    refine ⟨m1, ?_⟩
    have u0 := h0
    have u1 := h1
    have u2 := ownNo ⟨bx, nx⟩
    try simp only [Ty.row, tyAll, Tm.row, tmAll, Int.cast_ofNat_Int] at u0 u1 u2
    have u0' := clR.use u0
    have u1' := clR.use u1
    have u2' := clR.use u2
    refine run_eq (run_of (pf := p99) rfl ?_)
    unfold p99
    simp only [R.loop_eq, wp0, wp1, wp2, wp3, wp4, wp5, Int.reduceAdd, Int.reduceEq, Int.reduceLE, Int.reduceLT, Int.reduceNeg, Int.reduceSub, Int.reduceToNat, Nat.reduceAdd, Nat.reduceDiv, Nat.reduceEqDiff, Nat.reduceLT, Nat.reduceLeDiff, Nat.reduceMod, Nat.reduceMul, Nat.reduceSub, eq_self, reduceIte, Ty.row, tyAll, Tm.row, tmAll, u0', u1', u2', hO, hR]
  | fst a iha =>
    intro d nx hs hl
    simp only [Tm.size] at hs
    rw [put_fst]
    obtain ⟨m0, h0⟩ := iha d (nx) (by omega) hl
    refine ⟨m0, ?_⟩
    have u0 := h0
    have u1 := ownNo ⟨bx, nx⟩
    try simp only [Ty.row, tyAll, Tm.row, tmAll, Int.cast_ofNat_Int] at u0 u1
    have u0' := clR.use u0
    have u1' := clR.use u1
    refine run_eq (run_of (pf := p99) rfl ?_)
    unfold p99
    simp only [R.loop_eq, wp0, wp1, wp2, wp3, wp4, wp5, Int.reduceAdd, Int.reduceEq, Int.reduceLE, Int.reduceLT, Int.reduceNeg, Int.reduceSub, Int.reduceToNat, Nat.reduceAdd, Nat.reduceDiv, Nat.reduceEqDiff, Nat.reduceLT, Nat.reduceLeDiff, Nat.reduceMod, Nat.reduceMul, Nat.reduceSub, eq_self, reduceIte, Ty.row, tyAll, Tm.row, tmAll, u0', u1', hO, hR]
  | snd a iha =>
    intro d nx hs hl
    simp only [Tm.size] at hs
    rw [put_snd]
    obtain ⟨m0, h0⟩ := iha d (nx) (by omega) hl
    refine ⟨m0, ?_⟩
    have u0 := h0
    have u1 := ownNo ⟨bx, nx⟩
    try simp only [Ty.row, tyAll, Tm.row, tmAll, Int.cast_ofNat_Int] at u0 u1
    have u0' := clR.use u0
    have u1' := clR.use u1
    refine run_eq (run_of (pf := p99) rfl ?_)
    unfold p99
    simp only [R.loop_eq, wp0, wp1, wp2, wp3, wp4, wp5, Int.reduceAdd, Int.reduceEq, Int.reduceLE, Int.reduceLT, Int.reduceNeg, Int.reduceSub, Int.reduceToNat, Nat.reduceAdd, Nat.reduceDiv, Nat.reduceEqDiff, Nat.reduceLT, Nat.reduceLeDiff, Nat.reduceMod, Nat.reduceMul, Nat.reduceSub, eq_self, reduceIte, Ty.row, tyAll, Tm.row, tmAll, u0', u1', hO, hR]
  | unit =>
    intro d nx hs hl
    simp only [Tm.size] at hs
    rw [put_unit]
    refine ⟨nx, ?_⟩
    have u0 := ownNo ⟨bx, nx⟩
    try simp only [Ty.row, tyAll, Tm.row, tmAll, Int.cast_ofNat_Int] at u0
    have u0' := clR.use u0
    refine run_eq (run_of (pf := p99) rfl ?_)
    unfold p99
    simp only [R.loop_eq, wp0, wp1, wp2, wp3, wp4, wp5, Int.reduceAdd, Int.reduceEq, Int.reduceLE, Int.reduceLT, Int.reduceNeg, Int.reduceSub, Int.reduceToNat, Nat.reduceAdd, Nat.reduceDiv, Nat.reduceEqDiff, Nat.reduceLT, Nat.reduceLeDiff, Nat.reduceMod, Nat.reduceMul, Nat.reduceSub, eq_self, reduceIte, Ty.row, tyAll, Tm.row, tmAll, u0', hO, hR]
theorem put71 (bx : List (Nat × List PV)) (nx : Nat) (t s : Tm) (at_ : Nat) (hb : at_ + t.size ≤ 1000000) (hl : t.low 1073741824) (hs : s.size ≤ 1000000) (hl' : s.low 1073741824) :
    ∃ nx' n, callN T G n 84 [.ag t.row, i64 (at_ : Int), .ag s.row] ⟨bx, nx⟩ = some (.ag (t.put at_ s).row, ⟨bx, nx'⟩) := by
  have hA : getB ((nx + 2 + 1, [PV.fn 99 [.sp (nx + 2) 0, .sp (nx + 2 + 1) 0]]) :: (nx + 2, [.fn 98 [.sp nx 0, .sp (nx + 1) 0]]) :: (nx + 1, s.row) :: (nx, [i64 (at_ : Int)]) :: bx) nx = some [i64 (at_ : Int)] := by
    rw [getB_ne (by omega), getB_ne (by omega), getB_ne (by omega), getB_eq]
  have hS : getB ((nx + 2 + 1, [PV.fn 99 [.sp (nx + 2) 0, .sp (nx + 2 + 1) 0]]) :: (nx + 2, [.fn 98 [.sp nx 0, .sp (nx + 1) 0]]) :: (nx + 1, s.row) :: (nx, [i64 (at_ : Int)]) :: bx) (nx + 1) = some s.row := by
    rw [getB_ne (by omega), getB_ne (by omega), getB_eq]
  have hO : getB ((nx + 2 + 1, [PV.fn 99 [.sp (nx + 2) 0, .sp (nx + 2 + 1) 0]]) :: (nx + 2, [.fn 98 [.sp nx 0, .sp (nx + 1) 0]]) :: (nx + 1, s.row) :: (nx, [i64 (at_ : Int)]) :: bx) (nx + 2) = some [.fn 98 [.sp nx 0, .sp (nx + 1) 0]] := by
    rw [getB_ne (by omega), getB_eq]
  obtain ⟨m, hm⟩ := put94 _ (nx + 2) (nx + 2 + 1) nx (nx + 1) at_ s hO (getB_eq _ _ _) hA hS hs hl' t 0 (nx + 2 + 2) (by omega) hl
  have h := rebuild80 ((nx + 1, s.row) :: (nx, [i64 (at_ : Int)]) :: bx) (nx + 2) m t (t.put at_ s) 98 [.sp nx 0, .sp (nx + 1) 0] rfl hm
  simp only [Tm.row, tmAll] at h
  have h' := clR.use h
  refine ⟨m, run_eq (run_of (pf := p84) rfl ?_)⟩
  unfold p84
  simp only [R.loop_eq, wp0, wp1, wp2, wp3, wp4, wp5, Int.reduceAdd, Int.reduceEq, Int.reduceLE, Int.reduceLT, Int.reduceNeg, Int.reduceSub, Int.reduceToNat, Nat.reduceAdd, Nat.reduceDiv, Nat.reduceEqDiff, Nat.reduceLT, Nat.reduceLeDiff, Nat.reduceMod, Nat.reduceMul, Nat.reduceSub, eq_self, reduceIte, Tm.row, tmAll, h', dr2]
end Go.Pi.Terms
