import Derived.Test.YthgocgebpoeolaaDoorFA
import Derived.Test.YthgocgebpoeolaaDoorSB
import Derived.Test.YthgocgebpoeolaaDoorPiZ
set_option maxRecDepth 100000
set_option maxHeartbeats 1000000
set_option linter.unusedSimpArgs false
set_option linter.unusedVariables false
namespace Go.Pi.Terms
open Go Go.Pi Go.Proofs.YthgocgebpoeolaaDoor
/- Boxes. -/
theorem getB_set_eq {i : Nat} {c v : List PV} : ∀ {bx : List (Nat × List PV)}, getB bx i = some c → getB (setB bx i v) i = some v
  | [], h => by simp [getB] at h
  | (j, d) :: r, h => by
    simp only [getB, setB] at h ⊢
    by_cases e : j = i
    · rw [if_pos e] at h ⊢; simp [getB, e]
    · rw [if_neg e] at h ⊢; simp only [getB, if_neg e]; exact getB_set_eq h
theorem getB_set_ne {i j : Nat} {v : List PV} (hn : i ≠ j) : ∀ (bx : List (Nat × List PV)), getB (setB bx i v) j = getB bx j
  | [] => rfl
  | (k, d) :: r => by
    simp only [setB]
    by_cases e : k = i
    · rw [if_pos e]; subst e; simp only [getB, if_neg hn]
    · rw [if_neg e]; simp only [getB]; rw [getB_set_ne hn r]
theorem setB_ne {i j : Nat} {c v : List PV} (hn : i ≠ j) (bx : List (Nat × List PV)) : setB ((i, c) :: bx) j v = (i, c) :: setB bx j v := by simp only [setB, if_neg hn]
theorem setB_eq {i : Nat} {c v : List PV} (bx : List (Nat × List PV)) : setB ((i, c) :: bx) i v = (i, v) :: bx := by simp only [setB, if_true]
theorem setB_setB {i : Nat} {v w : List PV} : ∀ (bx : List (Nat × List PV)), setB (setB bx i v) i w = setB bx i w
  | [] => rfl
  | (j, d) :: r => by
    simp only [setB]
    by_cases e : j = i
    · rw [if_pos e, if_pos e]; simp only [setB, if_pos e]
    · rw [if_neg e, if_neg e]; simp only [setB, if_neg e]; rw [setB_setB r]
theorem setB_len {i : Nat} {v : List PV} : ∀ (bx : List (Nat × List PV)), (setB bx i v).length = bx.length
  | [] => rfl
  | (j, d) :: r => by
    simp only [setB]
    by_cases e : j = i
    · rw [if_pos e]; rfl
    · rw [if_neg e]; simp only [List.length_cons, setB_len r]
theorem setB_get {i : Nat} {v : List PV} : ∀ {bx : List (Nat × List PV)}, getB bx i = some v → setB bx i v = bx
  | [], h => by simp [getB] at h
  | (j, d) :: r, h => by
    simp only [getB, setB] at h ⊢
    by_cases e : j = i
    · rw [if_pos e] at h ⊢; cases h; rw [e]
    · rw [if_neg e] at h ⊢; rw [setB_get h]
theorem dp1 (b : List (Nat × List PV)) (x : Nat × List PV) (m : Nat) : (x :: b).drop (m + 1 - m) = b := by
  have : m + 1 - m = 1 := by omega
  rw [this]; rfl
theorem dp2 (b : List (Nat × List PV)) (x y : Nat × List PV) (m : Nat) : (x :: y :: b).drop (m + 1 + 1 - m) = b := by
  have : m + 1 + 1 - m = 2 := by omega
  rw [this]; rfl
theorem dp3 (b : List (Nat × List PV)) (x y z : Nat × List PV) (m : Nat) : (x :: y :: z :: b).drop (m + 1 + 1 + 1 - m) = b := by
  have : m + 1 + 1 + 1 - m = 3 := by omega
  rw [this]; rfl
theorem dp4 (b : List (Nat × List PV)) (x y z w : Nat × List PV) (m : Nat) : (x :: y :: z :: w :: b).drop (m + 1 + 1 + 1 + 1 - m) = b := by
  have : m + 1 + 1 + 1 + 1 - m = 4 := by omega
  rw [this]; rfl
theorem dp0 (b : List (Nat × List PV)) (m : Nat) : b.drop (m - m) = b := by rw [Nat.sub_self]; rfl
/-- What stands in some boxes. -/
def Has (bx : List (Nat × List PV)) (L : List (Nat × List PV)) : Prop := ∀ p ∈ L, getB bx p.1 = some p.2
theorem Has.set {bx L : List (Nat × List PV)} {c : Nat} {v : List PV} (h : Has bx L) (hc : ∀ p ∈ L, p.1 ≠ c) : Has (setB bx c v) L := fun p hp => by rw [getB_set_ne (fun e => hc p hp e.symm)]; exact h p hp
theorem Has.push {bx L : List (Nat × List PV)} {c : Nat} {v : List PV} (h : Has bx L) (hc : ∀ p ∈ L, p.1 < c) : Has ((c, v) :: bx) L := fun p hp => by
  have := hc p hp
  rw [getB_ne (by omega)]; exact h p hp
/-- Along the variables of a term, from left to right. -/
def Tm.foldV {σ : Type} (step : σ → Nat → Nat → σ) : Tm → Nat → σ → σ
  | .var i, d, x => step x i d
  | .lam _ a, d, x => a.foldV step (d + 1) x
  | .app a b, d, x => b.foldV step d (a.foldV step d x)
  | .zero, d, x => x
  | .succ a, d, x => a.foldV step d x
  | .recu s a b c, d, x => c.foldV step d (b.foldV step d (a.foldV step d x))
  | .nil, d, x => x
  | .cons a b, d, x => b.foldV step d (a.foldV step d x)
  | .fold s a b c, d, x => c.foldV step d (b.foldV step d (a.foldV step d x))
  | .pair a b, d, x => b.foldV step d (a.foldV step d x)
  | .fst a, d, x => a.foldV step d x
  | .snd a, d, x => a.foldV step d x
  | .unit, d, x => x
/-- What a function does with each variable: a box's content goes on by a step. -/
def Does {σ : Type} (F : Nat) (caps : List PV) (c0 : Nat) (enc : σ → List PV) (step : σ → Nat → Nat → σ) (L : List (Nat × List PV)) (p : Nat → Nat → Prop) : Prop :=
  ∀ (bx : List (Nat × List PV)) (nx : Nat) (x : σ) (i d : Nat), p i d → Has bx L → getB bx c0 = some (enc x) → c0 < nx → (∀ q ∈ L, q.1 < nx) →
    ∃ nx' n, nx ≤ nx' ∧ callN T G n F (i64 (i : Int) :: i64 (d : Int) :: caps) ⟨bx, nx⟩ = some (.tup [], ⟨setB bx c0 (enc (step x i d)), nx'⟩)
def Tm.allV (p : Nat → Nat → Prop) : Tm → Nat → Prop
  | .var i, d => p i d
  | .lam _ a, d => a.allV p (d + 1)
  | .app a b, d => a.allV p d ∧ b.allV p d
  | .zero, d => True
  | .succ a, d => a.allV p d
  | .recu s a b c, d => a.allV p d ∧ b.allV p d ∧ c.allV p d
  | .nil, d => True
  | .cons a b, d => a.allV p d ∧ b.allV p d
  | .fold s a b c, d => a.allV p d ∧ b.allV p d ∧ c.allV p d
  | .pair a b, d => a.allV p d ∧ b.allV p d
  | .fst a, d => a.allV p d
  | .snd a, d => a.allV p d
  | .unit, d => True
theorem each1 {σ : Type} {F : Nat} {caps : List PV} {c0 : Nat} {enc : σ → List PV} {step : σ → Nat → Nat → σ} {L : List (Nat × List PV)} {p : Nat → Nat → Prop} (hF : Does F caps c0 enc step L p) (hL : ∀ q ∈ L, q.1 ≠ c0)
    (iD iE : Nat) (hD : c0 ≠ iD) (hE : c0 ≠ iE) : ∀ (t : Tm) (bx : List (Nat × List PV)) (nx d : Nat) (x : σ), t.allV p d → d + t.size ≤ 1000000 → getB bx iD = some [.fn F caps] → getB bx iE = some [.fn 68 [.sp iD 0, .sp iE 0]] → Has bx L → getB bx c0 = some (enc x) → c0 < nx → (∀ q ∈ L, q.1 < nx) →
    ∃ nx' n, nx ≤ nx' ∧ callN T G n 68 [.ag t.row, i64 (d : Int), .sp iD 0, .sp iE 0] ⟨bx, nx⟩ = some (.tup [], ⟨setB bx c0 (enc (t.foldV step d x)), nx'⟩) := by
  intro t
  induction t with
  | var i =>
    intro bx nx d x hp hs gD gE gL g0 hc hl
    simp only [Tm.size] at hs
    obtain ⟨m, h⟩ := hF bx nx x i d hp gL g0 hc hl
    obtain ⟨k, hk, h⟩ := h
    refine ⟨m, ?_⟩
    have u0 : ∃ n, callN T G n F (i64 (i : Int) :: i64 (d : Int) :: caps) ⟨bx, nx⟩ = some (.tup [], ⟨setB bx c0 (enc (step x i d)), m⟩) := ⟨k, h⟩
    have u0' := clR.use u0
    suffices hh : ∃ n, callN T G n 68 [.ag (Tm.var i).row, i64 (d : Int), .sp iD 0, .sp iE 0] ⟨bx, nx⟩ = some (.tup [], ⟨setB bx c0 (enc ((Tm.var i).foldV step d x)), m⟩) by obtain ⟨n, hn⟩ := hh; exact ⟨n, hk, hn⟩
    simp only [Tm.foldV]
    refine run_eq (run_of (pf := p68) rfl ?_)
    unfold p68
    simp only [R.loop_eq, wp0, wp1, wp2, wp3, wp4, wp5, Int.reduceAdd, Int.reduceEq, Int.reduceLE, Int.reduceLT, Int.reduceNeg, Int.reduceSub, Int.reduceToNat, Nat.reduceAdd, Nat.reduceDiv, Nat.reduceEqDiff, Nat.reduceLT, Nat.reduceLeDiff, Nat.reduceMod, Nat.reduceMul, Nat.reduceSub, eq_self, reduceIte, Ty.row, tyAll, Tm.row, tmAll, u0', gD, gE]
  | lam s a iha =>
    intro bx nx d x hp hs gD gE gL g0 hc hl
    simp only [Tm.size] at hs
    have w1 : IntKind.i64.wrap ((d : Int) + 1) = ((d + 1 : Nat) : Int) := by rw [wrap_i64 (by omega)]; omega
    obtain ⟨m0, k0, l0, e0⟩ := iha bx nx (d + 1) x hp (by omega) (gD) (gE) (gL) (g0) (by omega) (fun q hq => by have := hl q hq; omega)
    have u0 : ∃ n, callN T G n _ _ _ = _ := ⟨k0, e0⟩
    suffices hh : ∃ n, callN T G n 68 [.ag (Tm.lam s a).row, i64 (d : Int), .sp iD 0, .sp iE 0] ⟨bx, nx⟩ = some (.tup [], ⟨setB bx c0 (enc ((Tm.lam s a).foldV step d x)), m0⟩) by obtain ⟨n, hn⟩ := hh; exact ⟨m0, n, by omega, hn⟩
    simp only [Tm.foldV]
    try simp only [Ty.row, tyAll, Tm.row, tmAll, Int.cast_ofNat_Int] at u0
    have u0' := clR.use u0
    refine run_eq (run_of (pf := p68) rfl ?_)
    unfold p68
    simp only [R.loop_eq, wp0, wp1, wp2, wp3, wp4, wp5, Int.reduceAdd, Int.reduceEq, Int.reduceLE, Int.reduceLT, Int.reduceNeg, Int.reduceSub, Int.reduceToNat, Nat.reduceAdd, Nat.reduceDiv, Nat.reduceEqDiff, Nat.reduceLT, Nat.reduceLeDiff, Nat.reduceMod, Nat.reduceMul, Nat.reduceSub, eq_self, reduceIte, Ty.row, tyAll, Tm.row, tmAll, gD, gE, w1, u0']
  | app a b iha ihb =>
    intro bx nx d x hp hs gD gE gL g0 hc hl
    simp only [Tm.size] at hs
    obtain ⟨m0, k0, l0, e0⟩ := iha bx nx d x hp.1 (by omega) (gD) (gE) (gL) (g0) (by omega) (fun q hq => by have := hl q hq; omega)
    have u0 : ∃ n, callN T G n _ _ _ = _ := ⟨k0, e0⟩
    obtain ⟨m1, k1, l1, e1⟩ := ihb (setB bx c0 (enc (a.foldV step d x))) m0 d (a.foldV step d x) hp.2 (by omega) (by rw [getB_set_ne hD]; exact gD) (by rw [getB_set_ne hE]; exact gE) (gL.set hL) (getB_set_eq g0) (by omega) (fun q hq => by have := hl q hq; omega)
    rw [setB_setB] at e1
    have u1 : ∃ n, callN T G n _ _ _ = _ := ⟨k1, e1⟩
    suffices hh : ∃ n, callN T G n 68 [.ag (Tm.app a b).row, i64 (d : Int), .sp iD 0, .sp iE 0] ⟨bx, nx⟩ = some (.tup [], ⟨setB bx c0 (enc ((Tm.app a b).foldV step d x)), m1⟩) by obtain ⟨n, hn⟩ := hh; exact ⟨m1, n, by omega, hn⟩
    simp only [Tm.foldV]
    try simp only [Ty.row, tyAll, Tm.row, tmAll, Int.cast_ofNat_Int] at u0 u1
    have u0' := clR.use u0
    have u1' := clR.use u1
    refine run_eq (run_of (pf := p68) rfl ?_)
    unfold p68
    simp only [R.loop_eq, wp0, wp1, wp2, wp3, wp4, wp5, Int.reduceAdd, Int.reduceEq, Int.reduceLE, Int.reduceLT, Int.reduceNeg, Int.reduceSub, Int.reduceToNat, Nat.reduceAdd, Nat.reduceDiv, Nat.reduceEqDiff, Nat.reduceLT, Nat.reduceLeDiff, Nat.reduceMod, Nat.reduceMul, Nat.reduceSub, eq_self, reduceIte, Ty.row, tyAll, Tm.row, tmAll, gD, gE, getB_set_ne hD, getB_set_ne hE, u0', u1']
  | zero =>
    intro bx nx d x hp hs gD gE gL g0 hc hl
    simp only [Tm.size] at hs
    suffices hh : ∃ n, callN T G n 68 [.ag (Tm.zero).row, i64 (d : Int), .sp iD 0, .sp iE 0] ⟨bx, nx⟩ = some (.tup [], ⟨setB bx c0 (enc ((Tm.zero).foldV step d x)), nx⟩) by obtain ⟨n, hn⟩ := hh; exact ⟨nx, n, by omega, hn⟩
    rw [show (Tm.zero).foldV step d x = x from rfl, setB_get g0]
    refine run_eq (run_of (pf := p68) rfl ?_)
    unfold p68
    simp only [R.loop_eq, wp0, wp1, wp2, wp3, wp4, wp5, Int.reduceAdd, Int.reduceEq, Int.reduceLE, Int.reduceLT, Int.reduceNeg, Int.reduceSub, Int.reduceToNat, Nat.reduceAdd, Nat.reduceDiv, Nat.reduceEqDiff, Nat.reduceLT, Nat.reduceLeDiff, Nat.reduceMod, Nat.reduceMul, Nat.reduceSub, eq_self, reduceIte, Ty.row, tyAll, Tm.row, tmAll, gD, gE]
  | succ a iha =>
    intro bx nx d x hp hs gD gE gL g0 hc hl
    simp only [Tm.size] at hs
    obtain ⟨m0, k0, l0, e0⟩ := iha bx nx d x hp (by omega) (gD) (gE) (gL) (g0) (by omega) (fun q hq => by have := hl q hq; omega)
    have u0 : ∃ n, callN T G n _ _ _ = _ := ⟨k0, e0⟩
    suffices hh : ∃ n, callN T G n 68 [.ag (Tm.succ a).row, i64 (d : Int), .sp iD 0, .sp iE 0] ⟨bx, nx⟩ = some (.tup [], ⟨setB bx c0 (enc ((Tm.succ a).foldV step d x)), m0⟩) by obtain ⟨n, hn⟩ := hh; exact ⟨m0, n, by omega, hn⟩
    simp only [Tm.foldV]
    try simp only [Ty.row, tyAll, Tm.row, tmAll, Int.cast_ofNat_Int] at u0
    have u0' := clR.use u0
    refine run_eq (run_of (pf := p68) rfl ?_)
    unfold p68
    simp only [R.loop_eq, wp0, wp1, wp2, wp3, wp4, wp5, Int.reduceAdd, Int.reduceEq, Int.reduceLE, Int.reduceLT, Int.reduceNeg, Int.reduceSub, Int.reduceToNat, Nat.reduceAdd, Nat.reduceDiv, Nat.reduceEqDiff, Nat.reduceLT, Nat.reduceLeDiff, Nat.reduceMod, Nat.reduceMul, Nat.reduceSub, eq_self, reduceIte, Ty.row, tyAll, Tm.row, tmAll, gD, gE, u0']
  | recu s a b c iha ihb ihc =>
    intro bx nx d x hp hs gD gE gL g0 hc hl
    simp only [Tm.size] at hs
    obtain ⟨m0, k0, l0, e0⟩ := iha bx nx d x hp.1 (by omega) (gD) (gE) (gL) (g0) (by omega) (fun q hq => by have := hl q hq; omega)
    have u0 : ∃ n, callN T G n _ _ _ = _ := ⟨k0, e0⟩
    obtain ⟨m1, k1, l1, e1⟩ := ihb (setB bx c0 (enc (a.foldV step d x))) m0 d (a.foldV step d x) hp.2.1 (by omega) (by rw [getB_set_ne hD]; exact gD) (by rw [getB_set_ne hE]; exact gE) (gL.set hL) (getB_set_eq g0) (by omega) (fun q hq => by have := hl q hq; omega)
    rw [setB_setB] at e1
    have u1 : ∃ n, callN T G n _ _ _ = _ := ⟨k1, e1⟩
    obtain ⟨m2, k2, l2, e2⟩ := ihc (setB bx c0 (enc (b.foldV step d (a.foldV step d x)))) m1 d (b.foldV step d (a.foldV step d x)) hp.2.2 (by omega) (by rw [getB_set_ne hD]; exact gD) (by rw [getB_set_ne hE]; exact gE) (gL.set hL) (getB_set_eq g0) (by omega) (fun q hq => by have := hl q hq; omega)
    rw [setB_setB] at e2
    have u2 : ∃ n, callN T G n _ _ _ = _ := ⟨k2, e2⟩
    suffices hh : ∃ n, callN T G n 68 [.ag (Tm.recu s a b c).row, i64 (d : Int), .sp iD 0, .sp iE 0] ⟨bx, nx⟩ = some (.tup [], ⟨setB bx c0 (enc ((Tm.recu s a b c).foldV step d x)), m2⟩) by obtain ⟨n, hn⟩ := hh; exact ⟨m2, n, by omega, hn⟩
    simp only [Tm.foldV]
    try simp only [Ty.row, tyAll, Tm.row, tmAll, Int.cast_ofNat_Int] at u0 u1 u2
    have u0' := clR.use u0
    have u1' := clR.use u1
    have u2' := clR.use u2
    refine run_eq (run_of (pf := p68) rfl ?_)
    unfold p68
    simp only [R.loop_eq, wp0, wp1, wp2, wp3, wp4, wp5, Int.reduceAdd, Int.reduceEq, Int.reduceLE, Int.reduceLT, Int.reduceNeg, Int.reduceSub, Int.reduceToNat, Nat.reduceAdd, Nat.reduceDiv, Nat.reduceEqDiff, Nat.reduceLT, Nat.reduceLeDiff, Nat.reduceMod, Nat.reduceMul, Nat.reduceSub, eq_self, reduceIte, Ty.row, tyAll, Tm.row, tmAll, gD, gE, getB_set_ne hD, getB_set_ne hE, u0', u1', u2']
  | nil =>
    intro bx nx d x hp hs gD gE gL g0 hc hl
    simp only [Tm.size] at hs
    suffices hh : ∃ n, callN T G n 68 [.ag (Tm.nil).row, i64 (d : Int), .sp iD 0, .sp iE 0] ⟨bx, nx⟩ = some (.tup [], ⟨setB bx c0 (enc ((Tm.nil).foldV step d x)), nx⟩) by obtain ⟨n, hn⟩ := hh; exact ⟨nx, n, by omega, hn⟩
    rw [show (Tm.nil).foldV step d x = x from rfl, setB_get g0]
    refine run_eq (run_of (pf := p68) rfl ?_)
    unfold p68
    simp only [R.loop_eq, wp0, wp1, wp2, wp3, wp4, wp5, Int.reduceAdd, Int.reduceEq, Int.reduceLE, Int.reduceLT, Int.reduceNeg, Int.reduceSub, Int.reduceToNat, Nat.reduceAdd, Nat.reduceDiv, Nat.reduceEqDiff, Nat.reduceLT, Nat.reduceLeDiff, Nat.reduceMod, Nat.reduceMul, Nat.reduceSub, eq_self, reduceIte, Ty.row, tyAll, Tm.row, tmAll, gD, gE]
  | cons a b iha ihb =>
    intro bx nx d x hp hs gD gE gL g0 hc hl
    simp only [Tm.size] at hs
    obtain ⟨m0, k0, l0, e0⟩ := iha bx nx d x hp.1 (by omega) (gD) (gE) (gL) (g0) (by omega) (fun q hq => by have := hl q hq; omega)
    have u0 : ∃ n, callN T G n _ _ _ = _ := ⟨k0, e0⟩
    obtain ⟨m1, k1, l1, e1⟩ := ihb (setB bx c0 (enc (a.foldV step d x))) m0 d (a.foldV step d x) hp.2 (by omega) (by rw [getB_set_ne hD]; exact gD) (by rw [getB_set_ne hE]; exact gE) (gL.set hL) (getB_set_eq g0) (by omega) (fun q hq => by have := hl q hq; omega)
    rw [setB_setB] at e1
    have u1 : ∃ n, callN T G n _ _ _ = _ := ⟨k1, e1⟩
    suffices hh : ∃ n, callN T G n 68 [.ag (Tm.cons a b).row, i64 (d : Int), .sp iD 0, .sp iE 0] ⟨bx, nx⟩ = some (.tup [], ⟨setB bx c0 (enc ((Tm.cons a b).foldV step d x)), m1⟩) by obtain ⟨n, hn⟩ := hh; exact ⟨m1, n, by omega, hn⟩
    simp only [Tm.foldV]
    try simp only [Ty.row, tyAll, Tm.row, tmAll, Int.cast_ofNat_Int] at u0 u1
    have u0' := clR.use u0
    have u1' := clR.use u1
    refine run_eq (run_of (pf := p68) rfl ?_)
    unfold p68
    simp only [R.loop_eq, wp0, wp1, wp2, wp3, wp4, wp5, Int.reduceAdd, Int.reduceEq, Int.reduceLE, Int.reduceLT, Int.reduceNeg, Int.reduceSub, Int.reduceToNat, Nat.reduceAdd, Nat.reduceDiv, Nat.reduceEqDiff, Nat.reduceLT, Nat.reduceLeDiff, Nat.reduceMod, Nat.reduceMul, Nat.reduceSub, eq_self, reduceIte, Ty.row, tyAll, Tm.row, tmAll, gD, gE, getB_set_ne hD, getB_set_ne hE, u0', u1']
  | fold s a b c iha ihb ihc =>
    intro bx nx d x hp hs gD gE gL g0 hc hl
    simp only [Tm.size] at hs
    obtain ⟨m0, k0, l0, e0⟩ := iha bx nx d x hp.1 (by omega) (gD) (gE) (gL) (g0) (by omega) (fun q hq => by have := hl q hq; omega)
    have u0 : ∃ n, callN T G n _ _ _ = _ := ⟨k0, e0⟩
    obtain ⟨m1, k1, l1, e1⟩ := ihb (setB bx c0 (enc (a.foldV step d x))) m0 d (a.foldV step d x) hp.2.1 (by omega) (by rw [getB_set_ne hD]; exact gD) (by rw [getB_set_ne hE]; exact gE) (gL.set hL) (getB_set_eq g0) (by omega) (fun q hq => by have := hl q hq; omega)
    rw [setB_setB] at e1
    have u1 : ∃ n, callN T G n _ _ _ = _ := ⟨k1, e1⟩
    obtain ⟨m2, k2, l2, e2⟩ := ihc (setB bx c0 (enc (b.foldV step d (a.foldV step d x)))) m1 d (b.foldV step d (a.foldV step d x)) hp.2.2 (by omega) (by rw [getB_set_ne hD]; exact gD) (by rw [getB_set_ne hE]; exact gE) (gL.set hL) (getB_set_eq g0) (by omega) (fun q hq => by have := hl q hq; omega)
    rw [setB_setB] at e2
    have u2 : ∃ n, callN T G n _ _ _ = _ := ⟨k2, e2⟩
    suffices hh : ∃ n, callN T G n 68 [.ag (Tm.fold s a b c).row, i64 (d : Int), .sp iD 0, .sp iE 0] ⟨bx, nx⟩ = some (.tup [], ⟨setB bx c0 (enc ((Tm.fold s a b c).foldV step d x)), m2⟩) by obtain ⟨n, hn⟩ := hh; exact ⟨m2, n, by omega, hn⟩
    simp only [Tm.foldV]
    try simp only [Ty.row, tyAll, Tm.row, tmAll, Int.cast_ofNat_Int] at u0 u1 u2
    have u0' := clR.use u0
    have u1' := clR.use u1
    have u2' := clR.use u2
    refine run_eq (run_of (pf := p68) rfl ?_)
    unfold p68
    simp only [R.loop_eq, wp0, wp1, wp2, wp3, wp4, wp5, Int.reduceAdd, Int.reduceEq, Int.reduceLE, Int.reduceLT, Int.reduceNeg, Int.reduceSub, Int.reduceToNat, Nat.reduceAdd, Nat.reduceDiv, Nat.reduceEqDiff, Nat.reduceLT, Nat.reduceLeDiff, Nat.reduceMod, Nat.reduceMul, Nat.reduceSub, eq_self, reduceIte, Ty.row, tyAll, Tm.row, tmAll, gD, gE, getB_set_ne hD, getB_set_ne hE, u0', u1', u2']
  | pair a b iha ihb =>
    intro bx nx d x hp hs gD gE gL g0 hc hl
    simp only [Tm.size] at hs
    obtain ⟨m0, k0, l0, e0⟩ := iha bx nx d x hp.1 (by omega) (gD) (gE) (gL) (g0) (by omega) (fun q hq => by have := hl q hq; omega)
    have u0 : ∃ n, callN T G n _ _ _ = _ := ⟨k0, e0⟩
    obtain ⟨m1, k1, l1, e1⟩ := ihb (setB bx c0 (enc (a.foldV step d x))) m0 d (a.foldV step d x) hp.2 (by omega) (by rw [getB_set_ne hD]; exact gD) (by rw [getB_set_ne hE]; exact gE) (gL.set hL) (getB_set_eq g0) (by omega) (fun q hq => by have := hl q hq; omega)
    rw [setB_setB] at e1
    have u1 : ∃ n, callN T G n _ _ _ = _ := ⟨k1, e1⟩
    suffices hh : ∃ n, callN T G n 68 [.ag (Tm.pair a b).row, i64 (d : Int), .sp iD 0, .sp iE 0] ⟨bx, nx⟩ = some (.tup [], ⟨setB bx c0 (enc ((Tm.pair a b).foldV step d x)), m1⟩) by obtain ⟨n, hn⟩ := hh; exact ⟨m1, n, by omega, hn⟩
    simp only [Tm.foldV]
    try simp only [Ty.row, tyAll, Tm.row, tmAll, Int.cast_ofNat_Int] at u0 u1
    have u0' := clR.use u0
    have u1' := clR.use u1
    refine run_eq (run_of (pf := p68) rfl ?_)
    unfold p68
    simp only [R.loop_eq, wp0, wp1, wp2, wp3, wp4, wp5, Int.reduceAdd, Int.reduceEq, Int.reduceLE, Int.reduceLT, Int.reduceNeg, Int.reduceSub, Int.reduceToNat, Nat.reduceAdd, Nat.reduceDiv, Nat.reduceEqDiff, Nat.reduceLT, Nat.reduceLeDiff, Nat.reduceMod, Nat.reduceMul, Nat.reduceSub, eq_self, reduceIte, Ty.row, tyAll, Tm.row, tmAll, gD, gE, getB_set_ne hD, getB_set_ne hE, u0', u1']
  | fst a iha =>
    intro bx nx d x hp hs gD gE gL g0 hc hl
    simp only [Tm.size] at hs
    obtain ⟨m0, k0, l0, e0⟩ := iha bx nx d x hp (by omega) (gD) (gE) (gL) (g0) (by omega) (fun q hq => by have := hl q hq; omega)
    have u0 : ∃ n, callN T G n _ _ _ = _ := ⟨k0, e0⟩
    suffices hh : ∃ n, callN T G n 68 [.ag (Tm.fst a).row, i64 (d : Int), .sp iD 0, .sp iE 0] ⟨bx, nx⟩ = some (.tup [], ⟨setB bx c0 (enc ((Tm.fst a).foldV step d x)), m0⟩) by obtain ⟨n, hn⟩ := hh; exact ⟨m0, n, by omega, hn⟩
    simp only [Tm.foldV]
    try simp only [Ty.row, tyAll, Tm.row, tmAll, Int.cast_ofNat_Int] at u0
    have u0' := clR.use u0
    refine run_eq (run_of (pf := p68) rfl ?_)
    unfold p68
    simp only [R.loop_eq, wp0, wp1, wp2, wp3, wp4, wp5, Int.reduceAdd, Int.reduceEq, Int.reduceLE, Int.reduceLT, Int.reduceNeg, Int.reduceSub, Int.reduceToNat, Nat.reduceAdd, Nat.reduceDiv, Nat.reduceEqDiff, Nat.reduceLT, Nat.reduceLeDiff, Nat.reduceMod, Nat.reduceMul, Nat.reduceSub, eq_self, reduceIte, Ty.row, tyAll, Tm.row, tmAll, gD, gE, u0']
  | snd a iha =>
    intro bx nx d x hp hs gD gE gL g0 hc hl
    simp only [Tm.size] at hs
    obtain ⟨m0, k0, l0, e0⟩ := iha bx nx d x hp (by omega) (gD) (gE) (gL) (g0) (by omega) (fun q hq => by have := hl q hq; omega)
    have u0 : ∃ n, callN T G n _ _ _ = _ := ⟨k0, e0⟩
    suffices hh : ∃ n, callN T G n 68 [.ag (Tm.snd a).row, i64 (d : Int), .sp iD 0, .sp iE 0] ⟨bx, nx⟩ = some (.tup [], ⟨setB bx c0 (enc ((Tm.snd a).foldV step d x)), m0⟩) by obtain ⟨n, hn⟩ := hh; exact ⟨m0, n, by omega, hn⟩
    simp only [Tm.foldV]
    try simp only [Ty.row, tyAll, Tm.row, tmAll, Int.cast_ofNat_Int] at u0
    have u0' := clR.use u0
    refine run_eq (run_of (pf := p68) rfl ?_)
    unfold p68
    simp only [R.loop_eq, wp0, wp1, wp2, wp3, wp4, wp5, Int.reduceAdd, Int.reduceEq, Int.reduceLE, Int.reduceLT, Int.reduceNeg, Int.reduceSub, Int.reduceToNat, Nat.reduceAdd, Nat.reduceDiv, Nat.reduceEqDiff, Nat.reduceLT, Nat.reduceLeDiff, Nat.reduceMod, Nat.reduceMul, Nat.reduceSub, eq_self, reduceIte, Ty.row, tyAll, Tm.row, tmAll, gD, gE, u0']
  | unit =>
    intro bx nx d x hp hs gD gE gL g0 hc hl
    simp only [Tm.size] at hs
    suffices hh : ∃ n, callN T G n 68 [.ag (Tm.unit).row, i64 (d : Int), .sp iD 0, .sp iE 0] ⟨bx, nx⟩ = some (.tup [], ⟨setB bx c0 (enc ((Tm.unit).foldV step d x)), nx⟩) by obtain ⟨n, hn⟩ := hh; exact ⟨nx, n, by omega, hn⟩
    rw [show (Tm.unit).foldV step d x = x from rfl, setB_get g0]
    refine run_eq (run_of (pf := p68) rfl ?_)
    unfold p68
    simp only [R.loop_eq, wp0, wp1, wp2, wp3, wp4, wp5, Int.reduceAdd, Int.reduceEq, Int.reduceLE, Int.reduceLT, Int.reduceNeg, Int.reduceSub, Int.reduceToNat, Nat.reduceAdd, Nat.reduceDiv, Nat.reduceEqDiff, Nat.reduceLT, Nat.reduceLeDiff, Nat.reduceMod, Nat.reduceMul, Nat.reduceSub, eq_self, reduceIte, Ty.row, tyAll, Tm.row, tmAll, gD, gE]
theorem each {σ : Type} {F : Nat} {caps : List PV} {c0 : Nat} {enc : σ → List PV} {step : σ → Nat → Nat → σ} {L : List (Nat × List PV)} {p : Nat → Nat → Prop} (hF : Does F caps c0 enc step L p) (hL : ∀ q ∈ L, q.1 ≠ c0) (hcl : PV.clrs caps = some caps)
    (t : Tm) (bx : List (Nat × List PV)) (nx : Nat) (x : σ) (hp : t.allV p 0) (hs : t.size ≤ 1000000) (gL : Has bx L) (g0 : getB bx c0 = some (enc x)) (hc : c0 < nx) (hl : ∀ q ∈ L, q.1 < nx) :
    ∃ nx', nx ≤ nx' ∧ ∃ n, callN T G n 53 [.ag t.row, .fn F caps] ⟨bx, nx⟩ = some (.tup [], ⟨setB bx c0 (enc (t.foldV step 0 x)), nx'⟩) := by
  have g1 : getB ((nx + 1, [PV.fn 68 [.sp nx 0, .sp (nx + 1) 0]]) :: (nx, [.fn F caps]) :: bx) (nx + 1) = some [.fn 68 [.sp nx 0, .sp (nx + 1) 0]] := getB_eq _ _ _
  have hq : Has ((nx + 1, [PV.fn 68 [.sp nx 0, .sp (nx + 1) 0]]) :: (nx, [.fn F caps]) :: bx) L := (gL.push hl).push fun q hq => by have := hl q hq; omega
  obtain ⟨m, k, l, e⟩ := each1 hF hL nx (nx + 1) (by omega) (by omega) t ((nx + 1, [PV.fn 68 [.sp nx 0, .sp (nx + 1) 0]]) :: (nx, [.fn F caps]) :: bx) (nx + 2) 0 x hp (by omega) (by rw [getB_ne (by omega), getB_eq]) g1 hq (by rw [getB_ne (by omega), getB_ne (by omega)]; exact g0) (by omega) (fun q hq => by have := hl q hq; omega)
  rw [setB_ne (by omega), setB_ne (by omega)] at e
  have h : ∃ n, callN T G n _ _ _ = _ := ⟨k, e⟩
  try simp only [Ty.row, tyAll, Tm.row, tmAll, Int.cast_ofNat_Int] at h
  have h' := clR.use h
  refine ⟨m, by omega, run_eq (run_of (pf := p53) rfl ?_)⟩
  unfold p53
  simp only [R.loop_eq, wp0, wp1, wp2, wp3, wp4, wp5, Int.reduceAdd, Int.reduceEq, Int.reduceLE, Int.reduceLT, Int.reduceNeg, Int.reduceSub, Int.reduceToNat, Nat.reduceAdd, Nat.reduceDiv, Nat.reduceEqDiff, Nat.reduceLT, Nat.reduceLeDiff, Nat.reduceMod, Nat.reduceMul, Nat.reduceSub, eq_self, reduceIte, Ty.row, tyAll, Tm.row, tmAll, getB_eq, setB, g1, h', hcl, dp2, List.length_cons, setB_len]
end Go.Pi.Terms
