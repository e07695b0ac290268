import Derived.Test.YthgocgebpoeolaaDoorTQ
import Derived.Test.YthgocgebpoeolaaDoorM1
set_option maxRecDepth 100000
set_option maxHeartbeats 1000000
set_option linter.unusedSimpArgs false
set_option linter.unusedVariables false
namespace Go.Pi.Terms
open Go Go.Pi Go.Proofs.YthgocgebpoeolaaDoor
def Tm.low (B : Nat) : Tm → Prop
  | .var i => i ≤ B
  | .lam s a => a.low B
  | .app a b => a.low B ∧ b.low B
  | .zero => True
  | .succ a => a.low B
  | .recu s a b c => a.low B ∧ b.low B ∧ c.low B
  | .nil => True
  | .cons a b => a.low B ∧ b.low B
  | .fold s a b c => a.low B ∧ b.low B ∧ c.low B
  | .pair a b => a.low B ∧ b.low B
  | .fst a => a.low B
  | .snd a => a.low B
  | .unit => True
def Tm.cnt : Nat → Tm → Nat
  | k, .var i => if i = k then 1 else 0
  | k, .lam s a => a.cnt (k + 1)
  | k, .app a b => a.cnt k + b.cnt k
  | k, .zero => 0
  | k, .succ a => a.cnt k
  | k, .recu s a b c => a.cnt k + b.cnt k + c.cnt k
  | k, .nil => 0
  | k, .cons a b => a.cnt k + b.cnt k
  | k, .fold s a b c => a.cnt k + b.cnt k + c.cnt k
  | k, .pair a b => a.cnt k + b.cnt k
  | k, .fst a => a.cnt k
  | k, .snd a => a.cnt k
  | k, .unit => 0
theorem cnt_le : ∀ (t : Tm) (k : Nat), t.cnt k ≤ t.size
  | .var i, k => by simp only [Tm.cnt, Tm.size]; split <;> omega
  | .lam s a, k => by
    have ha := cnt_le a (k + 1)
    simp only [Tm.cnt, Tm.size]; omega
  | .app a b, k => by
    have ha := cnt_le a k
    have hb := cnt_le b k
    simp only [Tm.cnt, Tm.size]; omega
  | .zero, k => by simp only [Tm.cnt, Tm.size]; omega
  | .succ a, k => by
    have ha := cnt_le a k
    simp only [Tm.cnt, Tm.size]; omega
  | .recu s a b c, k => by
    have ha := cnt_le a k
    have hb := cnt_le b k
    have hc := cnt_le c k
    simp only [Tm.cnt, Tm.size]; omega
  | .nil, k => by simp only [Tm.cnt, Tm.size]; omega
  | .cons a b, k => by
    have ha := cnt_le a k
    have hb := cnt_le b k
    simp only [Tm.cnt, Tm.size]; omega
  | .fold s a b c, k => by
    have ha := cnt_le a k
    have hb := cnt_le b k
    have hc := cnt_le c k
    simp only [Tm.cnt, Tm.size]; omega
  | .pair a b, k => by
    have ha := cnt_le a k
    have hb := cnt_le b k
    simp only [Tm.cnt, Tm.size]; omega
  | .fst a, k => by
    have ha := cnt_le a k
    simp only [Tm.cnt, Tm.size]; omega
  | .snd a, k => by
    have ha := cnt_le a k
    simp only [Tm.cnt, Tm.size]; omega
  | .unit, k => by simp only [Tm.cnt, Tm.size]; omega
def Tm.leaf : Tm → Bool
  | .var _ => true
  | .zero => true
  | .nil => true
  | .unit => true
  | _ => false
def Tm.small : Tm → Bool
  | .app (.lam _ a) b => b.leaf || decide (a.cnt 0 ≤ 1)
  | .recu _ _ _ .zero => true
  | .fold _ _ _ .nil => true
  | .fst (.pair _ _) => true
  | .snd (.pair _ _) => true
  | _ => false
theorem leaf_arows (t : Tm) : decide ((t.arows.length : Int) = 0) = t.leaf := by
  cases t <;> rfl
theorem kind_lam (t : Tm) : (∃ s a, t = .lam s a) ∨ (¬ (t.kind = 2) ∧ ∀ b, (Tm.app t b).small = false) := by
  cases t <;> first | exact .inl ⟨_, _, rfl⟩ | exact .inr ⟨by decide, fun _ => rfl⟩ | exact .inr ⟨by simp [Tm.kind], fun _ => rfl⟩
theorem kind_zero (s : Ty) (a b t : Tm) : decide (t.kind = 4) = (Tm.recu s a b t).small := by
  cases t <;> rfl
theorem kind_nil (s : Ty) (a b t : Tm) : decide (t.kind = 7) = (Tm.fold s a b t).small := by
  cases t <;> rfl
theorem kind_fst (t : Tm) : decide (t.kind = 10) = (Tm.fst t).small := by
  cases t <;> rfl
theorem kind_snd (t : Tm) : decide (t.kind = 10) = (Tm.snd t).small := by
  cases t <;> rfl
theorem drop1 (b : List (Nat × List PV)) (x : Nat × List PV) : (x :: b).drop ((x :: b).length - b.length) = b := by simp
theorem drop2 (b : List (Nat × List PV)) (x y : Nat × List PV) : (x :: y :: b).drop ((x :: y :: b).length - b.length) = b := by
  have : (x :: y :: b).length - b.length = 2 := by simp only [List.length_cons]; omega
  rw [this]; rfl
theorem dr1 (b : List (Nat × List PV)) (x : Nat × List PV) : (x :: b).drop (b.length + 1 - b.length) = b := drop1 b x
theorem dr2 (b : List (Nat × List PV)) (x y : Nat × List PV) : (x :: y :: b).drop (b.length + 1 + 1 - b.length) = b := drop2 b x y
theorem getB_eq (i : Nat) (c : List PV) (b : List (Nat × List PV)) : getB ((i, c) :: b) i = some c := by simp only [getB, if_true]
theorem getB_ne {i j : Nat} (h : i ≠ j) (c : List PV) (b : List (Nat × List PV)) : getB ((i, c) :: b) j = getB b j := by simp only [getB, if_neg h]
end Go.Pi.Terms
