/- What simplify does to sizes, types and normal forms: plain laws. -/
import Derived.Test.YthgocgebpoeolaaDoorSC
import Derived.Test.YthgocgebpoeolaaDoorM2
set_option linter.unusedSimpArgs false
set_option linter.unusedVariables false
namespace Go.Pi.Terms

theorem size_put (b : Tm) : ∀ (a : Tm) (k : Nat), (a.put k b).size + a.cnt k = a.size + a.cnt k * b.size
  | .var i, k => by
    rw [put_var]
    simp only [Tm.cnt]
    by_cases h : i = k
    · simp only [h, if_true, size_up, Tm.size]; omega
    · simp only [if_neg h]
      split <;> simp only [Tm.size] <;> omega
  | .lam s a, k => by
    rw [put_lam]
    have h := size_put b a (k + 1)
    simp only [Tm.cnt, Tm.size]
    omega
  | .app x y, k => by
    have h1 := size_put b x k
    have h2 := size_put b y k
    rw [put_app]
    simp only [Tm.cnt, Tm.size, Nat.add_mul]
    omega
  | .zero, k => by rw [put_zero']; simp [Tm.cnt, Tm.size]
  | .succ x, k => by
    have h1 := size_put b x k
    rw [put_succ]
    simp only [Tm.cnt, Tm.size, Nat.add_mul]
    omega
  | .recu s x y z, k => by
    have h1 := size_put b x k
    have h2 := size_put b y k
    have h3 := size_put b z k
    rw [put_recu]
    simp only [Tm.cnt, Tm.size, Nat.add_mul]
    omega
  | .nil, k => by rw [put_nil]; simp [Tm.cnt, Tm.size]
  | .cons x y, k => by
    have h1 := size_put b x k
    have h2 := size_put b y k
    rw [put_cons]
    simp only [Tm.cnt, Tm.size, Nat.add_mul]
    omega
  | .fold s x y z, k => by
    have h1 := size_put b x k
    have h2 := size_put b y k
    have h3 := size_put b z k
    rw [put_fold]
    simp only [Tm.cnt, Tm.size, Nat.add_mul]
    omega
  | .pair x y, k => by
    have h1 := size_put b x k
    have h2 := size_put b y k
    rw [put_pair]
    simp only [Tm.cnt, Tm.size, Nat.add_mul]
    omega
  | .fst x, k => by
    have h1 := size_put b x k
    rw [put_fst]
    simp only [Tm.cnt, Tm.size, Nat.add_mul]
    omega
  | .snd x, k => by
    have h1 := size_put b x k
    rw [put_snd]
    simp only [Tm.cnt, Tm.size, Nat.add_mul]
    omega
  | .unit, k => by rw [put_unit]; simp [Tm.cnt, Tm.size]

theorem become_red : ∀ t : Tm, t.small = true → Red t t.become
  | .app (.lam s a) b, _ => by
    have e : (Tm.app (.lam s a) b).become = a.put 0 b := rfl
    rw [e, put_zero]
    exact .beta s a b
  | .recu s a b .zero, _ => .recZ s a b
  | .fold s a b .nil, _ => .foldN s a b
  | .fst (.pair a b), _ => .fstP a b
  | .snd (.pair a b), _ => .sndP a b

theorem become_less : ∀ t : Tm, t.small = true → t.become.size < t.size
  | .app (.lam s a) b, h => by
    have e : (Tm.app (.lam s a) b).become = a.put 0 b := rfl
    have hp := size_put b a 0
    have hs : (b.leaf || decide (a.cnt 0 ≤ 1)) = true := h
    rw [e]
    simp only [Tm.size]
    have hb : 1 ≤ b.size := by cases b <;> simp only [Tm.size] <;> omega
    cases hl : b.leaf with
    | true =>
      have h1 : b.size = 1 := by cases b <;> first | rfl | cases hl
      rw [h1] at hp
      omega
    | false =>
      rw [hl] at hs
      have hc : a.cnt 0 ≤ 1 := by simpa using hs
      rcases (show a.cnt 0 = 0 ∨ a.cnt 0 = 1 by omega) with h0 | h0 <;> rw [h0] at hp <;> omega
  | .recu s a b .zero, _ => by simp only [Tm.become, Tm.size]; omega
  | .fold s a b .nil, _ => by simp only [Tm.become, Tm.size]; omega
  | .fst (.pair a b), _ => by simp only [Tm.become, Tm.size]; omega
  | .snd (.pair a b), _ => by simp only [Tm.become, Tm.size]; omega

theorem next_red : ∀ (t y : Tm), t.next = some y → Red t y ∧ y.size < t.size := by
  intro t
  induction t with
  | var i => intro y h; cases h
  | zero => intro y h; cases h
  | nil => intro y h; cases h
  | unit => intro y h; cases h
  | lam s a iha =>
    intro y h
    simp only [Tm.next] at h
    cases ha : a.next with
    | some z => rw [ha] at h; cases h; have := iha z ha; exact ⟨.lam this.1, by simp only [Tm.size]; omega⟩
    | none => rw [ha] at h; cases h
  | succ a iha =>
    intro y h
    simp only [Tm.next] at h
    cases ha : a.next with
    | some z => rw [ha] at h; cases h; have := iha z ha; exact ⟨.succ this.1, by simp only [Tm.size]; omega⟩
    | none => rw [ha] at h; cases h
  | cons a b iha ihb =>
    intro y h
    simp only [Tm.next] at h
    cases ha : a.next with
    | some z => rw [ha] at h; cases h; have := iha z ha; exact ⟨.cons1 this.1, by simp only [Tm.size]; omega⟩
    | none =>
      rw [ha] at h
      cases hb : b.next with
      | some z => rw [hb] at h; cases h; have := ihb z hb; exact ⟨.cons2 this.1, by simp only [Tm.size]; omega⟩
      | none => rw [hb] at h; cases h
  | pair a b iha ihb =>
    intro y h
    simp only [Tm.next] at h
    cases ha : a.next with
    | some z => rw [ha] at h; cases h; have := iha z ha; exact ⟨.pair1 this.1, by simp only [Tm.size]; omega⟩
    | none =>
      rw [ha] at h
      cases hb : b.next with
      | some z => rw [hb] at h; cases h; have := ihb z hb; exact ⟨.pair2 this.1, by simp only [Tm.size]; omega⟩
      | none => rw [hb] at h; cases h
  | app a b iha ihb =>
    intro y h
    cases hs : (Tm.app a b).small with
    | true =>
      simp only [Tm.next, hs, if_true, Option.some.injEq] at h
      subst h
      exact ⟨become_red _ hs, become_less _ hs⟩
    | false =>
      simp only [Tm.next, hs, Bool.false_eq_true, if_false] at h
      cases ha : a.next with
      | some z => rw [ha] at h; cases h; have := iha z ha; exact ⟨.app1 this.1, by simp only [Tm.size]; omega⟩
      | none =>
        rw [ha] at h
        cases hb : b.next with
        | some z => rw [hb] at h; cases h; have := ihb z hb; exact ⟨.app2 this.1, by simp only [Tm.size]; omega⟩
        | none => rw [hb] at h; cases h
  | fst a iha =>
    intro y h
    cases hs : (Tm.fst a).small with
    | true =>
      simp only [Tm.next, hs, if_true, Option.some.injEq] at h
      subst h
      exact ⟨become_red _ hs, become_less _ hs⟩
    | false =>
      simp only [Tm.next, hs, Bool.false_eq_true, if_false] at h
      cases ha : a.next with
      | some z => rw [ha] at h; cases h; have := iha z ha; exact ⟨.fst this.1, by simp only [Tm.size]; omega⟩
      | none => rw [ha] at h; cases h
  | snd a iha =>
    intro y h
    cases hs : (Tm.snd a).small with
    | true =>
      simp only [Tm.next, hs, if_true, Option.some.injEq] at h
      subst h
      exact ⟨become_red _ hs, become_less _ hs⟩
    | false =>
      simp only [Tm.next, hs, Bool.false_eq_true, if_false] at h
      cases ha : a.next with
      | some z => rw [ha] at h; cases h; have := iha z ha; exact ⟨.snd this.1, by simp only [Tm.size]; omega⟩
      | none => rw [ha] at h; cases h
  | recu s a b c iha ihb ihc =>
    intro y h
    cases hs : (Tm.recu s a b c).small with
    | true =>
      simp only [Tm.next, hs, if_true, Option.some.injEq] at h
      subst h
      exact ⟨become_red _ hs, become_less _ hs⟩
    | false =>
      simp only [Tm.next, hs, Bool.false_eq_true, if_false] at h
      cases ha : a.next with
      | some z => rw [ha] at h; cases h; have := iha z ha; exact ⟨.rec1 this.1, by simp only [Tm.size]; omega⟩
      | none =>
        rw [ha] at h
        cases hb : b.next with
        | some z => rw [hb] at h; cases h; have := ihb z hb; exact ⟨.rec2 this.1, by simp only [Tm.size]; omega⟩
        | none =>
          rw [hb] at h
          cases hc : c.next with
          | some z => rw [hc] at h; cases h; have := ihc z hc; exact ⟨.rec3 this.1, by simp only [Tm.size]; omega⟩
          | none => rw [hc] at h; cases h
  | fold s a b c iha ihb ihc =>
    intro y h
    cases hs : (Tm.fold s a b c).small with
    | true =>
      simp only [Tm.next, hs, if_true, Option.some.injEq] at h
      subst h
      exact ⟨become_red _ hs, become_less _ hs⟩
    | false =>
      simp only [Tm.next, hs, Bool.false_eq_true, if_false] at h
      cases ha : a.next with
      | some z => rw [ha] at h; cases h; have := iha z ha; exact ⟨.fold1 this.1, by simp only [Tm.size]; omega⟩
      | none =>
        rw [ha] at h
        cases hb : b.next with
        | some z => rw [hb] at h; cases h; have := ihb z hb; exact ⟨.fold2 this.1, by simp only [Tm.size]; omega⟩
        | none =>
          rw [hb] at h
          cases hc : c.next with
          | some z => rw [hc] at h; cases h; have := ihc z hc; exact ⟨.fold3 this.1, by simp only [Tm.size]; omega⟩
          | none => rw [hc] at h; cases h

theorem HasTy.low {g : List Ty} {x : Tm} {t : Ty} (h : HasTy g x t) : ∀ B, g.length + x.size ≤ B → x.low B := by
  induction h with
  | var hi => intro B hB; simp only [Tm.size] at hB; show _ ≤ B; omega
  | lam h hn ih => intro B hB; simp only [Tm.size] at hB; exact ih B (by simp only [List.length_append, List.length_cons, List.length_nil]; omega)
  | app ha hb hn iha ihb => intro B hB; simp only [Tm.size] at hB; exact ⟨iha B (by omega), ihb B (by omega)⟩
  | zero => intro B hB; trivial
  | succ ha iha => intro B hB; simp only [Tm.size] at hB; exact iha B (by omega)
  | recu ha hb hc hn iha ihb ihc => intro B hB; simp only [Tm.size] at hB; exact ⟨iha B (by omega), ihb B (by omega), ihc B (by omega)⟩
  | nil => intro B hB; trivial
  | cons ha hb iha ihb => intro B hB; simp only [Tm.size] at hB; exact ⟨iha B (by omega), ihb B (by omega)⟩
  | fold ha hb hc hn iha ihb ihc => intro B hB; simp only [Tm.size] at hB; exact ⟨iha B (by omega), ihb B (by omega), ihc B (by omega)⟩
  | pair ha hb hn iha ihb => intro B hB; simp only [Tm.size] at hB; exact ⟨iha B (by omega), ihb B (by omega)⟩
  | fst ha hn iha => intro B hB; simp only [Tm.size] at hB; exact iha B (by omega)
  | snd ha hn iha => intro B hB; simp only [Tm.size] at hB; exact iha B (by omega)
  | unit => intro B hB; trivial

/-- A number of small steps, as long as there are any. -/
inductive Simp : Tm → Nat → Tm → Prop
  | done {t : Tm} (h : t.next = none) : Simp t 0 t
  | step {t y u : Tm} {n : Nat} (h : t.next = some y) (h' : Simp y n u) : Simp t (n + 1) u
theorem simp_ex : ∀ (k : Nat) (t : Tm), t.size ≤ k → ∃ n u, Simp t n u
  | 0, t, h => by have : 1 ≤ t.size := by { cases t <;> simp only [Tm.size] <;> omega }; omega
  | k + 1, t, h => by
    cases e : t.next with
    | none => exact ⟨0, t, .done e⟩
    | some y =>
      obtain ⟨n, u, hu⟩ := simp_ex k y (by have := (next_red t y e).2; omega)
      exact ⟨n + 1, u, .step e hu⟩
theorem Simp.le {t u : Tm} {n : Nat} (h : Simp t n u) : n + u.size ≤ t.size := by
  induction h with
  | done h => omega
  | step h _ ih => have := (next_red _ _ h).2; omega
theorem Simp.reds {t u : Tm} {n : Nat} (h : Simp t n u) : Reds t u := by
  induction h with
  | done h => exact .refl _
  | step h _ ih => exact .step (next_red _ _ h).1 ih
theorem Simp.uniq {t u u' : Tm} {n n' : Nat} (h : Simp t n u) (h' : Simp t n' u') : n = n' ∧ u = u' := by
  induction h generalizing n' u' with
  | done h =>
    cases h' with
    | done h' => exact ⟨rfl, rfl⟩
    | step h' _ => rw [h] at h'; cases h'
  | step h _ ih =>
    cases h' with
    | done h' => rw [h] at h'; cases h'
    | step h' h2 =>
      rw [h] at h'
      cases h'
      obtain ⟨rfl, rfl⟩ := ih h2
      exact ⟨rfl, rfl⟩
theorem Simp.stop {t u : Tm} {n : Nat} (h : Simp t n u) : u.next = none := by
  induction h with
  | done h => exact h
  | step _ _ ih => exact ih
theorem Simp.pair2 {a b y : Tm} {n : Nat} (ha : a.next = none) (hb : Simp b n y) : Simp (.pair a b) n (.pair a y) := by
  induction hb with
  | done h => exact .done (by simp only [Tm.next, ha, h])
  | step h _ ih => exact .step (by simp only [Tm.next, ha, h]) ih
theorem Simp.pair {a b x y : Tm} {n m : Nat} (ha : Simp a n x) (hb : Simp b m y) : Simp (.pair a b) (n + m) (.pair x y) := by
  induction ha with
  | done h => rw [Nat.zero_add]; exact hb.pair2 h
  | @step t z u n h _ ih => rw [show n + 1 + m = (n + m) + 1 by omega]; exact .step (by simp only [Tm.next, h]) ih
end Go.Pi.Terms
