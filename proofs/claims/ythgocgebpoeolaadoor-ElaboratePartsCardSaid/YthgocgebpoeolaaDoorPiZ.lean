/- Names of shared boxes are never used again: a run's next name only grows. -/
import Derived.Test.YthgocgebpoeolaaDoorPiY
namespace Go.Pi
open Go
open PV (genOf asSrc clrC clrs clr clrAll cellsT cells0)

def GrowsC (call : CallF) : Prop := ∀ f args sh r sh', call f args sh = some (r, sh') → sh.nx ≤ sh'.nx

theorem evalE_nx {call : CallF} (hc : GrowsC call) {k : PK} {xs : List PV} {e e' : Eff} {x : PV} (h : evalE call k xs e = some (x, e')) : e.sh.nx ≤ e'.sh.nx := by
  unfold evalE at h
  split at h
  · split at h
    · split at h
      · rename_i hq; cases h; exact hc _ _ _ _ _ hq
      · cases h
    · cases h
  · split at h
    · split at h
      · split at h
        · split at h
          · rename_i hh
            simp only [Bool.and_eq_true, decide_eq_true_eq] at hh
            cases h; exact hh.2
          · cases h
        · cases h
      · cases h
    · cases h
  · split at h
    · split at h
      · rename_i hq; cases h; exact hc _ _ _ _ _ hq
      · cases h
    · cases h
  all_goals
    (try split at h) <;> (try split at h) <;> (try split at h) <;> first
      | (cases h; done)
      | (cases h; exact Nat.le_refl _)
      | (cases h; exact Nat.le_succ _)
      | skip
theorem act_nx {call : CallF} (hc : GrowsC call) {G : Glob} {i : PI} {get : Nat → PV} {e e' : Eff} {x : PV} (h : act call G i get e = some (x, e')) : e.sh.nx ≤ e'.sh.nx := by
  unfold act at h
  simp only at h
  split at h
  · exact evalE_nx hc h
  · split at h
    · split at h
      · cases h; exact Nat.le_refl _
      · cases h
    · split at h
      · cases h; exact Nat.le_refl _
      · cases h
    · split at h
      · split at h
        · cases h; exact Nat.le_refl _
        · cases h
      · cases h
    · cases h
theorem step_nx {call : CallF} (hc : GrowsC call) {G : Glob} {i : PI} {s s' : St} (h : step call G i s = some s') : s.ef.sh.nx ≤ s'.ef.sh.nx := by
  unfold step at h
  simp only at h
  split at h
  · split at h
    · rename_i hq; cases h; exact act_nx hc hq
    · cases h
  · split at h
    · cases h
    · cases h; exact Nat.le_refl _
  · cases h
theorem steps_nx {call : CallF} (hc : GrowsC call) {G : Glob} : ∀ {l : List PI} {s s' : St}, steps call G l s = some s' → s.ef.sh.nx ≤ s'.ef.sh.nx
  | [], s, s', h => by cases h; exact Nat.le_refl _
  | i :: r, s, s', h => by
    simp only [steps] at h
    split at h
    · rename_i hq; exact Nat.le_trans (step_nx hc hq) (steps_nx hc h)
    · cases h
def Out.st : Out → St
  | .nrm s => s
  | .ext _ s => s
  | .ret s => s
theorem iter_nx {f : St → Option Out} (hf : ∀ s o, f s = some o → s.ef.sh.nx ≤ o.st.ef.sh.nx) : ∀ (n : Nat) (s : St) (o : Out), iter f n s = some o → s.ef.sh.nx ≤ o.st.ef.sh.nx
  | 0, s, o, h => by cases h
  | n + 1, s, o, h => by
    simp only [iter] at h
    split at h
    · rename_i s' hq; exact Nat.le_trans (hf _ _ hq) (iter_nx hf n s' o h)
    · exact hf _ _ h
theorem prim_nx {k : Nat} {l : List PV} {sh sh' : Sh} {r : PV} (h : primEval k l sh = some (r, sh')) : sh.nx ≤ sh'.nx := by
  unfold primEval at h
  split at h
  · split at h
    · cases h; exact Nat.le_refl _
    · cases h
  · cases h
theorem exec_nx {call : CallF} (hc : GrowsC call) {G : Glob} {fuel : Nat} : ∀ (p : PC) (s : St) (o : Out), exec call G fuel p s = some o → s.ef.sh.nx ≤ o.st.ef.sh.nx := by
  intro p
  induction p with
  | skip => intro s o h; simp only [exec] at h; cases h; exact Nat.le_refl _
  | ops l =>
    intro s o h
    simp only [exec] at h
    split at h
    · rename_i hq; cases h; exact steps_nx hc hq
    · cases h
  | seq a b iha ihb =>
    intro s o h
    simp only [exec] at h
    split at h
    · rename_i s' hq; exact Nat.le_trans (iha _ _ hq) (ihb _ _ h)
    · exact iha _ _ h
  | cond c a b iha ihb =>
    intro s o h
    simp only [exec] at h
    split at h
    · split at h
      · exact iha _ _ h
      · exact ihb _ _ h
    · cases h
  | block id b ihb =>
    intro s o h
    simp only [exec] at h
    split at h
    · rename_i j s' hq
      have := ihb _ _ hq
      split at h <;> (cases h; exact this)
    · exact ihb _ _ h
  | loop b ihb => intro s o h; simp only [exec] at h; exact iter_nx ihb _ _ _ h
  | exit id => intro s o h; simp only [exec] at h; cases h; exact Nat.le_refl _
  | ret => intro s o h; simp only [exec] at h; cases h; exact Nat.le_refl _
  | prim k =>
    intro s o h
    simp only [exec] at h
    split at h
    · rename_i hq; cases h; exact prim_nx hq
    · cases h
theorem drop_nx {d : Bool} {n : Nat} {sh : Sh} : (dropSh d n sh).nx = sh.nx := by
  unfold dropSh; split <;> rfl
theorem callN_nx {T : Nat → Option PF} {G : Glob} : ∀ n, GrowsC (callN T G n)
  | 0, f, args, sh, r, sh', h => by cases h
  | n + 1, f, args, sh, r, sh', h => by
    simp only [callN] at h
    split at h
    · cases h
    · rename_i pf hp
      generalize ho : exec (callN T G n) G n pf.body (startSt pf.nt args sh) = o at h
      unfold finish at h
      split at h
      · rename_i s
        have := exec_nx (callN_nx n) _ _ _ ho
        split at h
        · cases h; rw [drop_nx]; exact this
        · cases h
      · rename_i s
        have := exec_nx (callN_nx n) _ _ _ ho
        split at h
        · cases h; rw [drop_nx]; exact this
        · cases h
      · cases h
theorem nx_le {T : Nat → Option PF} {G : Glob} {f : Nat} {args : List PV} {sh : Sh} {r : PV} {sh' : Sh} (h : ∃ n, callN T G n f args sh = some (r, sh')) : sh.nx ≤ sh'.nx := by
  obtain ⟨n, h⟩ := h; exact callN_nx n _ _ _ _ _ h
end Go.Pi
