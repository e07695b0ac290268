/- Runs of the interpreter, as what must hold before for something to hold after. -/
import Derived.Test.YtckcklkbdbafbaaDoorPiU
namespace Go.Pi
open Go
open PV (genOf asSrc clrC clrs clr clrAll cellsT cells0)

def Le (c c' : CallF) : Prop := ∀ f a s r, c f a s = some r → c' f a s = some r

section mono
variable {G : Glob} {c c' : CallF}

theorem evalE_mono (h : Le c c') (k : PK) (xs : List PV) (e : Eff) (r : PV × Eff) (he : evalE c k xs e = some r) : evalE c' k xs e = some r := by
  unfold evalE at he ⊢
  split at he
  · split at he
    · split at he
      · rename_i h1
        simp only [h _ _ _ _ h1]
        exact he
      · cases he
    · cases he
  · split at he
    · split at he
      · rename_i h1
        simp only [h _ _ _ _ h1]
        exact he
      · cases he
    · cases he
  all_goals exact he

theorem act_mono (h : Le c c') (i : PI) (get : Nat → PV) (e : Eff) (r : PV × Eff) (he : act c G i get e = some r) : act c' G i get e = some r := by
  unfold act at he ⊢
  simp only at he ⊢
  split
  · rename_i h1
    rw [if_pos h1] at he
    exact evalE_mono h _ _ _ _ he
  · rename_i h1
    rw [if_neg h1] at he
    exact he

theorem step_mono (h : Le c c') (i : PI) (s : St) (r : St) (he : step c G i s = some r) : step c' G i s = some r := by
  unfold step at he ⊢
  simp only at he ⊢
  split
  · rename_i h1
    simp only [h1] at he
    split at he
    · rename_i h2
      rw [act_mono h _ _ _ _ h2]
      exact he
    · cases he
  · rename_i h1
    simp only [h1] at he
    exact he
  · rename_i h1
    simp only [h1] at he
    cases he

theorem steps_mono (h : Le c c') : ∀ (l : List PI) (s r : St), steps c G l s = some r → steps c' G l s = some r
  | [], _, _, he => he
  | i :: l, s, r, he => by
    simp only [steps] at he ⊢
    split at he
    · rename_i h1
      rw [step_mono h _ _ _ h1]
      exact steps_mono h l _ _ he
    · cases he

theorem iter_mono {f g : St → Option Out} (h : ∀ s o, f s = some o → g s = some o) : ∀ {n m : Nat} {s : St} {o : Out}, n ≤ m → iter f n s = some o → iter g m s = some o
  | 0, _, _, _, _, he => by simp [iter] at he
  | n + 1, 0, _, _, hl, _ => by omega
  | n + 1, m + 1, s, o, hl, he => by
    simp only [iter] at he ⊢
    cases hf : f s with
    | none => simp [hf] at he
    | some o' =>
      rw [h _ _ hf]
      rw [hf] at he
      cases o' with
      | nrm s' => exact iter_mono h (by omega) he
      | ext i s' => exact he
      | ret s' => exact he

theorem exec_mono (h : Le c c') {n m : Nat} (hl : n ≤ m) : ∀ (pc : PC) (s : St) (o : Out), exec c G n pc s = some o → exec c' G m pc s = some o
  | .skip, _, _, he => he
  | .ops l, s, o, he => by
    simp only [exec] at he ⊢
    split at he
    · rename_i h1
      rw [steps_mono h _ _ _ h1]
      exact he
    · cases he
  | .seq a b, s, o, he => by
    simp only [exec] at he ⊢
    cases ha : exec c G n a s with
    | none => simp [ha] at he
    | some o' =>
      rw [exec_mono h hl a _ _ ha]
      rw [ha] at he
      cases o' with
      | nrm s' => exact exec_mono h hl b _ _ he
      | ext i s' => exact he
      | ret s' => exact he
  | .cond x a b, s, o, he => by
    simp only [exec] at he ⊢
    split
    · rename_i t h1
      simp only [h1] at he
      cases t
      · exact exec_mono h hl b _ _ he
      · exact exec_mono h hl a _ _ he
    · rename_i h1
      split at he
      · rename_i t h2
        exact absurd h2 (h1 t)
      · cases he
  | .block id b, s, o, he => by
    simp only [exec] at he ⊢
    cases ha : exec c G n b s with
    | none => simp [ha] at he
    | some o' =>
      rw [exec_mono h hl b _ _ ha]
      rw [ha] at he
      exact he
  | .loop b, s, o, he => by
    simp only [exec] at he ⊢
    exact iter_mono (fun s o => exec_mono h hl b s o) hl he
  | .exit id, _, _, he => he
  | .ret, _, _, he => he

end mono

variable {T : Nat → Option PF} {G : Glob}

theorem callN_at (n : Nat) (f : FuncId) (a : List PV) (s : Sh) : callN T G (n + 1) f a s = match T f with
    | none => none
    | some pf => finish pf s.boxes.length (exec (callN T G n) G n pf.body (startSt pf.nt a s)) := rfl

theorem callN_succ : ∀ n, Le (callN T G n) (callN T G (n + 1))
  | 0 => fun f a s r h => by simp [callN] at h
  | n + 1 => fun f a s r h => by
    rw [callN_at] at h ⊢
    split at h
    · cases h
    · rename_i pf h1
      try rw [h1]
      try simp only
      unfold finish at h
      split at h
      · rename_i s' h2
        rw [exec_mono (callN_succ n) (Nat.le_succ n) _ _ _ h2]
        exact h
      · rename_i s' h2
        rw [exec_mono (callN_succ n) (Nat.le_succ n) _ _ _ h2]
        exact h
      · cases h

theorem callN_mono {n m : Nat} (h : n ≤ m) : Le (callN T G n) (callN T G m) := by
  induction h with
  | refl => exact fun _ _ _ _ h => h
  | step _ ih => exact fun f a s r h => callN_succ _ f a s r (ih f a s r h)

variable (T G)
def Runs (f : Nat) (args : List PV) (sh : Sh) (Q : PV → Sh → Prop) : Prop := ∃ n r sh', callN T G n f args sh = some (r, sh') ∧ Q r sh'
def WP (pc : PC) (st : St) (Q : Out → Prop) : Prop := ∃ n o, exec (callN T G n) G n pc st = some o ∧ Q o
def WS (l : List PI) (st : St) (Q : St → Prop) : Prop := ∃ n s, steps (callN T G n) G l st = some s ∧ Q s
def W1 (i : PI) (st : St) (Q : St → Prop) : Prop := ∃ n s, step (callN T G n) G i st = some s ∧ Q s
def WE (k : PK) (xs : List PV) (e : Eff) (Q : PV → Eff → Prop) : Prop := ∃ n r e', evalE (callN T G n) k xs e = some (r, e') ∧ Q r e'
variable {T G}

def Out.on (o : Out) (f : St → Prop) (Q : Out → Prop) : Prop := match o with
  | .nrm s => f s
  | o => Q o
def Out.blk (o : Out) (id : Nat) (Q : Out → Prop) : Prop := match o with
  | .ext j s => if j = id then Q (.nrm s) else Q (.ext j s)
  | o => Q o
def condP (x : PV) (A B : Prop) : Prop := match x with
  | .v (.bool t) => if t then A else B
  | _ => False
def obind {α : Type} (x : Option α) (Q : α → Prop) : Prop := match x with
  | some a => Q a
  | none => False

theorem Out.on_nrm (s f Q) : Out.on (.nrm s) f Q = f s := rfl
theorem Out.on_ret (s f Q) : Out.on (.ret s) f Q = Q (.ret s) := rfl
theorem Out.on_ext (i s f Q) : Out.on (.ext i s) f Q = Q (.ext i s) := rfl
theorem Out.blk_nrm (s id Q) : Out.blk (.nrm s) id Q = Q (.nrm s) := rfl
theorem Out.blk_ret (s id Q) : Out.blk (.ret s) id Q = Q (.ret s) := rfl
theorem Out.blk_ext (j s id Q) : Out.blk (.ext j s) id Q = if j = id then Q (.nrm s) else Q (.ext j s) := rfl
theorem condP_bool (t A B) : condP (.v (.bool t)) A B = if t then A else B := rfl
theorem obind_some {α} (a : α) (Q) : obind (some a) Q = Q a := rfl
theorem obind_none {α} (Q : α → Prop) : obind none Q = False := rfl

theorem WP.skip (s Q) : WP T G .skip s Q = Q (.nrm s) := by
  apply propext
  constructor
  · rintro ⟨n, o, h, hq⟩; cases h; exact hq
  · exact fun h => ⟨0, _, rfl, h⟩
theorem WP.exit (id s Q) : WP T G (.exit id) s Q = Q (.ext id s) := by
  apply propext
  constructor
  · rintro ⟨n, o, h, hq⟩; cases h; exact hq
  · exact fun h => ⟨0, _, rfl, h⟩
theorem WP.ret (s Q) : WP T G .ret s Q = Q (.ret s) := by
  apply propext
  constructor
  · rintro ⟨n, o, h, hq⟩; cases h; exact hq
  · exact fun h => ⟨0, _, rfl, h⟩
theorem WP.ops (l s Q) : WP T G (.ops l) s Q = WS T G l s fun s' => Q (.nrm s') := by
  apply propext
  constructor
  · rintro ⟨n, o, h, hq⟩
    simp only [exec] at h
    split at h
    · rename_i h1; cases h; exact ⟨n, _, h1, hq⟩
    · cases h
  · rintro ⟨n, s', h, hq⟩
    exact ⟨n, _, by simp only [exec, h], hq⟩
theorem WP.seq (a b s Q) : WP T G (.seq a b) s Q = WP T G a s fun o => o.on (fun s' => WP T G b s' Q) Q := by
  apply propext
  constructor
  · rintro ⟨n, o, h, hq⟩
    simp only [exec] at h
    cases ha : exec (callN T G n) G n a s with
    | none => simp [ha] at h
    | some o' =>
      rw [ha] at h
      refine ⟨n, o', ha, ?_⟩
      cases o' with
      | nrm s' => exact ⟨n, o, h, hq⟩
      | ext i s' => cases h; exact hq
      | ret s' => cases h; exact hq
  · rintro ⟨n, o, h, hq⟩
    cases o with
    | nrm s' =>
      obtain ⟨m, o', h', hq'⟩ := hq
      refine ⟨max n m, o', ?_, hq'⟩
      simp only [exec]
      rw [exec_mono (callN_mono (Nat.le_max_left n m)) (Nat.le_max_left n m) _ _ _ h]
      exact exec_mono (callN_mono (Nat.le_max_right n m)) (Nat.le_max_right n m) _ _ _ h'
    | ext i s' => exact ⟨n, _, by simp only [exec, h], hq⟩
    | ret s' => exact ⟨n, _, by simp only [exec, h], hq⟩
theorem WP.cond (x a b s Q) : WP T G (.cond x a b) s Q = condP (src G (fun t => s.regs.getD t .un) x) (WP T G a s Q) (WP T G b s Q) := by
  apply propext
  constructor
  · rintro ⟨n, o, h, hq⟩
    simp only [exec] at h
    split at h
    · rename_i t h1
      rw [h1, condP_bool]
      cases t
      · exact ⟨n, o, h, hq⟩
      · exact ⟨n, o, h, hq⟩
    · cases h
  · intro h
    unfold condP at h
    split at h
    · rename_i t h1
      cases t
      · obtain ⟨n, o, h, hq⟩ := h
        exact ⟨n, o, by simp only [exec, h1]; exact h, hq⟩
      · obtain ⟨n, o, h, hq⟩ := h
        exact ⟨n, o, by simp only [exec, h1]; exact h, hq⟩
    · exact h.elim
theorem WP.block (id b s Q) : WP T G (.block id b) s Q = WP T G b s fun o => o.blk id Q := by
  apply propext
  constructor
  · rintro ⟨n, o, h, hq⟩
    simp only [exec] at h
    cases ha : exec (callN T G n) G n b s with
    | none => simp [ha] at h
    | some o' =>
      rw [ha] at h
      refine ⟨n, o', ha, ?_⟩
      cases o' with
      | nrm s' => cases h; exact hq
      | ext i s' =>
        simp only [Out.blk] at h ⊢
        split
        · rename_i hi; rw [if_pos hi] at h; cases h; exact hq
        · rename_i hi; rw [if_neg hi] at h; cases h; exact hq
      | ret s' => cases h; exact hq
  · rintro ⟨n, o, h, hq⟩
    cases o with
    | nrm s' => exact ⟨n, _, by simp only [exec, h], hq⟩
    | ext i s' =>
      simp only [Out.blk] at hq
      split at hq
      · rename_i hi; exact ⟨n, .nrm s', by simp only [exec, h, if_pos hi], hq⟩
      · rename_i hi; exact ⟨n, .ext i s', by simp only [exec, h, if_neg hi], hq⟩
    | ret s' => exact ⟨n, _, by simp only [exec, h], hq⟩
/-- One round of a loop. -/
theorem WP.loop {b s Q} (h : WP T G b s fun o => o.on (fun s' => WP T G (.loop b) s' Q) Q) : WP T G (.loop b) s Q := by
  obtain ⟨n, o, h, hq⟩ := h
  cases o with
  | nrm s' =>
    obtain ⟨m, o', h', hq'⟩ := hq
    simp only [exec] at h'
    refine ⟨max n m + 1, o', ?_, hq'⟩
    simp only [exec, iter]
    rw [exec_mono (callN_mono (by omega)) (by omega) _ _ _ h]
    exact iter_mono (fun s o => exec_mono (callN_mono (by omega)) (by omega) b s o) (Nat.le_max_right n m) h'
  | ext i s' =>
    refine ⟨n + 1, _, ?_, hq⟩
    simp only [exec, iter]
    rw [exec_mono (callN_mono (by omega)) (by omega) _ _ _ h]
  | ret s' =>
    refine ⟨n + 1, _, ?_, hq⟩
    simp only [exec, iter]
    rw [exec_mono (callN_mono (by omega)) (by omega) _ _ _ h]

theorem WP.mono {pc s} {Q Q' : Out → Prop} (h : WP T G pc s Q) (hq : ∀ o, Q o → Q' o) : WP T G pc s Q' := by
  obtain ⟨n, o, h, h'⟩ := h
  exact ⟨n, o, h, hq _ h'⟩
theorem Runs.mono {f a s} {Q Q' : PV → Sh → Prop} (h : Runs T G f a s Q) (hq : ∀ r s, Q r s → Q' r s) : Runs T G f a s Q' := by
  obtain ⟨n, o, s', h, h'⟩ := h
  exact ⟨n, o, s', h, hq _ _ h'⟩

theorem WS.nil (s Q) : WS T G [] s Q = Q s := by
  apply propext
  constructor
  · rintro ⟨n, o, h, hq⟩; cases h; exact hq
  · exact fun h => ⟨0, _, rfl, h⟩
theorem WS.cons (i l s Q) : WS T G (i :: l) s Q = W1 T G i s fun s' => WS T G l s' Q := by
  apply propext
  constructor
  · rintro ⟨n, o, h, hq⟩
    simp only [steps] at h
    split at h
    · rename_i h1; exact ⟨n, _, h1, n, _, h, hq⟩
    · cases h
  · rintro ⟨n, s', h, m, s2, h', hq⟩
    refine ⟨max n m, s2, ?_, hq⟩
    simp only [steps]
    rw [step_mono (callN_mono (Nat.le_max_left n m)) _ _ _ h]
    exact steps_mono (callN_mono (Nat.le_max_right n m)) _ _ _ h'

/-- What a call asks. -/
theorem runs_of {f : Nat} {pf : PF} (hT : T f = some pf) (args : List PV) (sh : Sh) (Q) : Runs T G f args sh Q = WP T G pf.body (startSt pf.nt args sh) fun o => match o with
    | .nrm s | .ret s => obind (resAll s.regs pf.res) fun l => Q (resPV l) (dropSh pf.drop sh.boxes.length s.ef.sh)
    | _ => False := by
  apply propext
  constructor
  · rintro ⟨n, r, sh', h, hq⟩
    cases n with
    | zero => simp [callN] at h
    | succ n =>
      simp only [callN, hT] at h
      cases ha : exec (callN T G n) G n pf.body (startSt pf.nt args sh) with
      | none => simp [ha, finish] at h
      | some o =>
        rw [ha] at h
        refine ⟨n, o, ha, ?_⟩
        cases o with
        | nrm s =>
          simp only [finish] at h ⊢
          split at h
          · rename_i h1; cases h; rw [h1]; exact hq
          · cases h
        | ret s =>
          simp only [finish] at h ⊢
          split at h
          · rename_i h1; cases h; rw [h1]; exact hq
          · cases h
        | ext i s => simp [finish] at h
  · rintro ⟨n, o, h, hq⟩
    cases o with
    | nrm s =>
      simp only at hq
      cases hr : resAll s.regs pf.res with
      | none => rw [hr] at hq; exact hq.elim
      | some l => exact ⟨n + 1, resPV l, dropSh pf.drop sh.boxes.length s.ef.sh, by simp only [callN, hT, h, finish, hr], by rw [hr] at hq; exact hq⟩
    | ret s =>
      simp only at hq
      cases hr : resAll s.regs pf.res with
      | none => rw [hr] at hq; exact hq.elim
      | some l => exact ⟨n + 1, resPV l, dropSh pf.drop sh.boxes.length s.ef.sh, by simp only [callN, hT, h, finish, hr], by rw [hr] at hq; exact hq⟩
    | ext i s => exact hq.elim

/-- A call has one answer. -/
theorem Runs.eq {f a s r s'} (h : ∃ n, callN T G n f a s = some (r, s')) (Q) : Runs T G f a s Q = Q r s' := by
  apply propext
  obtain ⟨n, h⟩ := h
  constructor
  · rintro ⟨m, r2, s2, h2, hq⟩
    have h3 := callN_mono (Nat.le_max_left n m) _ _ _ _ h
    have h4 := callN_mono (Nat.le_max_right n m) _ _ _ _ h2
    rw [h3] at h4
    cases h4
    exact hq
  · exact fun hq => ⟨n, r, s', h, hq⟩

/- One operation. -/
def noCall : CallF := fun _ _ _ => none

theorem noCall_le (n : Nat) : Le noCall (callN T G n) := fun _ _ _ _ h => by cases h

theorem W1.of_step {i : PI} {s : St} {Q : St → Prop} (h : ∀ n, step (callN T G n) G i s = step noCall G i s) : W1 T G i s Q = obind (step noCall G i s) Q := by
  apply propext
  constructor
  · rintro ⟨n, s', h1, hq⟩
    rw [h] at h1
    rw [h1]
    exact hq
  · intro h1
    cases h2 : step noCall G i s with
    | none => rw [h2] at h1; exact h1.elim
    | some s' =>
      rw [h2] at h1
      exact ⟨0, s', by rw [h, h2], h1⟩

theorem W1.p {k : PK} {rs : List Src} {d : Nat} {regs : List PV} {e : Eff} {Q : St → Prop} (h : k.eff = false) (hk : (match k with | .stL _ => false | _ => true) = true) :
    W1 T G ⟨k, rs, some d, none, none⟩ ⟨regs, e⟩ Q = obind (evalP k (regs.getD d .un) (rs.map (src G fun t => regs.getD t .un))) fun x => Q ⟨regs.set d x, e⟩ := by
  rw [W1.of_step (fun n => by simp [step, act, h])]
  have ht : PI.target ⟨k, rs, some d, none, none⟩ = some d := by
    unfold PI.target
    cases k <;> first | rfl | cases hk
  simp only [step, wantedP, act, h, ht]
  cases evalP k (regs.getD d .un) (rs.map (src G fun t => regs.getD t .un)) <;> rfl

theorem W1.ldL {n : Nat} {agg : Bool} {x : Src} {d r : Nat} {regs : List PV} {e : Eff} {Q : St → Prop} :
    W1 T G ⟨.ldL n agg, [x], some d, some r, none⟩ ⟨regs, e⟩ Q = obind (evalL (src G (fun t => regs.getD t .un) x) (regs.getD r .un) r n agg) fun y => Q ⟨regs.set d y, e⟩ := by
  rw [W1.of_step (fun n => by simp [step, act, PK.eff])]
  simp only [step, wantedP, act, PK.eff, List.map]
  cases evalL (src G (fun t => regs.getD t .un) x) (regs.getD r .un) r n agg <;> rfl

theorem W1.stL {n : Nat} {p x : Src} {d : Option Nat} {r : Nat} {regs : List PV} {e : Eff} {Q : St → Prop} :
    W1 T G ⟨.stL n, [p, x], d, some r, none⟩ ⟨regs, e⟩ Q = obind (evalW (src G (fun t => regs.getD t .un) p) (src G (fun t => regs.getD t .un) x) (regs.getD r .un) r n) fun y => Q ⟨regs.set r y, e⟩ := by
  rw [W1.of_step (fun n => by simp [step, act, PK.eff])]
  simp only [step, wantedP, act, PK.eff, List.map]
  cases evalW (src G (fun t => regs.getD t .un) p) (src G (fun t => regs.getD t .un) x) (regs.getD r .un) r n <;> rfl

def gP (x : PV) (b : Bool) (A B : Prop) : Prop := match x with
  | .v (.bool x) => if x = b then A else B
  | .ud => B
  | _ => False
theorem gP_bool (x b A B) : gP (.v (.bool x)) b A B = if x = b then A else B := rfl
theorem gP_ud (b A B) : gP .ud b A B = B := rfl

theorem W1.g {k : PK} {rs : List Src} {d r : Option Nat} {j : Nat} {b : Bool} {regs : List PV} {e : Eff} {Q : St → Prop} :
    W1 T G ⟨k, rs, d, r, some (j, b)⟩ ⟨regs, e⟩ Q = gP (regs.getD j .un) b (W1 T G ⟨k, rs, d, r, none⟩ ⟨regs, e⟩ Q) (if k.boxes then False else Q ⟨putD regs d .ud, e⟩) := by
  apply propext
  unfold gP W1
  simp only [step, wantedP]
  generalize regs.getD j .un = y
  have skip : (∃ (n : Nat) (s : St), (if k.boxes = true then none else some (⟨putD regs d undefPV, e⟩ : St)) = some s ∧ Q s) ↔ if k.boxes then False else Q ⟨putD regs d .ud, e⟩ := by
    cases k.boxes
    · simp only [Bool.false_eq_true, if_false]
      constructor
      · rintro ⟨n, s, h1, hq⟩; cases h1; exact hq
      · exact fun hq => ⟨0, _, rfl, hq⟩
    · simp only [if_true]
      constructor
      · rintro ⟨n, s, h1, hq⟩; cases h1
      · exact fun hq => hq.elim
  cases y with
  | v x =>
    cases x with
    | bool x =>
      cases hx : (x == b)
      · have hn : ¬ x = b := by simpa using hx
        simp only [hx, if_neg hn]
        exact skip
      · have hn : x = b := by simpa using hx
        simp only [hx, if_pos hn]
        exact Iff.rfl
    | _ => exact ⟨(fun ⟨_, _, h, _⟩ => by cases h), (fun h => h.elim)⟩
  | ud => exact skip
  | _ => exact ⟨(fun ⟨_, _, h, _⟩ => by cases h), (fun h => h.elim)⟩

theorem W1.call {f : Nat} {rs : List Src} {d : Option Nat} {regs : List PV} {sh : Sh} {lv : Nat → Bool} {tk : Nat} {Q : St → Prop} :
    W1 T G ⟨.callF f, rs, d, none, none⟩ ⟨regs, ⟨sh, lv, tk⟩⟩ Q = obind (clrAll (rs.map (src G fun t => regs.getD t .un))) fun ys => Runs T G f ys sh fun r sh' => Q ⟨putD regs d r, ⟨sh', lv, tk⟩⟩ := by
  apply propext
  unfold W1 Runs
  simp only [step, wantedP, act, PK.eff, if_true, evalE, PI.target]
  cases clrAll (rs.map (src G fun t => regs.getD t .un)) with
  | none =>
    constructor
    · rintro ⟨n, s, h, _⟩; cases h
    · exact fun h => h.elim
  | some ys =>
    simp only [obind]
    constructor
    · rintro ⟨n, s, h, hq⟩
      cases hc : callN T G n f ys sh with
      | none => rw [hc] at h; cases h
      | some r => rw [hc] at h; cases h; exact ⟨n, r.1, r.2, hc, hq⟩
    · rintro ⟨n, r, sh', h, hq⟩
      exact ⟨n, _, by rw [h], hq⟩

theorem W1.e {k : PK} {rs : List Src} {d : Option Nat} {regs : List PV} {e : Eff} {Q : St → Prop} (h : k.eff = true) (hk : (match k with | .callF _ | .callV | .stL _ => false | _ => true) = true) :
    W1 T G ⟨k, rs, d, none, none⟩ ⟨regs, e⟩ Q = obind (evalE noCall k (rs.map (src G fun t => regs.getD t .un)) e) fun x => Q ⟨putD regs d x.1, x.2⟩ := by
  rw [W1.of_step (fun n => by
    simp only [step, wantedP, act, h, if_true]
    have : evalE (callN T G n) k (rs.map (src G fun t => regs.getD t .un)) e = evalE noCall k (rs.map (src G fun t => regs.getD t .un)) e := by
      cases k <;> first | (cases hk; done) | (cases h; done) | (simp only [evalE]; done) | (unfold evalE; split <;> first | rfl | contradiction | simp_all)
    rw [this])]
  simp only [step, wantedP, act, h, if_true]
  have ht : PI.target ⟨k, rs, d, none, none⟩ = d := by
    unfold PI.target
    cases k <;> first | rfl | cases hk
  rw [ht]
  cases evalE noCall k (rs.map (src G fun t => regs.getD t .un)) e <;> rfl

theorem W1.callV {rs : List Src} {d : Option Nat} {regs : List PV} {sh : Sh} {lv : Nat → Bool} {tk : Nat} {x : Src} {f : FuncId} {caps : List PV} {Q : St → Prop} (hx : src G (fun t => regs.getD t .un) x = .fn f caps) :
    W1 T G ⟨.callV, x :: rs, d, none, none⟩ ⟨regs, ⟨sh, lv, tk⟩⟩ Q = obind (clrAll (rs.map (src G fun t => regs.getD t .un))) fun ys => Runs T G f (ys ++ caps) sh fun r sh' => Q ⟨putD regs d r, ⟨sh', lv, tk⟩⟩ := by
  apply propext
  unfold W1 Runs
  simp only [step, wantedP, act, PK.eff, if_true, evalE, PI.target, List.map, hx]
  cases clrAll (rs.map (src G fun t => regs.getD t .un)) with
  | none =>
    constructor
    · rintro ⟨n, s, h, _⟩; cases h
    · exact fun h => h.elim
  | some ys =>
    simp only [obind]
    constructor
    · rintro ⟨n, s, h, hq⟩
      cases hc : callN T G n f (ys ++ caps) sh with
      | none => rw [hc] at h; cases h
      | some r => rw [hc] at h; cases h; exact ⟨n, r.1, r.2, hc, hq⟩
    · rintro ⟨n, r, sh', h, hq⟩
      exact ⟨n, _, by rw [h], hq⟩

/- What is not to be looked into before its turn. -/
theorem WP.cong {pc : PC} {s s' : St} {Q : Out → Prop} (h : s = s') : WP T G pc s Q = WP T G pc s' Q := by rw [h]
theorem WS.cong {l : List PI} {s s' : St} {Q : St → Prop} (h : s = s') : WS T G l s Q = WS T G l s' Q := by rw [h]
theorem W1.cong {i : PI} {s s' : St} {Q : St → Prop} (h : s = s') : W1 T G i s Q = W1 T G i s' Q := by rw [h]
theorem Runs.cong {f : Nat} {a a' : List PV} {s s' : Sh} {Q : PV → Sh → Prop} (ha : a = a') (h : s = s') : Runs T G f a s Q = Runs T G f a' s' Q := by rw [h, ha]
theorem obind.cong {α : Type} {x x' : Option α} {Q : α → Prop} (h : x = x') : obind x Q = obind x' Q := by rw [h]
theorem condP.cong {x x' : PV} {A B : Prop} (h : x = x') : condP x A B = condP x' A B := by rw [h]
theorem gP.cong {x x' : PV} {b : Bool} {A B : Prop} (h : x = x') : gP x b A B = gP x' b A B := by rw [h]
theorem Out.on.cong {o o' : Out} {f : St → Prop} {Q : Out → Prop} (h : o = o') : o.on f Q = o'.on f Q := by rw [h]
theorem Out.blk.cong {o o' : Out} {i : Nat} {Q : Out → Prop} (h : o = o') : o.blk i Q = o'.blk i Q := by rw [h]
theorem ite.cong {c c' : Prop} [Decidable c] [Decidable c'] {A B : Prop} (h : c = c') : (if c then A else B) = (if c' then A else B) := by
  subst h
  split <;> rename_i h1 <;> simp

end Go.Pi
