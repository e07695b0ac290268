import Derived.Test.YthgocgebpoeolaaDoorPiU
/- Runs of the interpreter, as what must hold before for something to hold after. -/
namespace Go.Pi
open Go
open PV (genOf asSrc clrC clrs clr clrAll cellsT cells0)

def Le (c c' : CallF) : Prop := ∀ f a s r, c f a s = some r → c' f a s = some r

section mono
variable {G : Glob} {c c' : CallF}

theorem evalE_mono_I (h : Le c c') (f : Nat) (xs : List PV) (e : Eff) (r : PV × Eff) (he : evalE c (.callI f) xs e = some r) : evalE c' (.callI f) xs e = some r := by
  simp only [evalE] at he ⊢
  cases hy : clrAll xs with
  | none => rw [hy] at he; cases he
  | some ys =>
    rw [hy] at he
    simp only at he ⊢
    cases hn : npR ys with
    | false => rw [hn] at he; simp at he
    | true =>
      rw [hn] at he
      simp only [if_true] at he ⊢
      cases hc : c f ys ⟨[], e.sh.nx⟩ with
      | none => rw [hc] at he; cases he
      | some q => rw [hc] at he; rw [h _ _ _ _ hc]; exact he
theorem evalE_mono (h : Le c c') (k : PK) (xs : List PV) (e : Eff) (r : PV × Eff) (he : evalE c k xs e = some r) : evalE c' k xs e = some r := by
  by_cases hk : ∃ f, k = .callI f
  · obtain ⟨f, rfl⟩ := hk
    exact evalE_mono_I h f xs e r he
  unfold evalE at he ⊢
  split at he
  · split at he
    · split at he
      · rename_i h1
        simp only [h _ _ _ _ h1]
        exact he
      · cases he
    · cases he
  · exact absurd ⟨_, rfl⟩ hk
  · split at he
    · split at he
      · rename_i h1
        simp only [h _ _ _ _ h1]
        exact he
      · cases he
    · cases he
  all_goals exact he

theorem act_mono (h : Le c c') (i : PI) (get : Nat → PV) (e : Eff) (r : PV × Eff) (he : act c G i get e = some r) : act c' G i get e = some r := by
  unfold act at he ⊢
  simp only at he ⊢
  split
  · rename_i h1
    rw [if_pos h1] at he
    exact evalE_mono h _ _ _ _ he
  · rename_i h1
    rw [if_neg h1] at he
    exact he

theorem step_mono (h : Le c c') (i : PI) (s : St) (r : St) (he : step c G i s = some r) : step c' G i s = some r := by
  unfold step at he ⊢
  simp only at he ⊢
  split
  · rename_i h1
    simp only [h1] at he
    split at he
    · rename_i h2
      rw [act_mono h _ _ _ _ h2]
      exact he
    · cases he
  · rename_i h1
    simp only [h1] at he
    exact he
  · rename_i h1
    simp only [h1] at he
    cases he

theorem steps_mono (h : Le c c') : ∀ (l : List PI) (s r : St), steps c G l s = some r → steps c' G l s = some r
  | [], _, _, he => he
  | i :: l, s, r, he => by
    simp only [steps] at he ⊢
    split at he
    · rename_i h1
      rw [step_mono h _ _ _ h1]
      exact steps_mono h l _ _ he
    · cases he

theorem iter_mono {f g : St → Option Out} (h : ∀ s o, f s = some o → g s = some o) : ∀ {n m : Nat} {s : St} {o : Out}, n ≤ m → iter f n s = some o → iter g m s = some o
  | 0, _, _, _, _, he => by simp [iter] at he
  | n + 1, 0, _, _, hl, _ => by omega
  | n + 1, m + 1, s, o, hl, he => by
    simp only [iter] at he ⊢
    cases hf : f s with
    | none => simp [hf] at he
    | some o' =>
      rw [h _ _ hf]
      rw [hf] at he
      cases o' with
      | nrm s' => exact iter_mono h (by omega) he
      | ext i s' => exact he
      | ret s' => exact he

theorem exec_mono (h : Le c c') {n m : Nat} (hl : n ≤ m) : ∀ (pc : PC) (s : St) (o : Out), exec c G n pc s = some o → exec c' G m pc s = some o
  | .skip, _, _, he => he
  | .ops l, s, o, he => by
    simp only [exec] at he ⊢
    split at he
    · rename_i h1
      rw [steps_mono h _ _ _ h1]
      exact he
    · cases he
  | .seq a b, s, o, he => by
    simp only [exec] at he ⊢
    cases ha : exec c G n a s with
    | none => simp [ha] at he
    | some o' =>
      rw [exec_mono h hl a _ _ ha]
      rw [ha] at he
      cases o' with
      | nrm s' => exact exec_mono h hl b _ _ he
      | ext i s' => exact he
      | ret s' => exact he
  | .cond x a b, s, o, he => by
    simp only [exec] at he ⊢
    split
    · rename_i t h1
      simp only [h1] at he
      cases t
      · exact exec_mono h hl b _ _ he
      · exact exec_mono h hl a _ _ he
    · rename_i h1
      split at he
      · rename_i t h2
        exact absurd h2 (h1 t)
      · cases he
  | .block id b, s, o, he => by
    simp only [exec] at he ⊢
    cases ha : exec c G n b s with
    | none => simp [ha] at he
    | some o' =>
      rw [exec_mono h hl b _ _ ha]
      rw [ha] at he
      exact he
  | .loop b, s, o, he => by
    simp only [exec] at he ⊢
    exact iter_mono (fun s o => exec_mono h hl b s o) hl he
  | .exit id, _, _, he => he
  | .ret, _, _, he => he
  | .prim _, _, _, he => he

end mono

variable {T : Nat → Option PF} {G : Glob}

theorem callN_at (n : Nat) (f : FuncId) (a : List PV) (s : Sh) : callN T G (n + 1) f a s = match T f with
    | none => none
    | some pf => finish pf s.boxes.length (exec (callN T G n) G n pf.body (startSt pf.nt a s)) := rfl

theorem callN_succ : ∀ n, Le (callN T G n) (callN T G (n + 1))
  | 0 => fun f a s r h => by simp [callN] at h
  | n + 1 => fun f a s r h => by
    rw [callN_at] at h ⊢
    split at h
    · cases h
    · rename_i pf h1
      try rw [h1]
      try simp only
      unfold finish at h
      split at h
      · rename_i s' h2
        rw [exec_mono (callN_succ n) (Nat.le_succ n) _ _ _ h2]
        exact h
      · rename_i s' h2
        rw [exec_mono (callN_succ n) (Nat.le_succ n) _ _ _ h2]
        exact h
      · cases h

theorem callN_mono {n m : Nat} (h : n ≤ m) : Le (callN T G n) (callN T G m) := by
  induction h with
  | refl => exact fun _ _ _ _ h => h
  | step _ ih => exact fun f a s r h => callN_succ _ f a s r (ih f a s r h)

variable (T G)
def Runs (f : Nat) (args : List PV) (sh : Sh) (Q : PV → Sh → Prop) : Prop := ∃ n r sh', callN T G n f args sh = some (r, sh') ∧ Q r sh'
def WP (pc : PC) (st : St) (Q : Out → Prop) : Prop := ∃ n o, exec (callN T G n) G n pc st = some o ∧ Q o
def WS (l : List PI) (st : St) (Q : St → Prop) : Prop := ∃ n s, steps (callN T G n) G l st = some s ∧ Q s
def W1 (i : PI) (st : St) (Q : St → Prop) : Prop := ∃ n s, step (callN T G n) G i st = some s ∧ Q s
def WE (k : PK) (xs : List PV) (e : Eff) (Q : PV → Eff → Prop) : Prop := ∃ n r e', evalE (callN T G n) k xs e = some (r, e') ∧ Q r e'
variable {T G}

def Out.on (o : Out) (f : St → Prop) (Q : Out → Prop) : Prop := match o with
  | .nrm s => f s
  | o => Q o
def Out.blk (o : Out) (id : Nat) (Q : Out → Prop) : Prop := match o with
  | .ext j s => if j = id then Q (.nrm s) else Q (.ext j s)
  | o => Q o
def condP (x : PV) (A B : Prop) : Prop := match x with
  | .v (.bool t) => if t then A else B
  | _ => False
def obind {α : Type} (x : Option α) (Q : α → Prop) : Prop := match x with
  | some a => Q a
  | none => False

theorem Out.on_nrm (s f Q) : Out.on (.nrm s) f Q = f s := rfl
theorem Out.on_ret (s f Q) : Out.on (.ret s) f Q = Q (.ret s) := rfl
theorem Out.on_ext (i s f Q) : Out.on (.ext i s) f Q = Q (.ext i s) := rfl
theorem Out.blk_nrm (s id Q) : Out.blk (.nrm s) id Q = Q (.nrm s) := rfl
theorem Out.blk_ret (s id Q) : Out.blk (.ret s) id Q = Q (.ret s) := rfl
theorem Out.blk_ext (j s id Q) : Out.blk (.ext j s) id Q = if j = id then Q (.nrm s) else Q (.ext j s) := rfl
theorem condP_bool (t A B) : condP (.v (.bool t)) A B = if t then A else B := rfl
theorem obind_some {α} (a : α) (Q) : obind (some a) Q = Q a := rfl
theorem obind_none {α} (Q : α → Prop) : obind none Q = False := rfl

theorem WP.skip (s Q) : WP T G .skip s Q = Q (.nrm s) := by
  apply propext
  constructor
  · rintro ⟨n, o, h, hq⟩; cases h; exact hq
  · exact fun h => ⟨0, _, rfl, h⟩
theorem WP.exit (id s Q) : WP T G (.exit id) s Q = Q (.ext id s) := by
  apply propext
  constructor
  · rintro ⟨n, o, h, hq⟩; cases h; exact hq
  · exact fun h => ⟨0, _, rfl, h⟩
theorem WP.ret (s Q) : WP T G .ret s Q = Q (.ret s) := by
  apply propext
  constructor
  · rintro ⟨n, o, h, hq⟩; cases h; exact hq
  · exact fun h => ⟨0, _, rfl, h⟩
theorem WP.ops (l s Q) : WP T G (.ops l) s Q = WS T G l s fun s' => Q (.nrm s') := by
  apply propext
  constructor
  · rintro ⟨n, o, h, hq⟩
    simp only [exec] at h
    split at h
    · rename_i h1; cases h; exact ⟨n, _, h1, hq⟩
    · cases h
  · rintro ⟨n, s', h, hq⟩
    exact ⟨n, _, by simp only [exec, h], hq⟩
theorem WP.seq (a b s Q) : WP T G (.seq a b) s Q = WP T G a s fun o => o.on (fun s' => WP T G b s' Q) Q := by
  apply propext
  constructor
  · rintro ⟨n, o, h, hq⟩
    simp only [exec] at h
    cases ha : exec (callN T G n) G n a s with
    | none => simp [ha] at h
    | some o' =>
      rw [ha] at h
      refine ⟨n, o', ha, ?_⟩
      cases o' with
      | nrm s' => exact ⟨n, o, h, hq⟩
      | ext i s' => cases h; exact hq
      | ret s' => cases h; exact hq
  · rintro ⟨n, o, h, hq⟩
    cases o with
    | nrm s' =>
      obtain ⟨m, o', h', hq'⟩ := hq
      refine ⟨max n m, o', ?_, hq'⟩
      simp only [exec]
      rw [exec_mono (callN_mono (Nat.le_max_left n m)) (Nat.le_max_left n m) _ _ _ h]
      exact exec_mono (callN_mono (Nat.le_max_right n m)) (Nat.le_max_right n m) _ _ _ h'
    | ext i s' => exact ⟨n, _, by simp only [exec, h], hq⟩
    | ret s' => exact ⟨n, _, by simp only [exec, h], hq⟩
theorem WP.cond (x a b s Q) : WP T G (.cond x a b) s Q = condP (src G (fun t => s.regs.getD t .un) x) (WP T G a s Q) (WP T G b s Q) := by
  apply propext
  constructor
  · rintro ⟨n, o, h, hq⟩
    simp only [exec] at h
    split at h
    · rename_i t h1
      rw [h1, condP_bool]
      cases t
      · exact ⟨n, o, h, hq⟩
      · exact ⟨n, o, h, hq⟩
    · cases h
  · intro h
    unfold condP at h
    split at h
    · rename_i t h1
      cases t
      · obtain ⟨n, o, h, hq⟩ := h
        exact ⟨n, o, by simp only [exec, h1]; exact h, hq⟩
      · obtain ⟨n, o, h, hq⟩ := h
        exact ⟨n, o, by simp only [exec, h1]; exact h, hq⟩
    · exact h.elim
theorem WP.block (id b s Q) : WP T G (.block id b) s Q = WP T G b s fun o => o.blk id Q := by
  apply propext
  constructor
  · rintro ⟨n, o, h, hq⟩
    simp only [exec] at h
    cases ha : exec (callN T G n) G n b s with
    | none => simp [ha] at h
    | some o' =>
      rw [ha] at h
      refine ⟨n, o', ha, ?_⟩
      cases o' with
      | nrm s' => cases h; exact hq
      | ext i s' =>
        simp only [Out.blk] at h ⊢
        split
        · rename_i hi; rw [if_pos hi] at h; cases h; exact hq
        · rename_i hi; rw [if_neg hi] at h; cases h; exact hq
      | ret s' => cases h; exact hq
  · rintro ⟨n, o, h, hq⟩
    cases o with
    | nrm s' => exact ⟨n, _, by simp only [exec, h], hq⟩
    | ext i s' =>
      simp only [Out.blk] at hq
      split at hq
      · rename_i hi; exact ⟨n, .nrm s', by simp only [exec, h, if_pos hi], hq⟩
      · rename_i hi; exact ⟨n, .ext i s', by simp only [exec, h, if_neg hi], hq⟩
    | ret s' => exact ⟨n, _, by simp only [exec, h], hq⟩
/-- One round of a loop. -/
theorem WP.loop {b s Q} (h : WP T G b s fun o => o.on (fun s' => WP T G (.loop b) s' Q) Q) : WP T G (.loop b) s Q := by
  obtain ⟨n, o, h, hq⟩ := h
  cases o with
  | nrm s' =>
    obtain ⟨m, o', h', hq'⟩ := hq
    simp only [exec] at h'
    refine ⟨max n m + 1, o', ?_, hq'⟩
    simp only [exec, iter]
    rw [exec_mono (callN_mono (by omega)) (by omega) _ _ _ h]
    exact iter_mono (fun s o => exec_mono (callN_mono (by omega)) (by omega) b s o) (Nat.le_max_right n m) h'
  | ext i s' =>
    refine ⟨n + 1, _, ?_, hq⟩
    simp only [exec, iter]
    rw [exec_mono (callN_mono (by omega)) (by omega) _ _ _ h]
  | ret s' =>
    refine ⟨n + 1, _, ?_, hq⟩
    simp only [exec, iter]
    rw [exec_mono (callN_mono (by omega)) (by omega) _ _ _ h]

theorem WP.mono {pc s} {Q Q' : Out → Prop} (h : WP T G pc s Q) (hq : ∀ o, Q o → Q' o) : WP T G pc s Q' := by
  obtain ⟨n, o, h, h'⟩ := h
  exact ⟨n, o, h, hq _ h'⟩
theorem Runs.mono {f a s} {Q Q' : PV → Sh → Prop} (h : Runs T G f a s Q) (hq : ∀ r s, Q r s → Q' r s) : Runs T G f a s Q' := by
  obtain ⟨n, o, s', h, h'⟩ := h
  exact ⟨n, o, s', h, hq _ _ h'⟩

theorem WS.nil (s Q) : WS T G [] s Q = Q s := by
  apply propext
  constructor
  · rintro ⟨n, o, h, hq⟩; cases h; exact hq
  · exact fun h => ⟨0, _, rfl, h⟩
theorem WS.cons (i l s Q) : WS T G (i :: l) s Q = W1 T G i s fun s' => WS T G l s' Q := by
  apply propext
  constructor
  · rintro ⟨n, o, h, hq⟩
    simp only [steps] at h
    split at h
    · rename_i h1; exact ⟨n, _, h1, n, _, h, hq⟩
    · cases h
  · rintro ⟨n, s', h, m, s2, h', hq⟩
    refine ⟨max n m, s2, ?_, hq⟩
    simp only [steps]
    rw [step_mono (callN_mono (Nat.le_max_left n m)) _ _ _ h]
    exact steps_mono (callN_mono (Nat.le_max_right n m)) _ _ _ h'

/-- What a call asks. -/
theorem runs_of {f : Nat} {pf : PF} (hT : T f = some pf) (args : List PV) (sh : Sh) (Q) : Runs T G f args sh Q = WP T G pf.body (startSt pf.nt args sh) fun o => match o with
    | .nrm s | .ret s => obind (resAll s.regs pf.res) fun l => Q (resPV l) (dropSh pf.drop sh.boxes.length s.ef.sh)
    | _ => False := by
  apply propext
  constructor
  · rintro ⟨n, r, sh', h, hq⟩
    cases n with
    | zero => simp [callN] at h
    | succ n =>
      simp only [callN, hT] at h
      cases ha : exec (callN T G n) G n pf.body (startSt pf.nt args sh) with
      | none => simp [ha, finish] at h
      | some o =>
        rw [ha] at h
        refine ⟨n, o, ha, ?_⟩
        cases o with
        | nrm s =>
          simp only [finish] at h ⊢
          split at h
          · rename_i h1; cases h; rw [h1]; exact hq
          · cases h
        | ret s =>
          simp only [finish] at h ⊢
          split at h
          · rename_i h1; cases h; rw [h1]; exact hq
          · cases h
        | ext i s => simp [finish] at h
  · rintro ⟨n, o, h, hq⟩
    cases o with
    | nrm s =>
      simp only at hq
      cases hr : resAll s.regs pf.res with
      | none => rw [hr] at hq; exact hq.elim
      | some l => exact ⟨n + 1, resPV l, dropSh pf.drop sh.boxes.length s.ef.sh, by simp only [callN, hT, h, finish, hr], by rw [hr] at hq; exact hq⟩
    | ret s =>
      simp only at hq
      cases hr : resAll s.regs pf.res with
      | none => rw [hr] at hq; exact hq.elim
      | some l => exact ⟨n + 1, resPV l, dropSh pf.drop sh.boxes.length s.ef.sh, by simp only [callN, hT, h, finish, hr], by rw [hr] at hq; exact hq⟩
    | ext i s => exact hq.elim

/-- A call has one answer. -/
theorem Runs.eq {f a s r s'} (h : ∃ n, callN T G n f a s = some (r, s')) (Q) : Runs T G f a s Q = Q r s' := by
  apply propext
  obtain ⟨n, h⟩ := h
  constructor
  · rintro ⟨m, r2, s2, h2, hq⟩
    have h3 := callN_mono (Nat.le_max_left n m) _ _ _ _ h
    have h4 := callN_mono (Nat.le_max_right n m) _ _ _ _ h2
    rw [h3] at h4
    cases h4
    exact hq
  · exact fun hq => ⟨n, r, s', h, hq⟩

/- One operation. -/
def noCall : CallF := fun _ _ _ => none

theorem noCall_le (n : Nat) : Le noCall (callN T G n) := fun _ _ _ _ h => by cases h

theorem W1.of_step {i : PI} {s : St} {Q : St → Prop} (h : ∀ n, step (callN T G n) G i s = step noCall G i s) : W1 T G i s Q = obind (step noCall G i s) Q := by
  apply propext
  constructor
  · rintro ⟨n, s', h1, hq⟩
    rw [h] at h1
    rw [h1]
    exact hq
  · intro h1
    cases h2 : step noCall G i s with
    | none => rw [h2] at h1; exact h1.elim
    | some s' =>
      rw [h2] at h1
      exact ⟨0, s', by rw [h, h2], h1⟩

theorem W1.p {k : PK} {rs : List Src} {d : Nat} {regs : List PV} {e : Eff} {Q : St → Prop} (h : k.eff = false) (hk : (match k with | .stL _ => false | _ => true) = true) :
    W1 T G ⟨k, rs, some d, none, none⟩ ⟨regs, e⟩ Q = obind (evalP k (regs.getD d .un) (rs.map (src G fun t => regs.getD t .un))) fun x => Q ⟨regs.set d x, e⟩ := by
  rw [W1.of_step (fun n => by simp [step, act, h])]
  have ht : PI.target ⟨k, rs, some d, none, none⟩ = some d := by
    unfold PI.target
    cases k <;> first | rfl | cases hk
  simp only [step, wantedP, act, h, ht]
  cases evalP k (regs.getD d .un) (rs.map (src G fun t => regs.getD t .un)) <;> rfl

theorem W1.ldL {n : Nat} {agg : Bool} {x : Src} {d r : Nat} {regs : List PV} {e : Eff} {Q : St → Prop} :
    W1 T G ⟨.ldL n agg, [x], some d, some r, none⟩ ⟨regs, e⟩ Q = obind (evalL (src G (fun t => regs.getD t .un) x) (regs.getD r .un) r n agg) fun y => Q ⟨regs.set d y, e⟩ := by
  rw [W1.of_step (fun n => by simp [step, act, PK.eff])]
  simp only [step, wantedP, act, PK.eff, List.map]
  cases evalL (src G (fun t => regs.getD t .un) x) (regs.getD r .un) r n agg <;> rfl

theorem W1.stL {n : Nat} {p x : Src} {d : Option Nat} {r : Nat} {regs : List PV} {e : Eff} {Q : St → Prop} :
    W1 T G ⟨.stL n, [p, x], d, some r, none⟩ ⟨regs, e⟩ Q = obind (evalW (src G (fun t => regs.getD t .un) p) (src G (fun t => regs.getD t .un) x) (regs.getD r .un) r n) fun y => Q ⟨regs.set r y, e⟩ := by
  rw [W1.of_step (fun n => by simp [step, act, PK.eff])]
  simp only [step, wantedP, act, PK.eff, List.map]
  cases evalW (src G (fun t => regs.getD t .un) p) (src G (fun t => regs.getD t .un) x) (regs.getD r .un) r n <;> rfl

def gP (x : PV) (b : Bool) (A B : Prop) : Prop := match x with
  | .v (.bool x) => if x = b then A else B
  | .ud => B
  | _ => False
theorem gP_bool (x b A B) : gP (.v (.bool x)) b A B = if x = b then A else B := rfl
theorem gP_ud (b A B) : gP .ud b A B = B := rfl

theorem W1.g {k : PK} {rs : List Src} {d r : Option Nat} {j : Nat} {b : Bool} {regs : List PV} {e : Eff} {Q : St → Prop} :
    W1 T G ⟨k, rs, d, r, some (j, b)⟩ ⟨regs, e⟩ Q = gP (regs.getD j .un) b (W1 T G ⟨k, rs, d, r, none⟩ ⟨regs, e⟩ Q) (if k.boxes then False else Q ⟨putD regs d .ud, e⟩) := by
  apply propext
  unfold gP W1
  simp only [step, wantedP]
  generalize regs.getD j .un = y
  have skip : (∃ (n : Nat) (s : St), (if k.boxes = true then none else some (⟨putD regs d undefPV, e⟩ : St)) = some s ∧ Q s) ↔ if k.boxes then False else Q ⟨putD regs d .ud, e⟩ := by
    cases k.boxes
    · simp only [Bool.false_eq_true, if_false]
      constructor
      · rintro ⟨n, s, h1, hq⟩; cases h1; exact hq
      · exact fun hq => ⟨0, _, rfl, hq⟩
    · simp only [if_true]
      constructor
      · rintro ⟨n, s, h1, hq⟩; cases h1
      · exact fun hq => hq.elim
  cases y with
  | v x =>
    cases x with
    | bool x =>
      cases hx : (x == b)
      · have hn : ¬ x = b := by simpa using hx
        simp only [hx, if_neg hn]
        exact skip
      · have hn : x = b := by simpa using hx
        simp only [hx, if_pos hn]
        exact Iff.rfl
    | _ => exact ⟨(fun ⟨_, _, h, _⟩ => by cases h), (fun h => h.elim)⟩
  | ud => exact skip
  | _ => exact ⟨(fun ⟨_, _, h, _⟩ => by cases h), (fun h => h.elim)⟩

theorem W1.call {f : Nat} {rs : List Src} {d : Option Nat} {regs : List PV} {sh : Sh} {lv : Nat → Bool} {tk : Nat} {Q : St → Prop} :
    W1 T G ⟨.callF f, rs, d, none, none⟩ ⟨regs, ⟨sh, lv, tk⟩⟩ Q = obind (clrAll (rs.map (src G fun t => regs.getD t .un))) fun ys => Runs T G f ys sh fun r sh' => Q ⟨putD regs d r, ⟨sh', lv, tk⟩⟩ := by
  apply propext
  unfold W1 Runs
  simp only [step, wantedP, act, PK.eff, if_true, evalE, PI.target]
  cases clrAll (rs.map (src G fun t => regs.getD t .un)) with
  | none =>
    constructor
    · rintro ⟨n, s, h, _⟩; cases h
    · exact fun h => h.elim
  | some ys =>
    simp only [obind]
    constructor
    · rintro ⟨n, s, h, hq⟩
      cases hc : callN T G n f ys sh with
      | none => rw [hc] at h; cases h
      | some r => rw [hc] at h; cases h; exact ⟨n, r.1, r.2, hc, hq⟩
    · rintro ⟨n, r, sh', h, hq⟩
      exact ⟨n, _, by rw [h], hq⟩

theorem W1.callI {f : Nat} {rs : List Src} {d : Option Nat} {regs : List PV} {sh : Sh} {lv : Nat → Bool} {tk : Nat} {Q : St → Prop} :
    W1 T G ⟨.callI f, rs, d, none, none⟩ ⟨regs, ⟨sh, lv, tk⟩⟩ Q = obind (clrAll (rs.map (src G fun t => regs.getD t .un))) fun ys => npR ys = true ∧ Runs T G f ys ⟨[], sh.nx⟩ fun r sh' => sh'.boxes = [] ∧ np r = true ∧ sh.nx ≤ sh'.nx ∧ Q ⟨putD regs d r, ⟨⟨sh.boxes, sh'.nx⟩, lv, tk⟩⟩ := by
  apply propext
  unfold W1 Runs
  simp only [step, wantedP, act, PK.eff, if_true, evalE, PI.target]
  cases clrAll (rs.map (src G fun t => regs.getD t .un)) with
  | none =>
    constructor
    · rintro ⟨n, s, h, _⟩; cases h
    · exact fun h => h.elim
  | some ys =>
    simp only [obind]
    cases hn : npR ys with
    | false =>
      constructor
      · rintro ⟨n, s, h, _⟩; simp at h
      · rintro ⟨h, _⟩; cases h
    | true =>
      simp only [if_true, true_and]
      constructor
      · rintro ⟨n, s, h, hq⟩
        cases hc : callN T G n f ys ⟨[], sh.nx⟩ with
        | none => rw [hc] at h; cases h
        | some q =>
          obtain ⟨r, bx, nx⟩ := q
          rw [hc] at h
          cases bx with
          | cons _ _ => cases h
          | nil =>
            simp only at h
            cases hh : (np r && decide (sh.nx ≤ nx)) with
            | false => rw [hh] at h; simp at h
            | true =>
              rw [hh] at h
              simp only [Bool.and_eq_true, decide_eq_true_eq] at hh
              simp only [if_true] at h
              cases h
              exact ⟨n, r, _, hc, rfl, hh.1, hh.2, hq⟩
      · rintro ⟨n, r, sh', h, hb, hr, hx, hq⟩
        obtain ⟨bx, nx⟩ := sh'
        simp only at hb
        subst hb
        exact ⟨n, _, by rw [h]; simp [hr, hx], hq⟩

theorem W1.e {k : PK} {rs : List Src} {d : Option Nat} {regs : List PV} {e : Eff} {Q : St → Prop} (h : k.eff = true) (hk : (match k with | .callF _ | .callI _ | .callV | .stL _ => false | _ => true) = true) :
    W1 T G ⟨k, rs, d, none, none⟩ ⟨regs, e⟩ Q = obind (evalE noCall k (rs.map (src G fun t => regs.getD t .un)) e) fun x => Q ⟨putD regs d x.1, x.2⟩ := by
  rw [W1.of_step (fun n => by
    simp only [step, wantedP, act, h, if_true]
    have : evalE (callN T G n) k (rs.map (src G fun t => regs.getD t .un)) e = evalE noCall k (rs.map (src G fun t => regs.getD t .un)) e := by
      cases k <;> first | (cases hk; done) | (cases h; done) | (simp only [evalE]; done) | (unfold evalE; split <;> first | rfl | contradiction | simp_all)
    rw [this])]
  simp only [step, wantedP, act, h, if_true]
  have ht : PI.target ⟨k, rs, d, none, none⟩ = d := by
    unfold PI.target
    cases k <;> first | rfl | cases hk
  rw [ht]
  cases evalE noCall k (rs.map (src G fun t => regs.getD t .un)) e <;> rfl

theorem W1.callV {rs : List Src} {d : Option Nat} {regs : List PV} {sh : Sh} {lv : Nat → Bool} {tk : Nat} {x : Src} {f : FuncId} {caps : List PV} {Q : St → Prop} (hx : src G (fun t => regs.getD t .un) x = .fn f caps) :
    W1 T G ⟨.callV, x :: rs, d, none, none⟩ ⟨regs, ⟨sh, lv, tk⟩⟩ Q = obind (clrAll (rs.map (src G fun t => regs.getD t .un))) fun ys => Runs T G f (ys ++ caps) sh fun r sh' => Q ⟨putD regs d r, ⟨sh', lv, tk⟩⟩ := by
  apply propext
  unfold W1 Runs
  simp only [step, wantedP, act, PK.eff, if_true, evalE, PI.target, List.map, hx]
  cases clrAll (rs.map (src G fun t => regs.getD t .un)) with
  | none =>
    constructor
    · rintro ⟨n, s, h, _⟩; cases h
    · exact fun h => h.elim
  | some ys =>
    simp only [obind]
    constructor
    · rintro ⟨n, s, h, hq⟩
      cases hc : callN T G n f (ys ++ caps) sh with
      | none => rw [hc] at h; cases h
      | some r => rw [hc] at h; cases h; exact ⟨n, r.1, r.2, hc, hq⟩
    · rintro ⟨n, r, sh', h, hq⟩
      exact ⟨n, _, by rw [h], hq⟩

/- What is not to be looked into before its turn. -/
theorem WP.cong {pc : PC} {s s' : St} {Q : Out → Prop} (h : s = s') : WP T G pc s Q = WP T G pc s' Q := by rw [h]
theorem WS.cong {l : List PI} {s s' : St} {Q : St → Prop} (h : s = s') : WS T G l s Q = WS T G l s' Q := by rw [h]
theorem W1.cong {i : PI} {s s' : St} {Q : St → Prop} (h : s = s') : W1 T G i s Q = W1 T G i s' Q := by rw [h]
theorem Runs.cong {f : Nat} {a a' : List PV} {s s' : Sh} {Q : PV → Sh → Prop} (ha : a = a') (h : s = s') : Runs T G f a s Q = Runs T G f a' s' Q := by rw [h, ha]
theorem obind.cong {α : Type} {x x' : Option α} {Q : α → Prop} (h : x = x') : obind x Q = obind x' Q := by rw [h]
theorem condP.cong {x x' : PV} {A B : Prop} (h : x = x') : condP x A B = condP x' A B := by rw [h]
theorem gP.cong {x x' : PV} {b : Bool} {A B : Prop} (h : x = x') : gP x b A B = gP x' b A B := by rw [h]
theorem Out.on.cong {o o' : Out} {f : St → Prop} {Q : Out → Prop} (h : o = o') : o.on f Q = o'.on f Q := by rw [h]
theorem Out.blk.cong {o o' : Out} {i : Nat} {Q : Out → Prop} (h : o = o') : o.blk i Q = o'.blk i Q := by rw [h]
theorem ite.cong {c c' : Prop} [Decidable c] [Decidable c'] {A B : Prop} (h : c = c') : (if c then A else B) = (if c' then A else B) := by
  subst h
  split <;> rename_i h1 <;> simp

end Go.Pi

/- The rules by which the simplifier runs the code. -/
namespace Go.Pi
open Go
open PV (genOf asSrc clrC clrs clr clrAll cellsT cells0)

attribute [congr] WP.cong WS.cong W1.cong Runs.cong obind.cong condP.cong gP.cong Out.on.cong Out.blk.cong

section
variable {T : Nat → Option PF} {G : Glob}

abbrev i64 (z : Int) : PV := .v (.int .i64 z)

theorem ev_mv_v (o x) : evalP .mv o [.v x] = some (.v x) := rfl
theorem ev_mv_sl (o a b c) : evalP .mv o [.sl a b c] = some (.sl a b c) := rfl
theorem ev_mv_ag (o a) : evalP .mv o [.ag a] = some (.ag a) := rfl
theorem ev_mv_tup (o a) : evalP .mv o [.tup a] = some (.tup a) := rfl
theorem ev_mv_lp (o a b c) : evalP .mv o [.lp a b c] = some (.lp a b c) := rfl
theorem ev_mv_ep (o a b) : evalP .mv o [.ep a b] = some (.ep a b) := rfl
theorem ev_mv_sp (o a b) : evalP .mv o [.sp a b] = some (.sp a b) := rfl
theorem ev_mv_fn (o a b) : evalP .mv o [.fn a b] = some (.fn a b) := rfl
theorem ev_mv_ifc (o a b) : evalP .mv o [.ifc a b] = some (.ifc a b) := rfl
theorem ev_pick (o c a b) : evalP .pick o [.v (.bool c), a, b] = some (if c then a else b) := rfl
theorem ev_alloc (o z) : evalP (.alloc z) o [] = some (.bx (o.genOf + 1) z) := rfl
theorem ev_box_v (o x) : evalP .box o [.v x] = some (.bx (o.genOf + 1) [.v x]) := rfl
theorem ev_box_ag (o x) : evalP .box o [.ag x] = some (.bx (o.genOf + 1) x) := rfl
theorem ev_box_sl (o a b c) : evalP .box o [.sl a b c] = some (.bx (o.genOf + 1) [.sl a b c]) := rfl
theorem ev_box_sp (o a b) : evalP .box o [.sp a b] = some (.bx (o.genOf + 1) [.sp a b]) := rfl
theorem ev_box_fn (o a b) : evalP .box o [.fn a b] = some (.bx (o.genOf + 1) [.fn a b]) := rfl
theorem ev_build (o z p xs) : evalP (.build z p) o xs = (fillB z p xs).map .ag := by
  simp only [evalP]
  cases fillB z p xs <;> rfl
theorem ev_bslice (o z l s p xs) : evalP (.bslice z l s p) o xs = (fillS s (List.replicate l z) p xs).map (.sl 1 s) := by
  simp only [evalP]
  cases fillS s (List.replicate l z) p xs <;> rfl
theorem ev_ldE (o n a r off) : evalP (.ldE n a) o [.ep r off] = cut r off n a := rfl
theorem ev_nil_lp (o a b c) : evalP .nilck o [.lp a b c] = some (.lp a b c) := rfl
theorem ev_nil_ep (o a b) : evalP .nilck o [.ep a b] = some (.ep a b) := rfl
theorem ev_nil_sp (o a b) : evalP .nilck o [.sp a b] = some (.sp a b) := rfl
theorem ev_nil_fn (o a b) : evalP .nilck o [.fn a b] = some (.fn a b) := rfl
theorem ev_add (o k a b) : evalP (.bin .add) o [.v (.int k a), .v (.int k b)] = some (.v (.int k (k.wrap (a + b)))) := by cases k <;> rfl
theorem ev_sub (o k a b) : evalP (.bin .sub) o [.v (.int k a), .v (.int k b)] = some (.v (.int k (k.wrap (a - b)))) := by cases k <;> rfl
theorem ev_mul (o k a b) : evalP (.bin .mul) o [.v (.int k a), .v (.int k b)] = some (.v (.int k (k.wrap (a * b)))) := by cases k <;> rfl
theorem ev_quo (o k a b) : evalP (.bin .quo) o [.v (.int k a), .v (.int k b)] = if b = 0 then none else some (.v (.int k (k.wrap (a.tdiv b)))) := by
  by_cases h : b = 0 <;> cases k <;> simp [evalP, binV, sameKind, intBin, h]
theorem ev_rem (o k a b) : evalP (.bin .rem) o [.v (.int k a), .v (.int k b)] = if b = 0 then none else some (.v (.int k (a.tmod b))) := by
  by_cases h : b = 0 <;> cases k <;> simp [evalP, binV, sameKind, intBin, h]
theorem ev_eql (o k a b) : evalP (.bin .eql) o [.v (.int k a), .v (.int k b)] = some (.v (.bool (decide (a = b)))) := by cases k <;> rfl
theorem ev_neq (o k a b) : evalP (.bin .neq) o [.v (.int k a), .v (.int k b)] = some (.v (.bool (!decide (a = b)))) := by cases k <;> rfl
theorem ev_lss (o k a b) : evalP (.bin .lss) o [.v (.int k a), .v (.int k b)] = some (.v (.bool (decide (a < b)))) := by cases k <;> rfl
theorem ev_leq (o k a b) : evalP (.bin .leq) o [.v (.int k a), .v (.int k b)] = some (.v (.bool (decide (a ≤ b)))) := by cases k <;> rfl
theorem ev_gtr (o k a b) : evalP (.bin .gtr) o [.v (.int k a), .v (.int k b)] = some (.v (.bool (decide (b < a)))) := by cases k <;> rfl
theorem ev_geq (o k a b) : evalP (.bin .geq) o [.v (.int k a), .v (.int k b)] = some (.v (.bool (decide (b ≤ a)))) := by cases k <;> rfl
theorem ev_beql (o a b) : evalP (.binB .eql) o [.v (.bool a), .v (.bool b)] = some (.v (.bool (a == b))) := rfl
theorem ev_bneq (o a b) : evalP (.binB .neq) o [.v (.bool a), .v (.bool b)] = some (.v (.bool (a != b))) := rfl
theorem ev_not (o b) : evalP (.uno .not) o [.v (.bool b)] = some (.v (.bool (!b))) := rfl
theorem ev_neg (o k b) : evalP (.uno .neg) o [.v (.int k b)] = some (.v (.int k (k.wrap (0 - b)))) := rfl
theorem ev_fld (o a n g cs) : evalP (.fld a n g) o [.ag cs] = cut cs a n g := rfl
theorem ev_fa_lp (o n a b c) : evalP (.fa n) o [.lp a b c] = some (.lp a b (c + n)) := rfl
theorem ev_fa_ep (o n a b) : evalP (.fa n) o [.ep a b] = some (.ep a (b + n)) := rfl
theorem ev_fa_sp (o n a b) : evalP (.fa n) o [.sp a b] = some (.sp a (b + n)) := rfl
theorem ev_ia (o s t rows k i) : evalP (.ia s) o [.sl t s rows, .v (.int k i)] = if 0 ≤ i ∧ i < rows.length then some (.ep (rows.getD i.toNat []) 0) else none := by
  simp [evalP]
theorem ev_iaA_ep (o l s a b k i) : evalP (.iaA l s) o [.ep a b, .v (.int k i)] = if 0 ≤ i ∧ i < (l : Int) then some (.ep a (b + i.toNat * s)) else none := rfl
theorem ev_iaA_lp (o l s a g b k i) : evalP (.iaA l s) o [.lp a g b, .v (.int k i)] = if 0 ≤ i ∧ i < (l : Int) then some (.lp a g (b + i.toNat * s)) else none := rfl
theorem ev_iaA_sp (o l s a b k i) : evalP (.iaA l s) o [.sp a b, .v (.int k i)] = if 0 ≤ i ∧ i < (l : Int) then some (.sp a (b + i.toNat * s)) else none := rfl
theorem ev_ext (o i vs) : evalP (.ext i) o [.tup vs] = vs[i]? := rfl
theorem ev_len (o t s rows) : evalP .len o [.sl t s rows] = some (.v (.int .i64 rows.length)) := rfl
theorem ev_conv (o k k' n) : evalP (.conv k) o [.v (.int k' n)] = some (.v (.int k (k.wrap n))) := rfl
theorem ev_mkfn (o f xs) : evalP (.mkfn f) o xs = (clrs xs).map (.fn f) := by
  simp only [evalP]
  cases clrs xs <;> rfl
theorem ev_slc (o lo hi mx z x r) : evalP (.slc lo hi mx z) o (x :: r) = sliceOf x (pull lo r).1 (pull hi (pull lo r).2).1 (pull mx (pull hi (pull lo r).2).2).1 z := rfl
theorem ev_max (o a b) : evalP (.maxi true) o [.v (.int .i64 a), .v (.int .i64 b)] = some (.v (.int .i64 (if a < b then b else a))) := rfl
theorem ev_min (o a b) : evalP (.maxi false) o [.v (.int .i64 a), .v (.int .i64 b)] = some (.v (.int .i64 (if b < a then b else a))) := rfl

theorem evL (s g off cs n agg) : evalL (.lp s g off) (.bx g cs) s n agg = cut cs off n agg := by simp [evalL]
theorem evW (s g off x cs n) : evalW (.lp s g off) x (.bx g cs) s n = (match cellsT x with | some vs => if vs.length = n ∧ off + n ≤ cs.length then some (.bx g (splice cs off vs)) else none | none => none) := by
  unfold evalW
  cases cellsT x <;> simp
theorem pull_t (x r) : pull true (x :: r) = (some x, r) := rfl
theorem pull_f (r) : pull false r = (none, r) := by cases r <;> rfl

theorem cut1 (cs off) : cut cs off 1 false = if off < cs.length then some (cs.getD off .un) else none := by
  simp [cut]
  split <;> split <;> first | rfl | omega
theorem cutA (cs off n) : cut cs off n true = if off + n ≤ cs.length then some (.ag ((cs.drop off).take n)) else none := rfl

theorem asSrc_v (t x) : PV.asSrc t (.v x) = .v x := rfl
theorem asSrc_sl (t a b c) : PV.asSrc t (.sl a b c) = .sl a b c := rfl
theorem asSrc_ag (t a) : PV.asSrc t (.ag a) = .ag a := rfl
theorem asSrc_tup (t a) : PV.asSrc t (.tup a) = .tup a := rfl
theorem asSrc_bx (t g c) : PV.asSrc t (.bx g c) = .lp t g 0 := rfl
theorem asSrc_lp (t a b c) : PV.asSrc t (.lp a b c) = .lp a b c := rfl
theorem asSrc_ep (t a b) : PV.asSrc t (.ep a b) = .ep a b := rfl
theorem asSrc_sp (t a b) : PV.asSrc t (.sp a b) = .sp a b := rfl
theorem asSrc_fn (t a b) : PV.asSrc t (.fn a b) = .fn a b := rfl
theorem asSrc_ifc (t a b) : PV.asSrc t (.ifc a b) = .ifc a b := rfl
theorem asSrc_ud (t) : PV.asSrc t .ud = .ud := rfl
theorem genOf_bx (g c) : PV.genOf (.bx g c) = g := rfl
theorem genOf_un : PV.genOf .un = 0 := rfl

theorem cells0_v (x) : cells0 (.v x) = some [.v x] := rfl
theorem cells0_sl (a b c) : cells0 (.sl a b c) = some [.sl 0 b c] := rfl
theorem cells0_sp (a b) : cells0 (.sp a b) = some [.sp a b] := rfl
theorem cells0_fn (a b) : cells0 (.fn a b) = some [.fn a b] := rfl
theorem cells0_ifc (a b) : cells0 (.ifc a b) = some [.ifc a b] := rfl
theorem cells0_ag (a) : cells0 (.ag a) = clrs a := rfl
theorem clrs_nil : clrs [] = some [] := rfl
theorem clrs_v (x r) : clrs (.v x :: r) = (clrs r).map (.v x :: ·) := by simp only [clrs, clrC]; cases clrs r <;> rfl
theorem clrs_sl (a b c r) : clrs (.sl a b c :: r) = (clrs r).map (.sl 0 b c :: ·) := by simp only [clrs, clrC]; cases clrs r <;> rfl
theorem clrs_sp (a b r) : clrs (.sp a b :: r) = (clrs r).map (.sp a b :: ·) := by simp only [clrs, clrC]; cases clrs r <;> rfl
theorem clrs_fn (a b r) : clrs (.fn a b :: r) = (clrs r).map (.fn a b :: ·) := by simp only [clrs, clrC]; cases clrs r <;> rfl
theorem clrs_ifc (a b r) : clrs (.ifc a b :: r) = (clrs r).map (.ifc a b :: ·) := by simp only [clrs, clrC]; cases clrs r <;> rfl
theorem clrAll_nil : clrAll [] = some [] := rfl
theorem clrAll_cons (x r) : clrAll (x :: r) = (clr x).bind fun y => (clrAll r).map (y :: ·) := by
  simp only [clrAll]
  cases clr x <;> cases clrAll r <;> rfl
theorem clr_v (x) : clr (.v x) = some (.v x) := rfl
theorem clr_sl (a b c) : clr (.sl a b c) = some (.sl 0 b c) := rfl
theorem clr_sp (a b) : clr (.sp a b) = some (.sp a b) := rfl
theorem clr_fn (a b) : clr (.fn a b) = some (.fn a b) := rfl
theorem clr_ifc (a b) : clr (.ifc a b) = some (.ifc a b) := rfl
theorem clr_ag (a) : clr (.ag a) = (clrs a).map .ag := rfl
theorem frz_v (rg x) : frz rg (.v x) = some (.v x) := rfl
theorem frz_sl (rg a b c) : frz rg (.sl a b c) = some (.sl 0 b c) := rfl
theorem frz_sp (rg a b) : frz rg (.sp a b) = some (.sp a b) := rfl
theorem frz_fn (rg a b) : frz rg (.fn a b) = some (.fn a b) := rfl
theorem frz_ifc (rg a b) : frz rg (.ifc a b) = some (.ifc a b) := rfl
theorem frz_ag (rg a) : frz rg (.ag a) = (frzs rg a).map .ag := rfl
theorem frzC_ls (rg s g n z) : frzC rg (.ls s g n z) = (match rg.getD s .un with
    | .bs g' z rows => if g = g' ∧ n = rows.length then some (.sl 0 z rows) else none
    | _ => none) := rfl
theorem frz_ls (rg s g n z) : frz rg (.ls s g n z) = frzC rg (.ls s g n z) := rfl
theorem frzs_nil (rg) : frzs rg [] = some [] := rfl
theorem frzs_v (rg x r) : frzs rg (.v x :: r) = (frzs rg r).map (.v x :: ·) := by simp only [frzs, frzC, clrC]; cases frzs rg r <;> rfl
theorem frzs_sl (rg a b c r) : frzs rg (.sl a b c :: r) = (frzs rg r).map (.sl 0 b c :: ·) := by simp only [frzs, frzC, clrC]; cases frzs rg r <;> rfl
theorem frzs_sp (rg a b r) : frzs rg (.sp a b :: r) = (frzs rg r).map (.sp a b :: ·) := by simp only [frzs, frzC, clrC]; cases frzs rg r <;> rfl
theorem frzs_fn (rg a b r) : frzs rg (.fn a b :: r) = (frzs rg r).map (.fn a b :: ·) := by simp only [frzs, frzC, clrC]; cases frzs rg r <;> rfl
theorem frzs_ifc (rg a b r) : frzs rg (.ifc a b :: r) = (frzs rg r).map (.ifc a b :: ·) := by simp only [frzs, frzC, clrC]; cases frzs rg r <;> rfl
theorem frzs_ls (rg s g n z r) : frzs rg (.ls s g n z :: r) = (frzC rg (.ls s g n z)).bind fun x => (frzs rg r).map (x :: ·) := by simp only [frzs]; cases frzC rg (.ls s g n z) <;> cases frzs rg r <;> rfl
theorem ev_mv_ls (o a b c d) : evalP .mv o [.ls a b c d] = some (.ls a b c d) := rfl
theorem ev_ia_ls (o s t g n k i) : evalP (.ia s) o [.ls t g n s, .v (.int k i)] = if 0 ≤ i ∧ i < n then some (.lp t g (i.toNat * s)) else none := by
  simp only [evalP, and_true]
theorem ev_len_ls (o a b n d) : evalP .len o [.ls a b n d] = some (.v (.int .i64 n)) := rfl
theorem ev_appB (o sz z t rows) : evalP (.appB sz) o [.sl 1 z [], .sl t sz rows] = if rows ≠ [] ∧ rows.length ≤ appMax then some (.bs (o.genOf + 1) sz rows) else none := by
  simp only [evalP, true_and]
theorem evL_bs (s g off z rows n agg) : evalL (.lp s g off) (.bs g z rows) s n agg = if off / z < rows.length then cut (rows.getD (off / z) []) (off % z) n agg else none := by simp [evalL]
theorem evW_bs (s g off x z rows n) : evalW (.lp s g off) x (.bs g z rows) s n = (match cells0 x with
    | some ws => if ws.length = n ∧ off / z < rows.length ∧ off % z + n ≤ z then some (.bs g z (rows.set (off / z) (splice (rows.getD (off / z) []) (off % z) ws))) else none
    | none => none) := by
  unfold cells0
  simp only [evalW]
  cases cellsT x with
  | none => rfl
  | some vs => cases h : clrs vs <;> simp [h]
/-- A whole row of a function's own is written. -/
theorem evW_row {s g i z : Nat} {rows : List (List PV)} {x : PV} {ws : List PV} (hx : cells0 x = some ws) (hw : ws.length = z) (hz : 0 < z) (hi : i < rows.length) (hl : (rows.getD i []).length = z) :
    evalW (.lp s g (i * z)) x (.bs g z rows) s z = some (.bs g z (rows.set i ws)) := by
  have hq : i * z / z = i := Nat.mul_div_cancel i hz
  have hm : i * z % z = 0 := Nat.mul_mod_left i z
  unfold cells0 at hx
  split at hx
  · rename_i l hl'
    have hsp : splice (rows.getD i []) 0 ws = ws := by
      simp only [splice, List.take_zero, List.nil_append, Nat.zero_add]
      rw [List.drop_of_length_le (by omega), List.append_nil]
    simp only [evalW, hl', hx, hq, hm, hsp]
    rw [if_pos ⟨trivial, trivial, hw, hi, by omega⟩]
  · cases hx
theorem asSrc_bs (t g z r) : PV.asSrc t (.bs g z r) = .ls t g r.length z := rfl
theorem asSrc_ls (t a b c d) : PV.asSrc t (.ls a b c d) = .ls a b c d := rfl
theorem genOf_bs (g z r) : PV.genOf (.bs g z r) = g := rfl
theorem resOf_t (regs s) : resOf regs (.t s) = frz regs ((regs.getD s .un).asSrc s) := rfl
theorem resOf_c (regs s n agg) : resOf regs (.c s n agg) = (match regs.getD s .un with
    | .bx _ cs => (match cut cs 0 n agg with | some x => frz regs x | none => none)
    | _ => none) := rfl
theorem resAll_nil (regs) : resAll regs [] = some [] := rfl
theorem resAll_cons (regs r l) : resAll regs (r :: l) = (resOf regs r).bind fun x => (resAll regs l).map (x :: ·) := by
  simp only [resAll]
  cases resOf regs r <;> cases resAll regs l <;> rfl
theorem resPV_1 (x) : resPV [x] = x := rfl
theorem resPV_0 : resPV [] = .tup [] := rfl
theorem resPV_2 (x y l) : resPV (x :: y :: l) = .tup (x :: y :: l) := rfl

/- The definitions that the rules use, as equations. -/
theorem src_s {G : Glob} (get : Nat → PV) (t) : src G get (.s t) = (get t).asSrc t := rfl
theorem src_c {G : Glob} (get : Nat → PV) (x) : src G get (.c x) = x := rfl
theorem src_g {G : Glob} (get : Nat → PV) (i) : src G get (.g i) = (match G i with | some cs => .ep cs 0 | none => .un) := rfl
theorem putD_n (regs x) : putD regs none x = regs := rfl
theorem putD_s (regs d x) : putD regs (some d) x = regs.set d x := rfl
theorem appMax_eq : appMax = 4294967296 := rfl
theorem dropSh_f (n sh) : dropSh false n sh = sh := rfl
theorem dropSh_t (n b x) : dropSh true n ⟨b, x⟩ = ⟨b.drop (b.length - n), x⟩ := rfl
theorem splice_eq (cs off vs) : splice cs off vs = cs.take off ++ vs ++ cs.drop (off + vs.length) := rfl
theorem startSt_eq (nt args sh) : startSt nt args sh = ⟨args ++ List.replicate (nt - args.length) .un, ⟨sh, fun _ => false, 2⟩⟩ := rfl
theorem fillB_n (z) : fillB z [] [] = some z := rfl
theorem fillB_c (z off n ps x xs) : fillB z ((off, n) :: ps) (x :: xs) = (match PV.cellsT x with | some cs => if cs.length = n ∧ off + n ≤ z.length then fillB (splice z off cs) ps xs else none | none => none) := rfl
theorem fillS_n (sz z) : fillS sz z [] [] = some z := rfl
theorem fillS_c (sz z i ps x xs) : fillS sz z (i :: ps) (x :: xs) = (match cells0 x with | some cs => if cs.length = sz ∧ i < z.length then fillS sz (z.set i cs) ps xs else none | none => none) := rfl
theorem cT_ag (cs) : PV.cellsT (.ag cs) = some cs := rfl
theorem cT_v (x) : PV.cellsT (.v x) = some [.v x] := rfl
theorem cT_sl (t z r) : PV.cellsT (.sl t z r) = some [.sl t z r] := rfl
theorem cT_sp (i o) : PV.cellsT (.sp i o) = some [.sp i o] := rfl
theorem cT_fn (f c) : PV.cellsT (.fn f c) = some [.fn f c] := rfl
theorem cT_ifc (f c) : PV.cellsT (.ifc f c) = some [.ifc f c] := rfl
theorem cT_ls (a b c d) : PV.cellsT (.ls a b c d) = some [.ls a b c d] := rfl
theorem cT_mp (i) : PV.cellsT (.mp i) = some [.mp i] := rfl
theorem e_ldS (c n agg id off sh lv tk) : evalE c (.ldS n agg) [.sp id off] ⟨sh, lv, tk⟩ = (getB sh.boxes id).bind fun cs => if isMd cs = true then none else (cut cs off n agg).map fun r => (r, ⟨sh, lv, tk⟩) := by
  simp only [evalE]
  cases h : getB sh.boxes id with
  | none => rfl
  | some cs => cases h2 : cut cs off n agg <;> simp [h2]
theorem e_stS (c n id off x sh lv tk) : evalE c (.stS n) [.sp id off, x] ⟨sh, lv, tk⟩ = (getB sh.boxes id).bind fun cs => (cells0 x).bind fun vs => if isMd cs = true then none else if vs.length = n ∧ off + n ≤ cs.length then some (.un, ⟨⟨setB sh.boxes id (splice cs off vs), sh.nx⟩, lv, tk⟩) else none := by
  simp only [evalE]
  cases h : getB sh.boxes id with
  | none => rfl
  | some cs => cases h2 : cells0 x <;> simp
theorem isMd_0 : isMd [] = false := rfl
theorem isMd_2 (a b r) : isMd (a :: b :: r) = false := by cases a <;> rfl
theorem isMd_v (x) : isMd [.v x] = false := rfl
theorem isMd_sl (t z r) : isMd [.sl t z r] = false := rfl
theorem isMd_sp (i o) : isMd [.sp i o] = false := rfl
theorem isMd_fn (f c) : isMd [.fn f c] = false := rfl
theorem isMd_ifc (f c) : isMd [.ifc f c] = false := rfl
theorem ev_mkifc (o t cs) : evalP (.mkifc t) o [.ag cs] = (clrs cs).map (.ifc t) := by simp only [evalP]; cases clrs cs <;> rfl
theorem ev_tass (o t z u cs) : evalP (.tass t z) o [.ifc u cs] = some (if u = t then .tup [.ag cs, .v (.bool true)] else .tup [z, .v (.bool false)]) := rfl
theorem ev_fnil0 (o) : evalP (.fnil false) o [.v .nilFunc, .v .nilFunc] = some (.v (.bool true)) := rfl
theorem ev_fnil1 (o) : evalP (.fnil true) o [.v .nilFunc, .v .nilFunc] = some (.v (.bool false)) := rfl
theorem ev_fnil2 (o n f c) : evalP (.fnil n) o [.fn f c, .v .nilFunc] = some (.v (.bool n)) := rfl
theorem isMd_mp (i) : isMd [.mp i] = false := rfl
def mdOf : List PV → Option (List Int × List PV)
  | [.md ks vs] => some (ks, vs)
  | _ => none
theorem mdOf_md (ks vs) : mdOf [.md ks vs] = some (ks, vs) := rfl
theorem e_mkmap (c sh lv tk) : evalE c .mkmap [] ⟨sh, lv, tk⟩ = some (.mp sh.nx, ⟨⟨(sh.nx, [.md [] []]) :: sh.boxes, sh.nx + 1⟩, lv, tk⟩) := rfl
theorem e_mset (c id k x sh lv tk) : evalE c .mset [.mp id, .v (.int .i64 k), x] ⟨sh, lv, tk⟩ = (getB sh.boxes id).bind fun cs => (mdOf cs).bind fun p => (clr x).map fun y => (.un, ⟨⟨setB sh.boxes id [mIns p.1 p.2 k y], sh.nx⟩, lv, tk⟩) := by
  simp only [evalE]
  cases h : getB sh.boxes id with
  | none => rfl
  | some cs =>
    by_cases hc : ∃ ks vs, cs = [.md ks vs]
    · obtain ⟨ks, vs, rfl⟩ := hc
      cases clr x <;> rfl
    · have e : mdOf cs = none := by
        unfold mdOf
        split
        · rename_i ks vs; exact absurd ⟨ks, vs, rfl⟩ hc
        · rfl
      simp only [Option.bind_some, e, Option.bind_none]
      split
      · rename_i h1 _; cases h1; exact absurd ⟨_, _, rfl⟩ hc
      · rfl
theorem e_mget (c z ok id k sh lv tk) : evalE c (.mget z ok) [.mp id, .v (.int .i64 k)] ⟨sh, lv, tk⟩ = (getB sh.boxes id).bind fun cs => (mdOf cs).map fun p => (if ok = true then .tup [(mGet p.1 p.2 k z).1, .v (.bool (mGet p.1 p.2 k z).2)] else (mGet p.1 p.2 k z).1, ⟨sh, lv, tk⟩) := by
  simp only [evalE]
  cases h : getB sh.boxes id with
  | none => rfl
  | some cs =>
    by_cases hc : ∃ ks vs, cs = [.md ks vs]
    · obtain ⟨ks, vs, rfl⟩ := hc
      rfl
    · have e : mdOf cs = none := by
        unfold mdOf
        split
        · rename_i ks vs; exact absurd ⟨ks, vs, rfl⟩ hc
        · rfl
      simp only [Option.bind_some, e, Option.map_none]
      split
      · rename_i h1; cases h1; exact absurd ⟨_, _, rfl⟩ hc
      · rfl
theorem e_mlen (c id sh lv tk) : evalE c .mlen [.mp id] ⟨sh, lv, tk⟩ = (getB sh.boxes id).bind fun cs => (mdOf cs).map fun p => (.v (.int .i64 p.1.length), ⟨sh, lv, tk⟩) := by
  simp only [evalE]
  cases h : getB sh.boxes id with
  | none => rfl
  | some cs =>
    by_cases hc : ∃ ks vs, cs = [.md ks vs]
    · obtain ⟨ks, vs, rfl⟩ := hc
      rfl
    · have e : mdOf cs = none := by
        unfold mdOf
        split
        · rename_i ks vs; exact absurd ⟨ks, vs, rfl⟩ hc
        · rfl
      simp only [Option.bind_some, e, Option.map_none]
      split
      · rename_i h1; cases h1; exact absurd ⟨_, _, rfl⟩ hc
      · rfl
theorem asSrc_mp (t i) : PV.asSrc t (.mp i) = .mp i := rfl
theorem ev_mv_mp (old i) : evalP .mv old [.mp i] = some (.mp i) := rfl
theorem clr_mp (i) : clr (.mp i) = some (.mp i) := rfl
theorem clrs_mp (i r) : clrs (.mp i :: r) = (clrs r).map (.mp i :: ·) := by simp only [clrs, clrC]; cases clrs r <;> rfl
theorem cells0_mp (i) : cells0 (.mp i) = some [.mp i] := rfl
theorem frz_mp (regs i) : frz regs (.mp i) = some (.mp i) := rfl
theorem e_allocS (c z sh lv tk) : evalE c (.allocS z) [] ⟨sh, lv, tk⟩ = (clrs z).map fun z => (.sp sh.nx 0, ⟨⟨(sh.nx, z) :: sh.boxes, sh.nx + 1⟩, lv, tk⟩) := by
  simp only [evalE]
  cases clrs z <;> rfl
theorem e_boxS (c x sh lv tk) : evalE c .boxS [x] ⟨sh, lv, tk⟩ = (cells0 x).map fun z => (.sp sh.nx 0, ⟨⟨(sh.nx, z) :: sh.boxes, sh.nx + 1⟩, lv, tk⟩) := by
  simp only [evalE]
  cases cells0 x <;> rfl

/-- May this token be appended to? -/
def Tok (lv : Nat → Bool) (tk t : Nat) : Prop := t = 1 ∨ (2 ≤ t ∧ t < tk ∧ lv t = true)
def lvApp (lv : Nat → Bool) (tk t : Nat) : Nat → Bool := fun x => if x = tk then true else if x = t then false else lv x
theorem e_app {c sz t rows t' z' rows' sh lv tk} (h : Tok lv tk t) (hl : rows.length + rows'.length ≤ appMax) (hz : z' = sz ∨ rows' = []) :
    evalE c (.app sz) [.sl t sz rows, .sl t' z' rows'] ⟨sh, lv, tk⟩ = some (.sl tk sz (rows ++ rows'), ⟨sh, lvApp lv tk t, tk + 1⟩) := by
  have h1 : appOk lv t sz sz rows z' rows' = true := by
    unfold appOk
    have hz' : (decide (z' = sz) || rows'.isEmpty) = true := by
      rcases hz with h | h <;> simp [h]
    simp only [hz', hl, decide_true, Bool.and_true]
    rcases h with rfl | ⟨h1, h2, h3⟩
    · simp
    · rw [if_neg (by omega)]
      simp [h1, h3]
  simp only [evalE, h1, if_true]
  rfl
/-- The first append to an empty list of another size. -/
theorem Tok.one {lv tk} : Tok lv tk 1 := .inl rfl
theorem Tok.app {lv tk t} (h : 2 ≤ tk) : Tok (lvApp lv tk t) (tk + 1) tk := .inr ⟨h, by omega, by simp [lvApp]⟩
theorem Tok.other {lv tk t t'} (h : Tok lv tk t') (hn : t' ≠ t) : Tok (lvApp lv tk t) (tk + 1) t' := by
  rcases h with rfl | ⟨h1, h2, h3⟩
  · exact .inl rfl
  · exact .inr ⟨h1, by omega, by simp [lvApp, h3, hn, show t' ≠ tk by omega]⟩

theorem wrap_i64 {x : Int} (h : -9223372036854775808 ≤ x ∧ x ≤ 9223372036854775807) : IntKind.i64.wrap x = x := by
  simp only [IntKind.wrap, IntKind.signed, IntKind.bits]
  first | omega | (simp; omega) | (split <;> omega)
end
end Go.Pi

/- Runs with what comes after as data: nothing is looked into before its turn. -/
set_option linter.unusedVariables false
set_option linter.unusedSimpArgs false
namespace Go.Pi
open Go
open PV (genOf asSrc clrC clrs clr clrAll cellsT cells0)

def PK.pureK (k : PK) : Bool := !k.eff && (match k with | .stL _ => false | _ => true)
def PK.effK (k : PK) : Bool := k.eff && (match k with | .callF _ | .callI _ | .callV | .stL _ => false | _ => true)
theorem bk_mv : (PK.mv).boxes = false := rfl
theorem bk_pick : (PK.pick).boxes = false := rfl
theorem bk_alloc {z} : (PK.alloc z).boxes = true := rfl
theorem bk_box : (PK.box).boxes = true := rfl
theorem bk_appB {z} : (PK.appB z).boxes = true := rfl
theorem bk_build {z p} : (PK.build z p).boxes = false := rfl
theorem bk_bslice {z a b p} : (PK.bslice z a b p).boxes = false := rfl
theorem bk_ldE {n a} : (PK.ldE n a).boxes = false := rfl
theorem bk_nilck : (PK.nilck).boxes = false := rfl
theorem bk_bin {o} : (PK.bin o).boxes = false := rfl
theorem bk_binB {o} : (PK.binB o).boxes = false := rfl
theorem bk_uno {o} : (PK.uno o).boxes = false := rfl
theorem bk_fld {a b c} : (PK.fld a b c).boxes = false := rfl
theorem bk_fa {a} : (PK.fa a).boxes = false := rfl
theorem bk_ia {a} : (PK.ia a).boxes = false := rfl
theorem bk_iaA {a b} : (PK.iaA a b).boxes = false := rfl
theorem bk_ext {a} : (PK.ext a).boxes = false := rfl
theorem bk_len : (PK.len).boxes = false := rfl
theorem bk_maxi {a} : (PK.maxi a).boxes = false := rfl
theorem bk_slc {a b c d} : (PK.slc a b c d).boxes = false := rfl
theorem bk_mkfn {f} : (PK.mkfn f).boxes = false := rfl
theorem bk_mkifc {f} : (PK.mkifc f).boxes = false := rfl
theorem bk_fnil {f} : (PK.fnil f).boxes = false := rfl
theorem bk_tass {f z} : (PK.tass f z).boxes = false := rfl
theorem bk_conv {k} : (PK.conv k).boxes = false := rfl
theorem bk_ldS {n a} : (PK.ldS n a).boxes = false := rfl
theorem bk_app {z} : (PK.app z).boxes = false := rfl
theorem bk_allocS {z} : (PK.allocS z).boxes = false := rfl
theorem bk_boxS : (PK.boxS).boxes = false := rfl
theorem bk_mkmap : (PK.mkmap).boxes = false := rfl
theorem bk_mset : (PK.mset).boxes = false := rfl
theorem bk_mget {z o} : (PK.mget z o).boxes = false := rfl
theorem bk_mlen : (PK.mlen).boxes = false := rfl
theorem bk_stS {n} : (PK.stS n).boxes = false := rfl
theorem bk_ldL {n a} : (PK.ldL n a).boxes = false := rfl
theorem bk_stL {n} : (PK.stL n).boxes = false := rfl
theorem bk_callI {f} : (PK.callI f).boxes = false := rfl
theorem bk_callF {f} : (PK.callF f).boxes = false := rfl
theorem bk_callV : (PK.callV).boxes = false := rfl

inductive Fr where
  | pc (p : PC)
  | blk (id : Nat)

section
variable (T : Nat → Option PF) (G : Glob)

def KP : List Fr → Out → (Out → Prop) → Prop
  | [], o, Q => Q o
  | .pc p :: k, .nrm s, Q => WP T G p s fun o => KP k o Q
  | .pc _ :: k, .ext i s, Q => KP k (.ext i s) Q
  | .pc _ :: k, .ret s, Q => KP k (.ret s) Q
  | .blk _ :: k, .nrm s, Q => KP k (.nrm s) Q
  | .blk id :: k, .ext i s, Q => if i = id then KP k (.nrm s) Q else KP k (.ext i s) Q
  | .blk _ :: k, .ret s, Q => KP k (.ret s) Q

/-- Operations, then what comes after. -/
def R (l : List PI) (k : List Fr) (s : St) (Q : Out → Prop) : Prop := WS T G l s fun s' => KP T G k (.nrm s') Q
def condR (x : PV) (a b : PC) (k : List Fr) (s : St) (Q : Out → Prop) : Prop := condP x (R T G [] (.pc a :: k) s Q) (R T G [] (.pc b :: k) s Q)
def exR (id : Nat) (k : List Fr) (s : St) (Q : Out → Prop) : Prop := KP T G k (.ext id s) Q
def opR (x : Option PV) (d : Nat) (l : List PI) (k : List Fr) (regs : List PV) (e : Eff) (Q : Out → Prop) : Prop := obind x fun y => R T G l k ⟨regs.set d y, e⟩ Q
def efR (x : Option (PV × Eff)) (d : Option Nat) (l : List PI) (k : List Fr) (regs : List PV) (Q : Out → Prop) : Prop := obind x fun y => R T G l k ⟨putD regs d y.1, y.2⟩ Q
def clR (x : Option (List PV)) (f : Nat) (d : Option Nat) (l : List PI) (k : List Fr) (regs : List PV) (sh : Sh) (lv : Nat → Bool) (tk : Nat) (Q : Out → Prop) : Prop :=
  obind x fun ys => Runs T G f ys sh fun r sh' => R T G l k ⟨putD regs d r, ⟨sh', lv, tk⟩⟩ Q
/-- A call that no shared box is handed to. -/
def ciR (x : Option (List PV)) (f : Nat) (d : Option Nat) (l : List PI) (k : List Fr) (regs : List PV) (sh : Sh) (lv : Nat → Bool) (tk : Nat) (Q : Out → Prop) : Prop :=
  obind x fun ys => npR ys = true ∧ Runs T G f ys ⟨[], sh.nx⟩ fun r sh' => sh'.boxes = [] ∧ np r = true ∧ sh.nx ≤ sh'.nx ∧ R T G l k ⟨putD regs d r, ⟨⟨sh.boxes, sh'.nx⟩, lv, tk⟩⟩ Q
/-- A call of a function value. -/
def cvR (x : PV) (o : Option (List PV)) (d : Option Nat) (l : List PI) (k : List Fr) (regs : List PV) (sh : Sh) (lv : Nat → Bool) (tk : Nat) (Q : Out → Prop) : Prop :=
  match x with
  | .fn f caps => clR T G (o.map (· ++ caps)) f d l k regs sh lv tk Q
  | _ => False
def gR (x : PV) (b : Bool) (i : PI) (l : List PI) (k : List Fr) (s : St) (Q : Out → Prop) : Prop := gP x b (R T G (i :: l) k s Q) (if i.k.boxes then False else R T G l k ⟨putD s.regs i.d .ud, s.ef⟩ Q)
def reR (x : Option (List PV)) (drop : Bool) (n : Nat) (sh : Sh) (Q : PV → Sh → Prop) : Prop := obind x fun l => Q (resPV l) (dropSh drop n sh)
def FQ (res : List RS) (drop : Bool) (n : Nat) (Q : PV → Sh → Prop) : Out → Prop
  | .nrm s => reR (resAll s.regs res) drop n s.ef.sh Q
  | .ret s => reR (resAll s.regs res) drop n s.ef.sh Q
  | .ext _ _ => False
end

section
variable {T : Nat → Option PF} {G : Glob} {l : List PI} {k : List Fr} {s : St} {Q : Out → Prop} {regs : List PV} {e : Eff} {sh : Sh} {lv : Nat → Bool} {tk : Nat}

theorem R.nil : R T G [] [] s Q = Q (.nrm s) := by simp only [R, WS.nil, KP]
theorem R.blk {id} : R T G [] (.blk id :: k) s Q = R T G [] k s Q := by simp only [R, WS.nil, KP]
theorem R.skip : R T G [] (.pc .skip :: k) s Q = R T G [] k s Q := by simp only [R, WS.nil, KP, WP.skip]
theorem R.ops : R T G [] (.pc (.ops l) :: k) s Q = R T G l k s Q := by simp only [R, WS.nil, KP, WP.ops]
theorem KP.on {p} : ∀ {o : Out}, o.on (fun s' => WP T G p s' fun o => KP T G k o Q) (fun o => KP T G k o Q) = KP T G (.pc p :: k) o Q
  | .nrm _ => rfl
  | .ext _ _ => rfl
  | .ret _ => rfl
theorem KP.blk {id} : ∀ {o : Out}, o.blk id (fun o => KP T G k o Q) = KP T G (.blk id :: k) o Q
  | .nrm _ => rfl
  | .ext _ _ => rfl
  | .ret _ => rfl
theorem R.seq {a b} : R T G [] (.pc (.seq a b) :: k) s Q = R T G [] (.pc a :: .pc b :: k) s Q := by
  unfold R
  rw [WS.nil, WS.nil]
  show WP T G (.seq a b) s (fun o => KP T G k o Q) = WP T G a s fun o => KP T G (.pc b :: k) o Q
  rw [WP.seq]
  congr 1
  funext o
  exact KP.on
theorem R.block {id b} : R T G [] (.pc (.block id b) :: k) s Q = R T G [] (.pc b :: .blk id :: k) s Q := by
  unfold R
  rw [WS.nil, WS.nil]
  show WP T G (.block id b) s (fun o => KP T G k o Q) = WP T G b s fun o => KP T G (.blk id :: k) o Q
  rw [WP.block]
  congr 1
  funext o
  exact KP.blk
theorem R.cond {c a b} : R T G [] (.pc (.cond c a b) :: k) ⟨regs, e⟩ Q = condR T G (src G (fun t => regs.getD t .un) c) a b k ⟨regs, e⟩ Q := by
  simp only [R, WS.nil, KP, WP.cond, condR]
theorem R.exit {id} : R T G [] (.pc (.exit id) :: k) s Q = exR T G id k s Q := by simp only [R, WS.nil, KP, WP.exit, exR]
theorem KP.ret : ∀ {k : List Fr}, KP T G k (.ret s) Q = Q (.ret s)
  | [] => rfl
  | .pc _ :: k => KP.ret (k := k)
  | .blk _ :: k => KP.ret (k := k)
theorem R.ret : R T G [] (.pc .ret :: k) s Q = Q (.ret s) := by simp only [R, WS.nil, KP, WP.ret, KP.ret]
theorem R.loop {b} (h : R T G [] (.pc b :: .pc (.loop b) :: k) s Q) : R T G [] (.pc (.loop b) :: k) s Q := by
  unfold R at h ⊢
  rw [WS.nil] at h ⊢
  refine WP.loop (h.mono fun o ho => ?_)
  rw [KP.on]
  exact ho
theorem R.loop_eq {b} : R T G [] (.pc (.loop b) :: k) s Q = R T G [] (.pc b :: .pc (.loop b) :: k) s Q := by
  apply propext
  refine ⟨fun h => ?_, R.loop⟩
  unfold R at h ⊢
  rw [WS.nil] at h ⊢
  obtain ⟨n, o, h, hq⟩ := h
  simp only [exec] at h
  cases n with
  | zero => simp [iter] at h
  | succ n =>
    simp only [iter] at h
    cases hb : exec (callN T G (n + 1)) G (n + 1) b s with
    | none => rw [hb] at h; cases h
    | some o1 =>
      rw [hb] at h
      refine ⟨n + 1, o1, hb, ?_⟩
      show KP T G (.pc (.loop b) :: k) o1 Q
      rw [← KP.on]
      cases o1 with
      | nrm s' =>
        refine ⟨n + 1, o, ?_, hq⟩
        simp only [exec]
        exact iter_mono (fun _ _ h => h) (Nat.le_succ n) h
      | ext i s' => cases h; exact hq
      | ret s' => cases h; exact hq
theorem exR.nil {id} : exR T G id [] s Q = Q (.ext id s) := rfl
theorem exR.pc {id p} : exR T G id (.pc p :: k) s Q = exR T G id k s Q := rfl
theorem exR.blk {id i} : exR T G id (.blk i :: k) s Q = if id = i then R T G [] k s Q else exR T G id k s Q := by
  simp only [exR, KP, R, WS.nil]
theorem condR.t {a b} : condR T G (.v (.bool true)) a b k s Q = R T G [] (.pc a :: k) s Q := by simp only [condR, condP_bool, if_true]
theorem condR.f {a b} : condR T G (.v (.bool false)) a b k s Q = R T G [] (.pc b :: k) s Q := by simp only [condR, condP_bool, Bool.false_eq_true, if_false]
theorem condR.ite {x : Bool} {a b} : condR T G (.v (.bool x)) a b k s Q = if x = true then R T G [] (.pc a :: k) s Q else R T G [] (.pc b :: k) s Q := by simp only [condR, condP_bool]

theorem R.pure {kk : PK} {rs : List Src} {d : Nat} (hh : kk.pureK = true) :
    R T G (⟨kk, rs, some d, none, none⟩ :: l) k ⟨regs, e⟩ Q = opR T G (evalP kk (regs.getD d .un) (rs.map (src G fun t => regs.getD t .un))) d l k regs e Q := by
  unfold R opR
  rw [WS.cons]
  cases kk <;> first | exact W1.p rfl rfl | cases hh
theorem R.ldL {n : Nat} {agg : Bool} {x : Src} {d r : Nat} :
    R T G (⟨.ldL n agg, [x], some d, some r, none⟩ :: l) k ⟨regs, e⟩ Q = opR T G (evalL (src G (fun t => regs.getD t .un) x) (regs.getD r .un) r n agg) d l k regs e Q := by
  simp only [R, WS.cons, W1.ldL, opR]
theorem R.stL {n : Nat} {p x : Src} {d : Option Nat} {r : Nat} :
    R T G (⟨.stL n, [p, x], d, some r, none⟩ :: l) k ⟨regs, e⟩ Q = opR T G (evalW (src G (fun t => regs.getD t .un) p) (src G (fun t => regs.getD t .un) x) (regs.getD r .un) r n) r l k regs e Q := by
  simp only [R, WS.cons, W1.stL, opR]
theorem R.call {f : Nat} {rs : List Src} {d : Option Nat} :
    R T G (⟨.callF f, rs, d, none, none⟩ :: l) k ⟨regs, ⟨sh, lv, tk⟩⟩ Q = clR T G (clrAll (rs.map (src G fun t => regs.getD t .un))) f d l k regs sh lv tk Q := by
  simp only [R, WS.cons, W1.call, clR]
theorem R.callI {f : Nat} {rs : List Src} {d : Option Nat} :
    R T G (⟨.callI f, rs, d, none, none⟩ :: l) k ⟨regs, ⟨sh, lv, tk⟩⟩ Q = ciR T G (clrAll (rs.map (src G fun t => regs.getD t .un))) f d l k regs sh lv tk Q := by
  simp only [R, WS.cons, W1.callI, ciR]
theorem R.callV {x : Src} {rs : List Src} {d : Option Nat} :
    R T G (⟨.callV, x :: rs, d, none, none⟩ :: l) k ⟨regs, ⟨sh, lv, tk⟩⟩ Q = cvR T G (src G (fun t => regs.getD t .un) x) (clrAll (rs.map (src G fun t => regs.getD t .un))) d l k regs sh lv tk Q := by
  unfold R cvR
  rw [WS.cons]
  cases hx : src G (fun t => regs.getD t .un) x with
  | fn f caps =>
    rw [W1.callV hx]
    simp only [clR, R]
    cases clrAll (rs.map (src G fun t => regs.getD t .un)) <;> rfl
  | _ =>
    apply propext
    refine ⟨fun h => ?_, fun h => h.elim⟩
    obtain ⟨n, s', hs, _⟩ := h
    simp only [step, wantedP, act, PK.eff, if_true, evalE, List.map, hx] at hs
    cases hs
theorem cvR.fn {f caps ys d} : cvR T G (.fn f caps) (some ys) d l k regs sh lv tk Q = clR T G (some (ys ++ caps)) f d l k regs sh lv tk Q := rfl
theorem R.ef {kk : PK} {rs : List Src} {d : Option Nat} (hh : kk.effK = true) :
    R T G (⟨kk, rs, d, none, none⟩ :: l) k ⟨regs, e⟩ Q = efR T G (evalE noCall kk (rs.map (src G fun t => regs.getD t .un)) e) d l k regs Q := by
  unfold R efR
  rw [WS.cons]
  cases kk <;> first | exact W1.e rfl rfl | cases hh
theorem R.p_mv {rs : List Src} {d : Nat} : R T G (⟨.mv, rs, some d, none, none⟩ :: l) k ⟨regs, e⟩ Q = opR T G (evalP .mv (regs.getD d .un) (rs.map (src G fun t => regs.getD t .un))) d l k regs e Q := R.pure rfl
theorem R.p_pick {rs : List Src} {d : Nat} : R T G (⟨.pick, rs, some d, none, none⟩ :: l) k ⟨regs, e⟩ Q = opR T G (evalP .pick (regs.getD d .un) (rs.map (src G fun t => regs.getD t .un))) d l k regs e Q := R.pure rfl
theorem R.p_alloc {rs : List Src} {d : Nat} {z} : R T G (⟨(.alloc z), rs, some d, none, none⟩ :: l) k ⟨regs, e⟩ Q = opR T G (evalP (.alloc z) (regs.getD d .un) (rs.map (src G fun t => regs.getD t .un))) d l k regs e Q := R.pure rfl
theorem R.p_appB {rs : List Src} {d : Nat} {z} : R T G (⟨(.appB z), rs, some d, none, none⟩ :: l) k ⟨regs, e⟩ Q = opR T G (evalP (.appB z) (regs.getD d .un) (rs.map (src G fun t => regs.getD t .un))) d l k regs e Q := R.pure rfl
theorem R.p_box {rs : List Src} {d : Nat} : R T G (⟨.box, rs, some d, none, none⟩ :: l) k ⟨regs, e⟩ Q = opR T G (evalP .box (regs.getD d .un) (rs.map (src G fun t => regs.getD t .un))) d l k regs e Q := R.pure rfl
theorem R.p_build {rs : List Src} {d : Nat} {z p} : R T G (⟨(.build z p), rs, some d, none, none⟩ :: l) k ⟨regs, e⟩ Q = opR T G (evalP (.build z p) (regs.getD d .un) (rs.map (src G fun t => regs.getD t .un))) d l k regs e Q := R.pure rfl
theorem R.p_bslice {rs : List Src} {d : Nat} {z a b p} : R T G (⟨(.bslice z a b p), rs, some d, none, none⟩ :: l) k ⟨regs, e⟩ Q = opR T G (evalP (.bslice z a b p) (regs.getD d .un) (rs.map (src G fun t => regs.getD t .un))) d l k regs e Q := R.pure rfl
theorem R.p_ldE {rs : List Src} {d : Nat} {n a} : R T G (⟨(.ldE n a), rs, some d, none, none⟩ :: l) k ⟨regs, e⟩ Q = opR T G (evalP (.ldE n a) (regs.getD d .un) (rs.map (src G fun t => regs.getD t .un))) d l k regs e Q := R.pure rfl
theorem R.p_nilck {rs : List Src} {d : Nat} : R T G (⟨.nilck, rs, some d, none, none⟩ :: l) k ⟨regs, e⟩ Q = opR T G (evalP .nilck (regs.getD d .un) (rs.map (src G fun t => regs.getD t .un))) d l k regs e Q := R.pure rfl
theorem R.p_bin {rs : List Src} {d : Nat} {o} : R T G (⟨(.bin o), rs, some d, none, none⟩ :: l) k ⟨regs, e⟩ Q = opR T G (evalP (.bin o) (regs.getD d .un) (rs.map (src G fun t => regs.getD t .un))) d l k regs e Q := R.pure rfl
theorem R.p_binB {rs : List Src} {d : Nat} {o} : R T G (⟨(.binB o), rs, some d, none, none⟩ :: l) k ⟨regs, e⟩ Q = opR T G (evalP (.binB o) (regs.getD d .un) (rs.map (src G fun t => regs.getD t .un))) d l k regs e Q := R.pure rfl
theorem R.p_uno {rs : List Src} {d : Nat} {o} : R T G (⟨(.uno o), rs, some d, none, none⟩ :: l) k ⟨regs, e⟩ Q = opR T G (evalP (.uno o) (regs.getD d .un) (rs.map (src G fun t => regs.getD t .un))) d l k regs e Q := R.pure rfl
theorem R.p_fld {rs : List Src} {d : Nat} {a b c} : R T G (⟨(.fld a b c), rs, some d, none, none⟩ :: l) k ⟨regs, e⟩ Q = opR T G (evalP (.fld a b c) (regs.getD d .un) (rs.map (src G fun t => regs.getD t .un))) d l k regs e Q := R.pure rfl
theorem R.p_fa {rs : List Src} {d : Nat} {a} : R T G (⟨(.fa a), rs, some d, none, none⟩ :: l) k ⟨regs, e⟩ Q = opR T G (evalP (.fa a) (regs.getD d .un) (rs.map (src G fun t => regs.getD t .un))) d l k regs e Q := R.pure rfl
theorem R.p_ia {rs : List Src} {d : Nat} {a} : R T G (⟨(.ia a), rs, some d, none, none⟩ :: l) k ⟨regs, e⟩ Q = opR T G (evalP (.ia a) (regs.getD d .un) (rs.map (src G fun t => regs.getD t .un))) d l k regs e Q := R.pure rfl
theorem R.p_iaA {rs : List Src} {d : Nat} {a b} : R T G (⟨(.iaA a b), rs, some d, none, none⟩ :: l) k ⟨regs, e⟩ Q = opR T G (evalP (.iaA a b) (regs.getD d .un) (rs.map (src G fun t => regs.getD t .un))) d l k regs e Q := R.pure rfl
theorem R.p_ext {rs : List Src} {d : Nat} {a} : R T G (⟨(.ext a), rs, some d, none, none⟩ :: l) k ⟨regs, e⟩ Q = opR T G (evalP (.ext a) (regs.getD d .un) (rs.map (src G fun t => regs.getD t .un))) d l k regs e Q := R.pure rfl
theorem R.p_len {rs : List Src} {d : Nat} : R T G (⟨.len, rs, some d, none, none⟩ :: l) k ⟨regs, e⟩ Q = opR T G (evalP .len (regs.getD d .un) (rs.map (src G fun t => regs.getD t .un))) d l k regs e Q := R.pure rfl
theorem R.p_maxi {rs : List Src} {d : Nat} {a} : R T G (⟨(.maxi a), rs, some d, none, none⟩ :: l) k ⟨regs, e⟩ Q = opR T G (evalP (.maxi a) (regs.getD d .un) (rs.map (src G fun t => regs.getD t .un))) d l k regs e Q := R.pure rfl
theorem R.p_slc {rs : List Src} {d : Nat} {a b c z} : R T G (⟨(.slc a b c z), rs, some d, none, none⟩ :: l) k ⟨regs, e⟩ Q = opR T G (evalP (.slc a b c z) (regs.getD d .un) (rs.map (src G fun t => regs.getD t .un))) d l k regs e Q := R.pure rfl
theorem R.p_mkfn {rs : List Src} {d : Nat} {f} : R T G (⟨(.mkfn f), rs, some d, none, none⟩ :: l) k ⟨regs, e⟩ Q = opR T G (evalP (.mkfn f) (regs.getD d .un) (rs.map (src G fun t => regs.getD t .un))) d l k regs e Q := R.pure rfl
theorem R.p_fnil {rs : List Src} {d : Nat} {f} : R T G (⟨(.fnil f), rs, some d, none, none⟩ :: l) k ⟨regs, e⟩ Q = opR T G (evalP (.fnil f) (regs.getD d .un) (rs.map (src G fun t => regs.getD t .un))) d l k regs e Q := R.pure rfl
theorem R.p_mkifc {rs : List Src} {d : Nat} {f} : R T G (⟨(.mkifc f), rs, some d, none, none⟩ :: l) k ⟨regs, e⟩ Q = opR T G (evalP (.mkifc f) (regs.getD d .un) (rs.map (src G fun t => regs.getD t .un))) d l k regs e Q := R.pure rfl
theorem R.p_tass {rs : List Src} {d : Nat} {f z} : R T G (⟨(.tass f z), rs, some d, none, none⟩ :: l) k ⟨regs, e⟩ Q = opR T G (evalP (.tass f z) (regs.getD d .un) (rs.map (src G fun t => regs.getD t .un))) d l k regs e Q := R.pure rfl
theorem R.p_conv {rs : List Src} {d : Nat} {kk} : R T G (⟨(.conv kk), rs, some d, none, none⟩ :: l) k ⟨regs, e⟩ Q = opR T G (evalP (.conv kk) (regs.getD d .un) (rs.map (src G fun t => regs.getD t .un))) d l k regs e Q := R.pure rfl
theorem R.e_ldS {rs : List Src} {d : Option Nat} {n a} : R T G (⟨(.ldS n a), rs, d, none, none⟩ :: l) k ⟨regs, e⟩ Q = efR T G (evalE noCall (.ldS n a) (rs.map (src G fun t => regs.getD t .un)) e) d l k regs Q := R.ef rfl
theorem R.e_app {rs : List Src} {d : Option Nat} {z} : R T G (⟨(.app z), rs, d, none, none⟩ :: l) k ⟨regs, e⟩ Q = efR T G (evalE noCall (.app z) (rs.map (src G fun t => regs.getD t .un)) e) d l k regs Q := R.ef rfl
theorem R.e_allocS {rs : List Src} {d : Option Nat} {z} : R T G (⟨(.allocS z), rs, d, none, none⟩ :: l) k ⟨regs, e⟩ Q = efR T G (evalE noCall (.allocS z) (rs.map (src G fun t => regs.getD t .un)) e) d l k regs Q := R.ef rfl
theorem R.e_boxS {rs : List Src} {d : Option Nat} : R T G (⟨.boxS, rs, d, none, none⟩ :: l) k ⟨regs, e⟩ Q = efR T G (evalE noCall .boxS (rs.map (src G fun t => regs.getD t .un)) e) d l k regs Q := R.ef rfl
theorem R.e_stS {rs : List Src} {d : Option Nat} {n} : R T G (⟨(.stS n), rs, d, none, none⟩ :: l) k ⟨regs, e⟩ Q = efR T G (evalE noCall (.stS n) (rs.map (src G fun t => regs.getD t .un)) e) d l k regs Q := R.ef rfl
theorem R.e_mkmap {rs : List Src} {d : Option Nat} : R T G (⟨.mkmap, rs, d, none, none⟩ :: l) k ⟨regs, e⟩ Q = efR T G (evalE noCall .mkmap (rs.map (src G fun t => regs.getD t .un)) e) d l k regs Q := R.ef rfl
theorem R.e_mset {rs : List Src} {d : Option Nat} : R T G (⟨.mset, rs, d, none, none⟩ :: l) k ⟨regs, e⟩ Q = efR T G (evalE noCall .mset (rs.map (src G fun t => regs.getD t .un)) e) d l k regs Q := R.ef rfl
theorem R.e_mget {rs : List Src} {d : Option Nat} {z o} : R T G (⟨(.mget z o), rs, d, none, none⟩ :: l) k ⟨regs, e⟩ Q = efR T G (evalE noCall (.mget z o) (rs.map (src G fun t => regs.getD t .un)) e) d l k regs Q := R.ef rfl
theorem R.e_mlen {rs : List Src} {d : Option Nat} : R T G (⟨.mlen, rs, d, none, none⟩ :: l) k ⟨regs, e⟩ Q = efR T G (evalE noCall .mlen (rs.map (src G fun t => regs.getD t .un)) e) d l k regs Q := R.ef rfl
theorem R.g {kk : PK} {rs : List Src} {d r : Option Nat} {j : Nat} {b : Bool} :
    R T G (⟨kk, rs, d, r, some (j, b)⟩ :: l) k ⟨regs, e⟩ Q = gR T G (regs.getD j .un) b ⟨kk, rs, d, r, none⟩ l k ⟨regs, e⟩ Q := by
  simp only [R, WS.cons, W1.g, gR]
theorem gR.t {i : PI} {b : Bool} : gR T G (.v (.bool b)) b i l k s Q = R T G (i :: l) k s Q := by simp [gR, gP_bool]
theorem gR.tf {i : PI} : gR T G (.v (.bool true)) false i l k ⟨regs, e⟩ Q = if i.k.boxes then False else R T G l k ⟨putD regs i.d .ud, e⟩ Q := by simp [gR, gP_bool]
theorem gR.ft {i : PI} : gR T G (.v (.bool false)) true i l k ⟨regs, e⟩ Q = if i.k.boxes then False else R T G l k ⟨putD regs i.d .ud, e⟩ Q := by simp [gR, gP_bool]
theorem gR.ud {i : PI} {b : Bool} : gR T G .ud b i l k ⟨regs, e⟩ Q = if i.k.boxes then False else R T G l k ⟨putD regs i.d .ud, e⟩ Q := by simp [gR, gP_ud]
theorem gR.ite {i : PI} {x b : Bool} : gR T G (.v (.bool x)) b i l k ⟨regs, e⟩ Q = if x = b then R T G (i :: l) k ⟨regs, e⟩ Q else if i.k.boxes then False else R T G l k ⟨putD regs i.d .ud, e⟩ Q := by simp [gR, gP_bool]
theorem opR.sm {x d} : opR T G (some x) d l k regs e Q = R T G l k ⟨regs.set d x, e⟩ Q := rfl
theorem efR.sm {x e d} : efR T G (some (x, e)) d l k regs Q = R T G l k ⟨putD regs d x, e⟩ Q := rfl
theorem opR.no {d} : opR T G none d l k regs e Q = False := rfl
theorem efR.no {d} : efR T G none d l k regs Q = False := rfl
theorem clR.eq {f ys r sh' d} (h : ∃ n, callN T G n f ys sh = some (r, sh')) : clR T G (some ys) f d l k regs sh lv tk Q = R T G l k ⟨putD regs d r, ⟨sh', lv, tk⟩⟩ Q := by
  simp only [clR, obind]
  exact Runs.eq h _
theorem clR.use {f : Nat} {ys : List PV} {r : PV} {sh sh' : Sh} (h : ∃ n, callN T G n f ys sh = some (r, sh')) (l : List PI) (k : List Fr) (regs : List PV) (lv : Nat → Bool) (tk : Nat) (Q : Out → Prop) (d : Option Nat) :
    clR T G (some ys) f d l k regs sh lv tk Q = R T G l k ⟨putD regs d r, ⟨sh', lv, tk⟩⟩ Q := clR.eq h
theorem ciR.use {f : Nat} {ys : List PV} {r : PV} {nx nx' : Nat} (h : ∃ n, callN T G n f ys ⟨[], nx⟩ = some (r, ⟨[], nx'⟩)) (h1 : npR ys = true) (h2 : np r = true) (h3 : nx ≤ nx') (bx : List (Nat × List PV)) (l : List PI) (k : List Fr) (regs : List PV) (lv : Nat → Bool) (tk : Nat) (Q : Out → Prop) (d : Option Nat) :
    ciR T G (some ys) f d l k regs ⟨bx, nx⟩ lv tk Q = R T G l k ⟨putD regs d r, ⟨⟨bx, nx'⟩, lv, tk⟩⟩ Q := by
  apply propext
  simp only [ciR, obind]
  have e := Runs.eq (T := T) (G := G) h fun r sh' => sh'.boxes = [] ∧ np r = true ∧ nx ≤ sh'.nx ∧ R T G l k ⟨putD regs d r, ⟨⟨bx, sh'.nx⟩, lv, tk⟩⟩ Q
  rw [e]
  exact ⟨fun q => q.2.2.2.2, fun q => ⟨h1, rfl, h2, h3, q⟩⟩
theorem clR.of {f ys d} {P : PV → Sh → Prop} (h : Runs T G f ys sh P) (hp : ∀ r sh', P r sh' → R T G l k ⟨putD regs d r, ⟨sh', lv, tk⟩⟩ Q) : clR T G (some ys) f d l k regs sh lv tk Q :=
  h.mono hp
theorem FQ.nrm {res drop n} {Q : PV → Sh → Prop} : FQ res drop n Q (.nrm ⟨regs, ⟨sh, lv, tk⟩⟩) = reR (resAll regs res) drop n sh Q := rfl
theorem FQ.ret {res drop n} {Q : PV → Sh → Prop} : FQ res drop n Q (.ret ⟨regs, ⟨sh, lv, tk⟩⟩) = reR (resAll regs res) drop n sh Q := rfl
theorem reR.sm {l n} {Q : PV → Sh → Prop} : reR (some l) false n sh Q = Q (resPV l) sh := rfl
theorem reR.drop {l n} {Q : PV → Sh → Prop} : reR (some l) true n sh Q = Q (resPV l) ⟨sh.boxes.drop (sh.boxes.length - n), sh.nx⟩ := rfl

theorem e_appG {c sz z t t' z' rows rows' sh lv tk} (h : Tok lv tk t) (hs : t = 1 → z = sz ∨ rows = []) (h2 : t ≠ 1 → z = sz) :
    evalE c (.app sz) [.sl t z rows, .sl t' z' rows'] ⟨sh, lv, tk⟩ = if rows.length + rows'.length ≤ appMax ∧ (z' = sz ∨ rows' = []) then some (.sl tk sz (rows ++ rows'), ⟨sh, lvApp lv tk t, tk + 1⟩) else none := by
  have h1 : appOk lv t z sz rows z' rows' = decide (rows.length + rows'.length ≤ appMax ∧ (z' = sz ∨ rows' = [])) := by
    unfold appOk
    have e1 : (if t = 1 then decide (z = sz) || rows.isEmpty else decide (2 ≤ t) && lv t && decide (z = sz)) = true := by
      rcases h with rfl | ⟨h1, _, h3⟩
      · rcases hs rfl with h | h <;> simp [h]
      · rw [if_neg (by omega)]
        simp [h1, h3, h2 (by omega)]
    rw [e1, Bool.true_and, Bool.eq_iff_iff]
    simp [and_comm]
  simp only [evalE, h1]
  by_cases h3 : rows.length + rows'.length ≤ appMax ∧ (z' = sz ∨ rows' = [])
  · rw [if_pos h3, decide_eq_true h3]; rfl
  · rw [if_neg h3, decide_eq_false h3]; rfl
theorem e_app0 {c sz z t' z' rows' sh lv tk} :
    evalE c (.app sz) [.sl 1 z [], .sl t' z' rows'] ⟨sh, lv, tk⟩ = if rows'.length ≤ appMax ∧ (z' = sz ∨ rows' = []) then some (.sl tk sz rows', ⟨sh, lvApp lv tk 1, tk + 1⟩) else none := by
  rw [e_appG .one (fun _ => .inr rfl) (fun h => (h rfl).elim)]
  simp
theorem e_appT {c sz t rows t' z' rows' sh lv tk} (h : Tok lv tk t) :
    evalE c (.app sz) [.sl t sz rows, .sl t' z' rows'] ⟨sh, lv, tk⟩ = if rows.length + rows'.length ≤ appMax ∧ (z' = sz ∨ rows' = []) then some (.sl tk sz (rows ++ rows'), ⟨sh, lvApp lv tk t, tk + 1⟩) else none :=
  e_appG h (fun _ => .inl rfl) (fun _ => rfl)
theorem tok1 {lv tk} : Tok lv tk 1 = True := eq_true .one
theorem tokA {lv tk t} (h : 2 ≤ tk) : Tok (lvApp lv tk t) (tk + 1) tk = True := eq_true (.app h)
theorem sl_lo {t z k a} {rows : List (List PV)} : sliceOf (.sl t z rows) (some (.v (.int k a))) none none z = if 0 ≤ a ∧ a ≤ (rows.length : Int) then some (.sl 0 z (rows.drop a.toNat)) else none := by
  simp only [sliceOf, bnd, decide_true, Bool.true_or, if_true]
  by_cases h : 0 ≤ a ∧ a ≤ (rows.length : Int)
  · rw [if_pos ⟨h.1, h.2, Int.le_refl _⟩, if_pos h, List.take_of_length_le]
    rw [List.length_drop]
    omega
  · rw [if_neg (fun h' => h ⟨h'.1, h'.2.1⟩), if_neg h]
theorem sl_hi {t z k a} {rows : List (List PV)} : sliceOf (.sl t z rows) none (some (.v (.int k a))) none z = if 0 ≤ a ∧ a ≤ (rows.length : Int) then some (.sl 0 z (rows.take a.toNat)) else none := by
  simp only [sliceOf, bnd, decide_true, Bool.true_or, if_true]
  by_cases h : 0 ≤ a ∧ a ≤ (rows.length : Int)
  · rw [if_pos ⟨Int.le_refl _, h.1, h.2⟩, if_pos h]
    simp
  · rw [if_neg (fun h' => h ⟨h'.2.1, h'.2.2⟩), if_neg h]
theorem sl_full {t z z' k k' a} {rows : List (List PV)} (hz : z = z' ∨ rows = []) (ha : a = (rows.length : Int)) : sliceOf (.sl t z rows) none (some (.v (.int k a))) (some (.v (.int k' a))) z' = some (.sl 1 z' rows) := by
  have h1 : (decide (z = z') || rows.isEmpty) = true := by rcases hz with h | h <;> simp [h]
  subst ha
  simp only [sliceOf, bnd, h1, if_true]
  rw [if_pos ⟨Int.le_refl _, by omega, Int.le_refl _⟩]
  simp
theorem run_of {f : Nat} {pf : PF} (hT : T f = some pf) {args : List PV} {Q} (h : R T G [] [.pc pf.body] (startSt pf.nt args sh) (FQ pf.res pf.drop sh.boxes.length Q)) : Runs T G f args sh Q := by
  rw [runs_of hT]
  unfold R at h
  rw [WS.nil] at h
  refine WP.mono h fun o ho => ?_
  cases o with
  | nrm s => exact ho
  | ret s => exact ho
  | ext i s => exact ho.elim
theorem run_eq {f : Nat} {args : List PV} {r sh'} (h : Runs T G f args sh fun r' s' => r' = r ∧ s' = sh') : ∃ n, callN T G n f args sh = some (r, sh') := by
  obtain ⟨n, r', s', h, rfl, rfl⟩ := h
  exact ⟨n, h⟩
end
end Go.Pi

/- The rules that run the code, in groups: a group is a conjunction, so that one name brings all its rules. -/
namespace Go.Pi
open Go
open PV (genOf asSrc clrC clrs clr clrAll cellsT cells0)
theorem wp0 : type_of% (And.intro @R.nil (And.intro @R.blk (And.intro @R.skip (And.intro @R.ops (And.intro @R.seq (And.intro @R.block (And.intro @R.cond (And.intro @R.exit (And.intro @R.ret (And.intro @exR.nil (And.intro @exR.pc (And.intro @exR.blk (And.intro @condR.t (And.intro @condR.f (And.intro @R.ldL (And.intro @R.stL (And.intro @R.call (And.intro @R.callI (And.intro @R.callV (And.intro @cvR.fn (And.intro @R.p_mv (And.intro @R.p_pick (And.intro @R.p_alloc (And.intro @R.p_box (And.intro @R.p_appB (And.intro @R.p_build (And.intro @R.p_bslice (And.intro @R.p_ldE (And.intro @R.p_nilck (And.intro @R.p_bin (And.intro @R.p_binB (And.intro @R.p_uno (And.intro @R.p_fld (And.intro @R.p_fa (And.intro @R.p_ia (And.intro @R.p_iaA (And.intro @R.p_ext (And.intro @R.p_len (And.intro @R.p_maxi (And.intro @R.p_slc (And.intro @R.p_mkfn (And.intro @R.p_mkifc (And.intro @R.p_tass (And.intro @R.p_fnil (And.intro @R.p_conv (And.intro @R.e_ldS (And.intro @R.e_app (And.intro @R.e_allocS (And.intro @R.e_boxS (And.intro @R.e_stS (And.intro @R.e_mkmap (And.intro @R.e_mset (And.intro @R.e_mget (And.intro @R.e_mlen (And.intro @R.g (And.intro @gR.t (And.intro @gR.tf (And.intro @gR.ft (And.intro @gR.ud (@opR.sm)))))))))))))))))))))))))))))))))))))))))))))))))))))))))))) := And.intro @R.nil (And.intro @R.blk (And.intro @R.skip (And.intro @R.ops (And.intro @R.seq (And.intro @R.block (And.intro @R.cond (And.intro @R.exit (And.intro @R.ret (And.intro @exR.nil (And.intro @exR.pc (And.intro @exR.blk (And.intro @condR.t (And.intro @condR.f (And.intro @R.ldL (And.intro @R.stL (And.intro @R.call (And.intro @R.callI (And.intro @R.callV (And.intro @cvR.fn (And.intro @R.p_mv (And.intro @R.p_pick (And.intro @R.p_alloc (And.intro @R.p_box (And.intro @R.p_appB (And.intro @R.p_build (And.intro @R.p_bslice (And.intro @R.p_ldE (And.intro @R.p_nilck (And.intro @R.p_bin (And.intro @R.p_binB (And.intro @R.p_uno (And.intro @R.p_fld (And.intro @R.p_fa (And.intro @R.p_ia (And.intro @R.p_iaA (And.intro @R.p_ext (And.intro @R.p_len (And.intro @R.p_maxi (And.intro @R.p_slc (And.intro @R.p_mkfn (And.intro @R.p_mkifc (And.intro @R.p_tass (And.intro @R.p_fnil (And.intro @R.p_conv (And.intro @R.e_ldS (And.intro @R.e_app (And.intro @R.e_allocS (And.intro @R.e_boxS (And.intro @R.e_stS (And.intro @R.e_mkmap (And.intro @R.e_mset (And.intro @R.e_mget (And.intro @R.e_mlen (And.intro @R.g (And.intro @gR.t (And.intro @gR.tf (And.intro @gR.ft (And.intro @gR.ud (@opR.sm)))))))))))))))))))))))))))))))))))))))))))))))))))))))))))
theorem wp1 : type_of% (And.intro @efR.sm (And.intro @opR.no (And.intro @efR.no (And.intro @FQ.nrm (And.intro @FQ.ret (And.intro @reR.sm (And.intro @reR.drop (And.intro @bk_mv (And.intro @bk_pick (And.intro @bk_alloc (And.intro @bk_box (And.intro @bk_appB (And.intro @bk_build (And.intro @bk_bslice (And.intro @bk_ldE (And.intro @bk_nilck (And.intro @bk_bin (And.intro @bk_binB (And.intro @bk_uno (And.intro @bk_fld (And.intro @bk_fa (And.intro @bk_ia (And.intro @bk_iaA (And.intro @bk_ext (And.intro @bk_len (And.intro @bk_maxi (And.intro @bk_slc (And.intro @bk_mkfn (And.intro @bk_mkifc (And.intro @bk_tass (And.intro @bk_fnil (And.intro @bk_conv (And.intro @bk_ldS (And.intro @bk_app (And.intro @bk_allocS (And.intro @bk_boxS (And.intro @bk_stS (And.intro @bk_mkmap (And.intro @bk_mset (And.intro @bk_mget (And.intro @bk_mlen (And.intro @bk_ldL (And.intro @bk_stL (And.intro @bk_callF (And.intro @bk_callI (And.intro @bk_callV (And.intro @src_s (And.intro @src_c (And.intro @src_g (And.intro @putD_n (And.intro @putD_s (And.intro @asSrc_v (And.intro @asSrc_sl (And.intro @asSrc_ag (And.intro @asSrc_tup (And.intro @asSrc_bx (And.intro @asSrc_lp (And.intro @asSrc_ep (And.intro @asSrc_sp (@asSrc_fn)))))))))))))))))))))))))))))))))))))))))))))))))))))))))))) := And.intro @efR.sm (And.intro @opR.no (And.intro @efR.no (And.intro @FQ.nrm (And.intro @FQ.ret (And.intro @reR.sm (And.intro @reR.drop (And.intro @bk_mv (And.intro @bk_pick (And.intro @bk_alloc (And.intro @bk_box (And.intro @bk_appB (And.intro @bk_build (And.intro @bk_bslice (And.intro @bk_ldE (And.intro @bk_nilck (And.intro @bk_bin (And.intro @bk_binB (And.intro @bk_uno (And.intro @bk_fld (And.intro @bk_fa (And.intro @bk_ia (And.intro @bk_iaA (And.intro @bk_ext (And.intro @bk_len (And.intro @bk_maxi (And.intro @bk_slc (And.intro @bk_mkfn (And.intro @bk_mkifc (And.intro @bk_tass (And.intro @bk_fnil (And.intro @bk_conv (And.intro @bk_ldS (And.intro @bk_app (And.intro @bk_allocS (And.intro @bk_boxS (And.intro @bk_stS (And.intro @bk_mkmap (And.intro @bk_mset (And.intro @bk_mget (And.intro @bk_mlen (And.intro @bk_ldL (And.intro @bk_stL (And.intro @bk_callF (And.intro @bk_callI (And.intro @bk_callV (And.intro @src_s (And.intro @src_c (And.intro @src_g (And.intro @putD_n (And.intro @putD_s (And.intro @asSrc_v (And.intro @asSrc_sl (And.intro @asSrc_ag (And.intro @asSrc_tup (And.intro @asSrc_bx (And.intro @asSrc_lp (And.intro @asSrc_ep (And.intro @asSrc_sp (@asSrc_fn)))))))))))))))))))))))))))))))))))))))))))))))))))))))))))
theorem wp2 : type_of% (And.intro @asSrc_bs (And.intro @asSrc_ls (And.intro @asSrc_mp (And.intro @asSrc_ifc (And.intro @asSrc_ud (And.intro @genOf_bs (And.intro @genOf_bx (And.intro @genOf_un (And.intro @ev_mv_v (And.intro @ev_mv_sl (And.intro @ev_mv_ag (And.intro @ev_mv_tup (And.intro @ev_mv_lp (And.intro @ev_mv_ep (And.intro @ev_mv_sp (And.intro @ev_mv_fn (And.intro @ev_mv_ls (And.intro @ev_mv_mp (And.intro @ev_mv_ifc (And.intro @ev_ia_ls (And.intro @ev_len_ls (And.intro @ev_appB (And.intro @evL_bs (And.intro @evW_bs (And.intro @frz_v (And.intro @frz_sl (And.intro @frz_sp (And.intro @frz_fn (And.intro @frz_mp (And.intro @frz_ifc (And.intro @frz_ag (And.intro @frzC_ls (And.intro @frz_ls (And.intro @frzs_nil (And.intro @frzs_v (And.intro @frzs_sl (And.intro @frzs_sp (And.intro @frzs_fn (And.intro @frzs_ifc (And.intro @frzs_ls (And.intro @ev_pick (And.intro @ev_alloc (And.intro @ev_box_v (And.intro @ev_box_ag (And.intro @ev_box_sl (And.intro @ev_box_sp (And.intro @ev_box_fn (And.intro @ev_build (And.intro @ev_bslice (And.intro @ev_ldE (And.intro @ev_nil_lp (And.intro @ev_nil_ep (And.intro @ev_nil_sp (And.intro @ev_nil_fn (And.intro @ev_add (And.intro @ev_sub (And.intro @ev_mul (And.intro @ev_quo (And.intro @ev_rem (@ev_eql)))))))))))))))))))))))))))))))))))))))))))))))))))))))))))) := And.intro @asSrc_bs (And.intro @asSrc_ls (And.intro @asSrc_mp (And.intro @asSrc_ifc (And.intro @asSrc_ud (And.intro @genOf_bs (And.intro @genOf_bx (And.intro @genOf_un (And.intro @ev_mv_v (And.intro @ev_mv_sl (And.intro @ev_mv_ag (And.intro @ev_mv_tup (And.intro @ev_mv_lp (And.intro @ev_mv_ep (And.intro @ev_mv_sp (And.intro @ev_mv_fn (And.intro @ev_mv_ls (And.intro @ev_mv_mp (And.intro @ev_mv_ifc (And.intro @ev_ia_ls (And.intro @ev_len_ls (And.intro @ev_appB (And.intro @evL_bs (And.intro @evW_bs (And.intro @frz_v (And.intro @frz_sl (And.intro @frz_sp (And.intro @frz_fn (And.intro @frz_mp (And.intro @frz_ifc (And.intro @frz_ag (And.intro @frzC_ls (And.intro @frz_ls (And.intro @frzs_nil (And.intro @frzs_v (And.intro @frzs_sl (And.intro @frzs_sp (And.intro @frzs_fn (And.intro @frzs_ifc (And.intro @frzs_ls (And.intro @ev_pick (And.intro @ev_alloc (And.intro @ev_box_v (And.intro @ev_box_ag (And.intro @ev_box_sl (And.intro @ev_box_sp (And.intro @ev_box_fn (And.intro @ev_build (And.intro @ev_bslice (And.intro @ev_ldE (And.intro @ev_nil_lp (And.intro @ev_nil_ep (And.intro @ev_nil_sp (And.intro @ev_nil_fn (And.intro @ev_add (And.intro @ev_sub (And.intro @ev_mul (And.intro @ev_quo (And.intro @ev_rem (@ev_eql)))))))))))))))))))))))))))))))))))))))))))))))))))))))))))
theorem wp3 : type_of% (And.intro @ev_neq (And.intro @ev_lss (And.intro @ev_leq (And.intro @ev_gtr (And.intro @ev_geq (And.intro @ev_beql (And.intro @ev_bneq (And.intro @ev_not (And.intro @ev_neg (And.intro @ev_fld (And.intro @ev_fa_lp (And.intro @ev_fa_ep (And.intro @ev_fa_sp (And.intro @ev_ia (And.intro @ev_iaA_ep (And.intro @ev_iaA_lp (And.intro @ev_iaA_sp (And.intro @ev_ext (And.intro @ev_len (And.intro @ev_conv (And.intro @ev_mkfn (And.intro @ev_mkifc (And.intro @ev_tass (And.intro @ev_fnil0 (And.intro @ev_fnil1 (And.intro @ev_fnil2 (And.intro @ev_slc (And.intro @ev_max (And.intro @ev_min (And.intro @evL (And.intro @evW (And.intro @pull_t (And.intro @pull_f (And.intro @sl_lo (And.intro @sl_hi (And.intro @cut1 (And.intro @cutA (And.intro @cells0_v (And.intro @cells0_sl (And.intro @cells0_sp (And.intro @cells0_fn (And.intro @cells0_mp (And.intro @cells0_ifc (And.intro @cells0_ag (And.intro @clrs_nil (And.intro @clrs_v (And.intro @clrs_sl (And.intro @clrs_sp (And.intro @clrs_fn (And.intro @clrs_mp (And.intro @clrs_ifc (And.intro @clrAll_nil (And.intro @clrAll_cons (And.intro @clr_v (And.intro @clr_sl (And.intro @clr_sp (And.intro @clr_fn (And.intro @clr_mp (And.intro @clr_ifc (@clr_ag)))))))))))))))))))))))))))))))))))))))))))))))))))))))))))) := And.intro @ev_neq (And.intro @ev_lss (And.intro @ev_leq (And.intro @ev_gtr (And.intro @ev_geq (And.intro @ev_beql (And.intro @ev_bneq (And.intro @ev_not (And.intro @ev_neg (And.intro @ev_fld (And.intro @ev_fa_lp (And.intro @ev_fa_ep (And.intro @ev_fa_sp (And.intro @ev_ia (And.intro @ev_iaA_ep (And.intro @ev_iaA_lp (And.intro @ev_iaA_sp (And.intro @ev_ext (And.intro @ev_len (And.intro @ev_conv (And.intro @ev_mkfn (And.intro @ev_mkifc (And.intro @ev_tass (And.intro @ev_fnil0 (And.intro @ev_fnil1 (And.intro @ev_fnil2 (And.intro @ev_slc (And.intro @ev_max (And.intro @ev_min (And.intro @evL (And.intro @evW (And.intro @pull_t (And.intro @pull_f (And.intro @sl_lo (And.intro @sl_hi (And.intro @cut1 (And.intro @cutA (And.intro @cells0_v (And.intro @cells0_sl (And.intro @cells0_sp (And.intro @cells0_fn (And.intro @cells0_mp (And.intro @cells0_ifc (And.intro @cells0_ag (And.intro @clrs_nil (And.intro @clrs_v (And.intro @clrs_sl (And.intro @clrs_sp (And.intro @clrs_fn (And.intro @clrs_mp (And.intro @clrs_ifc (And.intro @clrAll_nil (And.intro @clrAll_cons (And.intro @clr_v (And.intro @clr_sl (And.intro @clr_sp (And.intro @clr_fn (And.intro @clr_mp (And.intro @clr_ifc (@clr_ag)))))))))))))))))))))))))))))))))))))))))))))))))))))))))))
theorem wp4 : type_of% (And.intro @resOf_t (And.intro @resOf_c (And.intro @resAll_nil (And.intro @resAll_cons (And.intro @resPV_1 (And.intro @resPV_0 (And.intro @resPV_2 (And.intro @e_ldS (And.intro @e_stS (And.intro @e_allocS (And.intro @e_boxS (And.intro @e_mkmap (And.intro @e_mset (And.intro @e_mget (And.intro @e_mlen (And.intro @mdOf_md (And.intro @isMd_0 (And.intro @isMd_2 (And.intro @isMd_v (And.intro @isMd_sl (And.intro @isMd_sp (And.intro @isMd_fn (And.intro @isMd_mp (And.intro @isMd_ifc (And.intro @e_app0 (And.intro @e_appT (And.intro @tok1 (And.intro @tokA (And.intro @appMax_eq (And.intro @cT_ag (And.intro @cT_v (And.intro @cT_sl (And.intro @cT_sp (And.intro @cT_fn (And.intro @cT_ls (And.intro @cT_mp (And.intro @cT_ifc (And.intro @fillB_n (And.intro @fillB_c (And.intro @fillS_n (And.intro @fillS_c (And.intro @splice_eq (And.intro @dropSh_f (And.intro @dropSh_t (And.intro @wrap_i64 (And.intro @startSt_eq (And.intro @List.map_cons.{0,0} (And.intro @List.map_nil.{0,0} (And.intro @List.getD_cons_zero.{0} (And.intro @List.getD_cons_succ.{0} (And.intro @List.set_cons_zero.{0} (And.intro @List.set_cons_succ.{0} (And.intro @Option.map_some.{0,0} (And.intro @Option.map_none.{0,0} (And.intro @Option.bind_some.{0,0} (And.intro @Option.bind_none.{0,0} (And.intro @List.length_cons.{0} (And.intro @List.length_nil.{0} (And.intro @List.take_succ_cons.{0} (@List.take_zero.{0})))))))))))))))))))))))))))))))))))))))))))))))))))))))))))) := And.intro @resOf_t (And.intro @resOf_c (And.intro @resAll_nil (And.intro @resAll_cons (And.intro @resPV_1 (And.intro @resPV_0 (And.intro @resPV_2 (And.intro @e_ldS (And.intro @e_stS (And.intro @e_allocS (And.intro @e_boxS (And.intro @e_mkmap (And.intro @e_mset (And.intro @e_mget (And.intro @e_mlen (And.intro @mdOf_md (And.intro @isMd_0 (And.intro @isMd_2 (And.intro @isMd_v (And.intro @isMd_sl (And.intro @isMd_sp (And.intro @isMd_fn (And.intro @isMd_mp (And.intro @isMd_ifc (And.intro @e_app0 (And.intro @e_appT (And.intro @tok1 (And.intro @tokA (And.intro @appMax_eq (And.intro @cT_ag (And.intro @cT_v (And.intro @cT_sl (And.intro @cT_sp (And.intro @cT_fn (And.intro @cT_ls (And.intro @cT_mp (And.intro @cT_ifc (And.intro @fillB_n (And.intro @fillB_c (And.intro @fillS_n (And.intro @fillS_c (And.intro @splice_eq (And.intro @dropSh_f (And.intro @dropSh_t (And.intro @wrap_i64 (And.intro @startSt_eq (And.intro @List.map_cons.{0,0} (And.intro @List.map_nil.{0,0} (And.intro @List.getD_cons_zero.{0} (And.intro @List.getD_cons_succ.{0} (And.intro @List.set_cons_zero.{0} (And.intro @List.set_cons_succ.{0} (And.intro @Option.map_some.{0,0} (And.intro @Option.map_none.{0,0} (And.intro @Option.bind_some.{0,0} (And.intro @Option.bind_none.{0,0} (And.intro @List.length_cons.{0} (And.intro @List.length_nil.{0} (And.intro @List.take_succ_cons.{0} (@List.take_zero.{0})))))))))))))))))))))))))))))))))))))))))))))))))))))))))))
theorem wp5 : type_of% (And.intro @List.take_nil.{0} (And.intro @List.drop_succ_cons.{0} (And.intro @List.drop_zero.{0} (And.intro @List.drop_nil.{0} (And.intro @List.nil_append.{0} (And.intro @List.cons_append.{0} (And.intro @List.append_nil.{0} (And.intro @List.getElem?_cons_zero.{0} (And.intro @List.getElem?_cons_succ.{0} (And.intro @Nat.zero_add (And.intro @Nat.add_zero (And.intro @and_self (And.intro @and_true (And.intro @true_and (And.intro @Bool.not_true (And.intro @Bool.not_false (And.intro @Bool.false_eq_true (And.intro @decide_true (And.intro @decide_false (And.intro @true_or (And.intro @or_true (And.intro @false_or (And.intro @or_false (And.intro @not_true (And.intro @not_false_eq_true (And.intro @Nat.lt_irrefl (And.intro @Nat.le_refl (And.intro @Int.cast_ofNat_Int (And.intro @decide_eq_true_eq (And.intro @Bool.not_eq_true (And.intro @decide_not (And.intro @Bool.not_eq_eq_eq_not (And.intro @Nat.succ_eq_add_one (And.intro @List.replicate_succ.{0} (And.intro @List.replicate_zero.{0} (And.intro @List.isEmpty_cons.{0} (And.intro @List.isEmpty_nil.{0} (And.intro @Nat.lt_add_one (@Nat.zero_lt_succ))))))))))))))))))))))))))))))))))))))) := And.intro @List.take_nil.{0} (And.intro @List.drop_succ_cons.{0} (And.intro @List.drop_zero.{0} (And.intro @List.drop_nil.{0} (And.intro @List.nil_append.{0} (And.intro @List.cons_append.{0} (And.intro @List.append_nil.{0} (And.intro @List.getElem?_cons_zero.{0} (And.intro @List.getElem?_cons_succ.{0} (And.intro @Nat.zero_add (And.intro @Nat.add_zero (And.intro @and_self (And.intro @and_true (And.intro @true_and (And.intro @Bool.not_true (And.intro @Bool.not_false (And.intro @Bool.false_eq_true (And.intro @decide_true (And.intro @decide_false (And.intro @true_or (And.intro @or_true (And.intro @false_or (And.intro @or_false (And.intro @not_true (And.intro @not_false_eq_true (And.intro @Nat.lt_irrefl (And.intro @Nat.le_refl (And.intro @Int.cast_ofNat_Int (And.intro @decide_eq_true_eq (And.intro @Bool.not_eq_true (And.intro @decide_not (And.intro @Bool.not_eq_eq_eq_not (And.intro @Nat.succ_eq_add_one (And.intro @List.replicate_succ.{0} (And.intro @List.replicate_zero.{0} (And.intro @List.isEmpty_cons.{0} (And.intro @List.isEmpty_nil.{0} (And.intro @Nat.lt_add_one (@Nat.zero_lt_succ))))))))))))))))))))))))))))))))))))))
end Go.Pi
