import Derived.Test.YthgocgebpoeolaaDoorPiR
import Derived.ScopeJumps
/- Code and functions: what the interpreter says is what the machine does. -/
namespace Go.Pi
open Go
open PV (genOf asSrc clrC clrs clr clrAll cellsT cells0)

section
variable {P : Program} {call : CallF} {G : Glob} {L : Lst} {κ0 : KM} {w0 : World}

theorem countP_lt {α : Type} {p q : α → Bool} : ∀ (l : List α) (x : α), (∀ y, p y = true → q y = true) → x ∈ l → p x = false → q x = true → l.countP p < l.countP q
  | [], _, _, h, _, _ => by simp at h
  | y :: r, x, hpq, hx, h1, h2 => by
    have hle : ∀ l : List α, l.countP p ≤ l.countP q := fun l => List.countP_mono_left fun z _ hz => hpq z hz
    simp only [List.countP_cons]
    simp only [List.mem_cons] at hx
    rcases hx with e | hx
    · subst e
      have := hle r
      simp [h1, h2]
      omega
    · have ih := countP_lt r x hpq hx h1 h2
      cases hy : p y with
      | false => simp; omega
      | true => rw [hpq y hy]; simp; omega

theorem set_getD {l : Array Bool} {i j : Nat} (h : i < l.size) : (l.setIfInBounds i true).getD j false = if j = i then true else l.getD j false := by
  simp only [Array.getD_eq_getD_getElem?]
  by_cases e : j = i
  · subst e; simp [h]
  · rw [if_neg e, Array.getElem?_setIfInBounds_ne (fun h => e h.symm)]

theorem any_ok (hcall : CallOK P G call) {pu : List Nat} (hpu : CalmCall call pu) {ops : Array Oper} {is : List PI} (hc : compL P L ops.toList [] ops.toList = some is) (he : edgesOk ops.toList = true) (hp : pairsOk pu is (behinds [] ops.toList) = true)
    {st0 st' : St} (hrun : steps call G is st0 = some st') {Q : Exit → Act → World → Prop} (hQ : ∀ κ' a' w', Rel G L κ0 w0 κ' st' a' w' → Q .normal a' w') :
    ∀ (fuel : Nat) (listed : Array Bool) (st : St) (κ : KM) (a : Act) (w : World), listed.size = ops.size → Closed (behinds [] ops.toList) (fun k => listed.getD k false) →
      steps call G (sel (fun k => listed.getD k false) 0 is) st0 = some st → Rel G L κ0 w0 κ st a w → (List.range ops.size).countP (fun k => !listed.getD k false) ≤ fuel → wpAny P .any ops Q fuel listed a w := by
  obtain ⟨hlen, hget⟩ := compL_get hc
  have hlen' : is.length = ops.size := by simpa using hlen
  have done : ∀ (listed : Array Bool) (st : St) (κ : KM) (a : Act) (w : World), steps call G (sel (fun k => listed.getD k false) 0 is) st0 = some st → Rel G L κ0 w0 κ st a w →
      (∀ k, k < ops.size → listed.getD k false = true) → Q .normal a w := by
    intro listed st κ a w hs hR hall
    rw [sel_all is 0 fun j _ hj => hall j (by omega), hrun] at hs
    cases hs
    exact hQ κ a w hR
  have full : ∀ (listed : Array Bool), listed.size = ops.size → Region.ready .any ops listed = [] → ∀ k, k < ops.size → listed.getD k false = true := by
    intro listed hsz hr k
    induction k using Nat.strongRecOn with
    | _ k ih =>
      intro hk
      cases hl : listed.getD k false with
      | true => rfl
      | false =>
        have ho : ops[k]? = some ops[k] := Array.getElem?_eq_getElem hk
        have : k ∈ Region.ready .any ops listed := (ready_iff hsz).2 ⟨ops[k], ho, hl, fun e hm hb => by
          have hlt : e.on < k := by
            have he' := he
            simp only [edgesOk, List.all_eq_true] at he'
            have := he' (ops[k], k) (by rw [List.mem_zipIdx_iff_getElem?]; simp) e hm
            simpa [hb] using this
          exact ih e.on hlt (by omega)⟩
        rw [hr] at this
        simp at this
  intro fuel
  induction fuel with
  | zero =>
    intro listed st κ a w hsz hcl hs hR hcount
    have hall : ∀ k, k < ops.size → listed.getD k false = true := by
      intro k hk
      have h0 : (List.range ops.size).countP (fun k => !listed.getD k false) = 0 := by omega
      rw [List.countP_eq_zero] at h0
      have := h0 k (List.mem_range.2 hk)
      simpa using this
    refine ⟨?_, done listed st κ a w hs hR hall⟩
    cases hr : Region.ready .any ops listed with
    | nil => rfl
    | cons k r =>
      have : k ∈ Region.ready .any ops listed := by rw [hr]; simp
      obtain ⟨o, ho, hl, _⟩ := (ready_iff hsz).1 this
      have hk : k < ops.size := by
        rcases Nat.lt_or_ge k ops.size with h | h
        · exact h
        · rw [Array.getElem?_eq_none h] at ho; cases ho
      rw [hall k hk] at hl
      cases hl
  | succ fuel ih =>
    intro listed st κ a w hsz hcl hs hR hcount
    refine ⟨fun hr => done listed st κ a w hs hR (full listed hsz hr), fun i hi => ?_⟩
    obtain ⟨o, ho, hl, hpre⟩ := (ready_iff hsz).1 hi
    have hi' : i < ops.size := by
      rcases Nat.lt_or_ge i ops.size with h | h
      · exact h
      · rw [Array.getElem?_eq_none h] at ho; cases ho
    have hol : ops.toList[i]? = some o := by simpa using ho
    obtain ⟨prev, x, hx, hcx⟩ := hget i o hol
    have hSS : ∀ j, (listed.setIfInBounds i true).getD j false = if j = i then true else listed.getD j false := fun j => set_getD (by omega)
    obtain ⟨hcl2, _⟩ := closed_add he hcl (S' := fun k => (listed.setIfInBounds i true).getD k false) hSS hol hpre
    obtain ⟨s, hs2⟩ := part_runs (call := call) (G := G) hpu (by simpa using hlen) he hp hrun is.length _ hcl2 (fun j hj => by omega)
    have hs3 := hs2
    rw [ins hpu hp hl hcl hSS hx, hs] at hs3
    have hstep : step call G x st = some s := hs3
    unfold wpOp
    rw [ho]
    refine step_ok hcall hR hcx hstep fun κ' a' w' hR' => ?_
    refine ih _ s κ' a' w' (by simpa using hsz) hcl2 hs2 hR' ?_
    have := countP_lt (p := fun k => !(listed.setIfInBounds i true).getD k false) (q := fun k => !listed.getD k false) (List.range ops.size) i (fun k hk => by
      simp only [hSS] at hk
      by_cases e : k = i
      · simp [e] at hk
      · simpa [e] using hk) (List.mem_range.2 hi') (by simp [hSS]) (by simpa using hl)
    omega

/-- How an end of the interpreter's stands to one of the machine's. -/
def OutOK (G : Glob) (L : Lst) (κ0 : KM) (w0 : World) : Out → Exit → Act → World → Prop
  | .nrm s, .normal, a, w => ∃ κ, Rel G L κ0 w0 κ s a w
  | .ext id s, .exit id', a, w => id = id' ∧ id < 1000000 ∧ ∃ κ, Rel G L κ0 w0 κ s a w
  | .ext id s, .goto l, a, w => id = gid l ∧ l < 1000000 ∧ ∃ κ, Rel G L κ0 w0 κ s a w
  | .ret s, .ret, a, w => ∃ κ, Rel G L κ0 w0 κ s a w
  | _, _, _, _ => False

theorem region_ok (hcall : CallOK P G call) (hpu : CalmCall call L.pu) (hm : P.follows .mixedOrders = true) {id : Nat} {ops : Array Oper} {draw : Bool} {is : List PI} (hc : compR P L ops draw = some is)
    {κ : KM} {st st' : St} {a : Act} {w : World} (hR : Rel G L κ0 w0 κ st a w) (hs : steps call G is st = some st') : (Code.region id ops draw).wp P (OutOK G L κ0 w0 (.nrm st')) a w := by
  unfold compR at hc
  split at hc <;> first | (cases hc; done) | skip
  rename_i is' hcl
  split at hc <;> first | (cases hc; done) | skip
  rename_i hcond
  cases hc
  cases draw with
  | false => exact wp_region_list (steps_ok hcall ops.toList [] is st st' κ a w hR hcl hs fun κ' a' w' h => ⟨κ', h⟩)
  | true =>
    simp only [Bool.not_true, Bool.false_or, Bool.and_eq_true] at hcond
    refine wp_region_any hm ?_
    have hR2 : Rel G L κ0 w0 κ ⟨st.regs, st.ef⟩ a { w with drawn := w.drawn + 1 } :=
      hR.ext ⟨rfl, rfl, rfl⟩ (fun _ _ => rfl) (fun _ _ => rfl) (Nat.le_refl _) (fun _ _ h => h) (Nat.le_refl _) rfl fun b h1 h2 => absurd h2 h1
    have hrep : ∀ k, (Array.replicate ops.size false).getD k false = false := by
      intro k
      simp only [Array.getD_eq_getD_getElem?]
      by_cases h : k < ops.size
      · simp [h]
      · rw [Array.getElem?_eq_none (by simp; omega)]; rfl
    have hsel : sel (fun k => (Array.replicate ops.size false).getD k false) 0 is = [] := by
      have : ∀ (l : List PI) (k : Nat), sel (fun k => (Array.replicate ops.size false).getD k false) k l = [] := by
        intro l
        induction l with
        | nil => intro k; rfl
        | cons x r ih =>
          intro k
          simp only [sel]
          rw [if_neg (by rw [hrep]; simp), ih]
      exact this is 0
    refine any_ok hcall hpu hcl hcond.1 hcond.2 hs (fun κ' a' w' h => ⟨κ', h⟩) ops.size _ st κ a _ (by simp) (fun j hj => ?_) (by rw [hsel]; rfl) hR2 ?_
    · simp only [hrep] at hj; cases hj
    · have := List.countP_le_length (p := fun k => !(Array.replicate ops.size false).getD k false) (l := List.range ops.size)
      simpa using this

theorem compC_region {id : Nat} {ops : Array Oper} {draw : Bool} {x : PC} (h : compC P L (.region id ops draw) = some x) : ∃ l, x = .ops l := by
  simp only [compC] at h
  split at h <;> first | (cases h; done) | skip
  cases h; exact ⟨_, rfl⟩

theorem restP_block {id l : Nat} {x : PC} (h : id < 3000000) : restP (.block id x) l = none := by
  cases x with
  | skip => simp only [restP]; rw [if_neg]; simp only [lid]; omega
  | _ => rfl

/-- What stands behind a label, in the code and compiled. -/
theorem restP_ok (l : Nat) : ∀ (c : Code) (x : PC), compC P L c = some x →
    (restP x l = none → findLabel c l = none) ∧ (∀ r, restP x l = some r → ∃ rest, findLabel c l = some rest ∧ compC P L rest = some r ∧ SizeOf.sizeOf rest ≤ SizeOf.sizeOf c)
  | .skip, x, h => by
    simp only [compC, Option.some.injEq] at h
    subst h
    exact ⟨fun _ => rfl, fun r hr => by cases hr⟩
  | .region id ops draw, x, h => by
    obtain ⟨q, rfl⟩ := compC_region h
    exact ⟨fun _ => rfl, fun r hr => by cases hr⟩
  | .seq a b, x, h => by
    simp only [compC] at h
    split at h <;> first | (cases h; done) | skip
    rename_i p q hp hq
    cases h
    obtain ⟨a1, a2⟩ := restP_ok l a p hp
    obtain ⟨b1, b2⟩ := restP_ok l b q hq
    cases ha : restP p l with
    | none =>
      have e := a1 ha
      refine ⟨fun hr => ?_, fun r hr => ?_⟩
      · simp only [restP, ha] at hr
        simp only [findLabel, e]
        exact b1 hr
      · simp only [restP, ha] at hr
        obtain ⟨rest, h1, h2, h3⟩ := b2 r hr
        refine ⟨rest, by simp only [findLabel, e]; exact h1, h2, ?_⟩
        simp only [Code.seq.sizeOf_spec]; omega
    | some ra =>
      obtain ⟨rest, h1, h2, h3⟩ := a2 ra ha
      refine ⟨fun hr => (by simp only [restP, ha] at hr; cases hr), fun r hr => ?_⟩
      simp only [restP, ha, Option.some.injEq] at hr
      subst hr
      refine ⟨.seq rest b, by simp only [findLabel, h1], by simp only [compC, h2, hq], ?_⟩
      simp only [Code.seq.sizeOf_spec]; omega
  | .cond c a b, x, h => by
    simp only [compC] at h
    split at h <;> first | (cases h; done) | skip
    cases h
    exact ⟨fun _ => rfl, fun r hr => by cases hr⟩
  | .block id b, x, h => by
    simp only [compC] at h
    split at h <;> first | (cases h; done) | skip
    split at h <;> first | (cases h; done) | skip
    rename_i hlt
    cases h
    have e := restP_block (x := ‹PC›) (l := l) (show id < 3000000 by omega)
    exact ⟨fun _ => rfl, fun r hr => by rw [e] at hr; cases hr⟩
  | .loop b, x, h => by
    simp only [compC] at h
    split at h <;> first | (cases h; done) | skip
    cases h
    exact ⟨fun _ => rfl, fun r hr => by cases hr⟩
  | .exit id, x, h => by
    simp only [compC] at h
    split at h <;> first | (cases h; done) | skip
    cases h
    exact ⟨fun _ => rfl, fun r hr => by cases hr⟩
  | .ret, x, h => by
    simp only [compC, Option.some.injEq] at h
    subst h
    exact ⟨fun _ => rfl, fun r hr => by cases hr⟩
  | .label l', x, h => by
    simp only [compC] at h
    split at h <;> first | (cases h; done) | skip
    cases h
    by_cases e : l' = l
    · subst e
      refine ⟨fun hr => by simp [restP] at hr, fun r hr => ?_⟩
      simp only [restP, if_true, Option.some.injEq] at hr
      subst hr
      refine ⟨.skip, by simp [findLabel], rfl, ?_⟩
      simp
    · have e2 : ¬ (lid l' = lid l) := by simp only [lid]; omega
      refine ⟨fun _ => by simp [findLabel, e], fun r hr => ?_⟩
      simp only [restP, if_neg e2] at hr
      cases hr
  | .goto l', x, h => by
    simp only [compC] at h
    split at h <;> first | (cases h; done) | skip
    cases h
    exact ⟨fun _ => rfl, fun r hr => by cases hr⟩
  | .scope c, x, h => by
    simp only [compC] at h
    split at h <;> first | (cases h; done) | skip
    split at h <;> first | (cases h; done) | skip
    split at h <;> first | (cases h; done) | skip
    cases h
    exact ⟨fun _ => rfl, fun r hr => by simp only [scopeP, restP] at hr; cases hr⟩
  | .rangeFunc .., _, h => by simp [compC] at h
  | .refuse _, _, h => by simp [compC] at h

theorem restP_none {l k : Nat} (hne : lid l ≠ k) : ∀ x : PC, (labelsOf x).filter (3000000 ≤ ·) = [k] ∨ (labelsOf x).filter (3000000 ≤ ·) = [] → restP x l = none
  | .seq a b, h => by
    have hab : ((labelsOf a).filter (3000000 ≤ ·) = [k] ∨ (labelsOf a).filter (3000000 ≤ ·) = []) ∧ ((labelsOf b).filter (3000000 ≤ ·) = [k] ∨ (labelsOf b).filter (3000000 ≤ ·) = []) := by
      simp only [labelsOf, List.filter_append] at h
      rcases h with h | h
      · rcases List.append_eq_singleton_iff.1 h with ⟨h1, h2⟩ | ⟨h1, h2⟩
        · exact ⟨.inr h1, .inl h2⟩
        · exact ⟨.inl h1, .inr h2⟩
      · obtain ⟨h1, h2⟩ := List.append_eq_nil_iff.1 h
        exact ⟨.inr h1, .inr h2⟩
    simp only [restP, restP_none hne a hab.1, restP_none hne b hab.2]
  | .block id .skip, h => by
    simp only [restP]
    rw [if_neg]
    intro e
    subst e
    have h3 : 3000000 ≤ lid l := by simp only [lid]; omega
    simp [labelsOf, h3] at h
    exact hne h
  | .block _ (.ops _), _ => rfl
  | .block _ (.seq _ _), _ => rfl
  | .block _ (.cond _ _ _), _ => rfl
  | .block _ (.block _ _), _ => rfl
  | .block _ (.loop _), _ => rfl
  | .block _ (.exit _), _ => rfl
  | .block _ .ret, _ => rfl
  | .block _ (.prim _), _ => rfl
  | .skip, _ => rfl
  | .ops _, _ => rfl
  | .cond _ _ _, _ => rfl
  | .loop _, _ => rfl
  | .exit _, _ => rfl
  | .ret, _ => rfl
  | .prim _, _ => rfl

/-- By a goto to label l: J; by a goto to a label that the scope does not hold: out. -/
def jumpOut (c : Code) (l : Nat) (J : Act → World → Prop) (Q : Exit → Act → World → Prop) : Exit → Act → World → Prop
  | .goto l', a, w => (l' = l ∧ J a w) ∨ (findLabel c l' = none ∧ Q (.goto l') a w)
  | e, a, w => Q e a w

/-- A scope in which the run jumps back to one label, a number of times. -/
theorem wp_scope_rounds {P : Program} {a : Act} {w : World} {Q : Exit → Act → World → Prop} {c rest : Code} (l : Nat) (J : Nat → Act → World → Prop) (hf : findLabel c l = some rest) {n : Nat}
    (first : c.wp P (jumpOut c l (J n) Q) a w)
    (pass : ∀ n a w, J n a w → ∃ m, m < n ∧ rest.wp P (jumpOut c l (J m) Q) a w) : (Code.scope c).wp P Q a w := by
  intro b k cs
  have hg : gotoIn l (.inScope c :: k) = some (.code rest :: .inScope c :: k) := by simp [gotoIn, hf]
  have key : ∀ n a w, J n a w → ∃ e a' w', Q e a' w' ∧ Arrives P (lone (b.at a (.code rest :: .inScope c :: k)) cs w) b k cs e a' w' := by
    intro n
    induction n using Nat.strongRecOn with
    | _ n ih =>
      intro a w hJ
      obtain ⟨m, hm, hpass⟩ := pass n a w hJ
      obtain ⟨e, a₁, w₁, hq, harr⟩ := hpass b (.inScope c :: k) cs
      cases e with
      | normal => exact ⟨.normal, a₁, w₁, hq, Steps.trans harr (.one step_inScope)⟩
      | exit id => exact ⟨.exit id, a₁, w₁, hq, fun k' hk => harr k' (by simp [exitTo, hk])⟩
      | goto l' =>
        rcases hq with ⟨rfl, hJ'⟩ | ⟨hn, hq⟩
        · obtain ⟨e₂, a₂, w₂, hq₂, harr₂⟩ := ih m hm a₁ w₁ hJ'
          exact ⟨e₂, a₂, w₂, hq₂, .of_steps (harr _ hg) harr₂⟩
        · exact ⟨.goto l', a₁, w₁, hq, fun k' hk => harr k' (by simp [gotoIn, hn, hk])⟩
      | ret => exact ⟨_, a₁, w₁, hq, harr⟩
      | panic ch => exact ⟨_, a₁, w₁, hq, harr⟩
      | outgrown => exact ⟨_, a₁, w₁, hq, harr⟩
  obtain ⟨e, a₁, w₁, hq, harr⟩ := first b (.inScope c :: k) cs
  cases e with
  | normal => exact ⟨.normal, a₁, w₁, hq, .head step_scope (Steps.trans harr (.one step_inScope))⟩
  | exit id => exact ⟨.exit id, a₁, w₁, hq, fun k' hk => .head step_scope (harr k' (by simp [exitTo, hk]))⟩
  | goto l' =>
    rcases hq with ⟨rfl, hJ'⟩ | ⟨hn, hq⟩
    · obtain ⟨e₂, a₂, w₂, hq₂, harr₂⟩ := key _ a₁ w₁ hJ'
      exact ⟨e₂, a₂, w₂, hq₂, .of_steps (.head step_scope (harr _ hg)) harr₂⟩
    · exact ⟨.goto l', a₁, w₁, hq, fun k' hk => .head step_scope (harr k' (by simp [gotoIn, hn, hk]))⟩
  | ret => exact ⟨_, a₁, w₁, hq, .of_steps (.one step_scope) harr⟩
  | panic ch => exact ⟨_, a₁, w₁, hq, .of_steps (.one step_scope) harr⟩
  | outgrown => exact ⟨_, a₁, w₁, hq, .of_steps (.one step_scope) harr⟩

/-- What a run of a scope's part leads to, seen from outside of the scope. -/
def outScope (l : Nat) (K : St → Option Out) : Option Out → Option Out
  | some (.nrm s) => some (.nrm s)
  | some (.ext j s) => if j = gid l then K s else if j = xid l then some (.nrm s) else some (.ext j s)
  | o => o
theorem exec_pass {fuel l : Nat} {r : PC} {s : St} : exec call G fuel (.block (gid l) (.seq r (.exit (xid l)))) s =
    (match exec call G fuel r s with
      | some (.nrm s') => some (.ext (xid l) s')
      | some (.ext j s') => if j = gid l then some (.nrm s') else some (.ext j s')
      | o => o) := by
  have hne : ¬ (xid l = gid l) := by simp only [xid, gid]; omega
  simp only [exec]
  cases h : exec call G fuel r s with
  | none => rfl
  | some o =>
    cases o with
    | nrm s' => simp only [if_neg hne]
    | ext j s' => rfl
    | ret s' => rfl
theorem iter_scope {fuel l : Nat} {r : PC} (n : Nat) (s : St) (o : Out) (h : (match iter (exec call G fuel (.block (gid l) (.seq r (.exit (xid l))))) (n + 1) s with | some (.ext j s') => if j = xid l then some (.nrm s') else some (.ext j s') | o => o) = some o) :
    outScope l (fun s' => match iter (exec call G fuel (.block (gid l) (.seq r (.exit (xid l))))) n s' with | some (.ext j s') => if j = xid l then some (.nrm s') else some (.ext j s') | o => o) (exec call G fuel r s) = some o := by
  have hne : ¬ (xid l = gid l) := by simp only [xid, gid]; omega
  simp only [iter, exec_pass] at h
  cases hx : exec call G fuel r s with
  | none => rw [hx] at h; cases h
  | some o1 =>
    rw [hx] at h
    cases o1 with
    | nrm s' => simpa [outScope] using h
    | ext j s' =>
      by_cases hj : j = gid l
      · simp only [hj, if_true] at h
        simp only [outScope, hj, if_true]
        exact h
      · simp only [if_neg hj] at h
        simp only [outScope, if_neg hj]
        exact h
    | ret s' => simpa [outScope] using h

theorem code_ok (hcall : CallOK P G call) (hpu : CalmCall call L.pu) (hm : P.follows .mixedOrders = true) : ∀ (c : Code) (pc : PC), compC P L c = some pc → ∀ (fuel : Nat) (st : St) (o : Out), exec call G fuel pc st = some o →
    ∀ (κ : KM) (a : Act) (w : World), Rel G L κ0 w0 κ st a w → c.wp P (OutOK G L κ0 w0 o) a w
  | .skip, pc, hc, fuel, st, o, hx, κ, a, w, hR => by
    simp only [compC, Option.some.injEq] at hc
    subst hc
    simp only [exec, Option.some.injEq] at hx
    subst hx
    exact wp_skip ⟨κ, hR⟩
  | .region id ops draw, pc, hc, fuel, st, o, hx, κ, a, w, hR => by
    simp only [compC] at hc
    split at hc <;> first | (cases hc; done) | skip
    rename_i l hl
    cases hc
    simp only [exec] at hx
    split at hx <;> first | (cases hx; done) | skip
    rename_i s' hs
    cases hx
    exact region_ok hcall hpu hm hl hR hs
  | .seq x y, pc, hc, fuel, st, o, hx, κ, a, w, hR => by
    simp only [compC] at hc
    split at hc <;> first | (cases hc; done) | skip
    rename_i p q hp hq
    cases hc
    simp only [exec] at hx
    refine wp_seq ?_
    cases h1 : exec call G fuel p st with
    | none => rw [h1] at hx; cases hx
    | some o1 =>
      rw [h1] at hx
      refine Code.wp_mono (fun e a' w' h => ?_) (code_ok hcall hpu hm x p hp fuel st o1 h1 κ a w hR)
      cases o1 with
      | nrm s =>
        cases e <;> first | exact h.elim | skip
        obtain ⟨κ', hR'⟩ := h
        exact code_ok hcall hpu hm y q hq fuel s o hx κ' a' w' hR'
      | ext id s =>
        cases hx
        cases e <;> first | exact h.elim | exact h
      | ret s =>
        cases hx
        cases e <;> first | exact h.elim | exact h
  | .cond c x y, pc, hc, fuel, st, o, hx, κ, a, w, hR => by
    simp only [compC] at hc
    split at hc <;> first | (cases hc; done) | skip
    rename_i p q hp hq
    cases hc
    simp only [exec] at hx
    split at hx <;> first | (cases hx; done) | skip
    rename_i t ht
    have hs := src_rep hR c
    rw [ht] at hs
    refine wp_cond hs.v_inv.1 ?_
    cases t with
    | true => exact code_ok hcall hpu hm x p hp fuel st o (by simpa using hx) κ a w hR
    | false => exact code_ok hcall hpu hm y q hq fuel st o (by simpa using hx) κ a w hR
  | .block id b, pc, hc, fuel, st, o, hx, κ, a, w, hR => by
    simp only [compC] at hc
    split at hc <;> first | (cases hc; done) | skip
    rename_i p hp
    split at hc <;> first | (cases hc; done) | skip
    rename_i hid
    cases hc
    simp only [exec] at hx
    refine wp_block ?_
    cases h1 : exec call G fuel p st with
    | none => rw [h1] at hx; cases hx
    | some o1 =>
      rw [h1] at hx
      refine Code.wp_mono (fun e a' w' h => ?_) (code_ok hcall hpu hm b p hp fuel st o1 h1 κ a w hR)
      cases o1 with
      | nrm s =>
        cases hx
        cases e <;> first | exact h.elim | exact h
      | ext j s =>
        cases e <;> first | exact h.elim | skip
        case goto l' =>
          obtain ⟨e', hl', hR'⟩ := h
          have ej : ¬ j = id := by rw [e']; simp only [gid]; omega
          simp only at hx
          rw [if_neg ej] at hx
          cases hx
          exact ⟨e', hl', hR'⟩
        rename_i j'
        obtain ⟨e', hj', hR'⟩ := h
        subst e'
        simp only at hx
        by_cases ej : j = id
        · rw [if_pos ej] at hx
          cases hx
          subst ej
          simp only [Exit.inBlock, if_true]
          exact hR'
        · rw [if_neg ej] at hx
          cases hx
          simp only [Exit.inBlock, if_neg ej]
          exact ⟨rfl, hj', hR'⟩
      | ret s =>
        cases hx
        cases e <;> first | exact h.elim | exact h
  | .loop b, pc, hc, fuel, st, o, hx, κ, a, w, hR => by
    simp only [compC] at hc
    split at hc <;> first | (cases hc; done) | skip
    rename_i p hp
    cases hc
    simp only [exec] at hx
    have key : ∀ (n : Nat) (st : St), iter (exec call G fuel p) n st = some o → ∀ (κ : KM) (a : Act) (w : World), Rel G L κ0 w0 κ st a w → Code.rounds P b (OutOK G L κ0 w0 o) n a w := by
      intro n
      induction n with
      | zero => intro st h; simp [iter] at h
      | succ n ih =>
        intro st h κ a w hR
        simp only [iter] at h
        rw [rounds_succ]
        cases h1 : exec call G fuel p st with
        | none => rw [h1] at h; cases h
        | some o1 =>
          rw [h1] at h
          refine Code.wp_mono (fun e a' w' hq => ?_) (code_ok hcall hpu hm b p hp fuel st o1 h1 κ a w hR)
          cases o1 with
          | nrm s =>
            cases e <;> first | exact hq.elim | skip
            obtain ⟨κ', hR'⟩ := hq
            exact ih s h κ' a' w' hR'
          | ext j s =>
            cases h
            cases e <;> first | exact hq.elim | exact hq
          | ret s =>
            cases h
            cases e <;> first | exact hq.elim | exact hq
    exact wp_loop_rounds fuel (key fuel st hx κ a w hR)
  | .exit id, pc, hc, fuel, st, o, hx, κ, a, w, hR => by
    simp only [compC] at hc
    split at hc <;> first | (cases hc; done) | skip
    rename_i hid
    cases hc
    simp only [exec, Option.some.injEq] at hx
    subst hx
    exact wp_exit ⟨rfl, hid, κ, hR⟩
  | .ret, pc, hc, fuel, st, o, hx, κ, a, w, hR => by
    simp only [compC, Option.some.injEq] at hc
    subst hc
    simp only [exec, Option.some.injEq] at hx
    subst hx
    exact wp_ret ⟨κ, hR⟩
  | .label l, pc, hc, fuel, st, o, hx, κ, a, w, hR => by
    simp only [compC] at hc
    split at hc <;> first | (cases hc; done) | skip
    cases hc
    simp only [exec, Option.some.injEq] at hx
    subst hx
    exact wp_label ⟨κ, hR⟩
  | .goto l, pc, hc, fuel, st, o, hx, κ, a, w, hR => by
    simp only [compC] at hc
    split at hc <;> first | (cases hc; done) | skip
    rename_i hl
    cases hc
    simp only [exec, Option.some.injEq] at hx
    subst hx
    exact wp_goto ⟨rfl, hl, κ, hR⟩
  | .scope c, pc, hc, fuel, st, o, hx, κ, a, w, hR => by
    simp only [compC] at hc
    split at hc <;> first | (cases hc; done) | skip
    rename_i x hcx
    split at hc <;> first | (cases hc; done) | skip
    rename_i k hk
    split at hc <;> first | (cases hc; done) | skip
    rename_i r hr
    cases hc
    generalize hl : k - 3000000 = l at *
    have hk3 : 3000000 ≤ k := by
      have : k ∈ (labelsOf x).filter (3000000 ≤ ·) := by rw [hk]; simp
      simpa using (List.mem_filter.1 this).2
    have hkl : k = lid l := by simp only [lid]; omega
    have hother : ∀ l', l' ≠ l → findLabel c l' = none := fun l' hne =>
      (restP_ok (P := P) (L := L) l' c x hcx).1 (restP_none (k := k) (by rw [hkl]; simp only [lid]; omega) x (.inl hk))
    obtain ⟨rest, hf, hcr, hsz⟩ := (restP_ok (P := P) (L := L) l c x hcx).2 r hr
    let Lp : Nat → St → Option Out := fun n s => match iter (exec call G fuel (.block (gid l) (.seq r (.exit (xid l))))) n s with | some (.ext j s') => if j = xid l then some (.nrm s') else some (.ext j s') | o => o
    have hxg : ¬ (xid l = gid l) := by simp only [xid, gid]; omega
    have h0 : outScope l (Lp fuel) (exec call G fuel x st) = some o := by
      simp only [scopeP] at hx
      rw [exec] at hx
      rw [exec, exec_pass] at hx
      cases h1 : exec call G fuel x st with
      | none => rw [h1] at hx; cases hx
      | some o1 =>
        rw [h1] at hx
        cases o1 with
        | nrm s => simpa [outScope] using hx
        | ext j s =>
          by_cases hj : j = gid l
          · simp only [hj, if_true, exec] at hx
            simp only [outScope, hj, if_true]
            exact hx
          · simp only [if_neg hj] at hx
            simp only [outScope, if_neg hj]
            exact hx
        | ret s => simpa [outScope] using hx
    let J : Nat → Act → World → Prop := fun n a w => ∃ s κ, Rel G L κ0 w0 κ s a w ∧ Lp n s = some o
    have part : ∀ (n : Nat) (o1 : Out) (e : Exit) (a' : Act) (w' : World), outScope l (Lp n) (some o1) = some o → OutOK G L κ0 w0 o1 e a' w' → jumpOut c l (J n) (OutOK G L κ0 w0 o) e a' w' := by
      intro n o1 e a' w' ho hq
      cases o1 with
      | nrm s =>
        simp only [outScope, Option.some.injEq] at ho
        subst ho
        cases e <;> first | exact hq.elim | exact hq
      | ext j s =>
        cases e <;> first | exact hq.elim | skip
        · rename_i j'
          obtain ⟨e', hj', hR'⟩ := hq
          subst e'
          have n1 : ¬ (j = gid l) := by simp only [gid]; omega
          have n2 : ¬ (j = xid l) := by simp only [xid]; omega
          simp only [outScope, if_neg n1, if_neg n2, Option.some.injEq] at ho
          subst ho
          exact ⟨rfl, hj', hR'⟩
        · rename_i l'
          obtain ⟨e', hl', κ', hR'⟩ := hq
          subst e'
          by_cases el : l' = l
          · subst el
            simp only [outScope, if_true] at ho
            exact .inl ⟨rfl, s, κ', hR', ho⟩
          · have n1 : ¬ (gid l' = gid l) := by simp only [gid]; omega
            have n2 : ¬ (gid l' = xid l) := by simp only [gid, xid]; omega
            simp only [outScope, if_neg n1, if_neg n2, Option.some.injEq] at ho
            subst ho
            exact .inr ⟨hother l' el, rfl, hl', κ', hR'⟩
      | ret s =>
        simp only [outScope, Option.some.injEq] at ho
        subst ho
        cases e <;> first | exact hq.elim | exact hq
    refine wp_scope_rounds l J hf (n := fuel) ?_ fun n a w hJ => ?_
    · cases h1 : exec call G fuel x st with
      | none => rw [h1] at h0; cases h0
      | some o1 =>
        rw [h1] at h0
        exact Code.wp_mono (fun e a' w' hq => part fuel o1 e a' w' h0 hq) (code_ok hcall hpu hm c x hcx fuel st o1 h1 κ a w hR)
    · obtain ⟨s, κ', hR', hLp⟩ := hJ
      cases n with
      | zero => simp [Lp, iter] at hLp
      | succ n =>
        have h2 := iter_scope (call := call) (G := G) n s o hLp
        refine ⟨n, Nat.lt_succ_self n, ?_⟩
        cases h1 : exec call G fuel r s with
        | none => rw [h1] at h2; cases h2
        | some o1 =>
          rw [h1] at h2
          exact Code.wp_mono (fun e a' w' hq => part n o1 e a' w' h2 hq) (code_ok hcall hpu hm rest r hcr fuel s o1 h1 κ' a w hR')
  | .rangeFunc .., _, hc, _, _, _, _, _, _, _, _ => by simp [compC] at hc
  | .refuse _, _, hc, _, _, _, _, _, _, _, _ => by simp [compC] at hc
termination_by c => SizeOf.sizeOf c

end
end Go.Pi

/- Functions: what the interpreter says is what the machine does. -/
namespace Go.Pi
open Go
open PV (genOf asSrc clrC clrs clr clrAll cellsT cells0)

section
variable {P : Program} {call : CallF} {G : Glob} {L : Lst} {κ0 κ : KM} {w0 w : World} {st : St} {a : Act}

/-- The shared memory where a run ends. -/
def Out.sh : Out → Sh
  | .nrm s => s.ef.sh
  | .ext _ s => s.ef.sh
  | .ret s => s.ef.sh
def calmK (pu : List Nat) : PK → Bool
  | .app _ => true
  | k => calm pu k
def calmC (pu : List Nat) : PC → Bool
  | .skip => true
  | .ops l => l.all fun i => calmK pu i.k
  | .seq a b => calmC pu a && calmC pu b
  | .cond _ a b => calmC pu a && calmC pu b
  | .block _ b => calmC pu b
  | .loop b => calmC pu b
  | .exit _ => true
  | .ret => true
  | .prim _ => false

theorem act_calm {pu : List Nat} (hp : CalmCall call pu) {i : PI} (hk : calmK pu i.k = true) {get : Nat → PV} {e e' : Eff} {x : PV} (h : act call G i get e = some (x, e')) : e'.sh = e.sh := by
  by_cases hc : calm pu i.k = true
  · obtain ⟨f, hf⟩ := act_quiet (G := G) hp hc get e
    rw [hf] at h
    cases f with
    | none => cases h
    | some y => cases h; rfl
  · unfold act at h
    generalize i.k = k at hk hc h
    cases k with
    | app z =>
      simp only [PK.eff, if_true] at h
      generalize i.rs.map (src G get) = xs at h
      simp only [evalE] at h
      split at h
      all_goals first
        | contradiction
        | (split at h <;> first | (cases h; done) | (cases h; rfl))
        | cases h
    | _ => exact absurd hk hc

theorem step_calm {pu : List Nat} (hp : CalmCall call pu) {i : PI} (hk : calmK pu i.k = true) {st st' : St} (h : step call G i st = some st') : st'.ef.sh = st.ef.sh := by
  unfold step at h
  simp only at h
  split at h
  · split at h <;> first | (cases h; done) | skip
    rename_i h1
    cases h
    exact act_calm hp hk h1
  · split at h <;> first | (cases h; done) | skip
    cases h
    rfl
  · cases h

theorem steps_calm {pu : List Nat} (hp : CalmCall call pu) : ∀ (l : List PI) {st st' : St}, (l.all fun i => calmK pu i.k) = true → steps call G l st = some st' → st'.ef.sh = st.ef.sh
  | [], st, st', _, h => by cases h; rfl
  | i :: l, st, st', hk, h => by
    simp only [List.all_cons, Bool.and_eq_true] at hk
    simp only [steps] at h
    split at h <;> first | (cases h; done) | skip
    rename_i h1
    rw [steps_calm hp l hk.2 h, step_calm hp hk.1 h1]

theorem iter_calm {f : St → Option Out} (hf : ∀ s o, f s = some o → o.sh = s.ef.sh) : ∀ (n : Nat) (s : St) (o : Out), iter f n s = some o → o.sh = s.ef.sh
  | 0, _, _, h => by cases h
  | n + 1, s, o, h => by
    simp only [iter] at h
    cases h1 : f s with
    | none => rw [h1] at h; cases h
    | some o1 =>
      rw [h1] at h
      have := hf s o1 h1
      cases o1 with
      | nrm s' => rw [iter_calm hf n s' o h]; exact this
      | ext i s' => cases h; exact this
      | ret s' => cases h; exact this

theorem exec_calm {pu : List Nat} (hp : CalmCall call pu) (n : Nat) : ∀ (pc : PC) (s : St) (o : Out), calmC pu pc = true → exec call G n pc s = some o → o.sh = s.ef.sh
  | .skip, s, o, _, h => by cases h; rfl
  | .ops l, s, o, hk, h => by
    simp only [exec] at h
    split at h <;> first | (cases h; done) | skip
    rename_i h1
    cases h
    exact steps_calm hp l hk h1
  | .seq a b, s, o, hk, h => by
    simp only [calmC, Bool.and_eq_true] at hk
    simp only [exec] at h
    cases h1 : exec call G n a s with
    | none => rw [h1] at h; cases h
    | some o1 =>
      rw [h1] at h
      have e1 := exec_calm hp n a s o1 hk.1 h1
      cases o1 with
      | nrm s' => rw [exec_calm hp n b s' o hk.2 h]; exact e1
      | ext i s' => cases h; exact e1
      | ret s' => cases h; exact e1
  | .cond c a b, s, o, hk, h => by
    simp only [calmC, Bool.and_eq_true] at hk
    simp only [exec] at h
    split at h <;> first | (cases h; done) | skip
    split at h
    · exact exec_calm hp n a s o hk.1 h
    · exact exec_calm hp n b s o hk.2 h
  | .block id b, s, o, hk, h => by
    simp only [calmC] at hk
    simp only [exec] at h
    cases h1 : exec call G n b s with
    | none => rw [h1] at h; cases h
    | some o1 =>
      rw [h1] at h
      have e1 := exec_calm hp n b s o1 hk h1
      cases o1 with
      | nrm s' => cases h; exact e1
      | ext i s' =>
        simp only at h
        split at h <;> (cases h; exact e1)
      | ret s' => cases h; exact e1
  | .loop b, s, o, hk, h => by
    simp only [calmC] at hk
    simp only [exec] at h
    exact iter_calm (fun s o h => exec_calm hp n b s o hk h) n s o h
  | .exit id, s, o, _, h => by cases h; rfl
  | .ret, s, o, _, h => by cases h; rfl
  | .prim k, _, _, hk, _ => by cases hk

/-- Calls of this function leave the shared memory as it is. -/
def IsCalm (T : Nat → Option PF) (f : Nat) : Prop := ∀ G n args sh r sh', callN T G n f args sh = some (r, sh') → sh' = sh

theorem calm_tab {T : Nat → Option PF} {pu : List Nat} (h : ∀ f, f ∈ pu → ∃ pf, T f = some pf ∧ calmC pu pf.body = true) : ∀ f, f ∈ pu → IsCalm T f := by
  have key : ∀ G n, CalmCall (callN T G n) pu := by
    intro G n
    induction n with
    | zero => intro f _ args sh r sh' hc; simp [callN] at hc
    | succ n ih =>
      intro f hf args sh r sh' hc
      obtain ⟨pf, h1, h2⟩ := h f hf
      simp only [callN, h1] at hc
      cases hx : exec (callN T G n) G n pf.body (startSt pf.nt args sh) with
      | none => rw [hx] at hc; simp [finish] at hc
      | some o =>
        rw [hx] at hc
        have e := exec_calm ih n pf.body _ o h2 hx
        have e2 : ∀ s : St, s.ef.sh = sh → dropSh pf.drop sh.boxes.length s.ef.sh = sh := by
          intro s hs
          rw [hs]
          unfold dropSh
          split
          · simp
          · rfl
        cases o with
        | nrm s =>
          simp only [finish] at hc
          split at hc <;> first | (cases hc; done) | skip
          cases hc
          exact e2 s e
        | ext i s => simp [finish] at hc
        | ret s =>
          simp only [finish] at hc
          split at hc <;> first | (cases hc; done) | skip
          cases hc
          exact e2 s e
  exact fun f hf G n => key G n f hf

/-- A function of the program that is not compiled: what is owed of it. -/
def primPF (k : Nat) : PF := ⟨0, .prim k, [.t 0], false⟩
def PrimOK (P : Program) (f k : Nat) : Prop := ∀ G args sh r sh', callN (fun _ => some (primPF k)) G 1 f args sh = some (r, sh') →
  (∃ fn, P.funcs[f]? = some fn ∧ (fn.name == "runtime.NumGoroutine") = false ∧ fn.body.isNone = false) ∧
  ∀ κ w vals, Pre G κ w args vals sh → Calls P f vals w (Post G κ w r sh')

/-- A table of functions that stands for the program's. -/
def TabOK (P : Program) (T : Nat → Option PF) : Prop := ∀ f pf, T f = some pf →
  (∃ fn L, P.funcs[f]? = some fn ∧ compF P L pf.drop fn = some pf ∧ ∀ g, g ∈ L.pu → IsCalm T g) ∨ (∃ k, pf = primPF k ∧ PrimOK P f k)

theorem frzC_rep (hR : Rel G L κ0 w0 κ st a w) {p q : PV} {x : Value} (h : CRep κ w st.ef.live st.ef.tk p x) (hc : frzC st.regs p = some q) : RepC (fun b => resK (κ b)) w q x := by
  have m : Mono κ w (fun b => resK (κ b)) w := ⟨fun b n h => foot_res h, fun b id h => by simp [h, resK], fun _ _ _ _ _ => rfl⟩
  cases p with
  | ls s g n z =>
    obtain ⟨b, c, hx, hk, hnc⟩ := h.ls
    simp only [frzC] at hc
    split at hc
    · rename_i g' z' rows hreg
      split at hc
      · rename_i hcond
        obtain ⟨rfl, rfl⟩ := hcond
        cases hc
        have hl : s < st.regs.length := by
          rcases Nat.lt_or_ge s st.regs.length with h' | h'
          · exact h'
          · rw [List.getD_eq_getElem?_getD, List.getElem?_eq_none h'] at hreg; cases hreg
        have hrg := hR.reg s hl
        rw [hreg] at hrg
        obtain ⟨b', c', T, arr, _, hk', hh, hrr⟩ := hrg
        have : b' = b := hR.lbi _ _ _ _ hk' hk
        subst this
        subst hx
        by_cases hne : rows = []
        · subst hne; exact .nil _ _ _
        · refine .sl z' rows b' 0 c (fun i j => arr.getD (i * z' + j) undef) hne hrr.1 (by simp [foot, hk, resK]) (fun i j hi hj => ?_) (fun i j hi hj => (hrr.2.2.2 i j hi hj).mono m) hnc
          have := at_lt hi hj 0
          have h3 := hrr.2.2.1
          have hlt : i * z' + j < arr.size := by omega
          simp [World.cell?, hh, hlt]
      · cases hc
    · cases hc
  | _ => exact (CRep.clr h hc).mono m

theorem frzs_len {regs : List PV} {l m : List PV} (h : frzs regs l = some m) : m.length = l.length := by
  induction l generalizing m with
  | nil => simp [frzs] at h; subst h; rfl
  | cons x r ih =>
    simp only [frzs] at h
    split at h
    · rename_i y l' hy hl; cases h; simp [ih hl]
    · cases h

theorem frzs_get {regs : List PV} {l m : List PV} (h : frzs regs l = some m) : ∀ i, i < l.length → frzC regs (l.getD i .un) = some (m.getD i .un) := by
  induction l generalizing m with
  | nil => intro i hi; simp at hi
  | cons x r ih =>
    simp only [frzs] at h
    split at h
    · rename_i y l' hy hl
      cases h
      intro i hi
      cases i with
      | zero => simpa using hy
      | succ i => simpa using ih hl i (by simpa using hi)
    · cases h

theorem frz_rep (hR : Rel G L κ0 w0 κ st a w) {p q : PV} {x : Value} (h : OpRep κ w st.ef.live st.ef.tk p x) (hc : frz st.regs p = some q) : ValRep (fun b => resK (κ b)) w q x := by
  have m : Mono κ w (fun b => resK (κ b)) w := ⟨fun b n h => foot_res h, fun b id h => by simp [h, resK], fun _ _ _ _ _ => rfl⟩
  cases p with
  | ag l =>
    obtain ⟨_, arr, hx, hr⟩ := h
    simp only [frz, Option.map_eq_some_iff] at hc
    obtain ⟨l', hl, rfl⟩ := hc
    refine ⟨arr, hx, hr.1.trans (frzs_len hl).symm, fun i hi => ?_⟩
    have hi' : i < l.length := by rw [← frzs_len hl]; exact hi
    exact frzC_rep hR (hr.2 i hi') (frzs_get hl i hi')
  | v y => exact (frzC_rep hR h.2 hc).val
  | sl t z rows => exact (frzC_rep hR h.2 hc).val
  | sp i o => exact (frzC_rep hR h.2 hc).val
  | fn f c => exact (frzC_rep hR h.2 hc).val
  | ifc t c => exact (frzC_rep hR h.2 hc).val
  | mp i => exact (frzC_rep hR h.2 hc).val
  | ls s g n z => exact (frzC_rep hR h.2 hc).val
  | _ => simp [frz, frzC, clrC] at hc

theorem asSrc_clr {p : PV} {t : Nat} {q : PV} (h : clr (p.asSrc t) = some q) : clr p = some q ∧ notBx p := by
  cases p <;> first | exact ⟨h, trivial⟩ | (simp [asSrc, clr, clrC] at h)

def resF (tmps : Array Value) : ResultVar → Sem Value
  | .tmp t => pure (tmps.getD t undef)
  | .cell x t => do loadVar t (← asAddr (tmps.getD x undef))

theorem results_resF (fn : Func) (tmps : Array Value) : results fn tmps = (do let vs ← fn.results.mapM (resF tmps); pure (if h : vs.size = 1 then vs[0] else .tuple vs)) := rfl

theorem res_ok (hR : Rel G L κ0 w0 κ st a w) : ∀ (rs : List ResultVar) (qs : List RS) (l : List PV), compRes P rs = some qs → resAll st.regs qs = some l →
    ∃ vs : List Value, (rs.mapM (resF a.tmps)).run P w = .ok vs w ∧
      vs.length = l.length ∧ ∀ i, i < l.length → ValRep (fun b => resK (κ b)) w (l.getD i .un) (vs.getD i undef)
  | [], qs, l, hc, hr => by
    simp only [compRes, Option.some.injEq] at hc
    subst hc
    simp only [resAll, Option.some.injEq] at hr
    subst hr
    exact ⟨[], by simp, rfl, fun i hi => by simp at hi⟩
  | .tmp t :: rs, qs, l, hc, hr => by
    simp only [compRes] at hc
    split at hc <;> first | (cases hc; done) | skip
    rename_i qs' hq
    cases hc
    simp only [resAll] at hr
    split at hr <;> first | (cases hr; done) | skip
    rename_i x y hx hy
    cases hr
    obtain ⟨vs, h1, h2, h3⟩ := res_ok hR rs qs' y hq hy
    refine ⟨a.tmps.getD t undef :: vs, ?_, by simp [h2], fun i hi => ?_⟩
    · simp only [List.mapM_cons, resF, Sem.run_bind, Sem.run_pure, Result.andThen_ok]
      rw [h1]
      rfl
    · cases i with
      | zero =>
        simp only [List.getD_cons_zero]
        simp only [resOf] at hx
        have hs := src_rep hR (.tmp t)
        exact frz_rep hR hs hx
      | succ i => simpa using h3 i (by simpa using hi)
  | .cell x t :: rs, qs, l, hc, hr => by
    simp only [compRes] at hc
    split at hc <;> first | (cases hc; done) | skip
    rename_i ti qs' hti hq
    split at hc <;> first | (cases hc; done) | skip
    rename_i hu
    cases hc
    simp only [resAll] at hr
    split at hr <;> first | (cases hr; done) | skip
    rename_i x' y hx hy
    cases hr
    obtain ⟨vs, h1, h2, h3⟩ := res_ok hR rs qs' y hq hy
    simp only [resOf] at hx
    split at hx <;> first | (cases hx; done) | skip
    rename_i g cs hbx
    split at hx <;> first | (cases hx; done) | skip
    rename_i q hcut
    have hl : x < st.regs.length := by
      rcases Nat.lt_or_ge x st.regs.length with h' | h'
      · exact h'
      · rw [List.getD_eq_getElem?_getD, List.getElem?_eq_none h'] at hbx; cases hbx
    have hrg := hR.reg x hl
    rw [hbx] at hrg
    obtain ⟨b, T', arr, hb1, hb2, hb3, hb4⟩ := hrg
    have hu' : (P.underlying t).isSome = true := by simpa [Option.isSome_iff_ne_none] using hu
    obtain ⟨v, hv1, hv2⟩ := ldL_runs hR (T := t) hti hu' (p := .lp x g 0) (va := .pointer (some ⟨b, 0, none⟩)) (slot := x) ⟨trivial, b, rfl, hb2⟩ (q := q) (by rw [hbx]; simp [evalL, hcut])
    refine ⟨v :: vs, ?_, by simp [h2], fun i hi => ?_⟩
    · simp only [Instr.loadAt, Instr.sureAddr, Sem.run_bind, Sem.run_pure, Result.andThen_ok] at hv1
      have hadr : asAddr (a.tmps.getD x undef) = pure ⟨b, 0, none⟩ := by rw [hb1]; rfl
      have hone : (resF a.tmps (.cell x t)).run P w = .ok v w := by
        simp only [resF, hadr, Sem.run_bind, Sem.run_pure, Result.andThen_ok, hv1]
      simp only [List.mapM_cons, Sem.run_bind, hone, Result.andThen_ok, h1, Sem.run_pure]
    · cases i with
      | zero => simp only [List.getD_cons_zero]; exact frz_rep hR hv2 hx
      | succ i => simpa using h3 i (by simpa using hi)

theorem results_ok (hR : Rel G L κ0 w0 κ st a w) {fn : Func} {qs : List RS} {l : List PV} (hc : compRes P fn.results.toList = some qs) (hr : resAll st.regs qs = some l) :
    ∃ v, (results fn a.tmps).run P w = .ok v w ∧ ResRep (fun b => resK (κ b)) w (resPV l) v := by
  obtain ⟨vs, h1, h2, h3⟩ := res_ok hR fn.results.toList qs l hc hr
  have hm : (fn.results.mapM (resF a.tmps)).run P w = .ok vs.toArray w := by
    rw [Array.mapM_eq_mapM_toList, Sem.run_map, h1]
    rfl
  rw [results_resF]
  simp only [Sem.run_bind, hm, Result.andThen_ok, Sem.run_pure]
  refine ⟨_, rfl, ?_⟩
  match l, vs, h2, h3 with
  | [], [], _, _ => exact ⟨#[], by simp, rfl, fun i hi => by simp at hi⟩
  | [x], [v], _, h3 =>
    have := h3 0 (by simp)
    simp only [List.getD_cons_zero] at this
    simp only [resPV]
    have e : ResRep (fun b => resK (κ b)) w x v := by
      cases x with
      | tup q => cases (show RepC (fun b => resK (κ b)) w _ _ from this)
      | _ => exact this
    simpa using e
  | x :: y :: l, v :: u :: vs, h2, h3 =>
    refine ⟨(v :: u :: vs).toArray, by simp, by simpa using h2, fun i hi => ?_⟩
    rw [toArray_getD]
    exact h3 i hi

theorem resK_plain {k : Kind} (h : plainK k) : resK k = k := by
  cases k <;> first | rfl | exact h.elim

theorem plain_resK (k : Kind) : plainK (resK k) := by
  cases k <;> trivial

theorem call_ok (hm : P.follows .mixedOrders = true) {T : Nat → Option PF} (hT : TabOK P T) : ∀ n, CallOK P G (callN T G n) := by
  intro n
  induction n with
  | zero => intro f args sh r sh' h; simp [callN] at h
  | succ n ih =>
    intro f args sh r sh' h
    simp only [callN] at h
    split at h <;> first | (cases h; done) | skip
    rename_i pf hpf
    rcases hT f pf hpf with ⟨fn, L, hfn, hcomp, hcalm⟩ | ⟨k, rfl, hprim⟩
    case inr =>
      refine hprim G args sh r sh' ?_
      rw [← h]
      rfl
    unfold compF at hcomp
    split at hcomp <;> first | (cases hcomp; done) | skip
    rename_i c hbody
    split at hcomp <;> first | (cases hcomp; done) | skip
    rename_i b rs hb hrs
    split at hcomp <;> first | (cases hcomp; done) | skip
    rename_i hcond
    have hcond' : (fn.name == "runtime.NumGoroutine") = false ∧ (L.all fun s => decide (s < fn.ntmps)) = true := by
      cases h1 : (fn.name == "runtime.NumGoroutine") <;> cases h2 : (L.all fun s => decide (s < fn.ntmps)) <;> simp_all
    have hpf2 : pf = ⟨fn.ntmps, b, rs, pf.drop⟩ := (Option.some.inj hcomp).symm
    have hnt : pf.nt = fn.ntmps := by rw [hpf2]
    have hbd : pf.body = b := by rw [hpf2]
    have hrr : pf.res = rs := by rw [hpf2]
    refine ⟨⟨fn, hfn, hcond'.1, by simp [hbody]⟩, fun κ w vals hpre => ?_⟩
    refine calls_of_wp hfn hbody ?_
    have lt : ∀ b, κ b ≠ .none → b < w.heap.size := fun b h => Nat.lt_of_not_le fun hle => h (hpre.new b hle)
    have hR : Rel G L κ w κ (startSt pf.nt args sh) { tmps := vals ++ Array.replicate (fn.ntmps - vals.size) undef, defers := [] } w := by
      refine { size := ?_, defers := rfl, reg := fun i hi => ?_, mem := hpre.mem, glob := hpre.glob, lbi := fun b b' s g h1 _ => ?_, lbg := fun b s g h1 => ?_, tok := fun b t h' h1 => ?_, tki := Nat.le_refl _, new := hpre.new, base := Nat.le_refl _, keep := fun _ _ => rfl, old := fun _ _ _ => rfl, pl := hpre.pl, lbd := fun s hs => ?_, env := ⟨rfl, rfl, rfl⟩ }
      · simp [startSt, hnt, hpre.size]
      · by_cases hlt : i < args.length
        · have e1 : (startSt pf.nt args sh).regs.getD i .un = args.getD i .un := by
            simp only [startSt, List.getD_eq_getElem?_getD]; rw [List.getElem?_append_left hlt]
          have e2 : (vals ++ Array.replicate (fn.ntmps - vals.size) undef).getD i undef = vals.getD i undef := by
            have := hpre.size
            simp only [Array.getD_eq_getD_getElem?]; rw [Array.getElem?_append_left (by omega)]
          rw [e1, e2]
          exact (hpre.arg i hlt).op.reg i
        · have e1 : (startSt pf.nt args sh).regs.getD i .un = .un := by
            simp only [startSt] at hi ⊢
            simp only [List.getD_eq_getElem?_getD]; rw [List.getElem?_append_right (by omega)]
            simp at hi
            rw [List.getElem?_replicate]
            split <;> rfl
          rw [e1]
          trivial
      · have := hpre.pl b; rw [h1] at this; exact this.elim
      · have := hpre.pl b; rw [h1] at this; exact this.elim
      · have := hpre.pl b; rw [h1] at this; exact this.elim
      · have := List.all_eq_true.1 hcond'.2 s (by simpa [Lst.contains] using hs)
        simp only [decide_eq_true_eq] at this
        simp [startSt]
        omega
    have fin : ∀ (s : St) (κ1 : KM) (a1 : Act) (w1 : World), Rel G L κ w κ1 s a1 w1 → (match resAll s.regs pf.res with | some l => some (resPV l, dropSh pf.drop sh.boxes.length s.ef.sh) | none => none) = some (r, sh') →
        a1.defers = [] ∧ ∃ v, (results fn a1.tmps).run P w1 = .ok v w1 ∧ Post G κ w r sh' (.returned v) w1 := by
      intro s κ1 a1 w1 hR1 hfin
      split at hfin <;> first | (cases hfin; done) | skip
      rename_i l hl
      simp only [Option.some.injEq, Prod.mk.injEq] at hfin
      obtain ⟨rfl, rfl⟩ := hfin
      rw [hrr] at hl
      obtain ⟨v, hv1, hv2⟩ := results_ok hR1 hrs hl
      have m : Mono κ1 w1 (fun b => resK (κ1 b)) w1 := ⟨fun b n h => foot_res h, fun b id h => by simp [h, resK], fun _ _ _ _ _ => rfl⟩
      have sbo : ∀ b id, resK (κ1 b) = .sb id → κ1 b = .sb id := by
        intro b id h
        cases hk : κ1 b <;> simp [hk, resK] at h ⊢; exact h
      have hmem := hR1.mem.mono m sbo (fun _ _ _ => rfl)
      refine ⟨hR1.defers, v, hv1, fun b => resK (κ1 b), hv2, ?_, hR1.glob.mono m (fun b h => by simp [h, resK]), fun b hb => by simp [hR1.new b hb, resK], fun b => plain_resK _, hR1.base, fun b hb => ?_, fun b hb hs => hR1.old b hb hs, hR1.env⟩
      · unfold dropSh
        cases pf.drop with
        | false => exact hmem
        | true =>
          refine ⟨fun id cs hg => hmem.box id cs (getB_drop _ _ _ _ hmem.nd hg), hmem.inj, hmem.lt, ?_⟩
          simp only [if_true]
          rw [List.map_drop]
          exact (List.drop_sublist _ _).nodup hmem.nd
      · show resK (κ1 b) = κ b
        rw [hR1.keep b hb, resK_plain (hpre.pl b)]
    cases hex : exec (callN T G n) G n pf.body (startSt pf.nt args sh) with
    | none => rw [hex] at h; simp [finish] at h
    | some o =>
      rw [hex] at h
      refine Code.wp_mono (fun e a1 w1 hq => ?_) (code_ok ih (fun g hg => hcalm g hg G n) hm c pf.body (by rw [hbd]; exact hb) n _ o hex κ _ w hR)
      cases o with
      | nrm s =>
        cases e <;> first | exact hq.elim | skip
        obtain ⟨κ1, hR1⟩ := hq
        exact fin s κ1 a1 w1 hR1 h
      | ext j s => simp [finish] at h
      | ret s =>
        cases e <;> first | exact hq.elim | skip
        obtain ⟨κ1, hR1⟩ := hq
        exact fin s κ1 a1 w1 hR1 h

end
end Go.Pi
