/- Code and functions: what the interpreter says is what the machine does. -/
import Derived.Test.YtckcklkbdbafbaaDoorPiR
namespace Go.Pi
open Go
open PV (genOf asSrc clrC clrs clr clrAll cellsT cells0)

section
variable {P : Program} {call : CallF} {G : Glob} {L : List Nat} {κ0 : KM} {w0 : World}

theorem countP_lt {α : Type} {p q : α → Bool} : ∀ (l : List α) (x : α), (∀ y, p y = true → q y = true) → x ∈ l → p x = false → q x = true → l.countP p < l.countP q
  | [], _, _, h, _, _ => by simp at h
  | y :: r, x, hpq, hx, h1, h2 => by
    have hle : ∀ l : List α, l.countP p ≤ l.countP q := fun l => List.countP_mono_left fun z _ hz => hpq z hz
    simp only [List.countP_cons]
    simp only [List.mem_cons] at hx
    rcases hx with e | hx
    · subst e
      have := hle r
      simp [h1, h2]
      omega
    · have ih := countP_lt r x hpq hx h1 h2
      cases hy : p y with
      | false => simp; omega
      | true => rw [hpq y hy]; simp; omega

theorem set_getD {l : Array Bool} {i j : Nat} (h : i < l.size) : (l.setIfInBounds i true).getD j false = if j = i then true else l.getD j false := by
  simp only [Array.getD_eq_getD_getElem?]
  by_cases e : j = i
  · subst e; simp [h]
  · rw [if_neg e, Array.getElem?_setIfInBounds_ne (fun h => e h.symm)]

theorem any_ok (hcall : CallOK P G call) {ops : Array Oper} {is : List PI} (hc : compL P L ops.toList [] ops.toList = some is) (he : edgesOk ops.toList = true) (hp : pairsOk is (behinds [] ops.toList) = true)
    {st0 st' : St} (hrun : steps call G is st0 = some st') {Q : Exit → Act → World → Prop} (hQ : ∀ κ' a' w', Rel G L κ0 w0 κ' st' a' w' → Q .normal a' w') :
    ∀ (fuel : Nat) (listed : Array Bool) (st : St) (κ : KM) (a : Act) (w : World), listed.size = ops.size → Closed (behinds [] ops.toList) (fun k => listed.getD k false) →
      steps call G (sel (fun k => listed.getD k false) 0 is) st0 = some st → Rel G L κ0 w0 κ st a w → (List.range ops.size).countP (fun k => !listed.getD k false) ≤ fuel → wpAny P .any ops Q fuel listed a w := by
  obtain ⟨hlen, hget⟩ := compL_get hc
  have hlen' : is.length = ops.size := by simpa using hlen
  have done : ∀ (listed : Array Bool) (st : St) (κ : KM) (a : Act) (w : World), steps call G (sel (fun k => listed.getD k false) 0 is) st0 = some st → Rel G L κ0 w0 κ st a w →
      (∀ k, k < ops.size → listed.getD k false = true) → Q .normal a w := by
    intro listed st κ a w hs hR hall
    rw [sel_all is 0 fun j _ hj => hall j (by omega), hrun] at hs
    cases hs
    exact hQ κ a w hR
  have full : ∀ (listed : Array Bool), listed.size = ops.size → Region.ready .any ops listed = [] → ∀ k, k < ops.size → listed.getD k false = true := by
    intro listed hsz hr k
    induction k using Nat.strongRecOn with
    | _ k ih =>
      intro hk
      cases hl : listed.getD k false with
      | true => rfl
      | false =>
        have ho : ops[k]? = some ops[k] := Array.getElem?_eq_getElem hk
        have : k ∈ Region.ready .any ops listed := (ready_iff hsz).2 ⟨ops[k], ho, hl, fun e hm hb => by
          have hlt : e.on < k := by
            have he' := he
            simp only [edgesOk, List.all_eq_true] at he'
            have := he' (ops[k], k) (by rw [List.mem_zipIdx_iff_getElem?]; simp) e hm
            simpa [hb] using this
          exact ih e.on hlt (by omega)⟩
        rw [hr] at this
        simp at this
  intro fuel
  induction fuel with
  | zero =>
    intro listed st κ a w hsz hcl hs hR hcount
    have hall : ∀ k, k < ops.size → listed.getD k false = true := by
      intro k hk
      have h0 : (List.range ops.size).countP (fun k => !listed.getD k false) = 0 := by omega
      rw [List.countP_eq_zero] at h0
      have := h0 k (List.mem_range.2 hk)
      simpa using this
    refine ⟨?_, done listed st κ a w hs hR hall⟩
    cases hr : Region.ready .any ops listed with
    | nil => rfl
    | cons k r =>
      have : k ∈ Region.ready .any ops listed := by rw [hr]; simp
      obtain ⟨o, ho, hl, _⟩ := (ready_iff hsz).1 this
      have hk : k < ops.size := by
        rcases Nat.lt_or_ge k ops.size with h | h
        · exact h
        · rw [Array.getElem?_eq_none h] at ho; cases ho
      rw [hall k hk] at hl
      cases hl
  | succ fuel ih =>
    intro listed st κ a w hsz hcl hs hR hcount
    refine ⟨fun hr => done listed st κ a w hs hR (full listed hsz hr), fun i hi => ?_⟩
    obtain ⟨o, ho, hl, hpre⟩ := (ready_iff hsz).1 hi
    have hi' : i < ops.size := by
      rcases Nat.lt_or_ge i ops.size with h | h
      · exact h
      · rw [Array.getElem?_eq_none h] at ho; cases ho
    have hol : ops.toList[i]? = some o := by simpa using ho
    obtain ⟨prev, x, hx, hcx⟩ := hget i o hol
    have hSS : ∀ j, (listed.setIfInBounds i true).getD j false = if j = i then true else listed.getD j false := fun j => set_getD (by omega)
    obtain ⟨hcl2, _⟩ := closed_add he hcl (S' := fun k => (listed.setIfInBounds i true).getD k false) hSS hol hpre
    obtain ⟨s, hs2⟩ := part_runs (call := call) (G := G) (by simpa using hlen) he hp hrun is.length _ hcl2 (fun j hj => by omega)
    have hs3 := hs2
    rw [ins hp hl hcl hSS hx, hs] at hs3
    have hstep : step call G x st = some s := hs3
    unfold wpOp
    rw [ho]
    refine step_ok hcall hR hcx hstep fun κ' a' w' hR' => ?_
    refine ih _ s κ' a' w' (by simpa using hsz) hcl2 hs2 hR' ?_
    have := countP_lt (p := fun k => !(listed.setIfInBounds i true).getD k false) (q := fun k => !listed.getD k false) (List.range ops.size) i (fun k hk => by
      simp only [hSS] at hk
      by_cases e : k = i
      · simp [e] at hk
      · simpa [e] using hk) (List.mem_range.2 hi') (by simp [hSS]) (by simpa using hl)
    omega

/-- How an end of the interpreter's stands to one of the machine's. -/
def OutOK (G : Glob) (L : List Nat) (κ0 : KM) (w0 : World) : Out → Exit → Act → World → Prop
  | .nrm s, .normal, a, w => ∃ κ, Rel G L κ0 w0 κ s a w
  | .ext id s, .exit id', a, w => id = id' ∧ ∃ κ, Rel G L κ0 w0 κ s a w
  | .ret s, .ret, a, w => ∃ κ, Rel G L κ0 w0 κ s a w
  | _, _, _, _ => False

theorem region_ok (hcall : CallOK P G call) (hm : P.follows .mixedOrders = true) {id : Nat} {ops : Array Oper} {draw : Bool} {is : List PI} (hc : compR P L ops draw = some is)
    {κ : KM} {st st' : St} {a : Act} {w : World} (hR : Rel G L κ0 w0 κ st a w) (hs : steps call G is st = some st') : (Code.region id ops draw).wp P (OutOK G L κ0 w0 (.nrm st')) a w := by
  unfold compR at hc
  split at hc <;> first | (cases hc; done) | skip
  rename_i is' hcl
  split at hc <;> first | (cases hc; done) | skip
  rename_i hcond
  cases hc
  cases draw with
  | false => exact wp_region_list (steps_ok hcall ops.toList [] is st st' κ a w hR hcl hs fun κ' a' w' h => ⟨κ', h⟩)
  | true =>
    simp only [Bool.not_true, Bool.false_or, Bool.and_eq_true] at hcond
    refine wp_region_any hm ?_
    have hR2 : Rel G L κ0 w0 κ ⟨st.regs, st.ef⟩ a { w with drawn := w.drawn + 1 } :=
      hR.ext ⟨rfl, rfl, rfl⟩ (fun _ _ => rfl) (fun _ _ => rfl) (Nat.le_refl _) (fun _ _ h => h) (Nat.le_refl _) rfl fun b h1 h2 => absurd h2 h1
    have hrep : ∀ k, (Array.replicate ops.size false).getD k false = false := by
      intro k
      simp only [Array.getD_eq_getD_getElem?]
      by_cases h : k < ops.size
      · simp [h]
      · rw [Array.getElem?_eq_none (by simp; omega)]; rfl
    have hsel : sel (fun k => (Array.replicate ops.size false).getD k false) 0 is = [] := by
      have : ∀ (l : List PI) (k : Nat), sel (fun k => (Array.replicate ops.size false).getD k false) k l = [] := by
        intro l
        induction l with
        | nil => intro k; rfl
        | cons x r ih =>
          intro k
          simp only [sel]
          rw [if_neg (by rw [hrep]; simp), ih]
      exact this is 0
    refine any_ok hcall hcl hcond.1 hcond.2 hs (fun κ' a' w' h => ⟨κ', h⟩) ops.size _ st κ a _ (by simp) (fun j hj => ?_) (by rw [hsel]; rfl) hR2 ?_
    · simp only [hrep] at hj; cases hj
    · have := List.countP_le_length (p := fun k => !(Array.replicate ops.size false).getD k false) (l := List.range ops.size)
      simpa using this

theorem code_ok (hcall : CallOK P G call) (hm : P.follows .mixedOrders = true) : ∀ (c : Code) (pc : PC), compC P L c = some pc → ∀ (fuel : Nat) (st : St) (o : Out), exec call G fuel pc st = some o →
    ∀ (κ : KM) (a : Act) (w : World), Rel G L κ0 w0 κ st a w → c.wp P (OutOK G L κ0 w0 o) a w
  | .skip, pc, hc, fuel, st, o, hx, κ, a, w, hR => by
    simp only [compC, Option.some.injEq] at hc
    subst hc
    simp only [exec, Option.some.injEq] at hx
    subst hx
    exact wp_skip ⟨κ, hR⟩
  | .region id ops draw, pc, hc, fuel, st, o, hx, κ, a, w, hR => by
    simp only [compC] at hc
    split at hc <;> first | (cases hc; done) | skip
    rename_i l hl
    cases hc
    simp only [exec] at hx
    split at hx <;> first | (cases hx; done) | skip
    rename_i s' hs
    cases hx
    exact region_ok hcall hm hl hR hs
  | .seq x y, pc, hc, fuel, st, o, hx, κ, a, w, hR => by
    simp only [compC] at hc
    split at hc <;> first | (cases hc; done) | skip
    rename_i p q hp hq
    cases hc
    simp only [exec] at hx
    refine wp_seq ?_
    cases h1 : exec call G fuel p st with
    | none => rw [h1] at hx; cases hx
    | some o1 =>
      rw [h1] at hx
      refine Code.wp_mono (fun e a' w' h => ?_) (code_ok hcall hm x p hp fuel st o1 h1 κ a w hR)
      cases o1 with
      | nrm s =>
        cases e <;> first | exact h.elim | skip
        obtain ⟨κ', hR'⟩ := h
        exact code_ok hcall hm y q hq fuel s o hx κ' a' w' hR'
      | ext id s =>
        cases hx
        cases e <;> first | exact h.elim | exact h
      | ret s =>
        cases hx
        cases e <;> first | exact h.elim | exact h
  | .cond c x y, pc, hc, fuel, st, o, hx, κ, a, w, hR => by
    simp only [compC] at hc
    split at hc <;> first | (cases hc; done) | skip
    rename_i p q hp hq
    cases hc
    simp only [exec] at hx
    split at hx <;> first | (cases hx; done) | skip
    rename_i t ht
    have hs := src_rep hR c
    rw [ht] at hs
    refine wp_cond hs.v_inv.1 ?_
    cases t with
    | true => exact code_ok hcall hm x p hp fuel st o (by simpa using hx) κ a w hR
    | false => exact code_ok hcall hm y q hq fuel st o (by simpa using hx) κ a w hR
  | .block id b, pc, hc, fuel, st, o, hx, κ, a, w, hR => by
    simp only [compC] at hc
    split at hc <;> first | (cases hc; done) | skip
    rename_i p hp
    cases hc
    simp only [exec] at hx
    refine wp_block ?_
    cases h1 : exec call G fuel p st with
    | none => rw [h1] at hx; cases hx
    | some o1 =>
      rw [h1] at hx
      refine Code.wp_mono (fun e a' w' h => ?_) (code_ok hcall hm b p hp fuel st o1 h1 κ a w hR)
      cases o1 with
      | nrm s =>
        cases hx
        cases e <;> first | exact h.elim | exact h
      | ext j s =>
        cases e <;> first | exact h.elim | skip
        rename_i j'
        obtain ⟨e', hR'⟩ := h
        subst e'
        simp only at hx
        by_cases ej : j = id
        · rw [if_pos ej] at hx
          cases hx
          subst ej
          simp only [Exit.inBlock, if_true]
          exact hR'
        · rw [if_neg ej] at hx
          cases hx
          simp only [Exit.inBlock, if_neg ej]
          exact ⟨rfl, hR'⟩
      | ret s =>
        cases hx
        cases e <;> first | exact h.elim | exact h
  | .loop b, pc, hc, fuel, st, o, hx, κ, a, w, hR => by
    simp only [compC] at hc
    split at hc <;> first | (cases hc; done) | skip
    rename_i p hp
    cases hc
    simp only [exec] at hx
    have key : ∀ (n : Nat) (st : St), iter (exec call G fuel p) n st = some o → ∀ (κ : KM) (a : Act) (w : World), Rel G L κ0 w0 κ st a w → Code.rounds P b (OutOK G L κ0 w0 o) n a w := by
      intro n
      induction n with
      | zero => intro st h; simp [iter] at h
      | succ n ih =>
        intro st h κ a w hR
        simp only [iter] at h
        rw [rounds_succ]
        cases h1 : exec call G fuel p st with
        | none => rw [h1] at h; cases h
        | some o1 =>
          rw [h1] at h
          refine Code.wp_mono (fun e a' w' hq => ?_) (code_ok hcall hm b p hp fuel st o1 h1 κ a w hR)
          cases o1 with
          | nrm s =>
            cases e <;> first | exact hq.elim | skip
            obtain ⟨κ', hR'⟩ := hq
            exact ih s h κ' a' w' hR'
          | ext j s =>
            cases h
            cases e <;> first | exact hq.elim | exact hq
          | ret s =>
            cases h
            cases e <;> first | exact hq.elim | exact hq
    exact wp_loop_rounds fuel (key fuel st hx κ a w hR)
  | .exit id, pc, hc, fuel, st, o, hx, κ, a, w, hR => by
    simp only [compC, Option.some.injEq] at hc
    subst hc
    simp only [exec, Option.some.injEq] at hx
    subst hx
    exact wp_exit ⟨rfl, κ, hR⟩
  | .ret, pc, hc, fuel, st, o, hx, κ, a, w, hR => by
    simp only [compC, Option.some.injEq] at hc
    subst hc
    simp only [exec, Option.some.injEq] at hx
    subst hx
    exact wp_ret ⟨κ, hR⟩
  | .rangeFunc .., _, hc, _, _, _, _, _, _, _, _ => by simp [compC] at hc
  | .scope _, _, hc, _, _, _, _, _, _, _, _ => by simp [compC] at hc
  | .label _, _, hc, _, _, _, _, _, _, _, _ => by simp [compC] at hc
  | .goto _, _, hc, _, _, _, _, _, _, _, _ => by simp [compC] at hc
  | .refuse _, _, hc, _, _, _, _, _, _, _, _ => by simp [compC] at hc

end
end Go.Pi
