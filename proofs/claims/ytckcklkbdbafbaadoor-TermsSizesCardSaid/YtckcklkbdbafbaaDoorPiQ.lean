/- Operations that are apart may change places. -/
import Derived.Test.YtckcklkbdbafbaaDoorPiO
namespace Go.Pi
open Go
open PV (genOf asSrc clrC clrs clr clrAll cellsT cells0)

section
variable {call : CallF} {G : Glob}

/-- What an operation writes, and where. -/
def out (call : CallF) (G : Glob) (i : PI) (get : Nat → PV) (e : Eff) : Option (Option Nat × PV × Eff) :=
  match wantedP get i.g with
  | some true => (match act call G i get e with | some (x, e') => some (i.target, x, e') | none => none)
  | some false => if i.k.boxes then none else some (i.d, .ud, e)
  | none => none

def apply (st : St) : Option Nat × PV × Eff → St
  | (t, x, e) => ⟨putD st.regs t x, e⟩

theorem step_out (i : PI) (st : St) : step call G i st = (out call G i (fun t => st.regs.getD t .un) st.ef).map (apply st) := by
  unfold step out
  simp only
  cases wantedP (fun t => st.regs.getD t .un) i.g with
  | none => rfl
  | some b =>
    cases b with
    | true => cases act call G i (fun t => st.regs.getD t .un) st.ef <;> rfl
    | false => cases i.k.boxes <;> rfl

theorem evalP_old {k : PK} (h : k.boxes = false) (old old' : PV) (xs : List PV) : evalP k old xs = evalP k old' xs := by
  cases k <;> first | (simp [PK.boxes] at h; done) | kernel_rfl

theorem src_congr {get get' : Nat → PV} {x : Src} (h : ∀ t, x = .s t → get t = get' t) : src G get x = src G get' x := by
  cases x with
  | s t => simp only [src, h t rfl]
  | c x => rfl
  | g i => rfl

theorem act_congr {i : PI} {get get' : Nat → PV} (h : ∀ t, t ∈ i.reads → get t = get' t) (e : Eff) : act call G i get e = act call G i get' e := by
  have hrs : i.rs.map (src G get) = i.rs.map (src G get') := by
    apply List.map_congr_left
    intro x hx
    refine src_congr fun t ht => h t ?_
    subst ht
    simp only [PI.reads, List.mem_append]
    exact .inl (.inl (.inl (List.mem_filterMap.2 ⟨_, hx, rfl⟩)))
  have hr : ∀ s, i.r = some s → get s = get' s := fun s hs => h s (by simp [PI.reads, hs])
  unfold act
  simp only [hrs]
  split
  · rfl
  · split
    · rename_i n agg r p hk' hir hxs; rw [hr _ hir]
    · rename_i n r p x hk' hir hxs; rw [hr _ hir]
    · cases hd : i.d with
      | none => rfl
      | some d =>
        by_cases hb : i.k.boxes = true
        · have := h d (by simp [PI.reads, hb, hd])
          simp only [this]
        · have hb' : i.k.boxes = false := by simpa using hb
          simp only [evalP_old hb' (get d) (get' d)]
    · rfl

theorem wanted_congr {i : PI} {get get' : Nat → PV} (h : ∀ t, t ∈ i.reads → get t = get' t) : wantedP get i.g = wantedP get' i.g := by
  cases hg : i.g with
  | none => rfl
  | some p =>
    obtain ⟨j, b⟩ := p
    have := h j (by simp [PI.reads, hg])
    simp only [wantedP, this]

theorem out_congr {i : PI} {get get' : Nat → PV} (h : ∀ t, t ∈ i.reads → get t = get' t) (e : Eff) : out call G i get e = out call G i get' e := by
  unfold out
  rw [wanted_congr h, act_congr h]

theorem target_writes {i : PI} {d : Nat} (h : i.target = some d) : d ∈ i.writes := by
  unfold PI.target at h
  unfold PI.writes
  split at h
  · rename_i n hk; simp [h]
  · simp [h]

theorem out_writes {i : PI} {get : Nat → PV} {e e' : Eff} {t : Option Nat} {x : PV} (h : out call G i get e = some (t, x, e')) : ∀ d, t = some d → d ∈ i.writes := by
  intro d hd
  subst hd
  unfold out at h
  split at h
  · split at h <;> first | (cases h; done) | skip
    simp only [Option.some.injEq, Prod.mk.injEq] at h
    exact target_writes h.1
  · split at h <;> first | (cases h; done) | skip
    simp only [Option.some.injEq, Prod.mk.injEq] at h
    simp [PI.writes, h.1]
  · cases h

theorem act_pure {i : PI} (hk : i.k.eff = false) (get : Nat → PV) : ∃ f : Option PV, ∀ e, act call G i get e = f.map fun x => (x, e) := by
  unfold act
  simp only [hk, Bool.false_eq_true, if_false]
  split
  · rename_i n agg r p hk' hir hxs
    cases hq : evalL p (get r) r n agg with
    | none => exact ⟨none, fun e => rfl⟩
    | some x => exact ⟨some x, fun e => rfl⟩
  · rename_i n r p x hk' hir hxs
    cases hq : evalW p x (get r) r n with
    | none => exact ⟨none, fun e => rfl⟩
    | some x => exact ⟨some x, fun e => rfl⟩
  · cases hd : i.d with
    | none => exact ⟨none, fun e => rfl⟩
    | some d =>
      simp only
      cases hq : evalP i.k (get d) (i.rs.map (src G get)) with
      | none => exact ⟨none, fun e => rfl⟩
      | some x => exact ⟨some x, fun e => rfl⟩
  · exact ⟨none, fun e => rfl⟩

theorem out_pure {i : PI} (hk : i.k.eff = false) (get : Nat → PV) : ∃ f : Option (Option Nat × PV), ∀ e, out call G i get e = f.map fun p => (p.1, p.2, e) := by
  obtain ⟨f, hf⟩ := act_pure (call := call) (G := G) hk get
  unfold out
  cases wantedP get i.g with
  | none => exact ⟨none, fun e => rfl⟩
  | some b =>
    cases b with
    | true =>
      cases f with
      | none => exact ⟨none, fun e => by simp [hf]⟩
      | some x => exact ⟨some (i.target, x), fun e => by simp [hf]⟩
    | false =>
      cases i.k.boxes with
      | true => exact ⟨none, fun e => rfl⟩
      | false => exact ⟨some (i.d, .ud), fun e => rfl⟩

theorem putD_get {regs : List PV} {t : Option Nat} {x : PV} {d : Nat} (h : ∀ s, t = some s → s ≠ d) : (putD regs t x).getD d .un = regs.getD d .un := by
  cases t with
  | none => rfl
  | some s => exact getD_set_ne _ _ _ _ _ (h s rfl)

theorem putD_comm {regs : List PV} {t s : Option Nat} {x y : PV} (h : ∀ d, t = some d → s ≠ some d) : putD (putD regs t x) s y = putD (putD regs s y) t x := by
  cases t with
  | none => rfl
  | some d =>
    cases s with
    | none => rfl
    | some c =>
      simp only [putD]
      exact List.set_comm _ _ (fun e => h d rfl (by rw [e]))

/-- Two operations that do not meet. -/
structure Apart (i j : PI) : Prop where
  wr : ∀ t, t ∈ i.writes → t ∉ j.reads
  rw : ∀ t, t ∈ j.writes → t ∉ i.reads
  ww : ∀ t, t ∈ i.writes → t ∉ j.writes
  ee : i.k.eff = false ∨ j.k.eff = false ∨ (i.k.quiet = true ∧ j.k.quiet = true)

theorem apart_spec {i j : PI} (h : apart i j = true) : Apart i j := by
  simp only [apart, Bool.and_eq_true, Bool.or_eq_true, List.all_eq_true, Bool.not_eq_true', List.contains_eq_mem, decide_eq_false_iff_not, Bool.and_eq_false_imp] at h
  obtain ⟨⟨h1, h2⟩, h3⟩ := h
  refine ⟨fun t ht => (h1 t ht).1, fun t ht => h2 t ht, fun t ht => (h1 t ht).2, ?_⟩
  rcases h3 with h3 | h3
  · cases he : i.k.eff with
    | false => exact .inl rfl
    | true => exact .inr (.inl (h3 he))
  · exact .inr (.inr h3)

theorem Apart.symm {i j : PI} (h : Apart i j) : Apart j i := ⟨h.rw, h.wr, fun t h1 h2 => h.ww t h2 h1, by
  rcases h.ee with h | h | h
  · exact .inr (.inl h)
  · exact .inl h
  · exact .inr (.inr ⟨h.2, h.1⟩)⟩

theorem comm_pure {i j : PI} (h : Apart i j) (hk : i.k.eff = false) (st : St) : (step call G i st).bind (step call G j) = (step call G j st).bind (step call G i) := by
  obtain ⟨f, hf⟩ := out_pure (call := call) (G := G) hk fun t => st.regs.getD t .un
  rw [step_out i st, step_out j st, hf]
  have hj : ∀ t x e, f = some (t, x) → step call G j (apply st (t, x, e)) = (out call G j (fun t => st.regs.getD t .un) e).map (apply (apply st (t, x, e))) := by
    intro t x e hq
    rw [step_out]
    have ho : out call G i (fun t => st.regs.getD t .un) e = some (t, x, e) := by rw [hf, hq]; rfl
    have := out_writes ho
    congr 1
    refine out_congr (fun s hs => putD_get fun d hd => ?_) e
    intro e'
    subst e'
    exact h.wr _ (this _ hd) hs
  have hi : ∀ t x e e', out call G j (fun t => st.regs.getD t .un) e = some (t, x, e') → step call G i (apply st (t, x, e')) = (f.map fun p => (p.1, p.2, e')).map (apply (apply st (t, x, e'))) := by
    intro t x e e' ho
    rw [step_out]
    have := out_writes ho
    rw [← hf]
    congr 1
    refine out_congr (fun s hs => putD_get fun d hd => ?_) e'
    intro e''
    subst e''
    exact h.rw _ (this _ hd) hs
  cases hq : f with
  | none =>
    simp only [Option.map_none, Option.bind_none]
    cases ho : out call G j (fun t => st.regs.getD t .un) st.ef with
    | none => rfl
    | some p => obtain ⟨t, x, e'⟩ := p; simp only [Option.map_some, Option.bind_some]; rw [hi t x _ e' ho, hq]; rfl
  | some p =>
    obtain ⟨t, x⟩ := p
    simp only [Option.map_some, Option.bind_some]
    rw [hj t x _ hq]
    cases ho : out call G j (fun t => st.regs.getD t .un) st.ef with
    | none => rfl
    | some p =>
      obtain ⟨s, y, e'⟩ := p
      simp only [Option.map_some, Option.bind_some]
      rw [hi s y _ e' ho, hq]
      simp only [Option.map_some, apply]
      have h1 : out call G i (fun t => st.regs.getD t .un) st.ef = some (t, x, st.ef) := by rw [hf, hq]; rfl
      rw [putD_comm]
      intro d hd hs
      exact h.ww d (out_writes h1 d hd) (out_writes ho d hs)

theorem act_quiet {i : PI} (hk : i.k.quiet = true) (get : Nat → PV) (e : Eff) : ∃ f : Option PV, act call G i get e = f.map fun x => (x, e) := by
  by_cases he : i.k.eff = true
  · unfold act
    simp only [he, if_true]
    have hq : ∃ n agg, i.k = .ldS n agg := by
      generalize i.k = k at hk he
      cases k <;> first | exact ⟨_, _, rfl⟩ | (simp [PK.eff] at he; done) | (simp [PK.quiet, PK.eff] at hk; done)
    obtain ⟨n, agg, hkk⟩ := hq
    rw [hkk]
    generalize i.rs.map (src G get) = xs
    match xs with
    | [.sp id off] =>
      simp only [evalE]
      split <;> first | exact ⟨none, rfl⟩ | skip
      split <;> first | exact ⟨none, rfl⟩ | skip
      exact ⟨some _, rfl⟩
    | [] => exact ⟨none, by simp [evalE]⟩
    | [.un] => exact ⟨none, by simp [evalE]⟩
    | [.ud] => exact ⟨none, by simp [evalE]⟩
    | [.v _] => exact ⟨none, by simp [evalE]⟩
    | [.sl ..] => exact ⟨none, by simp [evalE]⟩
    | [.ag _] => exact ⟨none, by simp [evalE]⟩
    | [.tup _] => exact ⟨none, by simp [evalE]⟩
    | [.bx ..] => exact ⟨none, by simp [evalE]⟩
    | [.lp ..] => exact ⟨none, by simp [evalE]⟩
    | [.ep ..] => exact ⟨none, by simp [evalE]⟩
    | [.fn ..] => exact ⟨none, by simp [evalE]⟩
    | _ :: _ :: _ => exact ⟨none, by simp [evalE]⟩
  · obtain ⟨f, hf⟩ := act_pure (call := call) (G := G) (by simpa using he) get
    exact ⟨f, hf e⟩

theorem out_quiet {i : PI} (hk : i.k.quiet = true) (get : Nat → PV) (e : Eff) : ∃ f : Option (Option Nat × PV), out call G i get e = f.map fun p => (p.1, p.2, e) := by
  obtain ⟨f, hf⟩ := act_quiet (call := call) (G := G) hk get e
  unfold out
  cases wantedP get i.g with
  | none => exact ⟨none, rfl⟩
  | some b =>
    cases b with
    | true =>
      cases f with
      | none => exact ⟨none, by simp [hf]⟩
      | some x => exact ⟨some (i.target, x), by simp [hf]⟩
    | false =>
      cases i.k.boxes with
      | true => exact ⟨none, rfl⟩
      | false => exact ⟨some (i.d, .ud), rfl⟩

theorem comm_quiet {i j : PI} (h : Apart i j) (hi : i.k.quiet = true) (hj : j.k.quiet = true) (st : St) : (step call G i st).bind (step call G j) = (step call G j st).bind (step call G i) := by
  obtain ⟨f, hf⟩ := out_quiet (call := call) (G := G) hi (fun t => st.regs.getD t .un) st.ef
  obtain ⟨g, hg⟩ := out_quiet (call := call) (G := G) hj (fun t => st.regs.getD t .un) st.ef
  have hjj : ∀ t x, f = some (t, x) → step call G j (apply st (t, x, st.ef)) = (g.map fun p => (p.1, p.2, st.ef)).map (apply (apply st (t, x, st.ef))) := by
    intro t x hq
    have ho : out call G i (fun t => st.regs.getD t .un) st.ef = some (t, x, st.ef) := by rw [hf, hq]; rfl
    have := out_writes ho
    rw [step_out, ← hg]
    congr 1
    refine out_congr (fun s hs => putD_get fun d hd => ?_) st.ef
    intro e'
    subst e'
    exact h.wr _ (this _ hd) hs
  have hii : ∀ t x, g = some (t, x) → step call G i (apply st (t, x, st.ef)) = (f.map fun p => (p.1, p.2, st.ef)).map (apply (apply st (t, x, st.ef))) := by
    intro t x hq
    have ho : out call G j (fun t => st.regs.getD t .un) st.ef = some (t, x, st.ef) := by rw [hg, hq]; rfl
    have := out_writes ho
    rw [step_out, ← hf]
    congr 1
    refine out_congr (fun s hs => putD_get fun d hd => ?_) st.ef
    intro e'
    subst e'
    exact h.rw _ (this _ hd) hs
  rw [step_out i st, step_out j st, hf, hg]
  cases hq : f with
  | none =>
    cases hp : g with
    | none => rfl
    | some p => obtain ⟨t, x⟩ := p; simp only [Option.map_none, Option.bind_none, Option.map_some, Option.bind_some]; rw [hii t x hp, hq]; rfl
  | some p =>
    obtain ⟨t, x⟩ := p
    cases hp : g with
    | none => simp only [Option.map_none, Option.bind_none, Option.map_some, Option.bind_some]; rw [hjj t x hq, hp]; rfl
    | some p =>
      obtain ⟨s, y⟩ := p
      simp only [Option.map_some, Option.bind_some]
      rw [hjj t x hq, hii s y hp, hp, hq]
      simp only [Option.map_some, apply]
      have h1 : out call G i (fun t => st.regs.getD t .un) st.ef = some (t, x, st.ef) := by rw [hf, hq]; rfl
      have h2 : out call G j (fun t => st.regs.getD t .un) st.ef = some (s, y, st.ef) := by rw [hg, hp]; rfl
      rw [putD_comm]
      intro d hd hs
      exact h.ww d (out_writes h1 d hd) (out_writes h2 d hs)

theorem comm {i j : PI} (h : Apart i j) (st : St) : (step call G i st).bind (step call G j) = (step call G j st).bind (step call G i) := by
  rcases h.ee with hk | hk | hk
  · exact comm_pure h hk st
  · exact (comm_pure h.symm hk st).symm
  · exact comm_quiet h hk.1 hk.2 st

theorem steps_cons (i : PI) (l : List PI) (st : St) : steps call G (i :: l) st = (step call G i st).bind (steps call G l) := by
  simp only [steps]
  cases step call G i st <;> rfl

theorem push_back {i : PI} : ∀ (l : List PI) (st : St), (∀ j, j ∈ l → Apart i j) → steps call G (i :: l) st = (steps call G l st).bind (step call G i)
  | [], st, _ => by
    rw [steps_cons]
    show (step call G i st).bind (steps call G []) = (some st).bind (step call G i)
    rw [Option.bind_some]
    cases step call G i st <;> rfl
  | j :: l, st, h => by
    rw [steps_cons, steps_cons]
    have e : ∀ s, steps call G (j :: l) s = (step call G j s).bind (steps call G l) := fun s => steps_cons j l s
    have h1 : (step call G i st).bind (steps call G (j :: l)) = ((step call G i st).bind (step call G j)).bind (steps call G l) := by
      rw [Option.bind_assoc]
      congr 1
      funext s
      exact e s
    rw [h1, comm (h j (by simp)) st, Option.bind_assoc, Option.bind_assoc]
    congr 1
    funext s
    rw [← steps_cons]
    exact push_back l s fun q hq => h q (by simp [hq])

/-- The operations at some places. -/
def sel (S : Nat → Bool) : Nat → List PI → List PI
  | _, [] => []
  | k, i :: r => if S k then i :: sel S (k + 1) r else sel S (k + 1) r

theorem sel_congr {S S' : Nat → Bool} : ∀ (l : List PI) (k : Nat), (∀ j, k ≤ j → S j = S' j) → sel S k l = sel S' k l
  | [], _, _ => rfl
  | i :: r, k, h => by
    simp only [sel]
    rw [h k (Nat.le_refl _), sel_congr r (k + 1) fun j hj => h j (by omega)]

theorem sel_all {S : Nat → Bool} : ∀ (l : List PI) (k : Nat), (∀ j, k ≤ j → j < k + l.length → S j = true) → sel S k l = l
  | [], _, _ => rfl
  | i :: r, k, h => by
    simp only [sel]
    rw [h k (Nat.le_refl _) (by simp), if_pos rfl, sel_all r (k + 1) fun j h1 h2 => h j (by omega) (by simp at h2 ⊢; omega)]

theorem sel_mem {S : Nat → Bool} {x : PI} : ∀ (l : List PI) (k : Nat), x ∈ sel S k l → ∃ j, k ≤ j ∧ S j = true ∧ l[j - k]? = some x
  | [], _, h => by simp [sel] at h
  | i :: r, k, h => by
    simp only [sel] at h
    have rest : x ∈ sel S (k + 1) r → ∃ j, k ≤ j ∧ S j = true ∧ (i :: r)[j - k]? = some x := by
      intro h
      obtain ⟨j, h1, h2, h3⟩ := sel_mem r (k + 1) h
      refine ⟨j, by omega, h2, ?_⟩
      rw [show j - k = (j - (k + 1)) + 1 by omega]
      simpa using h3
    split at h
    · rename_i hs
      simp only [List.mem_cons] at h
      rcases h with h | h
      · exact ⟨k, Nat.le_refl _, hs, by simp [h]⟩
      · exact rest h
    · exact rest h

theorem insert_sel {S S' : Nat → Bool} {n : Nat} {x : PI} (hn : S n = false) (hS : ∀ j, S' j = if j = n then true else S j) : ∀ (l : List PI) (k : Nat) (st : St), k ≤ n → l[n - k]? = some x →
    (∀ j y, n < j → S j = true → l[j - k]? = some y → Apart x y) → steps call G (sel S' k l) st = (steps call G (sel S k l) st).bind (step call G x)
  | [], k, st, _, hx, _ => by simp at hx
  | i :: r, k, st, hk, hx, hc => by
    by_cases e : k = n
    · subst e
      simp only [Nat.sub_self, List.getElem?_cons_zero, Option.some.injEq] at hx
      subst hx
      have hs' : S' k = true := by rw [hS, if_pos rfl]
      simp only [sel, hs', hn, if_true, Bool.false_eq_true, if_false]
      rw [sel_congr r (k + 1) (S := S') (S' := S) fun j hj => by rw [hS, if_neg (by omega)]]
      refine push_back _ st fun y hy => ?_
      obtain ⟨j, h1, h2, h3⟩ := sel_mem r (k + 1) hy
      refine hc j y (by omega) h2 ?_
      rw [show j - k = (j - (k + 1)) + 1 by omega]
      simpa using h3
    · have hx' : r[n - (k + 1)]? = some x := by
        rw [show n - k = (n - (k + 1)) + 1 by omega] at hx
        simpa using hx
      have hc' : ∀ j y, n < j → S j = true → r[j - (k + 1)]? = some y → Apart x y := by
        intro j y h1 h2 h3
        refine hc j y h1 h2 ?_
        rw [show j - k = (j - (k + 1)) + 1 by omega]
        simpa using h3
      have ih := fun s => insert_sel hn hS r (k + 1) s (by omega) hx' hc'
      simp only [sel, hS k, if_neg e]
      split
      · rw [steps_cons, steps_cons, Option.bind_assoc]
        congr 1
        funext s
        exact ih s
      · exact ih st

end
end Go.Pi
