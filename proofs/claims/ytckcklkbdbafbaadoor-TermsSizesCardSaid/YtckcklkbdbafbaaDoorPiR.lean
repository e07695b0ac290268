/- A region whose order is open; code; functions. -/
import Derived.Test.YtckcklkbdbafbaaDoorPiQ
namespace Go.Pi
open Go
open PV (genOf asSrc clrC clrs clr clrAll cellsT cells0)

section
variable {P : Program} {call : CallF} {G : Glob} {L : List Nat} {κ0 : KM} {w0 : World}

theorem compL_get {ops : List Oper} : ∀ {l prev : List Oper} {is : List PI}, compL P L ops prev l = some is → is.length = l.length ∧
    ∀ (j : Nat) (o : Oper), l[j]? = some o → ∃ prev' i, is[j]? = some i ∧ compI P L ops prev' o = some i
  | [], prev, is, h => by
    simp only [compL, Option.some.injEq] at h
    subst h
    exact ⟨rfl, fun j o ho => by simp at ho⟩
  | o :: l, prev, is, h => by
    simp only [compL] at h
    split at h <;> first | (cases h; done) | skip
    rename_i i is' hi his
    cases h
    obtain ⟨h1, h2⟩ := compL_get his
    refine ⟨by simp [h1], fun j o' ho => ?_⟩
    cases j with
    | zero => simp at ho; subst ho; exact ⟨prev, i, rfl, hi⟩
    | succ j => simpa using h2 j o' (by simpa using ho)

theorem behinds_len : ∀ (l : List Oper) (acc : List (List Nat)), (behinds acc l).length = acc.length + l.length
  | [], acc => by simp [behinds]
  | o :: r, acc => by simp only [behinds]; rw [behinds_len r]; simp; omega

theorem behinds_old : ∀ (l : List Oper) (acc : List (List Nat)) (j : Nat), j < acc.length → (behinds acc l).getD j [] = acc.getD j []
  | [], acc, j, _ => rfl
  | o :: r, acc, j, h => by
    simp only [behinds]
    rw [behinds_old r _ j (by simp; omega)]
    simp only [List.getD_eq_getElem?_getD]
    rw [List.getElem?_append_left h]

theorem behinds_get : ∀ (l : List Oper) (acc : List (List Nat)) (j : Nat) (o : Oper), l[j]? = some o →
    ∃ acc' : List (List Nat), (behinds acc l).getD (acc.length + j) [] = behind1 acc' o ∧ ∀ d, d < acc.length + j → acc'.getD d [] = (behinds acc l).getD d []
  | [], acc, j, o, h => by simp at h
  | x :: r, acc, j, o, h => by
    cases j with
    | zero =>
      simp at h
      subst h
      refine ⟨acc, ?_, fun d hd => (behinds_old (x :: r) acc d (by omega)).symm⟩
      simp only [behinds]
      rw [behinds_old r _ _ (by simp)]
      simp [List.getD_eq_getElem?_getD]
    | succ j =>
      obtain ⟨acc', h1, h2⟩ := behinds_get r (acc ++ [behind1 acc x]) j o (by simpa using h)
      simp only [behinds]
      simp only [List.length_append, List.length_singleton] at h1 h2
      refine ⟨acc', ?_, fun d hd => h2 d (by omega)⟩
      rw [← h1]
      congr 1
      omega

/-- A set of places that holds all that its places come behind. -/
def Closed (bs : List (List Nat)) (S : Nat → Bool) : Prop := ∀ j, S j = true → ∀ i, i ∈ bs.getD j [] → S i = true

theorem behind_lt {ops : List Oper} (he : edgesOk ops = true) : ∀ j, ∀ i, i ∈ (behinds [] ops).getD j [] → i < j := by
  intro j
  induction j using Nat.strongRecOn with
  | _ j ih =>
    intro i hi
    cases ho : ops[j]? with
    | none =>
      have hlen := behinds_len ops []
      have : j ≥ ops.length := by
        rcases Nat.lt_or_ge j ops.length with h | h
        · simp [List.getElem?_eq_getElem h] at ho
        · exact h
      rw [List.getD_eq_getElem?_getD, List.getElem?_eq_none (by simp at hlen; omega)] at hi
      simp at hi
    | some o =>
      obtain ⟨acc', h1, h2⟩ := behinds_get ops [] j o ho
      simp only [List.length_nil, Nat.zero_add] at h1 h2
      rw [h1] at hi
      have hedge : ∀ d, d ∈ ((o.after.toList.filter fun e => Region.binds .any e).map (·.on)) → d < j := by
        intro d hd
        simp only [List.mem_map, List.mem_filter] at hd
        obtain ⟨e, ⟨hm, hb⟩, rfl⟩ := hd
        simp only [edgesOk, List.all_eq_true] at he
        have := he (o, j) (by
          rw [List.mem_zipIdx_iff_getElem?]
          exact ho) e hm
        simpa [hb] using this
      simp only [behind1, List.mem_append, List.mem_flatMap] at hi
      rcases hi with hi | ⟨d, hd, hi⟩
      · exact hedge i hi
      · have hdj := hedge d hd
        rw [h2 d hdj] at hi
        have := ih d hdj i hi
        omega

theorem closed_add {ops : List Oper} (he : edgesOk ops = true) {S S' : Nat → Bool} {n : Nat} {o : Oper} (hS : Closed (behinds [] ops) S) (hS' : ∀ j, S' j = if j = n then true else S j) (ho : ops[n]? = some o)
    (hr : ∀ e, e ∈ o.after.toList → Region.binds .any e = true → S e.on = true) : Closed (behinds [] ops) S' ∧ ∀ i, i ∈ (behinds [] ops).getD n [] → S i = true := by
  have key : ∀ i, i ∈ (behinds [] ops).getD n [] → S i = true := by
    intro i hi
    obtain ⟨acc', h1, h2⟩ := behinds_get ops [] n o ho
    simp only [List.length_nil, Nat.zero_add] at h1 h2
    rw [h1] at hi
    simp only [behind1, List.mem_append, List.mem_flatMap, List.mem_map, List.mem_filter] at hi
    rcases hi with ⟨e, ⟨hm, hb⟩, rfl⟩ | ⟨d, ⟨e, ⟨hm, hb⟩, rfl⟩, hi⟩
    · exact hr e hm hb
    · have hlt : e.on < n := by
        simp only [edgesOk, List.all_eq_true] at he
        have := he (o, n) (by rw [List.mem_zipIdx_iff_getElem?]; exact ho) e hm
        simpa [hb] using this
      rw [h2 _ hlt] at hi
      exact hS _ (hr e hm hb) i hi
  refine ⟨fun j hj i hi => ?_, key⟩
  rw [hS']
  by_cases hi' : i = n
  · rw [if_pos hi']
  · rw [if_neg hi']
    rw [hS'] at hj
    by_cases hj' : j = n
    · subst hj'; exact key i hi
    · rw [if_neg hj'] at hj
      exact hS j hj i hi

theorem pairs_apart {is : List PI} {bs : List (List Nat)} (h : pairsOk is bs = true) {i j : Nat} {x y : PI} (hij : i < j) (hx : is[i]? = some x) (hy : is[j]? = some y) : i ∈ bs.getD j [] ∨ Apart x y := by
  have hj : j < is.length := by
    rcases Nat.lt_or_ge j is.length with h' | h'
    · exact h'
    · rw [List.getElem?_eq_none h'] at hy; cases hy
  simp only [pairsOk, List.all_eq_true, List.mem_range] at h
  have := h j hj i hij
  rw [hx, hy] at this
  simp only [Bool.or_eq_true, List.contains_eq_mem, decide_eq_true_eq] at this
  rcases this with h1 | h1
  · exact .inl h1
  · exact .inr (apart_spec h1)

theorem ins {is : List PI} {ops : List Oper} (hp : pairsOk is (behinds [] ops) = true) {S S' : Nat → Bool} {n : Nat} {x : PI} (hn : S n = false) (hS : Closed (behinds [] ops) S)
    (hS' : ∀ j, S' j = if j = n then true else S j) (hx : is[n]? = some x) (st : St) : steps call G (sel S' 0 is) st = (steps call G (sel S 0 is) st).bind (step call G x) := by
  refine insert_sel hn hS' is 0 st (Nat.zero_le _) (by simpa using hx) fun j y hj hSj hy => ?_
  rcases pairs_apart hp hj hx (by simpa using hy) with h | h
  · rw [hS j hSj n h] at hn
    cases hn
  · exact h

/-- What runs as a whole runs in part. -/
theorem part_runs {is : List PI} {ops : List Oper} (hl : is.length = ops.length) (he : edgesOk ops = true) (hp : pairsOk is (behinds [] ops) = true) {st st' : St} (h : steps call G is st = some st') :
    ∀ (m : Nat) (S : Nat → Bool), Closed (behinds [] ops) S → (∀ j, j + m < is.length → S j = true) → ∃ s, steps call G (sel S 0 is) st = some s := by
  intro m
  induction m with
  | zero =>
    intro S _ hall
    rw [sel_all is 0 fun j _ hj => hall j (by omega)]
    exact ⟨st', h⟩
  | succ m ih =>
    intro S hS hall
    by_cases hm : m < is.length
    · have hq : is.length - 1 - m < is.length := by omega
      generalize hn : is.length - 1 - m = n at hq
      by_cases hSn : S n = true
      · exact ih S hS fun j hj => by
          by_cases e : j = n
          · subst e; exact hSn
          · exact hall j (by omega)
      · have hSn' : S n = false := by simpa using hSn
        have hx : is[n]? = some is[n] := List.getElem?_eq_getElem hq
        have ho : ops[n]? = some (ops[n]'(by omega)) := List.getElem?_eq_getElem (by omega)
        have hready : ∀ e, e ∈ (ops[n]'(by omega)).after.toList → Region.binds .any e = true → S e.on = true := by
          intro e hm' hb
          have hlt : e.on < n := by
            simp only [edgesOk, List.all_eq_true] at he
            have := he (_, n) (by rw [List.mem_zipIdx_iff_getElem?]; exact ho) e hm'
            simpa [hb] using this
          exact hall _ (by omega)
        obtain ⟨hS2, _⟩ := closed_add he hS (S' := fun j => if j = n then true else S j) (fun _ => rfl) ho hready
        obtain ⟨s, hs⟩ := ih _ hS2 fun j hj => by
          by_cases e : j = n
          · simp [e]
          · simp only [if_neg e]; exact hall j (by omega)
        rw [ins hp hSn' hS (fun _ => rfl) hx] at hs
        cases hq2 : steps call G (sel S 0 is) st with
        | none => rw [hq2] at hs; cases hs
        | some s' => exact ⟨s', rfl⟩
    · exact ih S hS fun j hj => by omega

theorem ready_iff {ops : Array Oper} {listed : Array Bool} (hs : listed.size = ops.size) {i : Nat} : i ∈ Region.ready .any ops listed ↔
    ∃ o, ops[i]? = some o ∧ listed.getD i false = false ∧ ∀ e, e ∈ o.after.toList → Region.binds .any e = true → listed.getD e.on false = true := by
  unfold Region.ready
  simp only [List.mem_filter, List.mem_range, Bool.and_eq_true, Bool.not_eq_true']
  constructor
  · rintro ⟨h1, h2, h3⟩
    have ho : ops[i]? = some ops[i] := Array.getElem?_eq_getElem h1
    refine ⟨ops[i], ho, ?_, ?_⟩
    · have hl : i < listed.size := by omega
      simpa [hl] using h2
    · rw [ho] at h3
      simp only [Option.map_some, Option.getD_some, Array.all_eq_true', Bool.or_eq_true, Bool.not_eq_true'] at h3
      intro e he hb
      have := h3 e (by simpa using he)
      rcases this with h | h
      · rw [hb] at h; cases h
      · exact h
  · rintro ⟨o, ho, h2, h3⟩
    have hi : i < ops.size := by
      rcases Nat.lt_or_ge i ops.size with h | h
      · exact h
      · rw [Array.getElem?_eq_none h] at ho; cases ho
    refine ⟨hi, ?_, ?_⟩
    · have hl : i < listed.size := by omega
      simpa [hl] using h2
    · rw [ho]
      simp only [Option.map_some, Option.getD_some, Array.all_eq_true', Bool.or_eq_true, Bool.not_eq_true']
      intro e he
      cases hb : Region.binds .any e with
      | false => exact .inl rfl
      | true => exact .inr (h3 e (by simpa using he) hb)

end
end Go.Pi
