/- Regions, in the text's order or in any order. -/
import Derived.Test.YtckcklkbdbafbaaDoorPiN
namespace Go.Pi
open Go
open PV (genOf asSrc clrC clrs clr clrAll cellsT cells0)

section
variable {P : Program} {call : CallF} {G : Glob} {L : List Nat} {κ0 : KM} {w0 : World} {κ : KM} {st : St} {a : Act} {w : World}

theorem guardOf_inv {ops : Array Oper} {gd : Option (Nat × Bool)} {g : Option (Nat × Bool)} (h : guardOf ops.toList gd = some g) :
    (gd = none ∧ g = none) ∨ ∃ j b o' d, gd = some (j, b) ∧ ops[j]? = some o' ∧ o'.dst = some d ∧ g = some (d, b) := by
  unfold guardOf at h
  split at h
  · cases h; exact .inl ⟨rfl, rfl⟩
  · rename_i j b
    split at h <;> first | (cases h; done) | skip
    rename_i o' ho
    split at h <;> first | (cases h; done) | skip
    rename_i d hd
    cases h
    exact .inr ⟨j, b, o', d, rfl, by simpa using ho, hd, rfl⟩

/-- A guard, told by the interpreter. -/
theorem wanted_ok (hR : Rel G L κ0 w0 κ st a w) {ops : Array Oper} {o : Oper} {g : Option (Nat × Bool)} (hg : guardOf ops.toList o.guard = some g) {b : Bool}
    (h : wantedP (fun t => st.regs.getD t .un) g = some b) : Region.wanted o (yielded ops a.tmps) = b := by
  rcases guardOf_inv hg with ⟨h1, h2⟩ | ⟨j, c, o', d, h1, h2, h3, h4⟩
  · subst h2
    simp only [wantedP, Option.some.injEq] at h
    simp [Region.wanted, h1, h]
  · subst h4
    simp only [wantedP] at h
    have hd : d < st.regs.length ∨ st.regs.getD d .un = .un := by
      rcases Nat.lt_or_ge d st.regs.length with h' | h'
      · exact .inl h'
      · right; rw [List.getD_eq_getElem?_getD, List.getElem?_eq_none h']; rfl
    rcases hd with hd | hd
    · have hr := hR.reg d hd
      have hlt : d < a.tmps.size := by rw [hR.size]; exact hd
      have hget : a.tmps[d]? = some (a.tmps.getD d undef) := by simp [hlt]
      have hy : yielded ops a.tmps j = (match a.tmps.getD d undef with | .bool b => some b | _ => none) := by
        unfold yielded
        simp only [h2, Option.bind_some, h3, hget]
        cases a.tmps.getD d undef <;> rfl
      simp only [Region.wanted, h1, hy]
      split at h
      · rename_i x hx
        rw [hx] at hr
        have hop : OpRep κ w st.ef.live st.ef.tk (.v (.bool x)) (a.tmps.getD d undef) := ⟨trivial, hr⟩
        have e := hop.v_inv.1
        rw [e]
        simp only [Option.some.injEq] at h
        rw [← h]
        cases x <;> cases c <;> rfl
      · rename_i hx
        rw [hx] at hr
        have e : a.tmps.getD d undef = undef := hr
        rw [e]
        simp only [Option.some.injEq] at h
        rw [← h]
        rfl
      · cases h
    · rw [hd] at h; cases h

theorem step_ok (hcall : CallOK P G call) (hR : Rel G L κ0 w0 κ st a w) {ops : Array Oper} {prev : List Oper} {o : Oper} {i : PI} (hc : compI P L ops.toList prev o = some i) {st' : St}
    (hs : step call G i st = some st') {K : Act → World → Prop} {Q : Exit → Act → World → Prop} (hK : ∀ κ' a' w', Rel G L κ0 w0 κ' st' a' w' → K a' w') :
    if Region.wanted o (yielded ops a.tmps) then o.wp P a w K Q ∨ (o.asks P a w ∧ LetsOut Q) else K (a.put o.dst undef) w := by
  obtain ⟨k, rs, r, g, hk, hg, hi, hnb, _, _, _, _, _⟩ := compI_inv hc
  have hig : i.g = g := by rw [hi]
  unfold step at hs
  simp only at hs
  split at hs
  · rename_i hw
    rw [hig] at hw
    rw [wanted_ok hR hg hw, if_pos rfl]
    split at hs <;> first | (cases hs; done) | skip
    rename_i x e ha
    cases hs
    exact .inl (op_act hcall hR hc ha hK)
  · rename_i hw
    rw [hig] at hw
    rw [wanted_ok hR hg hw, if_neg (by simp)]
    split at hs <;> first | (cases hs; done) | skip
    rename_i hb
    cases hs
    have hkb : k.boxes = false := by rw [hi] at hb; simpa using hb
    have := hR.put (d := o.dst) (p := .ud) (v := undef) ⟨trivial, rfl⟩ (hnb hkb)
    have hd : i.d = o.dst := by rw [hi]
    rw [hd] at hK
    exact hK _ _ _ this
  · cases hs

/-- In the text's order. -/
theorem steps_ok (hcall : CallOK P G call) {ops : Array Oper} {Q : Exit → Act → World → Prop} : ∀ (l : List Oper) (prev : List Oper) (is : List PI) (st st' : St) (κ : KM) (a : Act) (w : World),
    Rel G L κ0 w0 κ st a w → compL P L ops.toList prev l = some is → steps call G is st = some st' →
    (∀ κ' a' w', Rel G L κ0 w0 κ' st' a' w' → Q .normal a' w') → wpList P ops Q l a w
  | [], prev, is, st, st', κ, a, w, hR, hc, hs, hQ => by
    simp only [compL, Option.some.injEq] at hc
    subst hc
    simp only [steps, Option.some.injEq] at hs
    subst hs
    exact hQ κ a w hR
  | o :: l, prev, is, st, st', κ, a, w, hR, hc, hs, hQ => by
    simp only [compL] at hc
    split at hc <;> first | (cases hc; done) | skip
    rename_i i is' hi his
    cases hc
    simp only [steps] at hs
    split at hs <;> first | (cases hs; done) | skip
    rename_i st1 hs1
    unfold wpList
    exact step_ok hcall hR hi hs1 fun κ' a' w' hR' => steps_ok hcall l _ is' st1 st' κ' a' w' hR' his hs hQ

end
end Go.Pi
