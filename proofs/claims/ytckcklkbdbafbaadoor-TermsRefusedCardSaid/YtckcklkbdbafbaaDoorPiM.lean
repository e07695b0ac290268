/- One operation: the machine does what the interpreter says. -/
import Derived.Test.YtckcklkbdbafbaaDoorPiL
namespace Go.Pi
open Go
open PV (genOf asSrc clrC clrs clr clrAll cellsT cells0)

section
variable {P : Program} {call : CallF} {G : Glob} {L : List Nat} {κ0 : KM} {w0 : World} {κ : KM} {st : St} {a : Act} {w : World} {live : Nat → Bool} {tk : Nat} {S : Operand → PV} {ρ : Operand → Value}

theorem clrAll_spec : ∀ {l m : List PV}, clrAll l = some m → m.length = l.length ∧ ∀ i, i < l.length → clr (l.getD i .un) = some (m.getD i .un)
  | [], m, h => by simp [clrAll] at h; subst h; exact ⟨rfl, fun i hi => by simp at hi⟩
  | x :: r, m, h => by
    simp only [clrAll] at h
    split at h
    · rename_i y l' hy hl
      cases h
      obtain ⟨h1, h2⟩ := clrAll_spec hl
      refine ⟨by simp [h1], fun i hi => ?_⟩
      cases i with
      | zero => simpa using hy
      | succ i => simpa using h2 i (by simpa using hi)
    · cases h

theorem args_rep (hS : ∀ x, OpRep κ w live tk (S x) (ρ x)) {args : Array Operand} {ys : List PV} (h : clrAll (args.toList.map S) = some ys) :
    (args.map ρ).size = ys.length ∧ ∀ i, i < ys.length → ValRep κ w (ys.getD i .un) ((args.map ρ).getD i undef) := by
  obtain ⟨h1, h2⟩ := clrAll_spec h
  have hl : ys.length = args.size := by rw [h1]; simp
  refine ⟨by simp [hl], fun i hi => ?_⟩
  have hi' : i < args.toList.length := by simp; omega
  have := h2 i (by simpa using hi')
  rw [getD_map' S _ i PV.un (.func 0) hi'] at this
  have e : (args.map ρ).getD i undef = ρ (args.toList.getD i (.func 0)) := by
    have hi2 : i < args.size := by simpa using hi'
    simp [hi2, List.getD_eq_getElem?_getD]
  rw [e]
  exact clr_rep (hS _) this

/-- An operation that yields a value. -/
theorem wp_yield {o : Oper} {v : Value} {w' : World} {K : Act → World → Prop} {Q : Exit → Act → World → Prop} (hr : (execOp a.eval o).run P w = .ok (.value v) w') (hk : K (a.put o.dst v) w') : o.wp P a w K Q := by
  simp only [Oper.wp, hr, Oper.upon]
  exact hk

theorem wp_skipped {o : Oper} {w' : World} {K : Act → World → Prop} {Q : Exit → Act → World → Prop} (hr : (execOp a.eval o).run P w = .ok .skip w') (hk : K (a.put o.dst undef) w') : o.wp P a w K Q := by
  simp only [Oper.wp, hr, Oper.upon]
  exact hk

theorem wp_entered {o : Oper} {f : FuncId} {args : Array Value} {w' : World} {K : Act → World → Prop} {Q : Exit → Act → World → Prop} {R : Value → World → Prop}
    (hr : (execOp a.eval o).run P w = .ok (.enter f args) w') (hc : Calls P f args w' fun | .returned v, w'' => R v w'' | _, _ => False) (hk : ∀ v w'', R v w'' → K (a.put o.dst v) w'') : o.wp P a w K Q := by
  simp only [Oper.wp, hr, Oper.upon]
  refine hc.mono fun e w'' h => ?_
  cases e with
  | returned v => exact hk v w'' h
  | panicked c => exact h.elim
  | outgrown => exact h.elim

/-- A call, by what is owed of it. -/
theorem wp_call (hcall : CallOK P G call) (hR : Rel G L κ0 w0 κ st a w) {o : Oper} {f : FuncId} {ys : List PV} {vals : Array Value} {r : PV} {sh' : Sh} (hc : call f ys st.ef.sh = some (r, sh'))
    (hs : vals.size = ys.length) (ha : ∀ i, i < ys.length → ValRep κ w (ys.getD i .un) (vals.getD i undef))
    (hrun : ∀ fn, P.funcs[f]? = some fn → (fn.name == "runtime.NumGoroutine") = false → fn.body.isNone = false → (execOp a.eval o).run P w = .ok (.enter f vals) w)
    (hd : ∀ t, o.dst = some t → L.contains t = false) {K : Act → World → Prop} {Q : Exit → Act → World → Prop}
    (hk : ∀ κ' a' w', Rel G L κ0 w0 κ' ⟨putD st.regs o.dst r, { st.ef with sh := sh' }⟩ a' w' → K a' w') : o.wp P a w K Q := by
  obtain ⟨⟨fn, h1, h2, h3⟩, h4⟩ := hcall f ys st.ef.sh r sh' hc
  refine wp_entered (hrun fn h1 h2 h3) (R := fun v w' => ∃ κ', PostR G (fun b => outK (κ b)) w r sh' v κ' w') ((h4 _ w vals (hR.callPre hs ha)).mono fun e w' h => ?_) fun v w' ⟨κ', h⟩ => ?_
  · cases e with
    | returned v => exact h
    | panicked c => exact h
    | outgrown => exact h
  · obtain ⟨κ2, hR2⟩ := hR.callPost h hd
    exact hk _ _ _ hR2

theorem callFunc_run {f : FuncId} {fn : Func} (h1 : P.funcs[f]? = some fn) (h2 : (fn.name == "runtime.NumGoroutine") = false) (h3 : fn.body.isNone = false) (args : Array Value) :
    (callFunc f args).run P w = .ok (.enter f args) w := by
  have h2' : ¬ fn.name = "runtime.NumGoroutine" := by simpa using h2
  have h3' : ¬ fn.body = none := by intro e; simp [e] at h3
  simp [callFunc, h1, h2', h3']


/-- What is known of a compiled operation. -/
theorem compI_inv {ops prev : List Oper} {o : Oper} {i : PI} (h : compI P L ops prev o = some i) :
    ∃ k rs r g, compOp P L prev o.dst o.op = some (k, rs, r) ∧ guardOf ops o.guard = some g ∧ i = ⟨k, rs, o.dst, r, g⟩ ∧
      (k.boxes = false → ∀ t, o.dst = some t → L.contains t = false) ∧ (k.boxes = true → ∃ t, o.dst = some t ∧ L.contains t = true) ∧
      (∀ n, k = .stL n → ∃ s, r = some s ∧ L.contains s = true ∧ o.dst = none) ∧ (∀ n g, k = .ldL n g → r.isSome = true) ∧ ((∀ n, k ≠ .stL n) → (∀ n g, k ≠ .ldL n g) → r = none) ∧ (∀ n, k = .stS n → o.dst = none) := by
  unfold compI at h
  split at h
  · rename_i k rs r g hk hg
    split at h
    · rename_i hc
      cases h
      simp only [compOk, Bool.and_eq_true] at hc
      obtain ⟨hc1, hc2⟩ := hc
      refine ⟨k, rs, r, g, hk, hg, rfl, ?_, ?_, ?_, ?_, ?_, ?_⟩
      · intro hb t ht
        simpa [dstOk, ht, hb] using hc1
      · intro hb
        cases hd : o.dst with
        | none => simp [dstOk, hd, hb] at hc1
        | some d => exact ⟨d, rfl, by simpa [dstOk, hd, hb] using hc1⟩
      · intro n e
        subst e
        cases r with
        | none => simp [boxOk] at hc2
        | some s => simp [boxOk] at hc2; exact ⟨s, rfl, by simpa using hc2.1, hc2.2⟩
      · intro n g e
        subst e
        cases r with
        | none => simp [boxOk] at hc2
        | some s => rfl
      · intro h1 h2
        cases r with
        | none => rfl
        | some s =>
          cases k <;> simp [boxOk] at hc2
          · exact absurd rfl (h2 _ _)
          · exact absurd rfl (h1 _)
      · intro n e
        subst e
        cases r with
        | none => simpa [boxOk] using hc2
        | some s => simp [boxOk] at hc2
    · cases h
  · cases h

end
end Go.Pi
