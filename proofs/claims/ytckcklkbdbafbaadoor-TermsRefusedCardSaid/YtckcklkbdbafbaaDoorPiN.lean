/- One operation, whichever it is. -/
import Derived.Test.YtckcklkbdbafbaaDoorPiM
namespace Go.Pi
open Go
open PV (genOf asSrc clrC clrs clr clrAll cellsT cells0)

section
variable {P : Program} {call : CallF} {G : Glob} {L : List Nat} {κ0 : KM} {w0 : World} {κ : KM} {st : St} {a : Act} {w : World}

theorem act_plain {k : PK} {rs : List Src} {d : Nat} {g : Option (Nat × Bool)} {get : Nat → PV} {e e' : Eff} {x : PV} (hk : k.eff = false) (hl : ∀ n b, k ≠ .ldL n b) (hs : ∀ n, k ≠ .stL n)
    (h : act call G ⟨k, rs, some d, none, g⟩ get e = some (x, e')) : e' = e ∧ evalP k (get d) (rs.map (src G get)) = some x := by
  simp only [act, hk] at h
  cases k <;> first
    | (exact absurd rfl (hl _ _))
    | (exact absurd rfl (hs _))
    | (simp at h
       split at h
       · rename_i y hy; simp at h; exact ⟨h.2.symm, by rw [hy, h.1]⟩
       · cases h)

theorem act_plain_none {k : PK} {rs : List Src} {g : Option (Nat × Bool)} {get : Nat → PV} {e e' : Eff} {x : PV} (hk : k.eff = false) (hl : ∀ n b, k ≠ .ldL n b) (hs : ∀ n, k ≠ .stL n)
    (h : act call G ⟨k, rs, none, none, g⟩ get e = some (x, e')) : False := by
  simp only [act, hk] at h
  cases k <;> first
    | (exact absurd rfl (hl _ _))
    | (exact absurd rfl (hs _))
    | (simp at h)

theorem RepC.val {p : PV} {x : Value} (h : RepC κ w p x) : ValRep κ w p x := by
  cases p <;> first | exact h | cases h

theorem opt_srcs (get : Nat → PV) (o : Option Operand) : (optSrc o).map (src G get) = o.toList.map fun x => src G get (toSrc x) := by
  cases o <;> rfl


theorem op_act (hcall : CallOK P G call) (hR : Rel G L κ0 w0 κ st a w) {ops prev : List Oper} {o : Oper} {i : PI} (hc : compI P L ops prev o = some i) {x : PV} {e : Eff}
    (ha : act call G i (fun t => st.regs.getD t .un) st.ef = some (x, e)) {K : Act → World → Prop} {Q : Exit → Act → World → Prop}
    (hK : ∀ κ' a' w', Rel G L κ0 w0 κ' ⟨putD st.regs i.target x, e⟩ a' w' → K a' w') : o.wp P a w K Q := by
  obtain ⟨k, rs, r, g, hk, hg, rfl, hnb, hbx, hst, hld, hr, hss⟩ := compI_inv hc
  have hS : ∀ x, OpRep κ w st.ef.live st.ef.tk ((fun x => src G (fun t => st.regs.getD t .un) (toSrc x)) x) (a.eval x) := fun x => src_rep hR x
  have val : k.eff = false → (∀ n b, k ≠ .ldL n b) → (∀ n, k ≠ .stL n) → k.boxes = false →
      (∀ old, evalP k old (rs.map (src G fun t => st.regs.getD t .un)) = some x → ∃ v, (execOp a.eval o).run P w = .ok (.value v) w ∧ OpRep κ w st.ef.live st.ef.tk x v) → o.wp P a w K Q := by
    intro h1 h2 h3 h4 h5
    have hrn := hr h3 h2
    subst hrn
    cases hd : o.dst with
    | none => rw [hd] at ha; exact (act_plain_none h1 h2 h3 ha).elim
    | some d =>
      rw [hd] at ha
      obtain ⟨he, hev⟩ := act_plain h1 h2 h3 ha
      obtain ⟨v, hrun, hrep⟩ := h5 _ hev
      refine wp_yield hrun (hK κ _ _ ?_)
      have := hR.put (d := o.dst) hrep (hnb h4)
      subst he
      have et : (⟨k, rs, o.dst, none, g⟩ : PI).target = o.dst := by
        cases k <;> first | rfl | exact absurd rfl (h3 _)
      rw [et]
      exact this
  have v1 : ∀ (s : Sem Value) (p : PV), execOp a.eval o = (do pure (.value (← s)) : Sem Next) → (∃ v, s.run P w = .ok v w ∧ OpRep κ w st.ef.live st.ef.tk p v) →
      ∃ v, (execOp a.eval o).run P w = .ok (.value v) w ∧ OpRep κ w st.ef.live st.ef.tk p v := by
    intro s p he ⟨v, h1, h2⟩
    exact ⟨v, by rw [he]; simp [h1], h2⟩
  generalize hop : o.op = op at hk
  cases op with
  | move y =>
    simp only [compOp, Option.some.injEq, Prod.mk.injEq] at hk
    obtain ⟨rfl, rfl, rfl⟩ := hk
    refine val rfl (by simp) (by simp) rfl fun old h => ?_
    have := mv_yields (P := P) hS y h
    simpa [execOp, hop] using this
  | assign y =>
    simp only [compOp, Option.some.injEq, Prod.mk.injEq] at hk
    obtain ⟨rfl, rfl, rfl⟩ := hk
    refine val rfl (by simp) (by simp) rfl fun old h => ?_
    have := mv_yields (P := P) hS y h
    simpa [execOp, hop] using this
  | pick c y z =>
    simp only [compOp, Option.some.injEq, Prod.mk.injEq] at hk
    obtain ⟨rfl, rfl, rfl⟩ := hk
    refine val rfl (by simp) (by simp) rfl fun old h => ?_
    have := pick_yields (P := P) hS c y z h
    simp only [execOp, hop]
    exact this
  | nilCheck y =>
    simp only [compOp, Option.some.injEq, Prod.mk.injEq] at hk
    obtain ⟨rfl, rfl, rfl⟩ := hk
    refine val rfl (by simp) (by simp) rfl fun old h => nilck_yields (P := P) hS y h o hop
  | binOp op T y z T2 =>
    simp only [compOp] at hk
    split at hk
    · rename_i hT
      simp only [Option.some.injEq, Prod.mk.injEq] at hk
      obtain ⟨rfl, rfl, rfl⟩ := hk
      refine val rfl (by simp) (by simp) rfl fun old h => v1 _ _ (by simp only [execOp, hop] <;> rfl) ?_
      have h1 := hS y
      have h2 := hS z
      simp only [List.map_cons, List.map_nil] at h h1 h2
      generalize src G (fun t => st.regs.getD t .un) (toSrc y) = py at *
      generalize src G (fun t => st.regs.getD t .un) (toSrc z) = pz at *
      cases py <;> first | (simp [evalP] at h; done) | skip
      cases pz <;> first | (simp [evalP] at h; done) | skip
      simp only [evalP] at h
      split at h <;> first | (cases h; done) | skip
      rename_i r hr
      cases h
      obtain ⟨e1, _⟩ := h1.v_inv
      obtain ⟨e2, _⟩ := h2.v_inv
      refine ⟨r, ?_, trivial, RepC.v _ ?_, trivial⟩
      · rw [e1, e2]; exact bin_runs op T y z hr
      · unfold binV at hr
        split at hr <;> first | (cases hr; done) | skip
        split at hr <;> first | (cases hr; done) | skip
        unfold intBin at hr
        cases op <;> simp only [Option.some.injEq, reduceCtorEq] at hr <;> first | (subst hr; rfl) | (split at hr <;> first | (cases hr; done) | (cases hr; rfl))
    · rename_i hT
      simp only [Option.some.injEq, Prod.mk.injEq] at hk
      obtain ⟨rfl, rfl, rfl⟩ := hk
      refine val rfl (by simp) (by simp) rfl fun old h => v1 _ _ (by simp only [execOp, hop] <;> rfl) ?_
      have h1 := hS y
      have h2 := hS z
      simp only [List.map_cons, List.map_nil] at h h1 h2
      generalize src G (fun t => st.regs.getD t .un) (toSrc y) = py at *
      generalize src G (fun t => st.regs.getD t .un) (toSrc z) = pz at *
      cases py <;> first | (simp [evalP] at h; done) | skip
      cases pz <;> first | (simp [evalP] at h; done) | skip
      simp only [evalP] at h
      split at h <;> first | (cases h; done) | skip
      rename_i r hr
      cases h
      obtain ⟨e1, _⟩ := h1.v_inv
      obtain ⟨e2, _⟩ := h2.v_inv
      refine ⟨r, ?_, trivial, RepC.v _ ?_, trivial⟩
      · rw [e1, e2]; exact binB_runs op T y z hT hr
      · unfold binBV at hr
        split at hr <;> first | (cases hr; done) | (cases hr; rfl)
    · cases hk
  | unOp op T y =>
    simp only [compOp, Option.some.injEq, Prod.mk.injEq] at hk
    obtain ⟨rfl, rfl, rfl⟩ := hk
    refine val rfl (by simp) (by simp) rfl fun old h => v1 _ _ (by simp only [execOp, hop] <;> rfl) ?_
    have h1 := hS y
    simp only [List.map_cons, List.map_nil] at h h1
    generalize src G (fun t => st.regs.getD t .un) (toSrc y) = py at *
    cases py <;> first | (simp [evalP] at h; done) | skip
    simp only [evalP] at h
    split at h <;> first | (cases h; done) | skip
    rename_i r hr
    cases h
    obtain ⟨e1, _⟩ := h1.v_inv
    refine ⟨r, ?_, trivial, RepC.v _ ?_, trivial⟩
    · rw [e1]; exact uno_runs op hr
    · unfold unoV at hr
      split at hr <;> first | (cases hr; done) | (cases hr; rfl)
  | convert s d y =>
    simp only [compOp] at hk
    split at hk <;> first | (cases hk; done) | skip
    rename_i k1 k2 hs hd
    simp only [Option.some.injEq, Prod.mk.injEq] at hk
    obtain ⟨rfl, rfl, rfl⟩ := hk
    refine val rfl (by simp) (by simp) rfl fun old h => v1 _ _ (by simp only [execOp, hop] <;> rfl) (conv_yields hS hs hd y h)
  | fieldAddr T y f =>
    simp only [compOp] at hk
    split at hk <;> first | (cases hk; done) | skip
    rename_i off n b hs
    split at hk <;> first | (cases hk; done) | skip
    rename_i hn
    simp only [Option.some.injEq, Prod.mk.injEq] at hk
    obtain ⟨rfl, rfl, rfl⟩ := hk
    refine val rfl (by simp) (by simp) rfl fun old h => v1 _ _ (by simp only [execOp, hop] <;> rfl) (fa_yields hS T y f hs hn (by simpa [evalP] using h))
  | field T y f =>
    simp only [compOp] at hk
    split at hk <;> first | (cases hk; done) | skip
    rename_i off n b hs
    split at hk <;> first | (cases hk; done) | skip
    rename_i hkn
    simp only [Option.some.injEq, Prod.mk.injEq] at hk
    obtain ⟨rfl, rfl, rfl⟩ := hk
    refine val rfl (by simp) (by simp) rfl fun old h => v1 _ _ (by simp only [execOp, hop] <;> rfl) ?_
    simp only [List.map_cons, List.map_nil] at h
    generalize hq : src G (fun t => st.regs.getD t .un) (toSrc y) = py at h
    cases py <;> first | (simp [evalP] at h; done) | skip
    exact fld_yields hS T y f hs hq (by simpa [evalP] using h) hkn
  | indexAddr T y j =>
    simp only [compOp] at hk
    split at hk <;> first | (cases hk; done) | skip
    · rename_i E hT
      split at hk <;> first | (cases hk; done) | skip
      rename_i ti hi
      simp only [Option.some.injEq, Prod.mk.injEq] at hk
      obtain ⟨rfl, rfl, rfl⟩ := hk
      exact val rfl (by simp) (by simp) rfl fun old h => v1 _ _ (by simp only [execOp, hop] <;> rfl) (ia_yields hS hT hi y j h)
    · rename_i n E hT
      split at hk <;> first | (cases hk; done) | skip
      rename_i ti hi
      simp only [Option.some.injEq, Prod.mk.injEq] at hk
      obtain ⟨rfl, rfl, rfl⟩ := hk
      exact val rfl (by simp) (by simp) rfl fun old h => v1 _ _ (by simp only [execOp, hop] <;> rfl) (iaA_yields hS hT hi y j h)
  | extract y j =>
    simp only [compOp, Option.some.injEq, Prod.mk.injEq] at hk
    obtain ⟨rfl, rfl, rfl⟩ := hk
    exact val rfl (by simp) (by simp) rfl fun old h => v1 _ _ (by simp only [execOp, hop] <;> rfl) (ext_yields hS y j h)
  | slice T y lo hi mx =>
    simp only [compOp] at hk
    split at hk <;> first | (cases hk; done) | skip
    rename_i E hT
    split at hk <;> first | (cases hk; done) | skip
    rename_i ti hti
    simp only [Option.some.injEq, Prod.mk.injEq] at hk
    obtain ⟨rfl, rfl, rfl⟩ := hk
    refine val rfl (by simp) (by simp) rfl fun old h => v1 _ _ (by simp only [execOp, hop] <;> rfl) (slc_yields hS hT hti y lo hi mx ?_)
    have e3 : pull mx.isSome (mx.toList.map fun x => src G (fun t => st.regs.getD t .un) (toSrc x)) = (mx.map fun x => src G (fun t => st.regs.getD t .un) (toSrc x), []) := by
      have := pull_some (S := fun x => src G (fun t => st.regs.getD t .un) (toSrc x)) mx []
      simpa using this
    simpa only [evalP, List.map_cons, List.map_append, opt_srcs, List.append_assoc, pull_some (S := fun x => src G (fun t => st.regs.getD t .un) (toSrc x)), e3] using h
  | makeFunc f first caps =>
    cases f <;> first | (simp [compOp] at hk; done) | skip
    rename_i f
    simp only [compOp] at hk
    split at hk <;> first | (cases hk; done) | skip
    rename_i h0
    simp only [Option.some.injEq, Prod.mk.injEq] at hk
    obtain ⟨rfl, rfl, rfl⟩ := hk
    refine val rfl (by simp) (by simp) rfl fun old h => v1 _ _ (by simp only [execOp, hop] <;> rfl) ⟨_, ?_, mkfn_yields hS f caps (by rw [List.map_map] at h; exact h)⟩
    have : first = #[] := Array.eq_empty_of_size_eq_zero h0
    simp [Instr.makeFunc, this]
  | load T y =>
    simp only [compOp] at hk
    split at hk <;> first | (cases hk; done) | skip
    rename_i ti hti
    split at hk <;> first | (cases hk; done) | skip
    rename_i hu
    have hu' : (P.underlying T).isSome = true := by simpa [Option.isSome_iff_ne_none] using hu
    have hy : OpRep κ w st.ef.live st.ef.tk (src G (fun t => st.regs.getD t .un) (toSrc y)) (a.eval y) := src_rep hR y
    split at hk
    · rename_i s _
      simp only [Option.some.injEq, Prod.mk.injEq] at hk
      obtain ⟨rfl, rfl, rfl⟩ := hk
      simp only [act, PK.eff, Bool.false_eq_true, if_false, List.map_cons, List.map_nil] at ha
      split at ha <;> first | (cases ha; done) | skip
      rename_i q hq
      cases ha
      obtain ⟨v, h1, h2⟩ := ldL_runs hR hti hu' hy hq
      refine wp_yield (v := v) (w' := w) (by simp [execOp, hop, h1]) (hK κ _ _ ?_)
      exact hR.put h2 (hnb rfl)
    · simp only [Option.some.injEq, Prod.mk.injEq] at hk
      obtain ⟨rfl, rfl, rfl⟩ := hk
      refine val rfl (by simp) (by simp) rfl fun old h => v1 _ _ (by simp only [execOp, hop] <;> rfl) ?_
      simp only [List.map_cons, List.map_nil] at h
      generalize src G (fun t => st.regs.getD t .un) (toSrc y) = py at *
      cases py <;> first | (simp [evalP] at h; done) | skip
      exact ldE_runs hti hu' hy.2 (by simpa [evalP] using h)
    · simp only [Option.some.injEq, Prod.mk.injEq] at hk
      obtain ⟨rfl, rfl, rfl⟩ := hk
      simp only [act, PK.eff, if_true, List.map_cons, List.map_nil] at ha
      generalize src G (fun t => st.regs.getD t .un) (toSrc y) = py at *
      cases py <;> first | (simp [evalE] at ha; done) | skip
      simp only [evalE] at ha
      split at ha <;> first | (cases ha; done) | skip
      rename_i cs hcs
      split at ha <;> first | (cases ha; done) | skip
      rename_i q hq
      cases ha
      obtain ⟨v, h1, h2⟩ := ldS_runs hR hti hu' hy hcs hq
      refine wp_yield (v := v) (w' := w) (by simp [execOp, hop, h1]) (hK κ _ _ ?_)
      exact hR.put h2 (hnb rfl)
  | store T y z =>
    simp only [compOp] at hk
    split at hk <;> first | (cases hk; done) | skip
    rename_i ti hti
    have hy : OpRep κ w st.ef.live st.ef.tk (src G (fun t => st.regs.getD t .un) (toSrc y)) (a.eval y) := src_rep hR y
    have hz : OpRep κ w st.ef.live st.ef.tk (src G (fun t => st.regs.getD t .un) (toSrc z)) (a.eval z) := src_rep hR z
    split at hk <;> first | (cases hk; done) | skip
    · rename_i s _
      simp only [Option.some.injEq, Prod.mk.injEq] at hk
      obtain ⟨rfl, rfl, rfl⟩ := hk
      obtain ⟨s', e', hL, hd0⟩ := hst _ rfl
      cases e'
      simp only [act, PK.eff, Bool.false_eq_true, if_false, List.map_cons, List.map_nil] at ha
      split at ha <;> first | (cases ha; done) | skip
      rename_i q hq
      cases ha
      obtain ⟨w', h1, h2⟩ := hR.stL hti hL hy hz hq
      refine wp_skipped (w' := w') (by simp [execOp, hop, h1]) ?_
      rw [hd0]
      exact hK κ a w' h2
    · simp only [Option.some.injEq, Prod.mk.injEq] at hk
      obtain ⟨rfl, rfl, rfl⟩ := hk
      have hd0 := hss _ rfl
      simp only [act, PK.eff, if_true, List.map_cons, List.map_nil] at ha
      generalize src G (fun t => st.regs.getD t .un) (toSrc y) = py at *
      generalize src G (fun t => st.regs.getD t .un) (toSrc z) = pz at *
      cases py <;> first | (simp [evalE] at ha; done) | skip
      simp only [evalE] at ha
      split at ha <;> first | (cases ha; done) | skip
      rename_i cs vs hcs hvs
      split at ha <;> first | (cases ha; done) | skip
      rename_i hcond
      cases ha
      obtain ⟨w', h1, h2⟩ := stS_runs hR hti hy hz hcs hvs hcond.1 hcond.2
      refine wp_skipped (w' := w') (by simp [execOp, hop, h1]) ?_
      have := hK κ a w'
      rw [hd0] at this ⊢
      exact this h2
  | alloc T =>
    simp only [compOp] at hk
    split at hk <;> first | (cases hk; done) | skip
    rename_i z d hz hd
    simp only [Option.some.injEq, Prod.mk.injEq] at hk
    obtain ⟨rfl, rfl, rfl⟩ := hk
    obtain ⟨ti, zv, hti, hzv, hzr⟩ := zeroC_inv hz
    have hrun : (execOp a.eval o).run P w = .ok (.value (.pointer (some ⟨w.heap.size, 0, none⟩))) (w.alloc (.cells zv.cells T)) := by
      simp [execOp, hop, Instr.alloc, run_zeroValue' hti hzv, newVar, newRow]
    by_cases hL : L.contains d = true
    · rw [if_pos hL] at ha hK
      rw [hd] at ha
      obtain ⟨he, hev⟩ := act_plain rfl (by simp) (by simp) ha
      subst he
      simp only [evalP, List.map_nil, Option.some.injEq] at hev
      subst hev
      have := hR.newBox hL T (ofCells_rep hzr)
      rw [← hd] at this
      exact wp_yield hrun (hK _ _ _ this)
    · rw [if_neg hL] at ha hK hnb
      simp only [act, PK.eff, if_true, List.map_nil, evalE] at ha
      split at ha <;> first | (cases ha; done) | skip
      rename_i z0 hz0
      cases ha
      exact wp_yield hrun (hK _ _ _ (hR.newShared T ((ofCells_rep (live := st.ef.live) (tk := st.ef.tk) hzr).clr hz0) (hnb rfl)))
  | box T y =>
    simp only [compOp] at hk
    split at hk <;> first | (cases hk; done) | skip
    rename_i d hd
    simp only [Option.some.injEq, Prod.mk.injEq] at hk
    obtain ⟨rfl, rfl, rfl⟩ := hk
    have hy : OpRep κ w st.ef.live st.ef.tk (src G (fun t => st.regs.getD t .un) (toSrc y)) (a.eval y) := src_rep hR y
    have hrun : (execOp a.eval o).run P w = .ok (.value (.pointer (some ⟨w.heap.size, 0, none⟩))) (w.alloc (.cells (a.eval y).cells T)) := by
      simp [execOp, hop, Instr.box, newVar, newRow]
    by_cases hL : L.contains d = true
    · rw [if_pos hL] at ha hK
      rw [hd] at ha
      obtain ⟨he, hev⟩ := act_plain rfl (by simp) (by simp) ha
      subst he
      simp only [evalP, List.map_cons, List.map_nil] at hev
      split at hev <;> first | (cases hev; done) | skip
      rename_i cs hcs
      cases hev
      have := hR.newBox hL T (cellsT_rep hy hcs)
      rw [← hd] at this
      exact wp_yield hrun (hK _ _ _ this)
    · rw [if_neg hL] at ha hK hnb
      simp only [act, PK.eff, if_true, List.map_cons, List.map_nil, evalE] at ha
      split at ha <;> first | (cases ha; done) | skip
      rename_i z0 hz0
      cases ha
      exact wp_yield hrun (hK _ _ _ (hR.newShared T (cells0_rep hy hz0) (hnb rfl)))
  | build T ps =>
    simp only [compOp] at hk
    split at hk <;> first | (cases hk; done) | skip
    rename_i z l fs hz hl hu
    split at hk <;> first | (cases hk; done) | skip
    rename_i hall
    simp only [Option.some.injEq, Prod.mk.injEq] at hk
    obtain ⟨rfl, rfl, rfl⟩ := hk
    refine val rfl (by simp) (by simp) rfl fun old h => v1 _ _ (by simp only [execOp, hop] <;> rfl) ?_
    simp only [evalP] at h
    split at h <;> first | (cases h; done) | skip
    rename_i cs hcs
    cases h
    rw [List.map_map] at hcs
    exact build_runs hS hz hl hu (by simpa only [Bool.not_eq_true', Bool.not_eq_false] using hall) hcs
  | buildSlice T n ps =>
    simp only [compOp] at hk
    split at hk <;> first | (cases hk; done) | skip
    rename_i E hT
    split at hk <;> first | (cases hk; done) | skip
    rename_i z1 hz1
    split at hk <;> first | (cases hk; done) | skip
    rename_i z hz
    split at hk <;> first | (cases hk; done) | skip
    rename_i hcond
    simp only [Bool.and_eq_true, decide_eq_true_eq] at hcond
    simp only [Option.some.injEq, Prod.mk.injEq] at hk
    obtain ⟨rfl, rfl, rfl⟩ := hk
    have hrn := hr (by simp) (by simp)
    cases hd : o.dst with
    | none => rw [hd] at ha; exact (act_plain_none rfl (by simp) (by simp) ha).elim
    | some d =>
      rw [hd] at ha
      obtain ⟨he, hev⟩ := act_plain rfl (by simp) (by simp) ha
      subst he
      rw [List.map_map] at hev
      obtain ⟨v, w', κ', h1, h2⟩ := hR.bslice hS hT hz1 hz hcond.1.1 hcond.1.2 hcond.2 hev (d := o.dst) (hnb rfl)
      refine wp_yield (v := v) (w' := w') ?_ (hK κ' _ _ h2)
      simp only [execOp, hop]
      simp [h1]
  | call c =>
    obtain ⟨callee, args, ts⟩ := c
    cases callee with
    | invoke y m => simp [compOp] at hk
    | value fv =>
      cases fv with
      | const v => simp [compOp] at hk
      | global g => simp [compOp] at hk
      | func f =>
        simp only [compOp, Option.some.injEq, Prod.mk.injEq] at hk
        obtain ⟨rfl, rfl, rfl⟩ := hk
        simp only [act, PK.eff, if_true, List.map_map] at ha
        simp only [evalE] at ha
        split at ha <;> first | (cases ha; done) | skip
        rename_i ys hys
        split at ha <;> first | (cases ha; done) | skip
        rename_i rr sh' hcl
        cases ha
        obtain ⟨h1, h2⟩ := args_rep hS hys
        refine wp_call hcall hR hcl h1 h2 (fun fn g1 g2 g3 => ?_) (hnb rfl) hK
        simp [execOp, hop, resolve, Deferred.ofValue, Act.eval, invoke, callFunc_run g1 g2 g3]
      | tmp t =>
        simp only [compOp, Option.some.injEq, Prod.mk.injEq] at hk
        obtain ⟨rfl, rfl, rfl⟩ := hk
        have hf := hS (.tmp t)
        simp only [act, PK.eff, if_true, List.map_cons, List.map_map] at ha
        simp only [toSrc] at hf
        generalize src G (fun t => st.regs.getD t .un) (.s t) = pf at *
        cases pf <;> first | (simp [evalE] at ha; done) | skip
        rename_i f caps
        obtain ⟨arr, hav, hal, har⟩ := hf.fn_inv
        simp only [evalE] at ha
        split at ha <;> first | (cases ha; done) | skip
        rename_i ys hys
        split at ha <;> first | (cases ha; done) | skip
        rename_i rr sh' hcl
        cases ha
        obtain ⟨h1, h2⟩ := args_rep hS hys
        refine wp_call hcall hR hcl (vals := args.map a.eval ++ arr) (by simp [hal] at h1 ⊢; omega) (fun i hi => ?_) (fun fn g1 g2 g3 => ?_) (hnb rfl) hK
        · by_cases hlt : i < ys.length
          · have e1 : (ys ++ caps).getD i .un = ys.getD i .un := by
              simp only [List.getD_eq_getElem?_getD]; rw [List.getElem?_append_left hlt]
            have e2 : (args.map a.eval ++ arr).getD i undef = (args.map a.eval).getD i undef := by
              simp only [Array.getD_eq_getD_getElem?]; rw [Array.getElem?_append_left (by omega)]
            rw [e1, e2]
            exact h2 i hlt
          · have hi2 : i - ys.length < caps.length := by simp at hi; omega
            have e1 : (ys ++ caps).getD i .un = caps.getD (i - ys.length) .un := by
              simp only [List.getD_eq_getElem?_getD]; rw [List.getElem?_append_right (by omega)]
            have e2 : (args.map a.eval ++ arr).getD i undef = arr.getD (i - ys.length) undef := by
              simp only [Array.getD_eq_getD_getElem?]; rw [Array.getElem?_append_right (by omega), h1]
            rw [e1, e2]
            have := har _ hi2
            exact this.val
        · simp [execOp, hop, resolve, Deferred.ofValue, hav, invoke, callFunc_run g1 g2 g3]
    | builtin b =>
      cases b <;> first | (simp [compOp] at hk; done) | skip
      · simp only [compOp] at hk
        split at hk <;> first | (cases hk; done) | skip
        rename_i T T' hT0 hT1
        split at hk <;> first | (cases hk; done) | skip
        rename_i E E' hT hT'
        split at hk <;> first | (cases hk; done) | skip
        rename_i ti z hti hz
        split at hk <;> first | (cases hk; done) | skip
        rename_i hcond
        simp only [Bool.and_eq_true, decide_eq_true_eq] at hcond
        obtain ⟨⟨⟨⟨hc1, hc2⟩, hc3⟩, hc4⟩, hc5⟩ := hcond
        simp only [Option.some.injEq, Prod.mk.injEq] at hk
        obtain ⟨rfl, rfl, rfl⟩ := hk
        obtain ⟨al⟩ := args
        match al, hc1 with
        | [y, z'], _ =>
          simp only [act, PK.eff, if_true, List.map_cons, List.map_nil] at ha
          have hts : (#[T, T'] : Array TypeId)[0]? = ts[0]? ∧ (#[T, T'] : Array TypeId)[1]? = ts[1]? := by simp [hT0, hT1]
          obtain ⟨v, w', κ', h1, h2⟩ := hR.app hS hT ⟨E', hT'⟩ hti hz hc3 hc5 o.type (p := x) (ef' := e) ha (d := o.dst) (hnb rfl)
          refine wp_yield (v := v) (w' := w') ?_ (hK κ' _ _ h2)
          have happ : Builtin.append_ ts o.type #[a.eval y, a.eval z'] = Builtin.append_ #[T, T'] o.type #[a.eval y, a.eval z'] := by
            unfold Builtin.append_
            rw [← hts.1, ← hts.2]
          simp [execOp, hop, resolve, invoke, builtin, happ, h1]
      · simp only [compOp] at hk
        split at hk <;> first | (cases hk; done) | skip
        rename_i T hT0
        split at hk <;> first | (cases hk; done) | skip
        rename_i E hT
        split at hk <;> first | (cases hk; done) | skip
        rename_i hsz
        simp only [Option.some.injEq, Prod.mk.injEq] at hk
        obtain ⟨rfl, rfl, rfl⟩ := hk
        obtain ⟨al⟩ := args
        match al, hsz with
        | [y], _ =>
          refine val rfl (by simp) (by simp) rfl fun old h => ?_
          obtain ⟨v, h1, h2⟩ := len_yields (P := P) hS y hT0 hT o.type (by simpa using h)
          exact ⟨v, by simp [execOp, hop, resolve, invoke, builtin, h1], h2⟩
      · simp only [compOp] at hk
        split at hk <;> first | (cases hk; done) | skip
        rename_i hsz
        simp only [Option.some.injEq, Prod.mk.injEq] at hk
        obtain ⟨rfl, rfl, rfl⟩ := hk
        obtain ⟨al⟩ := args
        match al, hsz with
        | [y, z], _ =>
          refine val rfl (by simp) (by simp) rfl fun old h => ?_
          obtain ⟨v, h1, h2⟩ := max_yields (P := P) hS y z true ts o.type (by simpa using h)
          simp only [if_true] at h1
          exact ⟨v, by simp [execOp, hop, resolve, invoke, builtin, h1], h2⟩
      · simp only [compOp] at hk
        split at hk <;> first | (cases hk; done) | skip
        rename_i hsz
        simp only [Option.some.injEq, Prod.mk.injEq] at hk
        obtain ⟨rfl, rfl, rfl⟩ := hk
        obtain ⟨al⟩ := args
        match al, hsz with
        | [y, z], _ =>
          refine val rfl (by simp) (by simp) rfl fun old h => ?_
          obtain ⟨v, h1, h2⟩ := max_yields (P := P) hS y z false ts o.type (by simpa using h)
          simp only [Bool.false_eq_true, if_false] at h1
          exact ⟨v, by simp [execOp, hop, resolve, invoke, builtin, h1], h2⟩
  | _ => simp [compOp] at hk

end
end Go.Pi
