/- Functions: what the interpreter says is what the machine does. -/
import Derived.Test.YtckcklkbdbafbaaDoorPiS
namespace Go.Pi
open Go
open PV (genOf asSrc clrC clrs clr clrAll cellsT cells0)

section
variable {P : Program} {call : CallF} {G : Glob} {L : List Nat} {κ0 κ : KM} {w0 w : World} {st : St} {a : Act}

/-- A table of functions that stands for the program's. -/
def TabOK (P : Program) (T : Nat → Option PF) : Prop := ∀ f pf, T f = some pf → ∃ fn L, P.funcs[f]? = some fn ∧ compF P L pf.drop fn = some pf

theorem asSrc_clr {p : PV} {t : Nat} {q : PV} (h : clr (p.asSrc t) = some q) : clr p = some q ∧ notBx p := by
  cases p <;> first | exact ⟨h, trivial⟩ | (simp [asSrc, clr, clrC] at h)

def resF (tmps : Array Value) : ResultVar → Sem Value
  | .tmp t => pure (tmps.getD t undef)
  | .cell x t => do loadVar t (← asAddr (tmps.getD x undef))

theorem results_resF (fn : Func) (tmps : Array Value) : results fn tmps = (do let vs ← fn.results.mapM (resF tmps); pure (if h : vs.size = 1 then vs[0] else .tuple vs)) := rfl

theorem res_ok (hR : Rel G L κ0 w0 κ st a w) : ∀ (rs : List ResultVar) (qs : List RS) (l : List PV), compRes P rs = some qs → resAll st.regs qs = some l →
    ∃ vs : List Value, (rs.mapM (resF a.tmps)).run P w = .ok vs w ∧
      vs.length = l.length ∧ ∀ i, i < l.length → ValRep κ w (l.getD i .un) (vs.getD i undef)
  | [], qs, l, hc, hr => by
    simp only [compRes, Option.some.injEq] at hc
    subst hc
    simp only [resAll, Option.some.injEq] at hr
    subst hr
    exact ⟨[], by simp, rfl, fun i hi => by simp at hi⟩
  | .tmp t :: rs, qs, l, hc, hr => by
    simp only [compRes] at hc
    split at hc <;> first | (cases hc; done) | skip
    rename_i qs' hq
    cases hc
    simp only [resAll] at hr
    split at hr <;> first | (cases hr; done) | skip
    rename_i x y hx hy
    cases hr
    obtain ⟨vs, h1, h2, h3⟩ := res_ok hR rs qs' y hq hy
    refine ⟨a.tmps.getD t undef :: vs, ?_, by simp [h2], fun i hi => ?_⟩
    · simp only [List.mapM_cons, resF, Sem.run_bind, Sem.run_pure, Result.andThen_ok]
      rw [h1]
      rfl
    · cases i with
      | zero =>
        simp only [List.getD_cons_zero]
        simp only [resOf] at hx
        have hs := src_rep hR (.tmp t)
        exact clr_rep hs hx
      | succ i => simpa using h3 i (by simpa using hi)
  | .cell x t :: rs, qs, l, hc, hr => by
    simp only [compRes] at hc
    split at hc <;> first | (cases hc; done) | skip
    rename_i ti qs' hti hq
    split at hc <;> first | (cases hc; done) | skip
    rename_i hu
    cases hc
    simp only [resAll] at hr
    split at hr <;> first | (cases hr; done) | skip
    rename_i x' y hx hy
    cases hr
    obtain ⟨vs, h1, h2, h3⟩ := res_ok hR rs qs' y hq hy
    simp only [resOf] at hx
    split at hx <;> first | (cases hx; done) | skip
    rename_i g cs hbx
    split at hx <;> first | (cases hx; done) | skip
    rename_i q hcut
    have hl : x < st.regs.length := by
      rcases Nat.lt_or_ge x st.regs.length with h' | h'
      · exact h'
      · rw [List.getD_eq_getElem?_getD, List.getElem?_eq_none h'] at hbx; cases hbx
    have hrg := hR.reg x hl
    rw [hbx] at hrg
    obtain ⟨b, T', arr, hb1, hb2, hb3, hb4⟩ := hrg
    have hu' : (P.underlying t).isSome = true := by simpa [Option.isSome_iff_ne_none] using hu
    obtain ⟨v, hv1, hv2⟩ := ldL_runs hR (T := t) hti hu' (p := .lp x g 0) (va := .pointer (some ⟨b, 0, none⟩)) (slot := x) ⟨trivial, b, rfl, hb2⟩ (q := q) (by rw [hbx]; simp [evalL, hcut])
    refine ⟨v :: vs, ?_, by simp [h2], fun i hi => ?_⟩
    · simp only [Instr.loadAt, Instr.sureAddr, Sem.run_bind, Sem.run_pure, Result.andThen_ok] at hv1
      have hadr : asAddr (a.tmps.getD x undef) = pure ⟨b, 0, none⟩ := by rw [hb1]; rfl
      have hone : (resF a.tmps (.cell x t)).run P w = .ok v w := by
        simp only [resF, hadr, Sem.run_bind, Sem.run_pure, Result.andThen_ok, hv1]
      simp only [List.mapM_cons, Sem.run_bind, hone, Result.andThen_ok, h1, Sem.run_pure]
    · cases i with
      | zero => simp only [List.getD_cons_zero]; exact clr_rep hv2 hx
      | succ i => simpa using h3 i (by simpa using hi)

theorem results_ok (hR : Rel G L κ0 w0 κ st a w) {fn : Func} {qs : List RS} {l : List PV} (hc : compRes P fn.results.toList = some qs) (hr : resAll st.regs qs = some l) :
    ∃ v, (results fn a.tmps).run P w = .ok v w ∧ ResRep κ w (resPV l) v := by
  obtain ⟨vs, h1, h2, h3⟩ := res_ok hR fn.results.toList qs l hc hr
  have hm : (fn.results.mapM (resF a.tmps)).run P w = .ok vs.toArray w := by
    rw [Array.mapM_eq_mapM_toList, Sem.run_map, h1]
    rfl
  rw [results_resF]
  simp only [Sem.run_bind, hm, Result.andThen_ok, Sem.run_pure]
  refine ⟨_, rfl, ?_⟩
  match l, vs, h2, h3 with
  | [], [], _, _ => exact ⟨#[], by simp, rfl, fun i hi => by simp at hi⟩
  | [x], [v], _, h3 =>
    have := h3 0 (by simp)
    simp only [List.getD_cons_zero] at this
    simp only [resPV]
    have e : ResRep κ w x v := by
      cases x with
      | tup q => cases (show RepC κ w _ _ from this)
      | _ => exact this
    simpa using e
  | x :: y :: l, v :: u :: vs, h2, h3 =>
    refine ⟨(v :: u :: vs).toArray, by simp, by simpa using h2, fun i hi => ?_⟩
    rw [toArray_getD]
    exact h3 i hi

theorem outK_plain {k : Kind} (h : plainK k) : outK k = k := by
  cases k <;> first | rfl | exact h.elim

theorem plain_outK (k : Kind) : plainK (outK k) := by
  cases k <;> trivial

theorem call_ok (hm : P.follows .mixedOrders = true) {T : Nat → Option PF} (hT : TabOK P T) : ∀ n, CallOK P G (callN T G n) := by
  intro n
  induction n with
  | zero => intro f args sh r sh' h; simp [callN] at h
  | succ n ih =>
    intro f args sh r sh' h
    simp only [callN] at h
    split at h <;> first | (cases h; done) | skip
    rename_i pf hpf
    obtain ⟨fn, L, hfn, hcomp⟩ := hT f pf hpf
    unfold compF at hcomp
    split at hcomp <;> first | (cases hcomp; done) | skip
    rename_i c hbody
    split at hcomp <;> first | (cases hcomp; done) | skip
    rename_i b rs hb hrs
    split at hcomp <;> first | (cases hcomp; done) | skip
    rename_i hcond
    have hcond' : (fn.name == "runtime.NumGoroutine") = false ∧ (L.all fun s => decide (s < fn.ntmps)) = true := by
      cases h1 : (fn.name == "runtime.NumGoroutine") <;> cases h2 : (L.all fun s => decide (s < fn.ntmps)) <;> simp_all
    have hpf2 : pf = ⟨fn.ntmps, b, rs, pf.drop⟩ := (Option.some.inj hcomp).symm
    have hnt : pf.nt = fn.ntmps := by rw [hpf2]
    have hbd : pf.body = b := by rw [hpf2]
    have hrr : pf.res = rs := by rw [hpf2]
    refine ⟨⟨fn, hfn, hcond'.1, by simp [hbody]⟩, fun κ w vals hpre => ?_⟩
    refine calls_of_wp hfn hbody ?_
    have lt : ∀ b, κ b ≠ .none → b < w.heap.size := fun b h => Nat.lt_of_not_le fun hle => h (hpre.new b hle)
    have hR : Rel G L κ w κ (startSt pf.nt args sh) { tmps := vals ++ Array.replicate (fn.ntmps - vals.size) undef, defers := [] } w := by
      refine { size := ?_, defers := rfl, reg := fun i hi => ?_, mem := hpre.mem, glob := hpre.glob, lbi := fun b b' s g h1 _ => ?_, lbg := fun b s g h1 => ?_, tok := fun b t h' h1 => ?_, tki := Nat.le_refl _, new := hpre.new, base := Nat.le_refl _, keep := fun _ _ => rfl, old := fun _ _ _ => rfl, pl := hpre.pl, lbd := fun s hs => ?_, env := ⟨rfl, rfl, rfl⟩ }
      · simp [startSt, hnt, hpre.size]
      · by_cases hlt : i < args.length
        · have e1 : (startSt pf.nt args sh).regs.getD i .un = args.getD i .un := by
            simp only [startSt, List.getD_eq_getElem?_getD]; rw [List.getElem?_append_left hlt]
          have e2 : (vals ++ Array.replicate (fn.ntmps - vals.size) undef).getD i undef = vals.getD i undef := by
            have := hpre.size
            simp only [Array.getD_eq_getD_getElem?]; rw [Array.getElem?_append_left (by omega)]
          rw [e1, e2]
          exact (hpre.arg i hlt).op.reg i
        · have e1 : (startSt pf.nt args sh).regs.getD i .un = .un := by
            simp only [startSt] at hi ⊢
            simp only [List.getD_eq_getElem?_getD]; rw [List.getElem?_append_right (by omega)]
            simp at hi
            rw [List.getElem?_replicate]
            split <;> rfl
          rw [e1]
          trivial
      · have := hpre.pl b; rw [h1] at this; exact this.elim
      · have := hpre.pl b; rw [h1] at this; exact this.elim
      · have := hpre.pl b; rw [h1] at this; exact this.elim
      · have := List.all_eq_true.1 hcond'.2 s (by simpa using hs)
        simp only [decide_eq_true_eq] at this
        simp [startSt]
        omega
    have fin : ∀ (s : St) (κ1 : KM) (a1 : Act) (w1 : World), Rel G L κ w κ1 s a1 w1 → (match resAll s.regs pf.res with | some l => some (resPV l, dropSh pf.drop sh.boxes.length s.ef.sh) | none => none) = some (r, sh') →
        a1.defers = [] ∧ ∃ v, (results fn a1.tmps).run P w1 = .ok v w1 ∧ Post G κ w r sh' (.returned v) w1 := by
      intro s κ1 a1 w1 hR1 hfin
      split at hfin <;> first | (cases hfin; done) | skip
      rename_i l hl
      simp only [Option.some.injEq, Prod.mk.injEq] at hfin
      obtain ⟨rfl, rfl⟩ := hfin
      rw [hrr] at hl
      obtain ⟨v, hv1, hv2⟩ := results_ok hR1 hrs hl
      have m : Mono κ1 w1 (fun b => outK (κ1 b)) w1 := ⟨fun b n h => foot_out h, fun b id h => by simp [h, outK], fun _ _ _ _ _ => rfl⟩
      have sbo : ∀ b id, outK (κ1 b) = .sb id → κ1 b = .sb id := by
        intro b id h
        cases hk : κ1 b <;> simp [hk, outK] at h ⊢; exact h
      have hmem := hR1.mem.mono m sbo (fun _ _ _ => rfl)
      refine ⟨hR1.defers, v, hv1, fun b => outK (κ1 b), hv2.mono m, ?_, hR1.glob.mono m (fun b h => by simp [h, outK]), fun b hb => by simp [hR1.new b hb, outK], fun b => plain_outK _, hR1.base, fun b hb => ?_, fun b hb hs => hR1.old b hb hs, hR1.env⟩
      · unfold dropSh
        cases pf.drop with
        | false => exact hmem
        | true =>
          refine ⟨fun id cs hg => hmem.box id cs (getB_drop _ _ _ _ hmem.nd hg), hmem.inj, hmem.lt, ?_⟩
          simp only [if_true]
          rw [List.map_drop]
          exact (List.drop_sublist _ _).nodup hmem.nd
      · show outK (κ1 b) = κ b
        rw [hR1.keep b hb, outK_plain (hpre.pl b)]
    cases hex : exec (callN T G n) G n pf.body (startSt pf.nt args sh) with
    | none => rw [hex] at h; simp [finish] at h
    | some o =>
      rw [hex] at h
      refine Code.wp_mono (fun e a1 w1 hq => ?_) (code_ok ih hm c pf.body (by rw [hbd]; exact hb) n _ o hex κ _ w hR)
      cases o with
      | nrm s =>
        cases e <;> first | exact hq.elim | skip
        obtain ⟨κ1, hR1⟩ := hq
        exact fin s κ1 a1 w1 hR1 h
      | ext j s => simp [finish] at h
      | ret s =>
        cases e <;> first | exact hq.elim | skip
        obtain ⟨κ1, hR1⟩ := hq
        exact fin s κ1 a1 w1 hR1 h

end
end Go.Pi
