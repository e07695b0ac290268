/- The law ElaborateParts holds of the program for every input, with the table of the arities as the program's text lays it (the tied card). -/
import Derived.Test.YthgocgebpoeolaaDoorEL
import Derived.Test.YthgocgebpoeolaaDoorTW
import Derived.Test.YthgocgebpoeolaaDoorCards
import Derived.Test.YthgocgebpoeolaaDoorTie
import Derived.Test.YthgocgebpoeolaaDoorTab
set_option maxRecDepth 100000
set_option linter.unusedVariables false
namespace Go.Proofs.YthgocgebpoeolaaDoor.elaborateParts
open Go Go.ChangeShapes Go.WideShapes Go.ChangeAt Go.RowKit Go.Pi Go.Proofs.YthgocgebpoeolaaDoor.TermsRow
theorem laidWorld_row (os : Os) : ((laidWorld os).forCall (fun _ _ => 0) ⟨#[], #[.slice none 0 0], []⟩).memory.heap[0]? = some (.cells tab 114 (0, 0)) := by kernel_rfl
theorem lifted (os : Os) (started : os.Started) (H : Type) (enc : TypeId × Value → H) :
    ReturnsInHanded {} Tryd.checked os 3 .any (fun w args => (Rows.elaboratePartsSpec.pre enc Tryd.prog Tryd.f3 [] false w args ∧ laidMet Tryd.prog [("proofprograms/tree.arities", Rows.laid_proofprograms_tree_arities)] w) ∧ sizedMet enc Tryd.prog Tryd.f3 (OpenSpec.ofChange Rows.elaboratePartsSpec) false w args)
      (Rows.elaboratePartsSpec.post enc Tryd.prog Tryd.f3 false true false false) := by
  refine returnsInHanded_of_change_and (C := Tryd.checked) (X := fun w _ => laidMet Tryd.prog [("proofprograms/tree.arities", Rows.laid_proofprograms_tree_arities)] w) (fun _ _ _ hh h => h.of_heap hh) own started (by kernel_rfl) Tryd.func3
    (ChangeSpec.witness_at (enc := enc) (C := Tryd.checked) (os := os) (X := fun w _ => laidMet Tryd.prog [("proofprograms/tree.arities", Rows.laid_proofprograms_tree_arities)] w) false (laidWorld os) #[.slice none 0 0] 8 rfl (by kernel_rfl) (by kernel_rfl) (by kernel_rfl) (by kernel_rfl) (by kernel_rfl)
      ⟨_, ⟨0, 114, tab, 8, [], [], by kernel_rfl, by kernel_rfl, by kernel_rfl, by kernel_rfl, rfl, rfl⟩, by decide, fun b off h => by
        have h' : MemPlace.cell b off ∈ (List.range 14).map (fun i => MemPlace.cell 0 i) := h
        have hb : b = 0 := by
          simp at h'
          omega
        subst hb
        refine ⟨⟨_, _, laidWorld_row os⟩, fun u v hc => ?_⟩
        simp only [World.cell?, laidWorld_row os] at hc
        have ho : off < 14 := by
          simp at h'
          omega
        rw [(tab_at off ho).1] at hc
        simp at hc⟩) ?_
  intro W base args ds gs before hval0 hW _ _ hL _
  have hval : ∀ (j : Nat) t v, Tryd.f3.params[j]? = some t → args[j]? = some v → Value.okWide Tryd.prog W .any base t v := hval0
  have hW' := hW
  obtain ⟨p, q, hA0, hV, rfl, hfz, hnd⟩ := hW
  have hA : DataW.TrodAll enc Tryd.prog W 0 (fun _ => true) true Tryd.f3.params.toList args.toList ds p := hA0
  rw [Tryd.params3] at hA hval
  obtain ⟨v0, vs0, d0, ds0, p0, q0, hargs, rfl, rfl, h0, r0⟩ := trodAll_cons hA
  obtain ⟨rfl, rfl, rfl⟩ := trodAll_nil r0
  obtain rfl : args = #[v0] := by cases args; simp_all
  obtain ⟨rfl, rfl⟩ := trodVars_none hV
  obtain ⟨a0, len0, cap0, rfl⟩ := okWide_slice u22 (hval 0 22 v0 rfl rfl)
  have k0 := h0
  have lt0 : ∀ x ∈ p0, x.block < W.heap.size := by obtain ⟨m, hm⟩ := k0; exact DataW.trod_lt m _ _ _ hm
  obtain ⟨z0, w0⟩ : ∃ zs : List Int, (a0 = none ∧ len0 = 0 ∧ cap0 = 0 ∧ zs = []) ∨ ∃ x, a0 = some x ∧ len0 ≤ cap0 ∧ zs.length = cap0 ∧ (∀ i, i < zs.length → W.cell? (x.add i) = some (.int .i64 (zs.getD i 0))) := by
    obtain ⟨fuel, hf⟩ := h0
    rcases open_ints u22 u3 (by kernel_rfl) hf with ⟨hcs, _⟩ | ⟨x, l, c, zs, hcs, _, hl, hm, hz, _, hcell, hwz⟩
    · simp [Value.cells] at hcs
      obtain ⟨rfl, rfl, rfl⟩ := hcs
      exact ⟨[], .inl ⟨rfl, rfl, rfl, rfl⟩⟩
    · simp [Value.cells] at hcs
      obtain ⟨rfl, rfl, rfl⟩ := hcs
      exact ⟨zs, .inr ⟨_, rfl, hl, by simpa using hz, hcell⟩⟩
  clear hA0 hval0
  obtain ⟨n, sh', hrun⟩ := Terms.law3 (z0.take len0)
  refine (law_calls (P := Tryd.prog) (by kernel_rfl) tab_ok hrun (globAt hL) (vals := #[.slice a0 len0 cap0]) rfl (fun i hi => ?_)).mono fun e W' ⟨he, bel⟩ => ?_
  · match i, hi with
    | 0, _ => exact ints_rep w0
  · subst he
    exact ⟨_, rfl, _, _, _, [], _, [], hW', trodAll_mk1 (shut_bool u4 _), (trodAll_cons_mk (Below.trod laidOut (by kernel_rfl) (of_decide_eq_true (by kernel_rfl)) k0 bel lt0) trodAll_mk0), rfl, bel.frame _, fun h => by cases h⟩
theorem over : Rows.elaboratePartsRow.holds Tryd.pinned (OpenSpec.ofChange Rows.elaboratePartsSpec) :=
  OpenClaim.holds_of_wide 3 Tryd.f3 rfl rfl rfl rfl rfl rfl rfl ⟨rfl, rfl, rfl, rfl, rfl⟩ rfl rfl rfl rfl rfl (by kernel_rfl) Tryd.func3 (by kernel_rfl)
    (of_decide_eq_true (by kernel_rfl)) (by unfold Func.isWrapper; first | (rw [if_pos (by decide +kernel)]; kernel_rfl) | (rw [if_neg (by decide +kernel)]; exact ⟨rfl, rfl⟩))
    (fun os started H enc _ => lifted os started H enc)
theorem card : Rows.ElaboratePartsCardSaid :=
  Claim7.holds_tied_plain_at .later [] [.data] true (true, "b56e82dba1bce0b456e4601fb696b2ee4cd18578b75e59adbca9f070481872f6") false
    over (fun _ h => by cases h) (by kernel_rfl) (fun _ h => by cases h) elaborateParts_row_tie rfl ⟨rfl, rfl⟩ (by kernel_rfl) rfl
    (fun f fn hf hfn => by
      obtain rfl : f = 3 := Option.some.inj ((show Tryd.prog.funcNamed "proofprograms/proofprogramslaw18.ElaborateParts" = some 3 by kernel_rfl).symm.trans hf) |>.symm
      obtain rfl : fn = Tryd.f3 := (Option.some.inj (Tryd.func3.symm.trans hfn)).symm
      exact ⟨by kernel_rfl, fun j t ht => by
        rw [Tryd.params3] at ht
        have h3 : t = 22 := by
          rcases j with _ | j
          · simp at ht; subst ht; simp
          · simp at ht
        subst h3
        exact (show Tryd.prog.wantsStandIn 22 = false by kernel_rfl)⟩)
    (by kernel_rfl)
end Go.Proofs.YthgocgebpoeolaaDoor.elaborateParts
namespace Go.Proofs.YthgocgebpoeolaaDoor
/-- The card, under a short name, for the claim. -/
theorem elaborateParts_holds : Rows.ElaboratePartsCardSaid := elaborateParts.card
#print axioms elaborateParts_holds
end Go.Proofs.YthgocgebpoeolaaDoor
