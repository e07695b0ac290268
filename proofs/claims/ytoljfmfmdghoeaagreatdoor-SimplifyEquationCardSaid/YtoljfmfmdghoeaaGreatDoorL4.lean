/- The law SimplifyEquation holds of the program for every input, with the table of the arities as the program's text lays it (the tied card). -/
import Derived.Test.YtoljfmfmdghoeaaGreatDoorSJ
import Derived.Test.YtoljfmfmdghoeaaGreatDoorTW
import Derived.Test.YtoljfmfmdghoeaaGreatDoorCards
import Derived.Test.YtoljfmfmdghoeaaGreatDoorTie
import Derived.SevenTiedAt
import Derived.WalkKit
set_option maxRecDepth 100000
set_option linter.unusedVariables false
namespace Go.Proofs.YtoljfmfmdghoeaaGreatDoor.simplifyEquation
open Go Go.ChangeShapes Go.WideShapes Go.ChangeAt Go.RowKit Go.Pi Go.Proofs.YtoljfmfmdghoeaaGreatDoor.TermsRow
theorem laidWorld_row (os : Os) : ((laidWorld os).forCall (fun _ _ => 0) ⟨#[], #[.slice none 0 0], []⟩).memory.heap[0]? = some (.cells tab 197 (0, 0)) := by kernel_rfl
theorem lifted (os : Os) (started : os.Started) (H : Type) (enc : TypeId × Value → H) :
    ReturnsInHanded {} Tryz.checked os 4 .any (fun w args => (Rows.simplifyEquationSpec.pre enc Tryz.prog Tryz.f4 [] false w args ∧ laidMet Tryz.prog [("proofprograms/tree.arities", Rows.laid_proofprograms_tree_arities)] w) ∧ sizedMet enc Tryz.prog Tryz.f4 (OpenSpec.ofChange Rows.simplifyEquationSpec) false w args)
      (Rows.simplifyEquationSpec.post enc Tryz.prog Tryz.f4 false true false false) := by
  refine returnsInHanded_of_change_and (C := Tryz.checked) (X := fun w _ => laidMet Tryz.prog [("proofprograms/tree.arities", Rows.laid_proofprograms_tree_arities)] w) (fun _ _ _ hh h => h.of_heap hh) own started (by kernel_rfl) Tryz.func4
    (ChangeSpec.witness_at (enc := enc) (C := Tryz.checked) (os := os) (X := fun w _ => laidMet Tryz.prog [("proofprograms/tree.arities", Rows.laid_proofprograms_tree_arities)] w) false (laidWorld os) #[.slice none 0 0] 8 rfl (by kernel_rfl) (by kernel_rfl) (by kernel_rfl) (by kernel_rfl) (by kernel_rfl)
      ⟨_, ⟨0, 197, tab, 8, [], [], by kernel_rfl, by kernel_rfl, by kernel_rfl, by kernel_rfl, rfl, rfl⟩, by decide, fun b off h => by
        have h' : MemPlace.cell b off ∈ (List.range 14).map (fun i => MemPlace.cell 0 i) := h
        have hb : b = 0 := by
          simp at h'
          omega
        subst hb
        refine ⟨⟨_, _, laidWorld_row os⟩, fun u v hc => ?_⟩
        simp only [World.cell?, laidWorld_row os] at hc
        have ho : off < 14 := by
          simp at h'
          omega
        rw [(tab_at off ho).1] at hc
        simp at hc⟩) ?_
  intro W base args ds gs before hval0 hW _ _ hL _
  have hval : ∀ (j : Nat) t v, Tryz.f4.params[j]? = some t → args[j]? = some v → Value.okWide Tryz.prog W .any base t v := hval0
  have hW' := hW
  obtain ⟨p, q, hA0, hV, rfl, hfz, hnd⟩ := hW
  have hA : DataW.TrodAll enc Tryz.prog W 0 (fun _ => true) true Tryz.f4.params.toList args.toList ds p := hA0
  rw [Tryz.params4] at hA hval
  obtain ⟨v0, vs0, d0, ds0, p0, q0, hargs, rfl, rfl, h0, r0⟩ := trodAll_cons hA
  obtain ⟨rfl, rfl, rfl⟩ := trodAll_nil r0
  obtain rfl : args = #[v0] := by cases args; simp_all
  obtain ⟨rfl, rfl⟩ := trodVars_none hV
  obtain ⟨a0, len0, cap0, rfl⟩ := okWide_slice u22 (hval 0 22 v0 rfl rfl)
  have k0 := h0
  have lt0 : ∀ x ∈ p0, x.block < W.heap.size := by obtain ⟨m, hm⟩ := k0; exact DataW.trod_lt m _ _ _ hm
  obtain ⟨z0, w0⟩ : ∃ zs : List Int, (a0 = none ∧ len0 = 0 ∧ cap0 = 0 ∧ zs = []) ∨ ∃ x, a0 = some x ∧ len0 ≤ cap0 ∧ zs.length = cap0 ∧ (∀ i, i < zs.length → W.cell? (x.add i) = some (.int .i64 (zs.getD i 0))) := by
    obtain ⟨fuel, hf⟩ := h0
    rcases open_ints u22 u3 (by kernel_rfl) hf with ⟨hcs, _⟩ | ⟨x, l, c, zs, hcs, _, hl, hm, hz, _, hcell, hwz⟩
    · simp [Value.cells] at hcs
      obtain ⟨rfl, rfl, rfl⟩ := hcs
      exact ⟨[], .inl ⟨rfl, rfl, rfl, rfl⟩⟩
    · simp [Value.cells] at hcs
      obtain ⟨rfl, rfl, rfl⟩ := hcs
      exact ⟨zs, .inr ⟨_, rfl, hl, by simpa using hz, hcell⟩⟩
  clear hA0 hval0
  obtain ⟨n, sh', hrun⟩ := Terms.law4 (z0.take len0)
  refine (law_calls (P := Tryz.prog) (by kernel_rfl) tab_ok hrun (globAt hL) (vals := #[.slice a0 len0 cap0]) rfl (fun i hi => ?_)).mono fun e W' ⟨he, bel⟩ => ?_
  · match i, hi with
    | 0, _ => exact ints_rep w0
  · subst he
    exact ⟨_, rfl, _, _, _, [], _, [], hW', trodAll_mk1 (shut_bool u4 _), (trodAll_cons_mk (Below.trod laidOut (by kernel_rfl) (of_decide_eq_true (by kernel_rfl)) k0 bel lt0) trodAll_mk0), rfl, bel.frame _, fun h => by cases h⟩
theorem over : Rows.simplifyEquationRow.holds Tryz.pinned (OpenSpec.ofChange Rows.simplifyEquationSpec) :=
  OpenClaim.holds_of_wide 4 Tryz.f4 rfl rfl rfl rfl rfl rfl rfl ⟨rfl, rfl, rfl, rfl, rfl⟩ rfl rfl rfl rfl rfl (by kernel_rfl) Tryz.func4 (by kernel_rfl)
    (of_decide_eq_true (by kernel_rfl)) (by unfold Func.isWrapper; first | (rw [if_pos (by decide +kernel)]; kernel_rfl) | (rw [if_neg (by decide +kernel)]; exact ⟨rfl, rfl⟩))
    (fun os started H enc _ => lifted os started H enc)
theorem card : Rows.SimplifyEquationCardSaid :=
  Claim7.holds_tied_plain_at .later [] [.data] true (true, "29abb51ef3133d12216073efce66a812c59bb4fd2191b3d87a46f773e9160da0") false
    over (fun _ h => by cases h) (by kernel_rfl) (fun _ h => by cases h) simplifyEquation_row_tie rfl ⟨rfl, rfl⟩ (by kernel_rfl) rfl
    (fun f fn hf hfn => by
      obtain rfl : f = 4 := Option.some.inj ((show Tryz.prog.funcNamed "proofprograms/proofprogramslaw36.SimplifyEquation" = some 4 by kernel_rfl).symm.trans hf) |>.symm
      obtain rfl : fn = Tryz.f4 := (Option.some.inj (Tryz.func4.symm.trans hfn)).symm
      exact ⟨by kernel_rfl, fun j t ht => by
        rw [Tryz.params4] at ht
        have h3 : t = 22 := by
          rcases j with _ | j
          · simp at ht; subst ht; simp
          · simp at ht
        subst h3
        exact (show Tryz.prog.wantsStandIn 22 = false by kernel_rfl)⟩)
    (by kernel_rfl)
end Go.Proofs.YtoljfmfmdghoeaaGreatDoor.simplifyEquation
namespace Go.Proofs.YtoljfmfmdghoeaaGreatDoor
/-- The card, under a short name, for the claim. -/
theorem simplifyEquation_holds : Rows.SimplifyEquationCardSaid := simplifyEquation.card
#print axioms simplifyEquation_holds
end Go.Proofs.YtoljfmfmdghoeaaGreatDoor
