import Derived.Test.YthgocgebpoeolaaDoorTF
import Derived.Test.YthgocgebpoeolaaDoorRows
import Derived.ChangeSame
import Derived.ChangeVars
import Derived.JoinedOf
import Derived.RowKit
import Derived.Test.YthgocgebpoeolaaDoorPiU
import Derived.WalkKit
import Derived.ProofKit
import Derived.OpenShut
import Derived.Below
import Derived.SizedLaws
set_option maxRecDepth 100000
set_option linter.unusedVariables false
namespace Go.Proofs.YthgocgebpoeolaaDoor.TermsRow
open Go Go.ChangeShapes Go.WideShapes Go.ChangeAt Go.RowKit Go.Pi

theorem own : ownKnob Tryd.prog.godebug = none := by kernel_rfl
theorem laidOut : laidOutB Tryd.prog = true := by kernel_rfl
theorem ar : Tryd.prog.globalNamed "proofprograms/tree.arities" = some 0 := by kernel_rfl
theorem arType : (Tryd.prog.globals[0]?).map (·.type) = some 114 := by kernel_rfl
theorem cellsArr : Tryd.prog.cellsOf 114 = 14 := by kernel_rfl
theorem cells3 : Tryd.prog.cellsOf 3 = 1 := by kernel_rfl
theorem uArr : Tryd.prog.underlying 114 = some (.array 14 3) := by kernel_rfl
theorem u3 : Tryd.prog.underlying 3 = some (.int .i64) := by kernel_rfl
theorem u22 : Tryd.prog.underlying 22 = some (.slice 3) := by kernel_rfl
theorem u4 : Tryd.prog.underlying 4 = some .bool := by kernel_rfl
theorem u5 : Tryd.prog.underlying 5 = some (.int .u8) := by kernel_rfl

theorem int_of_trod {H : Type} {enc : TypeId × Value → H} {P : Program} {w : World} {base : Nat} {sp : Nat → Bool} {held : Bool} {fuel : Nat} {t : TypeId} {k : IntKind} {c : Value} {y : DataW H × List MemPlace}
    (ht : P.underlying t = some (.int k)) (h : DataW.trod enc P w base sp held fuel t [c] = some y) : ∃ n, c = .int k n ∧ y = (.lit (.int k n), []) := by
  cases fuel with
  | zero => simp [DataW.trod] at h
  | succ fuel =>
    cases c <;> simp [DataW.trod, ht] at h
    rename_i k' n
    obtain ⟨⟨rfl, _⟩, rfl⟩ := h
    exact ⟨n, rfl, rfl⟩

def tab : Array Value := #[.int .i64 0, .int .i64 0, .int .i64 1, .int .i64 2, .int .i64 0, .int .i64 1, .int .i64 3, .int .i64 0, .int .i64 2, .int .i64 3, .int .i64 2, .int .i64 1, .int .i64 1, .int .i64 0]

/-- The row of cells reads as numbers, one by one. -/
theorem ints_of_mapM {H : Type} {enc : TypeId × Value → H} {P : Program} {w : World} {base : Nat} {sp : Nat → Bool} {held : Bool} {fuel : Nat} {t : TypeId} {k : IntKind}
    (ht : P.underlying t = some (.int k)) : ∀ (l : List Value) (f : Value → Option (DataW H × List MemPlace)), (∀ c, f c = DataW.trod enc P w base sp held fuel t [c]) → ∀ ys, l.mapM f = some ys → ∃ zs : List Int, l = zs.map (.int k) ∧ ys = zs.map fun n => (.lit (.int k n), []) := by
  intro l f hf
  induction l with
  | nil => intro ys h; simp at h; exact ⟨[], rfl, by simp [h]⟩
  | cons c l ih =>
    intro ys h
    simp only [List.mapM_cons, Option.bind_eq_bind, Option.bind_eq_some_iff, Option.pure_def, Option.some.injEq] at h
    obtain ⟨y, hy, ys', hys, rfl⟩ := h
    rw [hf] at hy
    obtain ⟨n, rfl, rfl⟩ := int_of_trod ht hy
    obtain ⟨zs, rfl, rfl⟩ := ih ys' hys
    exact ⟨n :: zs, rfl, rfl⟩

theorem cells_of_laid {W : World} (h : laidMet Tryd.prog [("proofprograms/tree.arities", Rows.laid_proofprograms_tree_arities)] W) : W.var? Tryd.prog "proofprograms/tree.arities" = some tab := by
  obtain ⟨ps, ⟨g, t, cs, fuel, p, q, hg, ht, hvar, hd, _, _⟩, _⟩ := h
  obtain rfl := Option.some.inj (ar.symm.trans hg)
  obtain rfl := Option.some.inj (arType.symm.trans ht)
  rw [hvar]
  congr 1
  obtain ⟨l⟩ := cs
  cases fuel with
  | zero => simp [DataW.trod] at hd
  | succ fuel =>
    simp only [DataW.trod, uArr, cellsArr, cells3] at hd
    split at hd
    · rename_i hl
      obtain ⟨c0, c1, c2, c3, c4, c5, c6, c7, c8, c9, c10, c11, c12, c13, rfl⟩ : ∃ c0 c1 c2 c3 c4 c5 c6 c7 c8 c9 c10 c11 c12 c13, l = [c0, c1, c2, c3, c4, c5, c6, c7, c8, c9, c10, c11, c12, c13] := by
        match l, hl with
        | [c0, c1, c2, c3, c4, c5, c6, c7, c8, c9, c10, c11, c12, c13], _ => exact ⟨c0, c1, c2, c3, c4, c5, c6, c7, c8, c9, c10, c11, c12, c13, rfl⟩
      have e : List.range 14 = [0, 1, 2, 3, 4, 5, 6, 7, 8, 9, 10, 11, 12, 13] := rfl
      rw [e] at hd
      simp only [Option.map_eq_some_iff, List.mapM_cons, List.mapM_nil, Option.bind_eq_bind, Option.bind_eq_some_iff, Option.pure_def, Option.some.injEq] at hd
      obtain ⟨xs, ⟨y0, h0, _, ⟨y1, h1, _, ⟨y2, h2, _, ⟨y3, h3, _, ⟨y4, h4, _, ⟨y5, h5, _, ⟨y6, h6, _, ⟨y7, h7, _, ⟨y8, h8, _, ⟨y9, h9, _, ⟨y10, h10, _, ⟨y11, h11, _, ⟨y12, h12, _, ⟨y13, h13, _, rfl, rfl⟩, rfl⟩, rfl⟩, rfl⟩, rfl⟩, rfl⟩, rfl⟩, rfl⟩, rfl⟩, rfl⟩, rfl⟩, rfl⟩, rfl⟩, rfl⟩, hx⟩ := hd
      obtain ⟨n0, rfl, rfl⟩ := int_of_trod u3 h0
      obtain ⟨n1, rfl, rfl⟩ := int_of_trod u3 h1
      obtain ⟨n2, rfl, rfl⟩ := int_of_trod u3 h2
      obtain ⟨n3, rfl, rfl⟩ := int_of_trod u3 h3
      obtain ⟨n4, rfl, rfl⟩ := int_of_trod u3 h4
      obtain ⟨n5, rfl, rfl⟩ := int_of_trod u3 h5
      obtain ⟨n6, rfl, rfl⟩ := int_of_trod u3 h6
      obtain ⟨n7, rfl, rfl⟩ := int_of_trod u3 h7
      obtain ⟨n8, rfl, rfl⟩ := int_of_trod u3 h8
      obtain ⟨n9, rfl, rfl⟩ := int_of_trod u3 h9
      obtain ⟨n10, rfl, rfl⟩ := int_of_trod u3 h10
      obtain ⟨n11, rfl, rfl⟩ := int_of_trod u3 h11
      obtain ⟨n12, rfl, rfl⟩ := int_of_trod u3 h12
      obtain ⟨n13, rfl, rfl⟩ := int_of_trod u3 h13
      simp [Rows.laid_proofprograms_tree_arities] at hx
      obtain ⟨⟨rfl, rfl, rfl, rfl, rfl, rfl, rfl, rfl, rfl, rfl, rfl, rfl, rfl, rfl⟩, _⟩ := hx
      rfl
    · cases hd

theorem tab_at (j : Nat) (hj : j < 14) : tab[j]? = some (.int .i64 (Terms.arT.getD j 0)) ∧ (Terms.arT.map fun z => PV.v (.int .i64 z)).getD j .un = .v (.int .i64 (Terms.arT.getD j 0)) := by
  rcases j with _ | _ | _ | _ | _ | _ | _ | _ | _ | _ | _ | _ | _ | _ | j
  all_goals first | exact ⟨rfl, rfl⟩ | omega

theorem globAt {W : World} (h : laidMet Tryd.prog [("proofprograms/tree.arities", Rows.laid_proofprograms_tree_arities)] W) : GlobAt Terms.G W := by
  have hvar := cells_of_laid h
  have hc : ∀ j, W.cell? ⟨0, j, none⟩ = tab[j]? := fun j => World.var?_cell ar hvar j
  intro g cs hg
  unfold Terms.G at hg
  split at hg
  · rename_i h0
    subst h0
    cases hg
    have c0 : W.cell? ⟨0, 0, none⟩ = some (.int .i64 0) := hc 0
    refine ⟨World.block_lt_of_cell? W _ c0, fun j hj => ?_⟩
    have hj' : j < 14 := by simpa [Terms.arT] using hj
    exact ⟨.int .i64 (Terms.arT.getD j 0), (tab_at j hj').2, rfl, (hc j).trans (tab_at j hj').1⟩
  · cases hg

noncomputable def laidWorld (os : Os) : World :=
  { World.holding Tryd.prog os ⟨#[], #[], []⟩ with heap := (World.holding Tryd.prog os ⟨#[], #[], []⟩).heap.modify 0 fun
      | .cells _ t frozen => .cells tab t frozen
      | o => o }
end Go.Proofs.YthgocgebpoeolaaDoor.TermsRow
