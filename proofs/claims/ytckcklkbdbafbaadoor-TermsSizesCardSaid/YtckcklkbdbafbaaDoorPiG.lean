/- Slicing; the dispatch of the operations that leave memory alone. -/
import Derived.Test.YtckcklkbdbafbaaDoorPiF
namespace Go.Pi
open Go
open PV (genOf asSrc clrC clrs clr clrAll cellsT cells0)

section
variable {P : Program} {κ : KM} {w : World} {live : Nat → Bool} {tk : Nat} {S : Operand → PV} {ρ : Operand → Value}

theorem sub_rep {z c l h m : Nat} {rows : List (List PV)} {a : Option Addr} (hr : RepC κ w (.sl 0 z rows) (.slice a rows.length c)) (h1 : l ≤ h) (h2 : h ≤ rows.length) (h3 : h ≤ m) :
    RepC κ w (.sl 0 z ((rows.drop l).take (h - l))) (.slice (if m = l then a else a.map (·.add (l * z))) (h - l) (m - l)) := by
  have hlen : ((rows.drop l).take (h - l)).length = h - l := by simp; omega
  by_cases he : h = l
  · subst he
    simp only [Nat.sub_self, List.take_zero]
    exact .nil z _ _
  · rw [if_neg (by omega)]
    generalize hx : Value.slice a rows.length c = x at hr
    cases hr with
    | nil => simp at h2; omega
    | sl _ _ b o c' vs g1 g2 g3 g4 g5 g6 =>
      cases hx
      simp only [Option.map_some, addr_add]
      have key := RepC.sl (κ := κ) (w := w) z ((rows.drop l).take (h - l)) b (o + l * z) (m - l) (fun i j => vs (l + i) j) (by
          intro e; rw [e] at hlen; simp at hlen; omega)
        (fun r hr => g2 r (List.mem_of_mem_drop (List.mem_of_mem_take hr)))
        (by
          rw [hlen]
          have hle : o + l * z + (h - l) * z ≤ o + rows.length * z := by
            have e : l * z + (h - l) * z = h * z := by rw [← Nat.add_mul]; congr 1; omega
            have := Nat.mul_le_mul_right z h2
            omega
          unfold foot at *
          split at g3 <;> first | trivial | omega | exact g3.elim)
        (fun i j hi hj => by
          rw [hlen] at hi
          have := g4 (l + i) j (by omega) hj
          rw [Nat.add_mul] at this
          rw [show o + l * z + i * z + j = o + (l * z + i * z) + j by omega]
          exact this)
        (fun i j hi hj => by
          rw [hlen] at hi
          have := g5 (l + i) j (by omega) hj
          have e : ((rows.drop l).take (h - l)).getD i [] = rows.getD (l + i) [] := by simp [List.getD_eq_getElem?_getD, hi]
          rw [e]
          exact this)
        (by rw [hlen]; omega)
      rw [hlen] at key
      exact key

theorem int_op {k : IntKind} {n : Int} {x : Value} (h : OpRep κ w live tk (.v (.int k n)) x) : x = .int k n := h.v_inv.1

/-- The bound of a slice expression. -/
theorem bound_runs {k : IntKind} {i : Int} {y : Nat} (code : BoundsCode) (h0 : 0 ≤ i) (h1 : i ≤ y) : (Instr.sliceBound (.int k i) y code).run P w = .ok i.toNat w := by
  simp [Instr.sliceBound, asIntOf, h0, h1]

theorem pull_some (o : Option Operand) (r : List PV) : pull o.isSome (o.toList.map S ++ r) = (o.map S, r) := by
  cases o with
  | none => rfl
  | some x => rfl

theorem bnd_op (hS : ∀ x, OpRep κ w live tk (S x) (ρ x)) {u : Operand} {d i : Int} (h : bnd (some (S u)) d = some i) : ∃ k, ρ u = .int k i := by
  have hu := hS u
  generalize S u = pu at *
  cases pu with
  | v y =>
    cases y with
    | int k a => simp only [bnd, Option.some.injEq] at h; subst h; exact ⟨k, int_op hu⟩
    | _ => simp [bnd] at h
  | _ => simp [bnd] at h

theorem slc_yields (hS : ∀ x, OpRep κ w live tk (S x) (ρ x)) {T E : TypeId} (hT : P.underlying T = some (.slice E)) {j : TypeInfo} (hj : P.info? E = some j) (x : Operand)
    (lo hi mx : Option Operand) {p : PV} (h : sliceOf (S x) (lo.map S) (hi.map S) (mx.map S) j.size = some p) :
    ∃ v, (Instr.sliceAt T (ρ x) (lo.map ρ) (hi.map ρ) (mx.map ρ)).run P w = .ok v w ∧ OpRep κ w live tk p v := by
  have hx := hS x
  generalize S x = px at *
  cases px with
  | sl t sz rows =>
    simp only [sliceOf] at h
    split at h
    · rename_i hz
      obtain ⟨hr, a, c, hxv⟩ := hx.sl_inv
      have hr' : RepC κ w (.sl 0 j.size rows) (.slice a rows.length c) := by
        rw [← hxv]
        by_cases e : sz = j.size
        · rw [← e]; exact hr
        · have : rows = [] := by simpa [e] using hz
          subst this
          rw [hxv]; exact .nil _ _ _
      have hcap : rows.length ≤ c := by
        generalize hq : Value.slice a rows.length c = q at hr'
        cases hr' with
        | nil => simp
        | sl _ _ b o c' vs g1 g2 g3 g4 g5 g6 => cases hq; exact g6
      have hcz : P.cellsOf E = j.size := by simp [Program.cellsOf, hj]
      have main : ∀ (l hh m : Nat), (Instr.sliceBounds true rows.length c (lo.map ρ) (hi.map ρ) (mx.map ρ)).run P w = .ok (l, hh, m) w →
          (Instr.sliceAt T (ρ x) (lo.map ρ) (hi.map ρ) (mx.map ρ)).run P w = .ok (.slice (if m = l then a else a.map (·.add (l * j.size))) (hh - l) (m - l)) w := by
        intro l hh m hb
        simp only [Instr.sliceAt, Sem.run_bind, run_underlying hT, Result.andThen_ok, Instr.slice, hxv, hb, run_sizeOf w hj, hcz]
        rfl
      split at h
      · rename_i l hh hl hhh
        split at h
        · rename_i hb
          obtain ⟨b0, b1, b2⟩ := hb
          have low : ∀ (y : Nat) (code : BoundsCode) (K : Nat → Sem (Nat × Nat × Nat)), (y : Int) = hh →
              (match lo.map ρ with | some v => (do let l ← Instr.sliceBound v y code; K l) | none => (do let l ← pure 0; K l) : Sem (Nat × Nat × Nat)).run P w = (K l.toNat).run P w := by
            intro y code K hy
            cases lo with
            | none => simp only [Option.map_none, bnd, Option.some.injEq] at hl; subst hl; rfl
            | some u =>
              obtain ⟨k, e⟩ := bnd_op hS hl
              simp only [Option.map_some, e, Sem.run_bind, bound_runs code b0 (show l ≤ (y : Int) by omega), Result.andThen_ok]
          have ht : (hh.toNat : Int) = hh := by omega
          cases mx with
          | none =>
            simp only [Option.map_none, Option.some.injEq] at h
            subst h
            refine ⟨_, main l.toNat hh.toNat c ?_, trivial, sub_rep hr' (by omega) (by omega) (by omega), .inl rfl⟩
            have lw := fun K => low hh.toNat .sliceB K ht
            cases hi with
            | none =>
              simp only [Option.map_none, bnd, Option.some.injEq] at hhh
              have hn : hh.toNat = rows.length := by omega
              rw [hn] at lw ⊢
              simp only [Instr.sliceBounds, Option.map_none, Sem.run_bind, Sem.run_pure, Result.andThen_ok, Option.isSome_none, Bool.false_eq_true, if_false]
              exact lw fun l => pure (l, rows.length, c)
            | some u =>
              obtain ⟨k, e⟩ := bnd_op hS hhh
              have hb2 : hh ≤ (c : Int) := by omega
              simp only [Instr.sliceBounds, Option.map_none, Option.map_some, e, Sem.run_bind, Sem.run_pure, Result.andThen_ok, Option.isSome_none, Bool.false_eq_true, if_false, if_true, bound_runs .sliceAcap (show (0 : Int) ≤ hh by omega) hb2]
              exact lw fun l => pure (l, hh.toNat, c)
          | some v =>
            have hv := hS v
            simp only [Option.map_some] at h
            generalize S v = pv at *
            cases pv <;> first | (simp at h; done) | skip
            rename_i yv
            cases yv <;> first | (simp at h; done) | skip
            rename_i k0 m
            simp only at h
            split at h
            · rename_i hm
              cases h
              obtain ⟨hm, hs⟩ := hm
              subst hm
              have ev := int_op hv
              cases hi with
              | none => simp at hs
              | some u =>
                obtain ⟨k, e⟩ := bnd_op hS hhh
                have lw := fun K => low m.toNat .slice3C K ht
                refine ⟨_, main l.toNat m.toNat m.toNat ?_, trivial, sub_rep hr' (by omega) (by omega) (by omega), .inr (.inl ⟨rfl, _, _, rfl⟩)⟩
                have hb2 : m ≤ (c : Int) := by omega
                have hb3 : m ≤ (m.toNat : Int) := by omega
                simp only [Instr.sliceBounds, Option.map_some, e, ev, Sem.run_bind, Result.andThen_ok, Option.isSome_some, if_true, bound_runs .slice3Acap (show (0 : Int) ≤ m by omega) hb2, bound_runs .slice3B (show (0 : Int) ≤ m by omega) hb3]
                exact lw fun l => pure (l, m.toNat, m.toNat)
            · cases h
        · cases h
      · cases h
    · cases h
  | _ => simp [sliceOf] at h

end
end Go.Pi
