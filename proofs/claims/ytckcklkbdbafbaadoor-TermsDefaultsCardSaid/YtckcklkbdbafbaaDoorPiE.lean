/- The operations that leave memory alone, one by one. -/
import Derived.Test.YtckcklkbdbafbaaDoorPiD
namespace Go.Pi
open Go
open PV (genOf asSrc clrC clrs clr clrAll cellsT cells0)

section
variable {P : Program} {κ : KM} {w : World} {live : Nat → Bool} {tk : Nat} {S : Operand → PV} {ρ : Operand → Value}

theorem getD_map' {α β : Type} (f : α → β) (l : List α) (j : Nat) (d : β) (d' : α) (h : j < l.length) : (l.map f).getD j d = f (l.getD j d') := by
  simp [List.getD_eq_getElem?_getD, h]

theorem mapM_places (fs : Array Field) (h : fs.toList.all (fun f => (P.info? f.type).isSome) = true) :
    (fs.mapM fun f => do pure (f.offset, ← sizeOf f.type) : Sem (Array (Nat × Nat))).run P w = .ok (fs.map fun f => (f.offset, P.cellsOf f.type)) w := by
  rw [Array.mapM_eq_mapM_toList]
  have key : ∀ l : List Field, l.all (fun f => (P.info? f.type).isSome) = true →
      (l.mapM fun f => do pure (f.offset, ← sizeOf f.type) : Sem (List (Nat × Nat))).run P w = .ok (l.map fun f => (f.offset, P.cellsOf f.type)) w := by
    intro l
    induction l with
    | nil => intro _; simp
    | cons f r ih =>
      intro h
      simp only [List.all_cons, Bool.and_eq_true] at h
      obtain ⟨i, hi⟩ := Option.isSome_iff_exists.1 h.1
      simp only [List.mapM_cons, Sem.run_bind, run_sizeOf w hi, Result.andThen_ok, Sem.run_pure, ih h.2, List.map_cons]
  rw [Sem.run_map, key _ h]
  simp only [Result.andThen_ok, Result.ok.injEq, and_true]
  apply Array.ext'
  simp

theorem fieldSpan_inv {T : TypeId} {f : Nat} {o n : Nat} {g : Bool} (h : fieldSpan P T f = some (o, n, g)) :
    ∃ fs fl i, P.underlying T = some (.struct fs) ∧ fs[f]? = some fl ∧ P.info? fl.type = some i ∧ o = fl.offset ∧ n = i.size ∧ g = aggT P fl.type := by
  unfold fieldSpan at h
  split at h
  · rename_i fs hu
    split at h
    · rename_i fl hf
      split at h
      · rename_i i hi
        cases h
        exact ⟨fs, fl, i, hu, hf, hi, rfl, rfl, rfl⟩
      · cases h
    · cases h
  · cases h

theorem partsOf_spec {T : TypeId} : ∀ {ps : List (Nat × Operand)} {l : List (Nat × Nat)}, partsOf P T ps = some l →
    l.length = ps.length ∧ ∀ j, j < ps.length → ∃ g, fieldSpan P T (ps.getD j (0, .func 0)).1 = some ((l.getD j (0, 0)).1, (l.getD j (0, 0)).2, g)
  | [], l, h => by simp [partsOf] at h; subst h; exact ⟨rfl, fun j hj => by simp at hj⟩
  | (i, x) :: r, l, h => by
    simp only [partsOf] at h
    split at h
    · rename_i o n g l' hs hp
      cases h
      obtain ⟨h1, h2⟩ := partsOf_spec hp
      refine ⟨by simp [h1], fun j hj => ?_⟩
      cases j with
      | zero => exact ⟨g, by simpa using hs⟩
      | succ j => simpa using h2 j (by simpa using hj)
    · cases h

theorem zeroC_inv {T : TypeId} {z : List PV} (h : zeroC P T = some z) : ∃ i v, P.info? T = some i ∧ i.zero = some v ∧ ofCells v.cells.toList = some z := by
  unfold zeroC at h
  split at h
  · rename_i i hi
    split at h
    · rename_i v hv; exact ⟨i, v, hi, hv, h⟩
    · cases h
  · cases h

theorem run_zeroValue' {T : TypeId} {i : TypeInfo} {v : Value} (h : P.info? T = some i) (hv : i.zero = some v) : (zeroValue T).run P w = .ok v w := by
  simp [zeroValue, run_typeInfo w h, hv]

theorem build_runs (hS : ∀ x, OpRep κ w live tk (S x) (ρ x)) {T : TypeId} {ps : Array (Nat × Operand)} {z cs : List PV} {l : List (Nat × Nat)} {fs : Array Field}
    (hz : zeroC P T = some z) (hl : partsOf P T ps.toList = some l) (hu : P.underlying T = some (.struct fs)) (ha : fs.toList.all (fun f => (P.info? f.type).isSome) = true)
    (hf : fillB z l (ps.toList.map fun p => S p.2) = some cs) :
    ∃ v, (Instr.build T (ps.map fun (i, x) => (i, ρ x))).run P w = .ok v w ∧ OpRep κ w live tk (.ag cs) v := by
  obtain ⟨i, v, hi, hv, hc⟩ := zeroC_inv hz
  obtain ⟨hl1, hl2⟩ := partsOf_spec hl
  obtain ⟨arr, h1, h2⟩ := fill_runs (κ := κ) (w := w) (live := live) (tk := tk) ((fs.map fun f => (f.offset, P.cellsOf f.type))[·]?) l (ps.toList.map fun x => (x.1, ρ x.2)) _ z v.cells cs
    (by simp [hl1]) (fun j hj => by
      have hj' : j < ps.toList.length := by omega
      obtain ⟨g, hg⟩ := hl2 j hj'
      obtain ⟨fs', fl, i', hu', hfl, hi', ho, hn, _⟩ := fieldSpan_inv hg
      rw [hu] at hu'
      cases hu'
      rw [getD_map' _ _ j (0, undef) (0, .func 0) hj', Array.getElem?_map, hfl]
      have hc2 : P.cellsOf fl.type = i'.size := by simp [Program.cellsOf, hi']
      rw [Option.map_some, hc2, ← ho, ← hn])
    (fun j hj => by
      have hj' : j < ps.toList.length := by simpa using hj
      rw [getD_map' _ _ j (0, undef) (0, .func 0) hj', getD_map' (fun p => S p.2) _ j PV.un (0, .func 0) hj']
      exact hS _)
    (ofCells_rep hc) hf
  refine ⟨.agg arr, ?_, trivial, arr, rfl, h2⟩
  have hm := mapM_places (P := P) (w := w) fs ha
  simp only [Instr.build, Sem.run_bind, run_zeroValue' hi hv, Result.andThen_ok, run_underlying hu, hm]
  have hq' : (ps.map fun (x : Nat × Operand) => match x with | (i, x) => (i, ρ x)).toList = ps.toList.map fun x => (x.1, ρ x.2) := by simp
  rw [hq', h1]
  simp


theorem mv_yields (hS : ∀ x, OpRep κ w live tk (S x) (ρ x)) (x : Operand) {old p : PV} (h : evalP .mv old [S x] = some p) :
    ∃ v, (pure (.value (ρ x)) : Sem Next).run P w = .ok (.value v) w ∧ OpRep κ w live tk p v := by
  refine ⟨ρ x, rfl, ?_⟩
  have hx := hS x
  simp only [evalP] at h
  split at h <;> first | (cases h; done) | (cases h; exact hx)

theorem OpRep.ite {c : Bool} {p q : PV} {x y : Value} (h : OpRep κ w live tk p x) (h' : OpRep κ w live tk q y) : OpRep κ w live tk (if c then p else q) (if c then x else y) := by
  cases c <;> assumption

theorem pick_yields (hS : ∀ x, OpRep κ w live tk (S x) (ρ x)) (c x y : Operand) {old p : PV} (h : evalP .pick old [S c, S x, S y] = some p) :
    ∃ v, (do pure (.value (if ← asBool (ρ c) then ρ x else ρ y)) : Sem Next).run P w = .ok (.value v) w ∧ OpRep κ w live tk p v := by
  have hc := hS c
  have hx := hS x
  have hy := hS y
  generalize S c = pc at *
  generalize S x = px at *
  generalize S y = py at *
  cases pc with
  | v u =>
    cases u with
    | bool b =>
      simp only [evalP, Option.some.injEq] at h
      subst h
      obtain ⟨e, _⟩ := hc.v_inv
      refine ⟨if b then ρ x else ρ y, ?_, hx.ite hy⟩
      simp [e, asBool]
    | _ => simp [evalP] at h
  | _ => simp [evalP] at h

theorem offBy_rep {p q : PV} {x : Value} {n : Nat} (h : OpRep κ w live tk p x) (ho : offBy p n = some q) :
    ∃ b o, x = .pointer (some ⟨b, o, none⟩) ∧ OpRep κ w live tk q (.pointer (some ⟨b, o + n, none⟩)) := by
  cases p with
  | lp s g o => cases ho; obtain ⟨_, b, hx, hk⟩ := h; exact ⟨b, o, hx, trivial, b, rfl, hk⟩
  | ep r o => cases ho; obtain ⟨_, b, o', vs, hx, hf, hv⟩ := h; exact ⟨b, o' + o, hx, trivial, b, o', vs, by rw [Nat.add_assoc], hf, hv⟩
  | sp i o =>
    cases ho
    obtain ⟨_, hr, _⟩ := h
    cases hr with
    | sp _ _ b hk => exact ⟨b, o, rfl, trivial, .sp i _ b hk, trivial⟩
  | _ => simp [offBy] at ho

theorem fa_yields (hS : ∀ x, OpRep κ w live tk (S x) (ρ x)) (T : TypeId) (x : Operand) (f : Nat) {o n : Nat} {g : Bool} (hs : fieldSpan P T f = some (o, n, g)) (hn : n ≠ 0)
    {p : PV} (h : offBy (S x) o = some p) : ∃ v, (Instr.fieldAt T (ρ x) f).run P w = .ok v w ∧ OpRep κ w live tk p v := by
  obtain ⟨fs, fl, i, hu, hf, hi, ho, hn', _⟩ := fieldSpan_inv hs
  obtain ⟨b, o', hx, hr⟩ := offBy_rep (hS x) h
  refine ⟨_, ?_, hr⟩
  have hc : P.cellsOf fl.type = n := by simp [Program.cellsOf, hi, hn']
  have hc0 : ¬ (P.cellsOf fl.type = 0) := by omega
  simp [Instr.fieldAt, run_underlying hu, hf, hx, Instr.sureAddr, fieldPlace, run_sizeOf w hi, hc0, addr_add, ho]

theorem fld_yields (hS : ∀ x, OpRep κ w live tk (S x) (ρ x)) (T : TypeId) (x : Operand) (f : Nat) {o n : Nat} {g : Bool} (hs : fieldSpan P T f = some (o, n, g))
    {cs : List PV} (hx : S x = .ag cs) {p : PV} (h : cut cs o (if g then n else 1) g = some p) (hdd : fieldKnown P T f = true) :
    ∃ v, (Instr.field T (ρ x) f).run P w = .ok v w ∧ OpRep κ w live tk p v := by
  obtain ⟨fs, fl, i, hu, hf, hi, ho, hn', hg⟩ := fieldSpan_inv hs
  simp only [fieldKnown, hu, hf] at hdd
  obtain ⟨d, hd⟩ := Option.isSome_iff_exists.1 hdd
  have hr := hS x
  rw [hx] at hr
  obtain ⟨_, arr, hxv, hc⟩ := hr
  obtain ⟨h0, h1, h2⟩ := cut_rep hc h
  have hsz := hc.1
  cases hgg : g with
  | true =>
    simp only [hgg, if_true] at h0
    have := h1 hgg
    simp only [hgg, if_true] at this
    refine ⟨_, ?_, this⟩
    have hag : aggT P fl.type = true := by rw [← hg, hgg]
    have hc : P.cellsOf fl.type = n := by simp [Program.cellsOf, hi, hn']
    simp [Instr.field, run_underlying hu, hf, hxv, asAgg, part, run_isAgg _ hd, hag, run_sizeOf w hi, hc, ho]
  | false =>
    simp only [hgg] at h0
    have := (h2 hgg).2
    refine ⟨_, ?_, this⟩
    have hag : aggT P fl.type = false := by rw [← hg, hgg]
    have hlt : o < arr.size := by simp at h0; omega
    have hgt : arr[fl.offset]? = some (arr.getD o undef) := by rw [← ho]; simp [hlt]
    simp [Instr.field, run_underlying hu, hf, hxv, asAgg, part, run_isAgg _ hd, hag, hgt]

end
end Go.Pi
