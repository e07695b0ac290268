/- Operations that leave memory alone: what the machine does is what the interpreter says. -/
import Derived.Test.YtckcklkbdbafbaaDoorPiC
namespace Go.Pi
open Go
open PV (genOf asSrc clrC clrs clr clrAll cellsT cells0)

section
variable {P : Program} {κ : KM} {w : World} {live : Nat → Bool} {tk : Nat}

/-- A run that yields a value and leaves the world alone. -/
def Yields1 (P : Program) (κ : KM) (w : World) (live : Nat → Bool) (tk : Nat) (s : Sem Next) (p : PV) : Prop :=
  ∃ v, s.run P w = .ok (.value v) w ∧ OpRep κ w live tk p v

theorem addr_add (b o j : Nat) : (⟨b, o, none⟩ : Addr).add j = ⟨b, o + j, none⟩ := by
  unfold Addr.add
  split
  · rename_i h; subst h; rfl
  · rfl

theorem run_isAgg (t : TypeId) {d : TypeDesc} (h : P.underlying t = some d) : (isAgg t).run P w = .ok (aggT P t) w := by
  cases d <;> simp [isAgg, run_underlying h, aggT, h]

theorem under_of_info {t : TypeId} (hg : aggT P t = true) : ∃ d, P.underlying t = some d := by
  unfold aggT at hg
  cases hd : P.underlying t with
  | none => simp [hd] at hg
  | some d => exact ⟨d, rfl⟩

/-- A load of a variable all of whose cells are known. -/
theorem run_loadVar_known (t : TypeId) {i : TypeInfo} {d : TypeDesc} (hi : P.info? t = some i) (hd : P.underlying t = some d) (b o : Nat) (f : Nat → Value)
    (hc : ∀ j, j < (if aggT P t then i.size else 1) → w.cell? ⟨b, o + j, none⟩ = some (f j)) :
    (loadVar t ⟨b, o, none⟩).run P w = .ok (if aggT P t then .agg ((List.range i.size).map f).toArray else f 0) w := by
  unfold loadVar
  simp only [Sem.run_bind, run_isAgg t hd, Result.andThen_ok]
  cases hg : aggT P t with
  | true =>
    simp only [hg, if_true] at hc ⊢
    have := run_loadCells (P := P) w ⟨b, o, none⟩ i.size f (fun j hj => by rw [addr_add]; exact hc j hj)
    simp [sizeOf, run_typeInfo w hi, this]
  | false =>
    simp only [hg] at hc ⊢
    have h0 := hc 0 (by simp)
    simp only [Nat.add_zero] at h0
    simp [run_load, h0]

theorem bin_runs (op : BinOp) (T : TypeId) (X Y : Operand) {a b r : Value} (h : binV op a b = some r) :
    (do eqGuard op T X Y a b; binOp op T a b : Sem Value).run P w = .ok r w := by
  unfold binV at h
  split at h
  · rename_i k x k' y
    split at h
    · rename_i hk
      have hk' : k = k' := by simpa [sameKind] using hk
      subst hk'
      have hg : (eqGuard op T X Y (.int k x) (.int k y)).run P w = .ok () w := by
        unfold eqGuard
        cases op <;> simp
      simp only [Sem.run_bind, hg, Result.andThen_ok]
      unfold intBin at h
      cases op <;> simp only [Option.some.injEq, reduceCtorEq] at h <;>
        first
          | (subst h; simp [binOp, Op.intArith, Op.intCmp]; done)
          | (split at h
             · cases h
             · rename_i hb; cases h; simp [binOp, Op.intDiv, hb])
    · cases h
  · cases h

theorem run_equal_bool (T : TypeId) (hT : P.underlying T = some .bool) (a b : Bool) : (Op.equal T (.bool a) (.bool b)).run P w = .ok (a == b) w := by
  have h : ∀ d, (Op.equalIn (d + 1) T (.bool a) (.bool b)).run P w = .ok (a == b) w := fun d => by
    simp [Op.equalIn, run_underlying hT]
  exact h 9999

theorem binB_runs (op : BinOp) (T : TypeId) (X Y : Operand) (hT : P.underlying T = some .bool) {a b r : Value} (h : binBV op a b = some r) :
    (do eqGuard op T X Y a b; binOp op T a b : Sem Value).run P w = .ok r w := by
  unfold binBV at h
  split at h
  · cases h
    simp [eqGuard, binOp, run_equal_bool T hT]
  · cases h
    rename_i p q
    simp [eqGuard, binOp, run_equal_bool T hT]
    cases p <;> cases q <;> rfl
  · cases h

theorem uno_runs (op : UnOp) {a r : Value} (h : unoV op a = some r) : (Op.unary op a).run P w = .ok r w := by
  unfold unoV at h
  split at h
  · cases h; simp [Op.unary]
  · cases h; simp [Op.unary, Op.intArith]
  · cases h


theorem splice_len (cs vs : List PV) (off : Nat) (h : off + vs.length ≤ cs.length) : (splice cs off vs).length = cs.length := by
  simp [splice]; omega

theorem splice_get (cs vs : List PV) (off i : Nat) (h : off + vs.length ≤ cs.length) :
    (splice cs off vs).getD i .un = if off ≤ i ∧ i < off + vs.length then vs.getD (i - off) .un else cs.getD i .un := by
  unfold splice
  simp only [List.getD_eq_getElem?_getD, List.append_assoc]
  by_cases h1 : i < off
  · rw [if_neg (by omega), List.getElem?_append_left (by simp; omega)]
    simp [h1]
  · by_cases h2 : i < off + vs.length
    · rw [if_pos (by omega), List.getElem?_append_right (by simp; omega), List.getElem?_append_left (by simp; omega)]
      simp only [List.length_take]
      rw [Nat.min_eq_left (by omega)]
    · rw [if_neg (by omega), List.getElem?_append_right (by simp; omega), List.getElem?_append_right (by simp; omega)]
      simp only [List.length_take, List.getElem?_drop]
      rw [Nat.min_eq_left (by omega)]
      congr 2
      omega

theorem foldl_set (l : List Value) : ∀ (k off : Nat) (arr : Array Value), off + k + l.length ≤ arr.size →
    ((l.zipIdx k).foldl (fun cs (x : Value × Nat) => cs.setIfInBounds (off + x.2) x.1) arr).size = arr.size ∧
    ∀ i, ((l.zipIdx k).foldl (fun cs (x : Value × Nat) => cs.setIfInBounds (off + x.2) x.1) arr).getD i undef =
      if off + k ≤ i ∧ i < off + k + l.length then l.getD (i - off - k) undef else arr.getD i undef := by
  induction l with
  | nil => intro k off arr _; exact ⟨rfl, fun i => by simp; omega⟩
  | cons x r ih =>
    intro k off arr h
    simp only [List.length_cons] at h
    obtain ⟨h1, h2⟩ := ih (k + 1) off (arr.setIfInBounds (off + k) x) (by simp; omega)
    simp only [List.zipIdx_cons, List.foldl_cons]
    refine ⟨by rw [h1]; simp, fun i => ?_⟩
    rw [h2 i]
    by_cases hi : i = off + k
    · subst hi
      rw [if_neg (by omega), if_pos (by simp)]
      have hs : off + k < arr.size := by omega
      simp [hs]
    · by_cases hr : off + (k + 1) ≤ i ∧ i < off + (k + 1) + r.length
      · rw [if_pos hr, if_pos (by simp; omega)]
        have : i - off - k = (i - off - (k + 1)) + 1 := by omega
        rw [this]
        simp
      · rw [if_neg hr, if_neg (by simp; omega)]
        simp only [Array.getD_eq_getD_getElem?]
        rw [Array.getElem?_setIfInBounds_ne (by omega)]

theorem CellsT.splice {cs vs : List PV} {arr xs : Array Value} {off : Nat} (h : CellsT κ w live tk cs arr) (hv : CellsT κ w live tk vs xs) (hle : off + vs.length ≤ cs.length) :
    CellsT κ w live tk (Pi.splice cs off vs) (xs.zipIdx.foldl (fun cs (x : Value × Nat) => cs.setIfInBounds (off + x.2) x.1) arr) := by
  have hx : xs.zipIdx.foldl (fun cs (x : Value × Nat) => cs.setIfInBounds (off + x.2) x.1) arr = (xs.toList.zipIdx 0).foldl (fun cs (x : Value × Nat) => cs.setIfInBounds (off + x.2) x.1) arr := by
    rw [← Array.foldl_toList, Array.toList_zipIdx]
  rw [hx]
  have hsz := h.1
  have hvs := hv.1
  obtain ⟨h1, h2⟩ := foldl_set xs.toList 0 off arr (by simp; omega)
  refine ⟨by rw [h1, splice_len _ _ _ hle, hsz], fun i hi => ?_⟩
  rw [splice_len _ _ _ hle] at hi
  rw [h2 i, splice_get _ _ _ _ hle]
  by_cases hc : off ≤ i ∧ i < off + vs.length
  · rw [if_pos hc, if_pos (by simp; omega)]
    have := hv.2 (i - off) (by omega)
    have e : xs.toList.getD (i - off - 0) undef = xs.getD (i - off) undef := by simp [List.getD_eq_getElem?_getD]
    rw [e]
    exact this
  · rw [if_neg hc, if_neg (by simp; omega)]
    exact h.2 i hi

/-- The parts of a struct, filled in. -/
theorem fill_runs (place : Nat → Option (Nat × Nat)) : ∀ (ps : List (Nat × Nat)) (qs : List (Nat × Value)) (xs : List PV) (z : List PV) (arr : Array Value) (cs : List PV),
    ps.length = qs.length → (∀ j, j < ps.length → place (qs.getD j (0, undef)).1 = some (ps.getD j (0, 0))) →
    (∀ j, j < xs.length → OpRep κ w live tk (xs.getD j .un) (qs.getD j (0, undef)).2) → CellsT κ w live tk z arr → fillB z ps xs = some cs →
    ∃ arr', Instr.fill place arr qs = some arr' ∧ CellsT κ w live tk cs arr'
  | [], [], xs, z, arr, cs, _, _, _, hz, hf => by
    cases xs with
    | nil => simp [fillB] at hf; subst hf; exact ⟨arr, rfl, hz⟩
    | cons x xs => simp [fillB] at hf
  | [], _ :: _, _, _, _, _, hl, _, _, _, _ => by simp at hl
  | _ :: _, [], _, _, _, _, hl, _, _, _, _ => by simp at hl
  | p :: ps, q :: qs, xs, z, arr, cs, hl, hp, hx, hz, hf => by
    cases xs with
    | nil => simp [fillB] at hf
    | cons x xs =>
      obtain ⟨off, n⟩ := p
      simp only [fillB] at hf
      split at hf
      · rename_i vs hvs
        split at hf
        · rename_i hc
          have hq : OpRep κ w live tk x q.2 := by simpa using hx 0 (by simp)
          have hcr := cellsT_rep hq hvs
          have hpl : place q.1 = some (off, n) := by simpa using hp 0 (by simp)
          have hs := CellsT.splice hz hcr (off := off) (by rw [hc.1]; exact hc.2)
          obtain ⟨arr', h1, h2⟩ := fill_runs place ps qs xs _ _ cs (by simpa using hl) (fun j hj => by simpa using hp (j + 1) (by simpa using hj))
            (fun j hj => by simpa using hx (j + 1) (by simpa using hj)) hs hf
          refine ⟨arr', ?_, h2⟩
          obtain ⟨qi, qv⟩ := q
          simp only [Instr.fill, hpl]
          have hsz := hcr.1
          have hzz := hz.1
          simp only at hsz
          rw [if_neg (by simp; omega)]
          exact h1
        · cases hf
      · cases hf
end
end Go.Pi
