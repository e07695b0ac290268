/- New rows, and append. -/
import Derived.Test.YtckcklkbdbafbaaDoorPiI
import Derived.Laws.AppendOwn
namespace Go.Pi
open Go
open PV (genOf asSrc clrC clrs clr clrAll cellsT cells0)

section
variable {P : Program} {G : Glob} {L : List Nat} {κ0 : KM} {w0 : World} {κ κ' : KM} {st : St} {a a' : Act} {w w' : World} {live : Nat → Bool} {tk : Nat}

/-- Rows that lie one behind the other. -/
def Flat (κ : KM) (w : World) (z : Nat) (rows : List (List PV)) (arr : Array Value) : Prop :=
  rows.length * z ≤ arr.size ∧ (∀ r ∈ rows, r.length = z) ∧ ∀ i j, i < rows.length → j < z → RepC κ w ((rows.getD i []).getD j .un) (arr.getD (i * z + j) undef)

theorem Flat.mono (m : Mono κ w κ' w') {z : Nat} {rows : List (List PV)} {arr : Array Value} (h : Flat κ w z rows arr) : Flat κ' w' z rows arr :=
  ⟨h.1, h.2.1, fun i j hi hj => (h.2.2 i j hi hj).mono m⟩

theorem row_apart {z i i' j : Nat} (hj : j < z) (hne : i' ≠ i) : ¬ (i * z ≤ i' * z + j ∧ i' * z + j < i * z + z) := by
  intro ⟨h1, h2⟩
  rcases Nat.lt_or_ge i' i with h | h
  · have := Nat.mul_le_mul_right z (Nat.succ_le_of_lt h)
    rw [Nat.succ_mul] at this
    omega
  · have := Nat.mul_le_mul_right z (Nat.succ_le_of_lt (show i < i' by omega))
    rw [Nat.succ_mul] at this
    omega

theorem Flat.set {z : Nat} {rows : List (List PV)} {arr xs : Array Value} {i : Nat} {cs : List PV} (h : Flat κ w z rows arr) (hi : i < rows.length) (hc : CellsRep κ w cs xs) (hl : cs.length = z) :
    Flat κ w z (rows.set i cs) (xs.zipIdx.foldl (fun cs (x : Value × Nat) => cs.setIfInBounds (i * z + x.2) x.1) arr) := by
  have hx : xs.zipIdx.foldl (fun cs (x : Value × Nat) => cs.setIfInBounds (i * z + x.2) x.1) arr = (xs.toList.zipIdx 0).foldl (fun cs (x : Value × Nat) => cs.setIfInBounds (i * z + x.2) x.1) arr := by
    rw [← Array.foldl_toList, Array.toList_zipIdx]
  rw [hx]
  have hxs : xs.size = z := by rw [hc.1, hl]
  have hfit : i * z + z ≤ arr.size := by
    have := Nat.mul_le_mul_right z (Nat.succ_le_of_lt hi)
    rw [Nat.succ_mul] at this
    have := h.1
    omega
  obtain ⟨h1, h2⟩ := foldl_set xs.toList 0 (i * z) arr (by simp; omega)
  refine ⟨by rw [h1]; simpa using h.1, fun r hr => ?_, fun i' j hi' hj => ?_⟩
  · rcases List.mem_or_eq_of_mem_set hr with h' | h'
    · exact h.2.1 r h'
    · rw [h', hl]
  · rw [h2]
    have hi'' : i' < rows.length := by simpa using hi'
    by_cases e : i = i'
    · subst e
      rw [if_pos (by simp; omega), getD_set_eq _ _ _ _ hi]
      have := hc.2 j (by omega)
      have e2 : i * z + j - i * z - 0 = j := by omega
      rw [e2, toList_getD]
      exact this
    · have := row_apart (i := i) (i' := i') hj (fun h => e h.symm)
      rw [if_neg (by simp; omega), getD_set_ne _ _ _ _ _ e]
      exact h.2.2 i' j hi'' hj

theorem fillS_runs {z : Nat} : ∀ (is : List Nat) (qs : List (Nat × Value)) (xs : List PV) (rows rows' : List (List PV)) (arr : Array Value),
    is.length = qs.length → (∀ j, j < is.length → (qs.getD j (0, undef)).1 = is.getD j 0) →
    (∀ j, j < xs.length → OpRep κ w live tk (xs.getD j .un) (qs.getD j (0, undef)).2) → Flat κ w z rows arr → fillS z rows is xs = some rows' →
    ∃ arr', Instr.fill (fun i => some (i * z, z)) arr qs = some arr' ∧ Flat κ w z rows' arr' ∧ arr'.size = arr.size ∧ rows'.length = rows.length
  | [], [], xs, rows, rows', arr, _, _, _, hz, hf => by
    cases xs with
    | nil => simp [fillS] at hf; subst hf; exact ⟨arr, rfl, hz, rfl, rfl⟩
    | cons x xs => simp [fillS] at hf
  | [], _ :: _, _, _, _, _, hl, _, _, _, _ => by simp at hl
  | _ :: _, [], _, _, _, _, hl, _, _, _, _ => by simp at hl
  | i :: is, q :: qs, xs, rows, rows', arr, hl, hp, hx, hz, hf => by
    cases xs with
    | nil => simp [fillS] at hf
    | cons x xs =>
      simp only [fillS] at hf
      split at hf
      · rename_i cs hcs
        split at hf
        · rename_i hc
          have hq : OpRep κ w live tk x q.2 := by simpa using hx 0 (by simp)
          have hcr := cells0_rep hq hcs
          have hpl : q.1 = i := by simpa using hp 0 (by simp)
          have hs := Flat.set hz hc.2 hcr hc.1
          obtain ⟨arr', h1, h2, h3, h4⟩ := fillS_runs is qs xs _ rows' _ (by simpa using hl) (fun j hj => by simpa using hp (j + 1) (by simpa using hj))
            (fun j hj => by simpa using hx (j + 1) (by simpa using hj)) hs hf
          obtain ⟨qi, qv⟩ := q
          simp only at hpl
          subst hpl
          have hsz := hcr.1
          simp only at hsz
          have hfit : qi * z + z ≤ arr.size := by
            have := Nat.mul_le_mul_right z (Nat.succ_le_of_lt hc.2)
            rw [Nat.succ_mul] at this
            have := hz.1
            omega
          refine ⟨arr', ?_, h2, ?_, by rw [h4]; simp⟩
          · simp only [Instr.fill]
            rw [if_neg (by simp; omega)]
            exact h1
          · rw [h3]
            have hx : qv.cells.zipIdx.foldl (fun cs (x : Value × Nat) => cs.setIfInBounds (qi * z + x.2) x.1) arr = (qv.cells.toList.zipIdx 0).foldl (fun cs (x : Value × Nat) => cs.setIfInBounds (qi * z + x.2) x.1) arr := by
              rw [← Array.foldl_toList, Array.toList_zipIdx]
            rw [hx]
            exact (foldl_set qv.cells.toList 0 (qi * z) arr (by simp; omega)).1
        · cases hf
      · cases hf

/-- A row in a block of its own. -/
theorem newRow_rep (hnew : ∀ b, w.heap.size ≤ b → κ b = .none) {z c : Nat} {rows : List (List PV)} {arr : Array Value} (T : TypeId) (K : Kind) (h : Flat κ w z rows arr) (hc : rows.length ≤ c)
    (hK : foot (updK κ w.heap.size K) w.heap.size (rows.length * z)) :
    RepC (updK κ w.heap.size K) (w.alloc (.cells arr T)) (.sl 0 z rows) (.slice (some ⟨w.heap.size, 0, none⟩) rows.length c) := by
  have k := keep_alloc (live := fun _ => false) (tk := 0) hnew (.cells arr T) K
  by_cases he : rows = []
  · subst he; exact .nil _ _ _
  · refine .sl z rows _ _ _ (fun i j => arr.getD (i * z + j) undef) he h.2.1 (by simpa using hK) (fun i j hi hj => ?_) (fun i j hi hj => (h.2.2 i j hi hj).mono k.mono) hc
    have hlt : i * z + j < arr.size := by
      have := Nat.mul_le_mul_right z (Nat.succ_le_of_lt hi)
      rw [Nat.succ_mul] at this
      have := h.1
      omega
    have hh : (w.alloc (.cells arr T)).heap[w.heap.size]? = some (.cells arr T (0, 0)) := by
      show (w.heap.push _)[w.heap.size]? = _
      simp
    simp only [World.cell?, hh]
    simp [hlt]

theorem foot_imm {n h : Nat} : foot (updK κ n .imm) n h := by simp [foot, updK]

/-- A slice's literal. -/
theorem Rel.bslice (hR : Rel G L κ0 w0 κ st a w) {S : Operand → PV} {ρ : Operand → Value} (hS : ∀ x, OpRep κ w st.ef.live st.ef.tk (S x) (ρ x)) {T E : TypeId} {len : Nat} {ps : Array (Nat × Operand)}
    {z1 z : List PV} (hT : P.underlying T = some (.slice E)) (hz1 : zeroC P E = some z1) (hz : clrs z1 = some z) (hl : z.length = P.cellsOf E) (hmax : len * P.cellsOf E ≤ 2 ^ 24) (hpos : 0 < P.cellsOf E)
    {old p : PV} (h : evalP (.bslice z len (P.cellsOf E) (ps.toList.map (·.1))) old (ps.toList.map fun q => S q.2) = some p) {d : Option Nat} (hd : ∀ t, d = some t → L.contains t = false) :
    ∃ v w' κ', (Instr.buildSlice T len (ps.map fun (i, x) => (i, ρ x))).run P w = .ok v w' ∧ Rel G L κ0 w0 κ' ⟨putD st.regs d p, st.ef⟩ (a.put d v) w' := by
  obtain ⟨i, v, hi, hv, hc⟩ := zeroC_inv hz1
  have hzr : CellsRep κ w z v.cells := (ofCells_rep (live := st.ef.live) (tk := st.ef.tk) hc).clr hz
  simp only [evalP] at h
  split at h
  · rename_i rows hrows
    cases h
    have hcz : P.cellsOf E = i.size := by simp [Program.cellsOf, hi]
    generalize hzz : P.cellsOf E = n at *
    have hflat : Flat κ w n (List.replicate len z) ((Array.range (len * n)).map (v.cells[· % v.cells.size]!)) := by
      refine ⟨by simp, fun r hr => by rw [List.eq_of_mem_replicate hr, hl], fun i' j hi' hj => ?_⟩
      have hi'' : i' < len := by simpa using hi'
      have e1 : (List.replicate len z).getD i' [] = z := by simp [List.getD_eq_getElem?_getD, hi'']
      have hlt : i' * n + j < len * n := by have := at_lt hi'' hj 0; omega
      have hvs : v.cells.size = n := by rw [hzr.1, hl]
      have e2 : ((Array.range (len * n)).map (v.cells[· % v.cells.size]!)).getD (i' * n + j) undef = v.cells.getD j undef := by
        have hm : (i' * n + j) % n = j := by rw [Nat.mul_comm, Nat.mul_add_mod]; exact Nat.mod_eq_of_lt hj
        have hj' : j < v.cells.size := by omega
        simp [hlt, hvs, hm]
        rw [show v.cells[j]! = v.cells[j] from getElem!_pos v.cells j hj', Array.getElem?_eq_getElem hj']
        rfl
      rw [e1, e2]
      exact hzr.2 j (by omega)
    obtain ⟨arr, h1, h2, h3, h4⟩ := fillS_runs (live := st.ef.live) (tk := st.ef.tk) (ps.toList.map (·.1)) (ps.toList.map fun x => (x.1, ρ x.2)) _ _ rows _ (by simp)
      (fun j hj => by
        have hj' : j < ps.toList.length := by simpa using hj
        rw [getD_map' _ _ j (0, undef) (0, .func 0) hj', getD_map' _ _ j 0 (0, .func 0) hj'])
      (fun j hj => by
        have hj' : j < ps.toList.length := by simpa using hj
        rw [getD_map' _ _ j (0, undef) (0, .func 0) hj', getD_map' (fun q => S q.2) _ j PV.un (0, .func 0) hj']
        exact hS _) hflat hrows
    have hlen : rows.length = len := by rw [h4]; simp
    refine ⟨.slice (some ⟨w.heap.size, 0, none⟩) len len, w.alloc (.cells arr E), updK κ w.heap.size .imm, ?_, ?_⟩
    · have hq : (ps.map fun (x : Nat × Operand) => match x with | (i, x) => (i, ρ x)).toList = ps.toList.map fun x => (x.1, ρ x.2) := by simp
      simp only [Instr.buildSlice, Sem.run_bind, run_underlying hT, Result.andThen_ok, run_sizeOf w hi, hzz]
      rw [if_neg (by omega)]
      by_cases h0 : len * n = 0
      · have hl0 : len = 0 := by
          rcases Nat.mul_eq_zero.1 h0 with h | h
          · exact h
          · omega
        subst hl0
        simp only [Nat.zero_mul, if_true, Sem.run_pure, Result.andThen_ok, Sem.run_bind] at h1 ⊢
        have e : (Array.map (fun x => (#[] : Array Value)[x % (#[] : Array Value).size]!) (Array.range 0)) = Array.map (fun x => v.cells[x % v.cells.size]!) (Array.range 0) := by simp
        simp only [hq]
        rw [e, h1]
        simp [newRow]
      · rw [if_neg h0]
        simp only [Sem.run_bind, run_zeroValue' hi hv, Result.andThen_ok, Sem.run_pure, hq]
        rw [h1]
        simp [newRow]
    · have hR' := hR.alloc (.cells arr E) .imm (by simp) (by simp) (by simp)
      have hrep := newRow_rep (T := E) hR.new .imm h2 (show rows.length ≤ len by omega) foot_imm
      rw [hlen] at hrep
      exact hR'.put ⟨trivial, hrep, .inr (.inl ⟨rfl, _, _, rfl⟩)⟩ hd
  · cases h

end
end Go.Pi
