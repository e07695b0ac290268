/- More operations that leave memory alone. -/
import Derived.Test.YtckcklkbdbafbaaDoorPiE
namespace Go.Pi
open Go
open PV (genOf asSrc clrC clrs clr clrAll cellsT cells0)

section
variable {P : Program} {κ : KM} {w : World} {live : Nat → Bool} {tk : Nat} {S : Operand → PV} {ρ : Operand → Value}

theorem ldE_runs {T : TypeId} {i : TypeInfo} (hi : P.info? T = some i) (hd : (P.underlying T).isSome = true) {row : List PV} {off : Nat} {x : Value} (hx : EpRep κ w row off x)
    {p : PV} (h : cut row off (if aggT P T then i.size else 1) (aggT P T) = some p) : ∃ v, (Instr.loadAt T x).run P w = .ok v w ∧ OpRep κ w live tk p v := by
  obtain ⟨d, hd⟩ := Option.isSome_iff_exists.1 hd
  obtain ⟨b, o, vs, hx, hf, hv⟩ := hx
  have hct : CellsT κ w live tk row ((List.range row.length).map vs).toArray := by
    refine CellsRep.tok ⟨by simp, fun j hj => ?_⟩
    have e : (((List.range row.length).map vs).toArray).getD j undef = vs j := by simp [hj]
    rw [e]
    exact (hv j hj).2
  obtain ⟨h0, h1, h2⟩ := cut_rep hct h
  have hrun := run_loadVar_known (P := P) (w := w) T hi hd b (o + off) (fun j => vs (off + j)) (fun j hj => by
    have := (hv (off + j) (by omega)).1
    rw [← Nat.add_assoc] at this
    exact this)
  refine ⟨if aggT P T then .agg ((List.range i.size).map fun j => vs (off + j)).toArray else vs (off + 0), ?_, ?_⟩
  · rw [hx]
    simp [Instr.loadAt, Instr.sureAddr]
    simpa using hrun
  · cases hg : aggT P T with
    | true =>
      simp only [hg, if_true] at h0 h1 ⊢
      have e : (((List.range row.length).map vs).toArray).extract off (off + i.size) = ((List.range i.size).map fun j => vs (off + j)).toArray := by
        apply Array.ext
        · simp; omega
        · intro j hj hj'
          simp
      rw [← e]
      exact h1 trivial
    | false =>
      simp only [hg, Bool.false_eq_true, if_false] at h0 h2 ⊢
      have e : (((List.range row.length).map vs).toArray).getD off undef = vs (off + 0) := by
        have : off < row.length := by omega
        simp [this]
      rw [← e]
      exact (h2 trivial).2

theorem OpRep.sp_inv {i off : Nat} {x : Value} (h : OpRep κ w live tk (.sp i off) x) : ∃ b, x = .pointer (some ⟨b, off, none⟩) ∧ κ b = .sb i := by
  obtain ⟨_, hr, _⟩ := h
  cases hr with
  | sp _ _ b hk => exact ⟨b, rfl, hk⟩

theorem OpRep.fn_inv {f : FuncId} {cs : List PV} {x : Value} (h : OpRep κ w live tk (.fn f cs) x) :
    ∃ arr : Array Value, x = .func (.func f) #[] arr ∧ arr.size = cs.length ∧ ∀ i, i < cs.length → RepC κ w (cs.getD i .un) (arr.getD i undef) := by
  obtain ⟨_, hr, _⟩ := h
  cases hr with
  | fn _ _ arr h1 h2 => exact ⟨arr, rfl, h1, h2⟩

theorem nilck_yields (hS : ∀ x, OpRep κ w live tk (S x) (ρ x)) (x : Operand) {old p : PV} (h : evalP .nilck old [S x] = some p) (o : Oper) (ho : o.op = .nilCheck x) :
    ∃ v, (execOp ρ o).run P w = .ok (.value v) w ∧ OpRep κ w live tk p v := by
  have hx := hS x
  generalize S x = px at *
  cases px with
  | lp s g off => simp only [evalP, Option.some.injEq] at h; subst h; refine ⟨ρ x, ?_, hx⟩; obtain ⟨_, b, e, _⟩ := hx; simp [execOp, ho, e]
  | ep r off => simp only [evalP, Option.some.injEq] at h; subst h; refine ⟨ρ x, ?_, hx⟩; obtain ⟨_, b, q, vs, e, _⟩ := hx; simp [execOp, ho, e]
  | sp i off => simp only [evalP, Option.some.injEq] at h; subst h; refine ⟨ρ x, ?_, hx⟩; obtain ⟨b, e, _⟩ := hx.sp_inv; simp [execOp, ho, e]
  | fn f c => simp only [evalP, Option.some.injEq] at h; subst h; refine ⟨ρ x, ?_, hx⟩; obtain ⟨arr, e, _⟩ := hx.fn_inv; simp [execOp, ho, e]
  | _ => simp [evalP] at h

theorem OpRep.sl_inv {t z : Nat} {rows : List (List PV)} {x : Value} (h : OpRep κ w live tk (.sl t z rows) x) :
    RepC κ w (.sl 0 z rows) x ∧ ∃ a c, x = .slice a rows.length c := by
  obtain ⟨_, hr, _⟩ := h
  have hr' : RepC κ w (.sl 0 z rows) x := hr
  refine ⟨hr', ?_⟩
  cases hr' with
  | nil _ a c => exact ⟨a, c, rfl⟩
  | sl _ _ b o c vs h1 h2 h3 h4 h5 h6 => exact ⟨_, _, rfl⟩

theorem row_ep {z b o c : Nat} {rows : List (List PV)} {x : Value} (h : RepC κ w (.sl 0 z rows) x) (hx : x = .slice (some ⟨b, o, none⟩) rows.length c) {i : Nat} (hi : i < rows.length) :
    EpRep κ w (rows.getD i []) 0 (.pointer (some ⟨b, o + i * z, none⟩)) ∧ (rows.getD i []).length = z := by
  cases h with
  | nil _ a c => simp at hi
  | sl _ _ b' o' c' vs h1 h2 h3 h4 h5 h6 =>
    cases hx
    have hl : (rows.getD i []).length = z := by
      apply h2
      simp [List.getD_eq_getElem?_getD, hi]
    refine ⟨⟨b, o + i * z, fun j => vs i j, rfl, ?_, fun j hj => ?_⟩, hl⟩
    · rw [hl]
      unfold foot at *
      have hle : o + i * z + z ≤ o + rows.length * z := by
        have := Nat.mul_le_mul_right z (Nat.succ_le_of_lt hi)
        rw [Nat.succ_mul] at this
        omega
      split at h3 <;> first | trivial | omega | exact h3.elim
    · rw [hl] at hj
      exact ⟨h4 i j hi hj, h5 i j hi hj⟩

theorem ia_yields (hS : ∀ x, OpRep κ w live tk (S x) (ρ x)) {T E : TypeId} (hT : P.underlying T = some (.slice E)) {j : TypeInfo} (hj : P.info? E = some j) (x y : Operand)
    {old p : PV} (h : evalP (.ia j.size) old [S x, S y] = some p) : ∃ v, (Instr.indexAt T (ρ x) (ρ y)).run P w = .ok v w ∧ OpRep κ w live tk p v := by
  have hx := hS x
  have hy := hS y
  generalize S x = px at *
  generalize S y = py at *
  cases px with
  | sl t z rows =>
    cases py with
    | v u =>
      cases u with
      | int k i =>
        simp only [evalP] at h
        split at h
        · rename_i hc
          cases h
          obtain ⟨h0, hlt, hz⟩ := hc
          obtain ⟨hr, a, c, hxv⟩ := hx.sl_inv
          obtain ⟨e, _⟩ := hy.v_inv
          have hlt' : i.toNat < rows.length := by omega
          cases a with
          | none =>
            rw [hxv] at hr
            cases hr with
            | nil => simp at hlt'
          | some ad =>
            obtain ⟨b, o, sp⟩ := ad
            have hsp : sp = none := by
              rw [hxv] at hr
              cases hr with
              | nil => simp at hlt'
              | sl => rfl
            subst hsp
            obtain ⟨he, hl⟩ := row_ep hr hxv hlt'
            refine ⟨_, ?_, trivial, he⟩
            have hlt2 : i < rows.length := hlt
            have hcz : P.cellsOf E = z := by simp [Program.cellsOf, hj, hz]
            simp [Instr.indexAt, e, hxv, asIntOf, run_underlying hT, h0, hlt2, run_sizeOf w hj, addr_add, hcz]
        · cases h
      | _ => simp [evalP] at h
    | _ => simp [evalP] at h
  | _ => cases py <;> simp [evalP] at h

theorem iaA_yields (hS : ∀ x, OpRep κ w live tk (S x) (ρ x)) {T E : TypeId} {n : Nat} (hT : P.underlying T = some (.array n E)) {j : TypeInfo} (hj : P.info? E = some j) (x y : Operand)
    {old p : PV} (h : evalP (.iaA n j.size) old [S x, S y] = some p) : ∃ v, (Instr.indexAt T (ρ x) (ρ y)).run P w = .ok v w ∧ OpRep κ w live tk p v := by
  have hx := hS x
  have hy := hS y
  generalize S x = px at *
  generalize S y = py at *
  cases py with
  | v u =>
    cases u with
    | int k i =>
      simp only [evalP] at h
      split at h
      · rename_i hc
        obtain ⟨h0, hlt⟩ := hc
        obtain ⟨e, _⟩ := hy.v_inv
        obtain ⟨b, o, hxv, hr⟩ := offBy_rep hx h
        refine ⟨_, ?_, hr⟩
        have hcz : P.cellsOf E = j.size := by simp [Program.cellsOf, hj]
        simp [Instr.indexAt, e, hxv, asIntOf, run_underlying hT, h0, hlt, run_sizeOf w hj, addr_add, hcz, Instr.sureAddr]
      · cases h
    | _ => simp [evalP] at h
  | _ => simp [evalP] at h

theorem ext_yields (hS : ∀ x, OpRep κ w live tk (S x) (ρ x)) (x : Operand) (i : Nat) {old p : PV} (h : evalP (.ext i) old [S x] = some p) :
    ∃ v, (Instr.extract (ρ x) i).run P w = .ok v w ∧ OpRep κ w live tk p v := by
  have hx := hS x
  generalize S x = px at *
  cases px with
  | tup vs =>
    simp only [evalP] at h
    obtain ⟨_, arr, hxv, hs, hv⟩ := hx
    have hi : i < vs.length := by
      rcases Nat.lt_or_ge i vs.length with h' | h'
      · exact h'
      · rw [List.getElem?_eq_none h'] at h; cases h
    have := hv i hi
    have e1 : vs.getD i .un = p := by simp [List.getD_eq_getElem?_getD, h]
    rw [e1] at this
    refine ⟨_, ?_, this.op⟩
    have hi' : i < arr.size := by omega
    simp [Instr.extract, hxv, hi']
  | _ => simp [evalP] at h

theorem len_yields (hS : ∀ x, OpRep κ w live tk (S x) (ρ x)) (x : Operand) {T E : TypeId} {ts : Array TypeId} (ht : ts[0]? = some T) (hT : P.underlying T = some (.slice E)) (ty : TypeId)
    {old p : PV} (h : evalP .len old [S x] = some p) : ∃ v, (Builtin.len_ ts ty #[ρ x]).run P w = .ok v w ∧ OpRep κ w live tk p v := by
  have hx := hS x
  generalize S x = px at *
  cases px with
  | sl t z rows =>
    simp only [evalP, Option.some.injEq] at h
    subst h
    obtain ⟨hr, a, c, hxv⟩ := hx.sl_inv
    refine ⟨_, ?_, trivial, RepC.v _ rfl, trivial⟩
    simp [Builtin.len_, ht, run_underlying hT, hxv, goInt]
  | _ => simp [evalP] at h

theorem max_yields (hS : ∀ x, OpRep κ w live tk (S x) (ρ x)) (x y : Operand) (mx : Bool) (ts : Array TypeId) (ty : TypeId) {old p : PV} (h : evalP (.maxi mx) old [S x, S y] = some p) :
    ∃ v, (if mx then Builtin.max_ ts ty #[ρ x, ρ y] else Builtin.min_ ts ty #[ρ x, ρ y]).run P w = .ok v w ∧ OpRep κ w live tk p v := by
  have hx := hS x
  have hy := hS y
  generalize S x = px at *
  generalize S y = py at *
  cases px with
  | v u =>
    cases py with
    | v u' =>
      obtain ⟨e, _⟩ := hx.v_inv
      obtain ⟨e', _⟩ := hy.v_inv
      cases u with
      | int k m =>
        cases u' with
        | int k' n =>
          cases k <;> first | (simp [evalP] at h; done) | skip
          cases k' <;> first | (simp [evalP] at h; done) | skip
          simp only [evalP, Option.some.injEq] at h
          subst h
          refine ⟨_, ?_, trivial, RepC.v _ rfl, trivial⟩
          cases mx <;> simp [Builtin.max_, Builtin.min_, Builtin.max2, Builtin.min2, e, e']
        | _ => simp [evalP] at h
      | _ => simp [evalP] at h
    | _ => simp [evalP] at h
  | _ => cases py <;> simp [evalP] at h

theorem mkfn_yields (hS : ∀ x, OpRep κ w live tk (S x) (ρ x)) (f : FuncId) (caps : Array Operand) {old p : PV} (h : evalP (.mkfn f) old (caps.toList.map S) = some p) :
    OpRep κ w live tk p (.func (.func f) #[] (caps.map ρ)) := by
  simp only [evalP] at h
  split at h
  · rename_i cs hcs
    cases h
    refine ⟨trivial, .fn f cs _ ?_ fun i hi => ?_, trivial⟩
    · rw [clrs_len hcs]; simp
    · have hl := clrs_len hcs
      have hi' : i < caps.toList.length := by simpa [hl] using hi
      have := clrs_get hcs i (by simpa using hi')
      rw [getD_map' S _ i PV.un (.func 0) hi'] at this
      have e : (caps.map ρ).getD i undef = ρ (caps.toList.getD i (.func 0)) := by
        have hi2 : i < caps.size := by simpa using hi'
        simp [hi2, List.getD_eq_getElem?_getD]
      rw [e]
      have ho := hS (caps.toList.getD i (.func 0))
      generalize S (caps.toList.getD i (.func 0)) = q at *
      have hv := clr_rep ho (show clr q = some _ by cases q <;> first | exact this | (simp [clrC] at this; done))
      generalize cs.getD i .un = r at *
      cases q <;> (simp only [clrC, Option.some.injEq, reduceCtorEq] at this; try (subst this; exact hv))
  · cases h

theorem conv_yields (hS : ∀ x, OpRep κ w live tk (S x) (ρ x)) {s d : TypeId} {k k' : IntKind} (hs : P.underlying s = some (.int k')) (hd : P.underlying d = some (.int k)) (x : Operand)
    {old p : PV} (h : evalP (.conv k) old [S x] = some p) : ∃ v, (convert s d (ρ x)).run P w = .ok v w ∧ OpRep κ w live tk p v := by
  have hx := hS x
  generalize S x = px at *
  cases px with
  | v u =>
    cases u with
    | int k0 n =>
      simp only [evalP, Option.some.injEq] at h
      subst h
      obtain ⟨e, _⟩ := hx.v_inv
      refine ⟨_, ?_, trivial, RepC.v _ rfl, trivial⟩
      simp [convert, run_underlying hs, run_underlying hd, e, Conv.intToInt]
    | _ => simp [evalP] at h
  | _ => simp [evalP] at h

end
end Go.Pi
