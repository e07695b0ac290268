/- Operands and operations that leave memory alone. -/
import Derived.Test.YtckcklkbdbafbaaDoorPiB
import Derived.Laws.Entries
import Derived.Laws.Build
import Derived.Laws.Append
import Derived.ChangeKeysEq
namespace Go.Pi
open Go
open PV (genOf asSrc clrC clrs clr clrAll cellsT cells0)

section
variable {P : Program} {G : Glob} {L : List Nat} {κ0 : KM} {w0 : World} {κ : KM} {st : St} {a : Act} {w : World} {live : Nat → Bool} {tk : Nat}

def OpRep (κ : KM) (w : World) (live : Nat → Bool) (tk : Nat) (p : PV) (x : Value) : Prop := notBx p ∧ RegRep κ w live tk 0 p x

theorem OpRep.reg {p : PV} {x : Value} (h : OpRep κ w live tk p x) (s : Nat) : RegRep κ w live tk s p x := h.2.slot h.1 s

theorem ofCell_rep {x : Value} (h : x.oneCell' = true) : CRep κ w live tk (ofCell x) x ∧ notBx (ofCell x) := by
  unfold ofCell
  split
  · exact ⟨⟨.nil _ _ _, .inr (.inl ⟨rfl, Option.none, 0, rfl⟩)⟩, trivial⟩
  · exact ⟨⟨.v _ h, trivial⟩, trivial⟩

theorem ofCells_rep {arr : Array Value} {l : List PV} (h : ofCells arr.toList = some l) : CellsT κ w live tk l arr := by
  unfold ofCells at h
  split at h
  · rename_i ha
    cases h
    refine ⟨by simp, fun i hi => ?_⟩
    have hi' : i < arr.size := by simpa using hi
    have h1 : (List.map ofCell arr.toList).getD i .un = ofCell arr[i] := by simp [List.getD_eq_getElem?_getD, hi']
    have h2 : arr.getD i undef = arr[i] := by simp [hi']
    rw [h1, h2]
    exact (ofCell_rep (by
      have := List.all_eq_true.1 ha arr[i] (by simp)
      exact this)).1
  · cases h

theorem ofVal_rep (x : Value) : OpRep κ w live tk (ofVal x) x := by
  unfold ofVal
  split
  · rename_i cs
    split
    · rename_i l hl; exact ⟨trivial, cs, rfl, ofCells_rep hl⟩
    · exact ⟨trivial, trivial⟩
  · split
    · rename_i h
      obtain ⟨h1, h2⟩ := ofCell_rep (κ := κ) (w := w) (live := live) (tk := tk) h
      refine ⟨h2, ?_⟩
      unfold ofCell at *
      split
      · exact ⟨.nil _ _ _, .inr (.inl ⟨rfl, Option.none, 0, rfl⟩)⟩
      · exact ⟨.v _ h, trivial⟩
    · exact ⟨trivial, trivial⟩

theorem src_rep (hR : Rel G L κ0 w0 κ st a w) (x : Operand) :
    OpRep κ w st.ef.live st.ef.tk (src G (fun t => st.regs.getD t .un) (toSrc x)) (a.eval x) := by
  cases x with
  | tmp t =>
    show OpRep κ w _ _ (asSrc t (st.regs.getD t .un)) (a.tmps.getD t undef)
    by_cases ht : t < st.regs.length
    · have h := hR.reg t ht
      generalize st.regs.getD t .un = p at h
      generalize a.tmps.getD t undef = x at h
      cases p with
      | bx g cs => obtain ⟨b, T, arr, hx, hk, _, _⟩ := h; exact ⟨trivial, b, hx, hk⟩
      | un => exact ⟨trivial, trivial⟩
      | ud => exact ⟨trivial, h⟩
      | v y => exact ⟨trivial, h⟩
      | sl t z rows => exact ⟨trivial, h⟩
      | ag cs => exact ⟨trivial, h⟩
      | tup vs => exact ⟨trivial, h⟩
      | lp s g o => exact ⟨trivial, h⟩
      | ep r o => exact ⟨trivial, h⟩
      | sp i o => exact ⟨trivial, h⟩
      | fn f c => exact ⟨trivial, h⟩
    · have hn : st.regs[t]? = Option.none := List.getElem?_eq_none (Nat.le_of_not_lt ht)
      rw [List.getD_eq_getElem?_getD, hn]
      exact ⟨trivial, trivial⟩
  | const v => exact ofVal_rep v
  | global g =>
    show OpRep κ w _ _ (match G g with | some cs => .ep cs 0 | none => .un) _
    cases hg : G g with
    | none => exact ⟨trivial, trivial⟩
    | some cs =>
      obtain ⟨h1, h2⟩ := hR.glob g cs hg
      refine ⟨trivial, g, 0, fun j => (w.cell? ⟨g, j, Option.none⟩).getD undef, rfl, by simp [foot, h1], fun j hj => ?_⟩
      obtain ⟨x, hx, hr⟩ := h2 j hj
      simp only [Nat.zero_add, hx, Option.getD_some]
      exact ⟨trivial, hr⟩
  | func f => exact ⟨trivial, .fn f [] #[] rfl (fun i hi => by simp at hi), trivial⟩

/- What an operand is. -/
theorem OpRep.v_inv {y x : Value} (h : OpRep κ w live tk (.v y) x) : x = y ∧ y.oneCell' = true := by
  obtain ⟨_, hr, _⟩ := h
  cases hr with
  | v _ ho => exact ⟨rfl, ho⟩

theorem OpRep.c {p : PV} {x : Value} (h : OpRep κ w live tk p x) (hc : (cellsT p).isSome = true) (ha : ∀ cs, p ≠ .ag cs) : CRep κ w live tk p x := by
  cases p <;> first | exact h.2 | (simp [cellsT] at hc; done) | exact absurd rfl (ha _)

theorem cellsT_rep {p : PV} {x : Value} {cs : List PV} (h : OpRep κ w live tk p x) (hc : cellsT p = some cs) : CellsT κ w live tk cs x.cells := by
  have one : ∀ (p : PV), (∀ l, p ≠ .ag l) → cellsT p = some [p] → CRep κ w live tk p x → [p] = cs → CellsT κ w live tk cs x.cells := by
    intro p _ _ hr he
    subst he
    have hx : x.cells = #[x] := by
      have := hr.1.oneCell
      cases x <;> first | rfl | (simp [Value.oneCell'] at this; done)
    rw [hx]
    refine ⟨rfl, fun i hi => ?_⟩
    have : i = 0 := by simpa using hi
    subst this
    exact hr
  cases p with
  | ag l => obtain ⟨_, arr, hx, hr⟩ := h; cases hc; subst hx; exact hr
  | v y => exact one _ (by simp) rfl h.2 (by simpa [cellsT] using hc)
  | sl t z rows => exact one _ (by simp) rfl h.2 (by simpa [cellsT] using hc)
  | sp i o => exact one _ (by simp) rfl h.2 (by simpa [cellsT] using hc)
  | fn f c => exact one _ (by simp) rfl h.2 (by simpa [cellsT] using hc)
  | un => simp [cellsT] at hc
  | ud => simp [cellsT] at hc
  | tup vs => simp [cellsT] at hc
  | bx g c => simp [cellsT] at hc
  | lp s g o => simp [cellsT] at hc
  | ep r o => simp [cellsT] at hc

theorem CRep.clr {p q : PV} {x : Value} (h : CRep κ w live tk p x) (hc : clrC p = some q) : RepC κ w q x := by
  cases p with
  | sl t z rows => cases hc; exact h.1
  | v y => cases hc; exact h.1
  | sp i o => cases hc; exact h.1
  | fn f c => cases hc; exact h.1
  | _ => simp [clrC] at hc

theorem RepC.tok {p : PV} {x : Value} (h : RepC κ w p x) : CRep κ w live tk p x ∧ z0 p = p := by
  cases h with
  | v _ ho => exact ⟨⟨.v _ ho, trivial⟩, rfl⟩
  | nil z a c => exact ⟨⟨.nil z a c, .inl rfl⟩, rfl⟩
  | sl z rows b o c vs h1 h2 h3 h4 h5 h6 => exact ⟨⟨.sl z rows b o c vs h1 h2 h3 h4 h5 h6, .inl rfl⟩, rfl⟩
  | sp i o b hk => exact ⟨⟨.sp i o b hk, trivial⟩, rfl⟩
  | fn f c arr hl hh => exact ⟨⟨.fn f c arr hl hh, trivial⟩, rfl⟩

theorem CellsRep.tok {cs : List PV} {arr : Array Value} (h : CellsRep κ w cs arr) : CellsT κ w live tk cs arr :=
  ⟨h.1, fun i hi => (h.2 i hi).tok.1⟩

theorem clrs_len {l m : List PV} (h : clrs l = some m) : m.length = l.length := by
  induction l generalizing m with
  | nil => simp [clrs] at h; subst h; rfl
  | cons x r ih =>
    simp only [clrs] at h
    split at h
    · rename_i y l' hy hl; cases h; simp [ih hl]
    · cases h

theorem clrs_get {l m : List PV} (h : clrs l = some m) : ∀ i, i < l.length → clrC (l.getD i .un) = some (m.getD i .un) := by
  induction l generalizing m with
  | nil => intro i hi; simp at hi
  | cons x r ih =>
    simp only [clrs] at h
    split at h
    · rename_i y l' hy hl
      cases h
      intro i hi
      cases i with
      | zero => simpa using hy
      | succ i => simpa using ih hl i (by simpa using hi)
    · cases h

theorem CellsT.clr {cs ds : List PV} {arr : Array Value} (h : CellsT κ w live tk cs arr) (hc : clrs cs = some ds) : CellsRep κ w ds arr := by
  refine ⟨h.1.trans (clrs_len hc).symm, fun i hi => ?_⟩
  have hi' : i < cs.length := by rw [← clrs_len hc]; exact hi
  exact (h.2 i hi').clr (clrs_get hc i hi')

theorem cells0_rep {p : PV} {x : Value} {cs : List PV} (h : OpRep κ w live tk p x) (hc : cells0 p = some cs) : CellsRep κ w cs x.cells := by
  unfold cells0 at hc
  split at hc
  · rename_i l hl; exact (cellsT_rep h hl).clr hc
  · cases hc

theorem clr_rep {p q : PV} {x : Value} (h : OpRep κ w live tk p x) (hc : clr p = some q) : ValRep κ w q x := by
  cases p with
  | ag l =>
    obtain ⟨_, arr, hx, hr⟩ := h
    simp only [clr, Option.map_eq_some_iff] at hc
    obtain ⟨m, hm, rfl⟩ := hc
    exact ⟨arr, hx, hr.clr hm⟩
  | v y => cases hc; exact h.2.1
  | sl t z rows => cases hc; exact h.2.1
  | sp i o => cases hc; exact h.2.1
  | fn f c => cases hc; exact h.2.1
  | _ => simp [clr, clrC] at hc

theorem ValRep.op {p : PV} {x : Value} (h : ValRep κ w p x) : OpRep κ w live tk p x := by
  cases p with
  | ag l => obtain ⟨arr, hx, hr⟩ := h; exact ⟨trivial, arr, hx, hr.tok⟩
  | v y => exact ⟨trivial, RepC.tok (show RepC κ w _ _ from h) |>.1⟩
  | sl t z rows => exact ⟨trivial, RepC.tok (show RepC κ w _ _ from h) |>.1⟩
  | sp i o => exact ⟨trivial, RepC.tok (show RepC κ w _ _ from h) |>.1⟩
  | fn f c => exact ⟨trivial, RepC.tok (show RepC κ w _ _ from h) |>.1⟩
  | un => cases (show RepC κ w _ _ from h)
  | ud => cases (show RepC κ w _ _ from h)
  | tup vs => cases (show RepC κ w _ _ from h)
  | bx g c => cases (show RepC κ w _ _ from h)
  | lp s g o => cases (show RepC κ w _ _ from h)
  | ep r o => cases (show RepC κ w _ _ from h)

theorem ResRep.op {p : PV} {x : Value} (h : ResRep κ w p x) : OpRep κ w live tk p x := by
  cases p with
  | tup vs => exact ⟨trivial, h⟩
  | ag l => exact ValRep.op (show ValRep κ w _ _ from h)
  | v y => exact ValRep.op (show ValRep κ w _ _ from h)
  | sl t z rows => exact ValRep.op (show ValRep κ w _ _ from h)
  | sp i o => exact ValRep.op (show ValRep κ w _ _ from h)
  | fn f c => exact ValRep.op (show ValRep κ w _ _ from h)
  | un => exact ValRep.op (show ValRep κ w _ _ from h)
  | ud => exact ValRep.op (show ValRep κ w _ _ from h)
  | bx g c => exact ValRep.op (show ValRep κ w _ _ from h)
  | lp s g o => exact ValRep.op (show ValRep κ w _ _ from h)
  | ep r o => exact ValRep.op (show ValRep κ w _ _ from h)

/-- A part of cells. -/
theorem cut_rep {cs : List PV} {arr : Array Value} {off n : Nat} {agg : Bool} {p : PV} (h : CellsT κ w live tk cs arr) (hc : cut cs off n agg = some p) :
    off + n ≤ cs.length ∧ (agg = true → OpRep κ w live tk p (.agg (arr.extract off (off + n)))) ∧ (agg = false → n = 1 ∧ OpRep κ w live tk p (arr.getD off undef)) := by
  unfold cut at hc
  split at hc
  · rename_i hle
    refine ⟨hle, ?_, ?_⟩
    · intro ha
      subst ha
      simp only [if_true, Option.some.injEq] at hc
      subst hc
      refine ⟨trivial, _, rfl, ?_, fun i hi => ?_⟩
      · have := h.1; simp; omega
      · have hi' : i < n := by simp at hi; omega
        have h1 : ((cs.drop off).take n).getD i .un = cs.getD (off + i) .un := by simp [List.getD_eq_getElem?_getD, hi']
        have h2 : (arr.extract off (off + n)).getD i undef = arr.getD (off + i) undef := by
          have := h.1
          simp only [Array.getD_eq_getD_getElem?, Array.getElem?_extract]
          rw [if_pos (by omega)]
        rw [h1, h2]
        exact h.2 (off + i) (by omega)
    · intro ha
      subst ha
      simp only [Bool.false_eq_true, if_false] at hc
      split at hc
      · rename_i hn
        cases hc
        have hr := h.2 off (by omega)
        refine ⟨hn, ?_, ?_⟩
        · generalize cs.getD off .un = q at hr
          cases q <;> first | trivial | (obtain ⟨h1, _⟩ := hr; cases h1)
        · generalize cs.getD off .un = q at hr
          cases q <;> first | exact hr | (obtain ⟨h1, _⟩ := hr; cases h1)
      · cases hc
  · cases hc
end
end Go.Pi
