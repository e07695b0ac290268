/- The relation between plain values and memory, and how it is kept. -/
import Derived.Test.YtckcklkbdbafbaaDoorPiA
import Derived.Laws.Sem
import Derived.Laws.World
import Derived.Laws.Cells
namespace Go.Pi
open Go
open PV (genOf asSrc clrC clrs clr clrAll cellsT cells0)

inductive Kind where
  | none | imm | frz (h : Nat) | lb (slot gen : Nat) | sb (id : Nat) | arr (tok hwm : Nat)

abbrev KM := Nat → Kind

/-- The first h cells of block b stay as they are. -/
def foot (κ : KM) (b h : Nat) : Prop :=
  match κ b with
  | .imm => True
  | .frz n => h ≤ n
  | .arr _ n => h ≤ n
  | _ => False

inductive RepC (κ : KM) (w : World) : PV → Value → Prop
  | v (x : Value) (h : x.oneCell' = true) : RepC κ w (.v x) x
  | nil (z : Nat) (a : Option Addr) (c : Nat) : RepC κ w (.sl 0 z []) (.slice a 0 c)
  | sl (z : Nat) (rows : List (List PV)) (b o c : Nat) (vs : Nat → Nat → Value) (hne : rows ≠ []) (hlen : ∀ r ∈ rows, r.length = z)
      (hf : foot κ b (o + rows.length * z))
      (hc : ∀ i j, i < rows.length → j < z → w.cell? ⟨b, o + i * z + j, Option.none⟩ = some (vs i j))
      (hr : ∀ i j, i < rows.length → j < z → RepC κ w ((rows.getD i []).getD j .un) (vs i j))
      (hcap : rows.length ≤ c) : RepC κ w (.sl 0 z rows) (.slice (some ⟨b, o, Option.none⟩) rows.length c)
  | sp (id off b : Nat) (h : κ b = .sb id) : RepC κ w (.sp id off) (.pointer (some ⟨b, off, Option.none⟩))
  | fn (f : FuncId) (caps : List PV) (arr : Array Value) (hl : arr.size = caps.length)
      (h : ∀ i, i < caps.length → RepC κ w (caps.getD i .un) (arr.getD i undef)) : RepC κ w (.fn f caps) (.func (.func f) #[] arr)

theorem RepC.oneCell {κ : KM} {w : World} {p : PV} {x : Value} (h : RepC κ w p x) : x.oneCell' = true := by
  cases h <;> first | assumption | rfl

/-- What is kept from one state of memory to a later one. -/
structure Mono (κ : KM) (w : World) (κ' : KM) (w' : World) : Prop where
  foot : ∀ b n, foot κ b n → foot κ' b n
  sb : ∀ b id, κ b = .sb id → κ' b = .sb id
  cell : ∀ b o n, Pi.foot κ b n → o < n → w'.cell? ⟨b, o, Option.none⟩ = w.cell? ⟨b, o, Option.none⟩

theorem at_lt {i j z n : Nat} (hi : i < n) (hj : j < z) (o : Nat) : o + i * z + j < o + n * z := by
  have h := Nat.mul_le_mul_right z (Nat.succ_le_of_lt hi)
  rw [Nat.succ_mul] at h
  omega

theorem RepC.mono {κ κ' : KM} {w w' : World} (m : Mono κ w κ' w') {p : PV} {x : Value} (h : RepC κ w p x) : RepC κ' w' p x := by
  induction h with
  | v x h => exact .v x h
  | nil z a c => exact .nil z a c
  | sl z rows b o c vs hne hlen hf hc hr hcap ih =>
    refine .sl z rows b o c vs hne hlen (m.foot _ _ hf) ?_ ih hcap
    intro i j hi hj
    rw [m.cell b _ _ hf (at_lt hi hj o)]
    exact hc i j hi hj
  | sp id off b h => exact .sp id off b (m.sb _ _ h)
  | fn f caps arr hl h ih => exact .fn f caps arr hl ih

def CellsRep (κ : KM) (w : World) (cs : List PV) (arr : Array Value) : Prop :=
  arr.size = cs.length ∧ ∀ i, i < cs.length → RepC κ w (cs.getD i .un) (arr.getD i undef)

theorem CellsRep.mono {κ κ' : KM} {w w' : World} (m : Mono κ w κ' w') {cs : List PV} {arr : Array Value} (h : CellsRep κ w cs arr) : CellsRep κ' w' cs arr :=
  ⟨h.1, fun i hi => (h.2 i hi).mono m⟩

def z0 : PV → PV
  | .sl _ z r => .sl 0 z r
  | x => x

def FullV (x : Value) : Prop := ∃ a n, x = .slice a n n
def OwnV (κ : KM) (w : World) (t z n : Nat) (x : Value) : Prop :=
  ∃ b o c T arr, x = .slice (some ⟨b, o, Option.none⟩) n c ∧ κ b = .arr t (o + n * z) ∧ w.heap[b]? = some (.cells arr T (0, 0)) ∧ o + c * z ≤ arr.size ∧ n ≤ c

def TokOK (κ : KM) (w : World) (live : Nat → Bool) (tk : Nat) : PV → Value → Prop
  | .sl t z rows, x => t = 0 ∨ (t = 1 ∧ FullV x) ∨ (2 ≤ t ∧ t < tk ∧ (live t = true → FullV x ∨ OwnV κ w t z rows.length x))
  | _, _ => True

def CRep (κ : KM) (w : World) (live : Nat → Bool) (tk : Nat) (p : PV) (x : Value) : Prop := RepC κ w (z0 p) x ∧ TokOK κ w live tk p x

def CellsT (κ : KM) (w : World) (live : Nat → Bool) (tk : Nat) (cs : List PV) (arr : Array Value) : Prop :=
  arr.size = cs.length ∧ ∀ i, i < cs.length → CRep κ w live tk (cs.getD i .un) (arr.getD i undef)

/-- A value that is handed over: no tokens. -/
def ValRep (κ : KM) (w : World) : PV → Value → Prop
  | .ag cs, x => ∃ arr, x = .agg arr ∧ CellsRep κ w cs arr
  | p, x => RepC κ w p x

def TupRep (κ : KM) (w : World) (vs : List PV) (x : Value) : Prop :=
  ∃ arr, x = .tuple arr ∧ arr.size = vs.length ∧ ∀ i, i < vs.length → ValRep κ w (vs.getD i .un) (arr.getD i undef)

def ResRep (κ : KM) (w : World) : PV → Value → Prop
  | .tup vs, x => TupRep κ w vs x
  | p, x => ValRep κ w p x

def EpRep (κ : KM) (w : World) (row : List PV) (off : Nat) (x : Value) : Prop :=
  ∃ (b o : Nat) (vs : Nat → Value), x = .pointer (some ⟨b, o + off, Option.none⟩) ∧ foot κ b (o + row.length) ∧
    ∀ j, j < row.length → w.cell? ⟨b, o + j, Option.none⟩ = some (vs j) ∧ RepC κ w (row.getD j .un) (vs j)

def RegRep (κ : KM) (w : World) (live : Nat → Bool) (tk slot : Nat) : PV → Value → Prop
  | .un, _ => True
  | .ud, x => x = undef
  | .ag cs, x => ∃ arr, x = .agg arr ∧ CellsT κ w live tk cs arr
  | .tup vs, x => TupRep κ w vs x
  | .bx g cs, x => ∃ b T arr, x = .pointer (some ⟨b, 0, Option.none⟩) ∧ κ b = .lb slot g ∧ w.heap[b]? = some (.cells arr T (0, 0)) ∧ CellsT κ w live tk cs arr
  | .lp s g off, x => ∃ b, x = .pointer (some ⟨b, off, Option.none⟩) ∧ κ b = .lb s g
  | .ep row off, x => EpRep κ w row off x
  | p, x => CRep κ w live tk p x

def notBx : PV → Prop
  | .bx _ _ => False
  | _ => True

theorem RegRep.slot {κ : KM} {w : World} {live : Nat → Bool} {tk s : Nat} {p : PV} {x : Value} (hb : notBx p) (h : RegRep κ w live tk s p x) (s' : Nat) :
    RegRep κ w live tk s' p x := by
  cases p <;> first | exact h | exact hb.elim

/-- How tokens and boxes are kept. -/
structure Keep (κ : KM) (w : World) (live : Nat → Bool) (tk : Nat) (κ' : KM) (w' : World) (live' : Nat → Bool) (tk' : Nat) : Prop where
  mono : Mono κ w κ' w'
  lb : ∀ b s g, κ b = .lb s g → κ' b = .lb s g
  arr : ∀ b t h, live' t = true → t < tk → κ b = .arr t h → κ' b = .arr t h ∧ w'.heap[b]? = w.heap[b]?
  live : ∀ t, t < tk → live' t = true → live t = true
  tk : tk ≤ tk'

theorem CRep.keep {κ κ' : KM} {w w' : World} {live live' : Nat → Bool} {tk tk' : Nat} (k : Keep κ w live tk κ' w' live' tk') {p : PV} {x : Value}
    (h : CRep κ w live tk p x) : CRep κ' w' live' tk' p x := by
  refine ⟨h.1.mono k.mono, ?_⟩
  have ht := h.2
  cases p <;> first | trivial | skip
  rename_i t z rows
  rcases ht with h0 | h1 | ⟨h2, h3, h4⟩
  · exact .inl h0
  · exact .inr (.inl h1)
  · refine .inr (.inr ⟨h2, Nat.lt_of_lt_of_le h3 k.tk, fun hl => ?_⟩)
    rcases h4 (k.live t h3 hl) with hf | ⟨b, o, c, T, arr, hx, hk, hh, hs, hc⟩
    · exact .inl hf
    · obtain ⟨hk', hh'⟩ := k.arr b t _ hl h3 hk
      exact .inr ⟨b, o, c, T, arr, hx, hk', hh'.trans hh, hs, hc⟩

theorem CellsT.keep {κ κ' : KM} {w w' : World} {live live' : Nat → Bool} {tk tk' : Nat} (k : Keep κ w live tk κ' w' live' tk') {cs : List PV} {arr : Array Value}
    (h : CellsT κ w live tk cs arr) : CellsT κ' w' live' tk' cs arr := ⟨h.1, fun i hi => (h.2 i hi).keep k⟩

theorem ValRep.mono {κ κ' : KM} {w w' : World} (m : Mono κ w κ' w') {p : PV} {x : Value} (h : ValRep κ w p x) : ValRep κ' w' p x := by
  cases p <;> first
    | exact RepC.mono m h
    | (obtain ⟨arr, hx, hc⟩ := h; exact ⟨arr, hx, hc.mono m⟩)

theorem TupRep.mono {κ κ' : KM} {w w' : World} (m : Mono κ w κ' w') {vs : List PV} {x : Value} (h : TupRep κ w vs x) : TupRep κ' w' vs x := by
  obtain ⟨arr, hx, hs, hv⟩ := h
  exact ⟨arr, hx, hs, fun i hi => (hv i hi).mono m⟩

theorem ResRep.mono {κ κ' : KM} {w w' : World} (m : Mono κ w κ' w') {p : PV} {x : Value} (h : ResRep κ w p x) : ResRep κ' w' p x := by
  cases p with
  | tup vs => exact TupRep.mono m h
  | ag cs => obtain ⟨arr, hx, hc⟩ := h; exact ⟨arr, hx, hc.mono m⟩
  | un => exact RepC.mono m h
  | ud => exact RepC.mono m h
  | v y => exact RepC.mono m h
  | sl t z rows => exact RepC.mono m h
  | sp i o => exact RepC.mono m h
  | fn f c => exact RepC.mono m h
  | bx g c => exact RepC.mono m h
  | lp s g o => exact RepC.mono m h
  | ep r o => exact RepC.mono m h

theorem EpRep.mono {κ κ' : KM} {w w' : World} (m : Mono κ w κ' w') {row : List PV} {off : Nat} {x : Value} (h : EpRep κ w row off x) : EpRep κ' w' row off x := by
  obtain ⟨b, o, vs, hx, hf, hv⟩ := h
  refine ⟨b, o, vs, hx, m.foot _ _ hf, fun j hj => ?_⟩
  obtain ⟨h1, h2⟩ := hv j hj
  exact ⟨(m.cell b _ _ hf (by omega)).trans h1, h2.mono m⟩

theorem RegRep.keep {κ κ' : KM} {w w' : World} {live live' : Nat → Bool} {tk tk' slot : Nat} (k : Keep κ w live tk κ' w' live' tk')
    (hb : ∀ b g, κ b = .lb slot g → w'.heap[b]? = w.heap[b]?) {p : PV} {x : Value} (h : RegRep κ w live tk slot p x) : RegRep κ' w' live' tk' slot p x := by
  cases p with
  | un => trivial
  | ud => exact h
  | ag cs => obtain ⟨arr, hx, hc⟩ := h; exact ⟨arr, hx, hc.keep k⟩
  | tup vs => exact TupRep.mono k.mono h
  | bx g cs =>
    obtain ⟨b, T, arr, hx, hk, hh, hc⟩ := h
    exact ⟨b, T, arr, hx, k.lb _ _ _ hk, (hb b g hk).trans hh, hc.keep k⟩
  | lp s g off => obtain ⟨b, hx, hk⟩ := h; exact ⟨b, hx, k.lb _ _ _ hk⟩
  | ep row off => exact EpRep.mono k.mono h
  | v y => exact CRep.keep k h
  | sl t z rows => exact CRep.keep k h
  | sp i o => exact CRep.keep k h
  | fn f c => exact CRep.keep k h

/-- Shared boxes. -/
structure Mem (κ : KM) (sh : Sh) (w : World) : Prop where
  box : ∀ id cs, getB sh.boxes id = some cs → ∃ b T arr, κ b = .sb id ∧ w.heap[b]? = some (.cells arr T (0, 0)) ∧ CellsRep κ w cs arr
  inj : ∀ b b' id, κ b = .sb id → κ b' = .sb id → b = b'
  lt : ∀ b id, κ b = .sb id → id < sh.nx
  nd : (sh.boxes.map (·.1)).Nodup

def GlobOK (G : Glob) (κ : KM) (w : World) : Prop :=
  ∀ g cs, G g = some cs → κ g = .imm ∧ ∀ j, j < cs.length → ∃ x, w.cell? ⟨g, j, Option.none⟩ = some x ∧ RepC κ w (cs.getD j .un) x

theorem GlobOK.mono {G : Glob} {κ κ' : KM} {w w' : World} (m : Mono κ w κ' w') (hi : ∀ b, κ b = .imm → κ' b = .imm) (h : GlobOK G κ w) : GlobOK G κ' w' := by
  intro g cs hg
  obtain ⟨h1, h2⟩ := h g cs hg
  refine ⟨hi _ h1, fun j hj => ?_⟩
  obtain ⟨x, hx, hr⟩ := h2 j hj
  refine ⟨x, ?_, hr.mono m⟩
  rw [m.cell g j (j + 1) (by simp [foot, h1]) (by omega)]
  exact hx

/-- Kinds at a function's border. -/
def plainK : Kind → Prop
  | .lb _ _ => False
  | .arr _ _ => False
  | _ => True

/-- What no operation here touches. -/
def Env (w w' : World) : Prop := w'.os = w.os ∧ w'.tape = w.tape ∧ w'.output = w.output

theorem Env.trans {w w' w2 : World} (h : Env w w') (h' : Env w' w2) : Env w w2 := ⟨h'.1.trans h.1, h'.2.1.trans h.2.1, h'.2.2.trans h.2.2⟩

/-- A frame: the plain state, the registers, the memory. -/
structure Rel (G : Glob) (L : List Nat) (κ0 : KM) (w0 : World) (κ : KM) (st : St) (a : Act) (w : World) : Prop where
  size : a.tmps.size = st.regs.length
  defers : a.defers = []
  reg : ∀ i, i < st.regs.length → RegRep κ w st.ef.live st.ef.tk i (st.regs.getD i .un) (a.tmps.getD i undef)
  mem : Mem κ st.ef.sh w
  glob : GlobOK G κ w
  lbi : ∀ b b' s g, κ b = .lb s g → κ b' = .lb s g → b = b'
  lbg : ∀ b s g, κ b = .lb s g → L.contains s = true ∧ g ≤ (st.regs.getD s .un).genOf
  tok : ∀ b t h, κ b = .arr t h → 2 ≤ t ∧ t < st.ef.tk
  tki : 2 ≤ st.ef.tk
  new : ∀ b, w.heap.size ≤ b → κ b = .none
  base : w0.heap.size ≤ w.heap.size
  keep : ∀ b, b < w0.heap.size → κ b = κ0 b
  old : ∀ b, b < w0.heap.size → (∀ id, κ0 b ≠ .sb id) → w.heap[b]? = w0.heap[b]?
  pl : ∀ b, plainK (κ0 b)
  lbd : ∀ s, L.contains s = true → s < st.regs.length
  env : Env w0 w

end Go.Pi
