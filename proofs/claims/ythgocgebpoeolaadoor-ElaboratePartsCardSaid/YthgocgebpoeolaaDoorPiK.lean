import Derived.Test.YthgocgebpoeolaaDoorPiG
import Derived.Below
import Derived.Laws.CopyRow
import Derived.Laws.AppendOwn
/- How a frame's relation is carried on: a register is written, a block is made, a box is written. -/
namespace Go.Pi
open Go
open PV (genOf asSrc clrC clrs clr clrAll cellsT cells0)

section
variable {P : Program} {G : Glob} {L : Lst} {κ0 : KM} {w0 : World} {κ κ' : KM} {st : St} {a : Act} {w w' : World} {live : Nat → Bool} {tk : Nat}

theorem getD_set_eq {α : Type} (l : List α) (d : Nat) (x y : α) (h : d < l.length) : (l.set d x).getD d y = x := by
  simp [List.getD_eq_getElem?_getD, h]

theorem getD_set_ne {α : Type} (l : List α) (d i : Nat) (x y : α) (h : d ≠ i) : (l.set d x).getD i y = l.getD i y := by
  simp [List.getD_eq_getElem?_getD, List.getElem?_set_ne h]

theorem setA_eq (l : Array Value) (d : Nat) (x y : Value) (h : d < l.size) : (l.setIfInBounds d x).getD d y = x := by
  simp [h]

theorem setA_ne (l : Array Value) (d i : Nat) (x y : Value) (h : d ≠ i) : (l.setIfInBounds d x).getD i y = l.getD i y := by
  simp only [Array.getD_eq_getD_getElem?]
  rw [Array.getElem?_setIfInBounds_ne h]

theorem Rel.put (hR : Rel G L κ0 w0 κ st a w) {d : Option Nat} {p : PV} {v : Value} (hp : OpRep κ w st.ef.live st.ef.tk p v) (hd : ∀ t, d = some t → L.contains t = false) :
    Rel G L κ0 w0 κ ⟨putD st.regs d p, st.ef⟩ (a.put d v) w := by
  cases d with
  | none => exact hR
  | some t =>
    have hlt := hd t rfl
    refine { hR with size := ?_, reg := ?_, lbg := ?_, lbd := fun s hs => by simpa [putD] using hR.lbd s hs }
    · simpa [putD, Act.put] using hR.size
    · intro i hi
      simp only [putD, Act.put] at hi ⊢
      have hi' : i < st.regs.length := by simpa using hi
      by_cases e : t = i
      · subst e
        rw [getD_set_eq _ _ _ _ hi', setA_eq _ _ _ _ (by rw [hR.size]; exact hi')]
        exact hp.reg t
      · rw [getD_set_ne _ _ _ _ _ e, setA_ne _ _ _ _ _ e]
        exact hR.reg i hi'
    · intro b s g hk
      obtain ⟨h1, h2⟩ := hR.lbg b s g hk
      refine ⟨h1, ?_⟩
      have e : t ≠ s := by intro e; subst e; rw [hlt] at h1; cases h1
      simpa only [putD, getD_set_ne _ _ _ _ _ e] using h2

def updK (κ : KM) (n : Nat) (K : Kind) : KM := fun b => if b = n then K else κ b

theorem updK_ne {κ : KM} {n b : Nat} {K : Kind} (h : b ≠ n) : updK κ n K b = κ b := if_neg h
theorem updK_eq {κ : KM} {n : Nat} {K : Kind} : updK κ n K n = K := if_pos rfl

theorem foot_some {b n : Nat} (h : foot κ b n) : κ b ≠ .none := by
  intro e
  simp [foot, e] at h

theorem heap_alloc_lt (o : Obj) {b : Nat} (h : b < w.heap.size) : (w.alloc o).heap[b]? = w.heap[b]? := by
  show (w.heap.push o)[b]? = w.heap[b]?
  rw [Array.getElem?_push, if_neg (by omega)]

theorem cell_alloc_lt (o : Obj) {b i : Nat} (h : b < w.heap.size) : (w.alloc o).cell? ⟨b, i, none⟩ = w.cell? ⟨b, i, none⟩ := World.cell?_alloc_lt w o (a := ⟨b, i, none⟩) h

theorem keep_alloc (hnew : ∀ b, w.heap.size ≤ b → κ b = .none) (o : Obj) (K : Kind) : Keep κ w live tk (updK κ w.heap.size K) (w.alloc o) live tk := by
  have lt : ∀ b, κ b ≠ .none → b < w.heap.size := fun b h => Nat.lt_of_not_le fun hle => h (hnew b hle)
  refine ⟨⟨fun b n hf => ?_, fun b id hk => ?_, fun b o n hf _ => cell_alloc_lt _ (lt b (foot_some hf))⟩, fun b s g hk => ?_, fun b t h _ _ hk => ?_, fun _ _ h => h, Nat.le_refl _⟩
  · have := lt b (foot_some hf)
    unfold foot at *
    rw [updK_ne (by omega)]
    exact hf
  · rw [updK_ne (by have := lt b (by simp [hk]); omega)]; exact hk
  · rw [updK_ne (by have := lt b (by simp [hk]); omega)]; exact hk
  · have hl := lt b (by simp [hk])
    exact ⟨by rw [updK_ne (by omega)]; exact hk, heap_alloc_lt _ hl⟩

theorem Mem.mono {sh : Sh} (h : Mem κ sh w) (m : Mono κ w κ' w') (hsb : ∀ b id, κ' b = .sb id → κ b = .sb id) (hh : ∀ b id, κ b = .sb id → w'.heap[b]? = w.heap[b]?) : Mem κ' sh w' := by
  refine ⟨fun id cs hg => ?_, fun b b' id h1 h2 => h.inj b b' id (hsb _ _ h1) (hsb _ _ h2), fun b id h1 => h.lt b id (hsb _ _ h1), h.nd⟩
  obtain ⟨b, o, h1, h2, h3⟩ := h.box id cs hg
  exact ⟨b, o, m.sb _ _ h1, (hh b id h1).trans h2, h3.mono m⟩

/-- A new block that is no box of this frame: all stays. -/
theorem Rel.alloc (hR : Rel G L κ0 w0 κ st a w) (o : Obj) (K : Kind) (hK1 : ∀ s g, K ≠ .lb s g) (hK2 : ∀ id, K ≠ .sb id) (hK3 : ∀ t h, K = .arr t h → 2 ≤ t ∧ t < st.ef.tk) :
    Rel G L κ0 w0 (updK κ w.heap.size K) st a (w.alloc o) := by
  have k := keep_alloc (live := st.ef.live) (tk := st.ef.tk) hR.new o K
  have lt : ∀ b, κ b ≠ .none → b < w.heap.size := fun b h => Nat.lt_of_not_le fun hle => h (hR.new b hle)
  have back : ∀ b, b ≠ w.heap.size → updK κ w.heap.size K b = κ b := fun b h => updK_ne h
  refine ⟨hR.size, hR.defers, fun i hi => ?_, ?_, hR.glob.mono k.mono ?_, ?_, ?_, ?_, hR.tki, ?_, ?_, ?_, ?_, hR.pl, hR.lbd, hR.env.trans ⟨rfl, rfl, rfl⟩⟩
  · exact (hR.reg i hi).keep k fun b g hk => heap_alloc_lt _ (lt b (by simp [hk]))
  · refine hR.mem.mono k.mono (fun b id hk => ?_) fun b id hk => heap_alloc_lt _ (lt b (by simp [hk]))
    by_cases e : b = w.heap.size
    · subst e; rw [updK_eq] at hk; exact absurd hk (hK2 id)
    · rw [back b e] at hk; exact hk
  · intro b hb; rw [back b (by have := lt b (by simp [hb]); omega)]; exact hb
  · intro b b' s g h1 h2
    by_cases e : b = w.heap.size
    · subst e; rw [updK_eq] at h1; exact absurd h1 (hK1 s g)
    · by_cases e' : b' = w.heap.size
      · subst e'; rw [updK_eq] at h2; exact absurd h2 (hK1 s g)
      · rw [back _ e] at h1; rw [back _ e'] at h2; exact hR.lbi b b' s g h1 h2
  · intro b s g h1
    by_cases e : b = w.heap.size
    · subst e; rw [updK_eq] at h1; exact absurd h1 (hK1 s g)
    · rw [back _ e] at h1; exact hR.lbg b s g h1
  · intro b t h h1
    by_cases e : b = w.heap.size
    · subst e; rw [updK_eq] at h1; exact hK3 t h h1
    · rw [back _ e] at h1; exact hR.tok b t h h1
  · intro b hb
    rw [World.size_alloc] at hb
    rw [back b (by omega)]
    exact hR.new b (by omega)
  · rw [World.size_alloc]; have := hR.base; omega
  · intro b hb
    have := hR.base
    rw [back b (by omega)]
    exact hR.keep b hb
  · intro b hb hs
    have := hR.base
    rw [heap_alloc_lt o (by omega)]
    exact hR.old b hb hs

/-- A new block that is a slot's own. -/
theorem Rel.newLb (hR : Rel G L κ0 w0 κ st a w) {d g0 : Nat} (hd : L.contains d = true) (hg0 : (st.regs.getD d .un).genOf = g0) {arr : Array Value} (T : TypeId) {p : PV} {v : Value} (hp : p.genOf = g0 + 1)
    (hrep : RegRep (updK κ w.heap.size (.lb d (g0 + 1))) (w.alloc (.cells arr T)) st.ef.live st.ef.tk d p v) :
    Rel G L κ0 w0 (updK κ w.heap.size (.lb d (g0 + 1))) ⟨putD st.regs (some d) p, st.ef⟩ (a.put (some d) v) (w.alloc (.cells arr T)) := by
  have hl := hR.lbd d hd
  have k := keep_alloc (live := st.ef.live) (tk := st.ef.tk) hR.new (.cells arr T) (.lb d (g0 + 1))
  have lt : ∀ b, κ b ≠ .none → b < w.heap.size := fun b h => Nat.lt_of_not_le fun hle => h (hR.new b hle)
  have back : ∀ b, b ≠ w.heap.size → updK κ w.heap.size (.lb d (g0 + 1)) b = κ b := fun b h => updK_ne h
  have fresh : ∀ b g, κ b = .lb d g → g ≤ g0 := fun b g h => hg0 ▸ (hR.lbg b d g h).2
  refine ⟨?_, hR.defers, fun i hi => ?_, ?_, hR.glob.mono k.mono ?_, ?_, ?_, ?_, hR.tki, ?_, ?_, ?_, ?_, hR.pl, fun s hs => by simpa [putD] using hR.lbd s hs, hR.env.trans ⟨rfl, rfl, rfl⟩⟩
  · simpa [putD, Act.put] using hR.size
  · simp only [putD, Act.put] at hi ⊢
    have hi' : i < st.regs.length := by simpa using hi
    by_cases e : d = i
    · subst e
      rw [getD_set_eq _ _ _ _ hi', setA_eq _ _ _ _ (by rw [hR.size]; exact hi')]
      exact hrep
    · rw [getD_set_ne _ _ _ _ _ e, setA_ne _ _ _ _ _ e]
      exact (hR.reg i hi').keep k fun b g hk => heap_alloc_lt _ (lt b (by simp [hk]))
  · refine hR.mem.mono k.mono (fun b id hk => ?_) fun b id hk => heap_alloc_lt _ (lt b (by simp [hk]))
    by_cases e : b = w.heap.size
    · subst e; rw [updK_eq] at hk; cases hk
    · rw [back b e] at hk; exact hk
  · intro b hb; rw [back b (by have := lt b (by simp [hb]); omega)]; exact hb
  · intro b b' s g h1 h2
    by_cases e : b = w.heap.size
    · by_cases e' : b' = w.heap.size
      · omega
      · subst e; rw [updK_eq] at h1; rw [back _ e'] at h2; cases h1
        have := fresh b' _ h2; omega
    · by_cases e' : b' = w.heap.size
      · subst e'; rw [updK_eq] at h2; rw [back _ e] at h1; cases h2
        have := fresh b _ h1; omega
      · rw [back _ e] at h1; rw [back _ e'] at h2; exact hR.lbi b b' s g h1 h2
  · intro b s g h1
    simp only [putD]
    by_cases e : b = w.heap.size
    · subst e; rw [updK_eq] at h1; cases h1
      refine ⟨hd, ?_⟩
      rw [getD_set_eq _ _ _ _ hl, hp]; exact Nat.le_refl _
    · rw [back _ e] at h1
      obtain ⟨h2, h3⟩ := hR.lbg b s g h1
      refine ⟨h2, ?_⟩
      by_cases es : d = s
      · subst es
        rw [getD_set_eq _ _ _ _ hl, hp]; have := fresh b g h1; omega
      · rw [getD_set_ne _ _ _ _ _ es]; exact h3
  · intro b t h h1
    by_cases e : b = w.heap.size
    · subst e; rw [updK_eq] at h1; cases h1
    · rw [back _ e] at h1; exact hR.tok b t h h1
  · intro b hb
    rw [World.size_alloc] at hb
    rw [back b (by omega)]
    exact hR.new b (by omega)
  · rw [World.size_alloc]; have := hR.base; omega
  · intro b hb
    have := hR.base
    rw [back b (by omega)]
    exact hR.keep b hb
  · intro b hb hs
    have := hR.base
    rw [heap_alloc_lt _ (by omega)]
    exact hR.old b hb hs

/-- A new box of this frame. -/
theorem Rel.newBox (hR : Rel G L κ0 w0 κ st a w) {d : Nat} (hd : L.contains d = true) {cs : List PV} {arr : Array Value} (T : TypeId) (hc : CellsT κ w st.ef.live st.ef.tk cs arr) :
    Rel G L κ0 w0 (updK κ w.heap.size (.lb d ((st.regs.getD d .un).genOf + 1))) ⟨putD st.regs (some d) (.bx ((st.regs.getD d .un).genOf + 1) cs), st.ef⟩
      (a.put (some d) (.pointer (some ⟨w.heap.size, 0, none⟩))) (w.alloc (.cells arr T)) := by
  have k := keep_alloc (live := st.ef.live) (tk := st.ef.tk) hR.new (.cells arr T) (.lb d ((st.regs.getD d .un).genOf + 1))
  refine hR.newLb hd rfl T rfl ⟨w.heap.size, T, arr, rfl, updK_eq, ?_, hc.keep k⟩
  show (w.heap.push _)[w.heap.size]? = _
  simp

/-- New rows of this frame's own. -/
theorem Rel.newArr (hR : Rel G L κ0 w0 κ st a w) {d : Nat} (hd : L.contains d = true) {z c : Nat} {rows : List (List PV)} {arr : Array Value} (T : TypeId) (hc : RowsRep κ w z c rows arr) :
    Rel G L κ0 w0 (updK κ w.heap.size (.lb d ((st.regs.getD d .un).genOf + 1))) ⟨putD st.regs (some d) (.bs ((st.regs.getD d .un).genOf + 1) z rows), st.ef⟩
      (a.put (some d) (.slice (some ⟨w.heap.size, 0, none⟩) rows.length c)) (w.alloc (.cells arr T)) := by
  have k := keep_alloc (live := st.ef.live) (tk := st.ef.tk) hR.new (.cells arr T) (.lb d ((st.regs.getD d .un).genOf + 1))
  refine hR.newLb hd rfl T rfl ⟨w.heap.size, c, T, arr, rfl, updK_eq, ?_, hc.mono k.mono⟩
  show (w.heap.push _)[w.heap.size]? = _
  simp

end
end Go.Pi

/- A box of a frame is written; a box is read; a new row. -/
namespace Go.Pi
open Go
open PV (genOf asSrc clrC clrs clr clrAll cellsT cells0)

section
variable {P : Program} {G : Glob} {L : Lst} {κ0 : KM} {w0 : World} {κ κ' : KM} {st : St} {a a' : Act} {w w' : World} {live : Nat → Bool} {tk : Nat}

theorem spl_get {α : Type} (cs vs : List α) (off i : Nat) (d : α) (h : off + vs.length ≤ cs.length) :
    (cs.take off ++ vs ++ cs.drop (off + vs.length)).getD i d = if off ≤ i ∧ i < off + vs.length then vs.getD (i - off) d else cs.getD i d := by
  simp only [List.getD_eq_getElem?_getD, List.append_assoc]
  by_cases h1 : i < off
  · rw [if_neg (by omega), List.getElem?_append_left (by simp; omega)]
    simp [h1]
  · by_cases h2 : i < off + vs.length
    · rw [if_pos (by omega), List.getElem?_append_right (by simp; omega), List.getElem?_append_left (by simp; omega)]
      simp only [List.length_take]
      rw [Nat.min_eq_left (by omega)]
    · rw [if_neg (by omega), List.getElem?_append_right (by simp; omega), List.getElem?_append_right (by simp; omega)]
      simp only [List.length_take, List.getElem?_drop]
      rw [Nat.min_eq_left (by omega)]
      congr 2
      omega

theorem toArray_getD (l : List Value) (i : Nat) : l.toArray.getD i undef = l.getD i undef := by
  simp [List.getD_eq_getElem?_getD]

theorem toList_getD (l : Array Value) (i : Nat) : l.toList.getD i undef = l.getD i undef := by
  simp [List.getD_eq_getElem?_getD]

theorem CellsT.row {cs vs : List PV} {arr xs : Array Value} {off : Nat} (h : CellsT κ w live tk cs arr) (hv : CellsT κ w live tk vs xs) (hle : off + vs.length ≤ cs.length) :
    CellsT κ w live tk (Pi.splice cs off vs) (arr.toList.take off ++ xs.toList ++ arr.toList.drop (off + xs.toList.length)).toArray := by
  have h1 := h.1
  have h2 := hv.1
  refine ⟨?_, fun i hi => ?_⟩
  · rw [splice_len _ _ _ hle]; simp; omega
  · rw [splice_len _ _ _ hle] at hi
    rw [toArray_getD, spl_get _ _ _ _ _ (by simp; omega), splice_get _ _ _ _ hle]
    by_cases hc : off ≤ i ∧ i < off + vs.length
    · rw [if_pos hc, if_pos (by simp; omega), toList_getD]
      exact hv.2 (i - off) (by omega)
    · rw [if_neg hc, if_neg (by simp; omega), toList_getD]
      exact h.2 i hi

theorem CellsRep.row {cs vs : List PV} {arr xs : Array Value} {off : Nat} (h : CellsRep κ w cs arr) (hv : CellsRep κ w vs xs) (hle : off + vs.length ≤ cs.length) :
    CellsRep κ w (Pi.splice cs off vs) (arr.toList.take off ++ xs.toList ++ arr.toList.drop (off + xs.toList.length)).toArray := by
  have h1 := h.1
  have h2 := hv.1
  refine ⟨?_, fun i hi => ?_⟩
  · rw [splice_len _ _ _ hle]; simp; omega
  · rw [splice_len _ _ _ hle] at hi
    rw [toArray_getD, spl_get _ _ _ _ _ (by simp; omega), splice_get _ _ _ _ hle]
    by_cases hc : off ≤ i ∧ i < off + vs.length
    · rw [if_pos hc, if_pos (by simp; omega), toList_getD]
      exact hv.2 (i - off) (by omega)
    · rw [if_neg hc, if_neg (by simp; omega), toList_getD]
      exact h.2 i hi

theorem CellsT.one {cs : List PV} {arr : Array Value} (h : CellsT κ w live tk cs arr) : ∀ v ∈ arr.toList, v.oneCell' = true := by
  intro v hv
  obtain ⟨i, hi, e⟩ := List.getElem_of_mem hv
  have hi' : i < arr.size := by simpa using hi
  have := (h.2 i (by rw [← h.1]; exact hi')).oneCell
  have e2 : arr.getD i undef = v := by rw [← e]; simp [hi']
  rwa [e2] at this

theorem Rel.upd (hR : Rel G L κ0 w0 κ st a w) {ef' : Eff} {regs' : List PV} (k : Keep κ w st.ef.live st.ef.tk κ' w' ef'.live ef'.tk) (henv : Env w w') (hsz : w.heap.size ≤ w'.heap.size)
    (hregs : regs'.length = st.regs.length) (ha : a'.tmps.size = a.tmps.size) (hdef : a'.defers = [])
    (hreg : ∀ i, i < st.regs.length → RegRep κ' w' ef'.live ef'.tk i (regs'.getD i .un) (a'.tmps.getD i undef))
    (hgen : ∀ s, L.contains s = true → (st.regs.getD s .un).genOf ≤ (regs'.getD s .un).genOf)
    (hmem : Mem κ' ef'.sh w') (himm : ∀ b, κ b = .imm → κ' b = .imm) (hlb : ∀ b s g, κ' b = .lb s g → κ b = .lb s g)
    (htok : ∀ b t h, κ' b = .arr t h → 2 ≤ t ∧ t < ef'.tk) (htk : 2 ≤ ef'.tk) (hnew : ∀ b, w'.heap.size ≤ b → κ' b = .none)
    (hkeep : ∀ b, b < w0.heap.size → κ' b = κ b) (hold : ∀ b, b < w0.heap.size → (∀ id, κ0 b ≠ .sb id) → w'.heap[b]? = w.heap[b]?) :
    Rel G L κ0 w0 κ' ⟨regs', ef'⟩ a' w' :=
  { size := by rw [ha, hR.size]; exact hregs.symm
    defers := hdef
    reg := fun i hi => hreg i (by rw [← hregs]; exact hi)
    mem := hmem
    glob := hR.glob.mono k.mono himm
    lbi := fun b b' s g h1 h2 => hR.lbi b b' s g (hlb _ _ _ h1) (hlb _ _ _ h2)
    lbg := fun b s g h1 => ⟨(hR.lbg b s g (hlb _ _ _ h1)).1, Nat.le_trans (hR.lbg b s g (hlb _ _ _ h1)).2 (hgen s (hR.lbg b s g (hlb _ _ _ h1)).1)⟩
    tok := htok
    tki := htk
    new := hnew
    base := Nat.le_trans hR.base hsz
    keep := fun b hb => (hkeep b hb).trans (hR.keep b hb)
    old := fun b hb hs => (hold b hb hs).trans (hR.old b hb hs)
    pl := hR.pl
    lbd := fun s hs => by show s < regs'.length; rw [hregs]; exact hR.lbd s hs
    env := hR.env.trans henv }

theorem CellsRep.one {cs : List PV} {arr : Array Value} (h : CellsRep κ w cs arr) : ∀ v ∈ arr.toList, v.oneCell' = true :=
  CellsT.one (live := fun _ => false) (tk := 0) h.tok

theorem RowsRep.len {z c q : Nat} {rows : List (List PV)} {arr : Array Value} (h : RowsRep κ w z c rows arr) (hq : q < rows.length) : (rows.getD q []).length = z := by
  apply h.1
  simp [List.getD_eq_getElem?_getD, hq]

theorem RowsRep.fits {z c off n : Nat} {rows : List (List PV)} {arr : Array Value} (h : RowsRep κ w z c rows arr) (hq : off / z < rows.length) (hk : off % z + n ≤ z) : off + n ≤ arr.size := by
  have h3 := h.2.2.1
  have e : off / z * z + off % z = off := by rw [Nat.mul_comm]; exact Nat.div_add_mod off z
  have := Nat.mul_le_mul_right z (Nat.succ_le_of_lt hq)
  rw [Nat.succ_mul] at this
  omega

theorem RowsRep.row {z c q : Nat} {rows : List (List PV)} {arr : Array Value} (h : RowsRep κ w z c rows arr) (hq : q < rows.length) : CellsRep κ w (rows.getD q []) (arr.extract (q * z) (q * z + z)) := by
  have hl := h.len hq
  have h3 := h.2.2.1
  have := Nat.mul_le_mul_right z (Nat.succ_le_of_lt hq)
  rw [Nat.succ_mul] at this
  refine ⟨by rw [hl]; simp; omega, fun j hj => ?_⟩
  rw [hl] at hj
  have e : (arr.extract (q * z) (q * z + z)).getD j undef = arr.getD (q * z + j) undef := by
    simp only [Array.getD_eq_getD_getElem?, Array.getElem?_extract]
    rw [if_pos (by omega)]
  rw [e]
  exact h.2.2.2 q j hq hj

theorem RowsRep.set {z c off : Nat} {rows : List (List PV)} {arr xs : Array Value} {ws : List PV} (h : RowsRep κ w z c rows arr) (hv : CellsRep κ w ws xs) (hq : off / z < rows.length) (hk : off % z + ws.length ≤ z) :
    RowsRep κ w z c (rows.set (off / z) (Pi.splice (rows.getD (off / z) []) (off % z) ws)) (arr.toList.take off ++ xs.toList ++ arr.toList.drop (off + xs.toList.length)).toArray := by
  have hl := h.len hq
  have hfit := h.fits hq hk
  have hx := hv.1
  have e : off / z * z + off % z = off := by rw [Nat.mul_comm]; exact Nat.div_add_mod off z
  have hsl : (Pi.splice (rows.getD (off / z) []) (off % z) ws).length = z := by rw [splice_len _ _ _ (by omega), hl]
  refine ⟨fun r hr => ?_, by rw [List.length_set]; exact h.2.1, by rw [List.length_set]; have := h.2.2.1; simp; omega, fun i j hi hj => ?_⟩
  · rcases List.mem_or_eq_of_mem_set hr with hr | hr
    · exact h.1 r hr
    · rw [hr]; exact hsl
  · rw [List.length_set] at hi
    rw [toArray_getD, spl_get _ _ _ _ _ (by simp; omega)]
    by_cases ei : off / z = i
    · subst ei
      rw [getD_set_eq _ _ _ _ hi, splice_get _ _ _ _ (by omega)]
      by_cases hc : off % z ≤ j ∧ j < off % z + ws.length
      · rw [if_pos hc, if_pos (by simp; omega), toList_getD]
        have := hv.2 (j - off % z) (by omega)
        have e2 : off / z * z + j - off = j - off % z := by omega
        rw [e2]
        exact this
      · rw [if_neg hc, if_neg (by simp; omega), toList_getD]
        exact h.2.2.2 _ j hi hj
    · rw [getD_set_ne _ _ _ _ _ ei, if_neg, toList_getD]
      · exact h.2.2.2 i j hi hj
      · simp
        intro h1
        rcases Nat.lt_or_ge i (off / z) with h2 | h2
        · have := Nat.mul_le_mul_right z (Nat.succ_le_of_lt h2)
          rw [Nat.succ_mul] at this
          omega
        · have h4 : off / z < i := by omega
          have := Nat.mul_le_mul_right z (Nat.succ_le_of_lt h4)
          rw [Nat.succ_mul] at this
          omega

/-- A store into a box of this frame. -/
theorem Rel.stL (hR : Rel G L κ0 w0 κ st a w) {T : TypeId} {i : TypeInfo} (hi : P.info? T = some i) {p x old : PV} {va vx : Value} {slot : Nat}
    (hL : L.contains slot = true) (hp : OpRep κ w st.ef.live st.ef.tk p va) (hx : OpRep κ w st.ef.live st.ef.tk x vx) (h : evalW p x (st.regs.getD slot .un) slot i.size = some old) :
    ∃ w', (Instr.storeAt T va vx).run P w = .ok () w' ∧ Rel G L κ0 w0 κ ⟨st.regs.set slot old, st.ef⟩ a w' := by
  have hl := hR.lbd slot hL
  unfold evalW at h
  split at h
  case h_3 => cases h
  case h_2 s g off g' z rows vs hbox hcells =>
    split at h
    case h_2 => cases h
    rename_i ws hws
    split at h
    case isFalse => cases h
    rename_i hc
    obtain ⟨rfl, rfl, hvl, hq, hle⟩ := hc
    cases h
    have hrg := hR.reg s hl
    rw [hbox] at hrg
    obtain ⟨b, cap, T', arr, hb1, hb2, hb3, hb4⟩ := hrg
    obtain ⟨_, b', hva, hk'⟩ := hp
    have : b' = b := hR.lbi _ _ _ _ hk' hb2
    subst this
    have hxs := (cellsT_rep hx hcells).clr hws
    have hnot : ∀ c n, foot κ c n → c ≠ b' := by
      intro c n hf e
      subst e
      simp [foot, hb2] at hf
    have hother : ∀ c, c ≠ b' → (w.setRow b' (arr.toList.take off ++ vx.cells.toList ++ arr.toList.drop (off + vx.cells.toList.length)).toArray).heap[c]? = w.heap[c]? :=
      fun c hc => setRow_other w b' c _ hc
    have hsz : vx.cells.size = i.size := by rw [hxs.1, hvl]
    have hfit := hb4.fits hq hle
    have hrun := run_storeCells_at P b' off T' vx.cells.toList 0 arr w hb3 (by simp; omega) hxs.one
    have k : Keep κ w st.ef.live st.ef.tk κ (w.setRow b' (arr.toList.take off ++ vx.cells.toList ++ arr.toList.drop (off + vx.cells.toList.length)).toArray) st.ef.live st.ef.tk := by
      refine ⟨⟨fun _ _ h => h, fun _ _ h => h, fun c o n hf _ => World.cell?_of_block (hother c (hnot c n hf))⟩, fun _ _ _ h => h, fun c t h _ _ hk => ⟨hk, hother c (fun e => ?_)⟩, fun _ _ h => h, Nat.le_refl _⟩
      subst e
      rw [hb2] at hk
      cases hk
    refine ⟨_, ?_, hR.upd k ⟨rfl, rfl, rfl⟩ ?_ ?_ rfl hR.defers ?_ ?_ ?_ (fun _ h => h) (fun _ _ _ h => h) hR.tok hR.tki ?_ (fun _ _ => rfl) ?_⟩
    · rw [hva]
      have hci : P.cellsOf T = i.size := by simp [Program.cellsOf, hi]
      simp only [Nat.add_zero] at hrun
      simp [Instr.storeAt, Instr.sureAddr, storeVar, run_sizeOf w hi, hci, hsz, hrun]
    · simp
    · simp
    · intro j hj
      by_cases e : s = j
      · subst e
        rw [getD_set_eq _ _ _ _ hj]
        refine ⟨b', cap, T', _, ?_, hb2, setRow_heap w b' arr _ T' _ hb3, (hb4.set hxs hq (by omega)).mono k.mono⟩
        rw [hb1, List.length_set]
      · rw [getD_set_ne _ _ _ _ _ e]
        refine (hR.reg j hj).keep k fun c g' hk => hother c fun ec => ?_
        subst ec
        rw [hb2] at hk
        cases hk
        exact e rfl
    · intro q hq
      by_cases e : s = q
      · subst e
        rw [getD_set_eq _ _ _ _ hl, hbox]
        exact Nat.le_refl _
      · rw [getD_set_ne _ _ _ _ _ e]
        exact Nat.le_refl _
    · refine hR.mem.mono k.mono (fun _ _ h => h) fun c id hk => hother c fun ec => ?_
      subst ec
      rw [hb2] at hk
      cases hk
    · intro c hc
      rw [size_setRow] at hc
      exact hR.new c hc
    · intro c hc _
      refine hother c fun ec => ?_
      subst ec
      have := hR.keep c hc
      rw [hb2] at this
      have hp := hR.pl c
      rw [← this] at hp
      exact hp
  rename_i s g off g' cs vs hbox hcells
  split at h
  · rename_i hc
    obtain ⟨rfl, rfl, hvl, hle⟩ := hc
    cases h
    have hrg := hR.reg s hl
    rw [hbox] at hrg
    obtain ⟨b, T', arr, hb1, hb2, hb3, hb4⟩ := hrg
    obtain ⟨_, b', hva, hk'⟩ := hp
    have : b' = b := hR.lbi _ _ _ _ hk' hb2
    subst this
    have hxs := cellsT_rep hx hcells
    have hnot : ∀ c n, foot κ c n → c ≠ b' := by
      intro c n hf e
      subst e
      simp [foot, hb2] at hf
    have hother : ∀ c, c ≠ b' → (w.setRow b' (arr.toList.take off ++ vx.cells.toList ++ arr.toList.drop (off + vx.cells.toList.length)).toArray).heap[c]? = w.heap[c]? :=
      fun c hc => setRow_other w b' c _ hc
    have hsz : vx.cells.size = i.size := by rw [hxs.1, hvl]
    have hrun := run_storeCells_at P b' off T' vx.cells.toList 0 arr w hb3 (by have := hb4.1; simp; omega) hxs.one
    have k : Keep κ w st.ef.live st.ef.tk κ (w.setRow b' (arr.toList.take off ++ vx.cells.toList ++ arr.toList.drop (off + vx.cells.toList.length)).toArray) st.ef.live st.ef.tk := by
      refine ⟨⟨fun _ _ h => h, fun _ _ h => h, fun c o n hf _ => World.cell?_of_block (hother c (hnot c n hf))⟩, fun _ _ _ h => h, fun c t h _ _ hk => ⟨hk, hother c (fun e => ?_)⟩, fun _ _ h => h, Nat.le_refl _⟩
      subst e
      rw [hb2] at hk
      cases hk
    refine ⟨_, ?_, hR.upd k ⟨rfl, rfl, rfl⟩ ?_ ?_ rfl hR.defers ?_ ?_ ?_ (fun _ h => h) (fun _ _ _ h => h) hR.tok hR.tki ?_ (fun _ _ => rfl) ?_⟩
    · rw [hva]
      have hci : P.cellsOf T = i.size := by simp [Program.cellsOf, hi]
      simp only [Nat.add_zero] at hrun
      simp [Instr.storeAt, Instr.sureAddr, storeVar, run_sizeOf w hi, hci, hsz, hrun]
    · simp
    · simp
    · intro j hj
      by_cases e : s = j
      · subst e
        rw [getD_set_eq _ _ _ _ hj]
        exact ⟨b', T', _, hb1, hb2, setRow_heap w b' arr _ T' _ hb3, (hb4.row hxs (by omega)).keep k⟩
      · rw [getD_set_ne _ _ _ _ _ e]
        refine (hR.reg j hj).keep k fun c g' hk => hother c fun ec => ?_
        subst ec
        rw [hb2] at hk
        cases hk
        exact e rfl
    · intro q hq
      by_cases e : s = q
      · subst e
        rw [getD_set_eq _ _ _ _ hl, hbox]
        exact Nat.le_refl _
      · rw [getD_set_ne _ _ _ _ _ e]
        exact Nat.le_refl _
    · refine hR.mem.mono k.mono (fun _ _ h => h) fun c id hk => hother c fun ec => ?_
      subst ec
      rw [hb2] at hk
      cases hk
    · intro c hc
      rw [size_setRow] at hc
      exact hR.new c hc
    · intro c hc _
      refine hother c fun ec => ?_
      subst ec
      have := hR.keep c hc
      rw [hb2] at this
      have hp := hR.pl c
      rw [← this] at hp
      exact hp
  · cases h

/-- A load from a box of this frame. -/
theorem ldL_runs (hR : Rel G L κ0 w0 κ st a w) {T : TypeId} {i : TypeInfo} (hi : P.info? T = some i) (hd : (P.underlying T).isSome = true) {p q : PV} {va : Value} {slot : Nat}
    (hp : OpRep κ w st.ef.live st.ef.tk p va) (h : evalL p (st.regs.getD slot .un) slot (if aggT P T then i.size else 1) (aggT P T) = some q) :
    ∃ v, (Instr.loadAt T va).run P w = .ok v w ∧ OpRep κ w st.ef.live st.ef.tk q v := by
  obtain ⟨d, hd⟩ := Option.isSome_iff_exists.1 hd
  unfold evalL at h
  split at h
  case h_3 => cases h
  case h_2 s g off g' z rows hbox =>
    split at h
    case isFalse => cases h
    rename_i hc
    obtain ⟨rfl, rfl, hq⟩ := hc
    have hl : s < st.regs.length := by
      rcases Nat.lt_or_ge s st.regs.length with h' | h'
      · exact h'
      · rw [List.getD_eq_getElem?_getD, List.getElem?_eq_none h'] at hbox; cases hbox
    have hrg := hR.reg s hl
    rw [hbox] at hrg
    obtain ⟨b, cap, T', arr, hb1, hb2, hb3, hb4⟩ := hrg
    obtain ⟨_, b', hva, hk'⟩ := hp
    have : b' = b := hR.lbi _ _ _ _ hk' hb2
    subst this
    have hrow := hb4.row hq
    obtain ⟨h0, h1, h2⟩ := cut_rep (hrow.tok (live := st.ef.live) (tk := st.ef.tk)) h
    have hrl : (rows.getD (off / z) []).length = z := hb4.len hq
    have hoff : off / z * z + off % z = off := by rw [Nat.mul_comm]; exact Nat.div_add_mod off z
    have hrs := hrow.1
    have hfit := hb4.fits hq (n := if aggT P T then i.size else 1) (by omega)
    have hrun := run_loadVar_known (P := P) (w := w) T hi hd b' off (fun j => arr.getD (off + j) undef) (fun j hj => by
      have hlt : off + j < arr.size := by omega
      simp [World.cell?, hb3, hlt])
    refine ⟨if aggT P T then .agg ((List.range i.size).map fun j => arr.getD (off + j) undef).toArray else arr.getD (off + 0) undef, ?_, ?_⟩
    · rw [hva]
      simpa [Instr.loadAt, Instr.sureAddr] using hrun
    · cases hg : aggT P T with
      | true =>
        simp only [hg, if_true] at h0 h1 hfit ⊢
        have e : (arr.extract (off / z * z) (off / z * z + z)).extract (off % z) (off % z + i.size) = ((List.range i.size).map fun j => arr.getD (off + j) undef).toArray := by
          apply Array.ext
          · simp; omega
          · intro j hj hj'
            have : off + j < arr.size := by simp at hj; omega
            simp [this]
            congr 1
            omega
        rw [← e]
        exact h1 trivial
      | false =>
        simp only [hg, Bool.false_eq_true, if_false] at h2 hfit h0 ⊢
        have e : (arr.extract (off / z * z) (off / z * z + z)).getD (off % z) undef = arr.getD (off + 0) undef := by
          simp only [Array.getD_eq_getD_getElem?, Array.getElem?_extract]
          rw [if_pos (by omega), hoff, Nat.add_zero]
        rw [← e]
        exact (h2 trivial).2
  rename_i s g off g' cs hbox
  split at h
  · rename_i hc
    obtain ⟨rfl, rfl⟩ := hc
    have hl : s < st.regs.length := by
      rcases Nat.lt_or_ge s st.regs.length with h' | h'
      · exact h'
      · rw [List.getD_eq_getElem?_getD, List.getElem?_eq_none h'] at hbox; cases hbox
    have hrg := hR.reg s hl
    rw [hbox] at hrg
    obtain ⟨b, T', arr, hb1, hb2, hb3, hb4⟩ := hrg
    obtain ⟨_, b', hva, hk'⟩ := hp
    have : b' = b := hR.lbi _ _ _ _ hk' hb2
    subst this
    obtain ⟨h0, h1, h2⟩ := cut_rep hb4 h
    have hs := hb4.1
    have hrun := run_loadVar_known (P := P) (w := w) T hi hd b' off (fun j => arr.getD (off + j) undef) (fun j hj => by
      have hlt : off + j < arr.size := by omega
      simp [World.cell?, hb3, hlt])
    refine ⟨if aggT P T then .agg ((List.range i.size).map fun j => arr.getD (off + j) undef).toArray else arr.getD (off + 0) undef, ?_, ?_⟩
    · rw [hva]
      simpa [Instr.loadAt, Instr.sureAddr] using hrun
    · cases hg : aggT P T with
      | true =>
        simp only [hg, if_true] at h0 h1 ⊢
        have e : arr.extract off (off + i.size) = ((List.range i.size).map fun j => arr.getD (off + j) undef).toArray := by
          apply Array.ext
          · simp; omega
          · intro j hj hj'
            have : off + j < arr.size := by simp at hj; omega
            simp [this]
        rw [← e]
        exact h1 trivial
      | false =>
        simp only [hg, Bool.false_eq_true, if_false] at h2 ⊢
        exact (h2 trivial).2
  · cases h

end
end Go.Pi

/- New rows, and append. -/
namespace Go.Pi
open Go
open PV (genOf asSrc clrC clrs clr clrAll cellsT cells0)

section
variable {P : Program} {G : Glob} {L : Lst} {κ0 : KM} {w0 : World} {κ κ' : KM} {st : St} {a a' : Act} {w w' : World} {live : Nat → Bool} {tk : Nat}

/-- Rows that lie one behind the other. -/
def Flat (κ : KM) (w : World) (z : Nat) (rows : List (List PV)) (arr : Array Value) : Prop :=
  rows.length * z ≤ arr.size ∧ (∀ r ∈ rows, r.length = z) ∧ ∀ i j, i < rows.length → j < z → RepC κ w ((rows.getD i []).getD j .un) (arr.getD (i * z + j) undef)

theorem Flat.mono (m : Mono κ w κ' w') {z : Nat} {rows : List (List PV)} {arr : Array Value} (h : Flat κ w z rows arr) : Flat κ' w' z rows arr :=
  ⟨h.1, h.2.1, fun i j hi hj => (h.2.2 i j hi hj).mono m⟩

theorem row_apart {z i i' j : Nat} (hj : j < z) (hne : i' ≠ i) : ¬ (i * z ≤ i' * z + j ∧ i' * z + j < i * z + z) := by
  intro ⟨h1, h2⟩
  rcases Nat.lt_or_ge i' i with h | h
  · have := Nat.mul_le_mul_right z (Nat.succ_le_of_lt h)
    rw [Nat.succ_mul] at this
    omega
  · have := Nat.mul_le_mul_right z (Nat.succ_le_of_lt (show i < i' by omega))
    rw [Nat.succ_mul] at this
    omega

theorem Flat.set {z : Nat} {rows : List (List PV)} {arr xs : Array Value} {i : Nat} {cs : List PV} (h : Flat κ w z rows arr) (hi : i < rows.length) (hc : CellsRep κ w cs xs) (hl : cs.length = z) :
    Flat κ w z (rows.set i cs) (xs.zipIdx.foldl (fun cs (x : Value × Nat) => cs.setIfInBounds (i * z + x.2) x.1) arr) := by
  have hx : xs.zipIdx.foldl (fun cs (x : Value × Nat) => cs.setIfInBounds (i * z + x.2) x.1) arr = (xs.toList.zipIdx 0).foldl (fun cs (x : Value × Nat) => cs.setIfInBounds (i * z + x.2) x.1) arr := by
    rw [← Array.foldl_toList, Array.toList_zipIdx]
  rw [hx]
  have hxs : xs.size = z := by rw [hc.1, hl]
  have hfit : i * z + z ≤ arr.size := by
    have := Nat.mul_le_mul_right z (Nat.succ_le_of_lt hi)
    rw [Nat.succ_mul] at this
    have := h.1
    omega
  obtain ⟨h1, h2⟩ := foldl_set xs.toList 0 (i * z) arr (by simp; omega)
  refine ⟨by rw [h1]; simpa using h.1, fun r hr => ?_, fun i' j hi' hj => ?_⟩
  · rcases List.mem_or_eq_of_mem_set hr with h' | h'
    · exact h.2.1 r h'
    · rw [h', hl]
  · rw [h2]
    have hi'' : i' < rows.length := by simpa using hi'
    by_cases e : i = i'
    · subst e
      rw [if_pos (by simp; omega), getD_set_eq _ _ _ _ hi]
      have := hc.2 j (by omega)
      have e2 : i * z + j - i * z - 0 = j := by omega
      rw [e2, toList_getD]
      exact this
    · have := row_apart (i := i) (i' := i') hj (fun h => e h.symm)
      rw [if_neg (by simp; omega), getD_set_ne _ _ _ _ _ e]
      exact h.2.2 i' j hi'' hj

theorem fillS_runs {z : Nat} : ∀ (is : List Nat) (qs : List (Nat × Value)) (xs : List PV) (rows rows' : List (List PV)) (arr : Array Value),
    is.length = qs.length → (∀ j, j < is.length → (qs.getD j (0, undef)).1 = is.getD j 0) →
    (∀ j, j < xs.length → OpRep κ w live tk (xs.getD j .un) (qs.getD j (0, undef)).2) → Flat κ w z rows arr → fillS z rows is xs = some rows' →
    ∃ arr', Instr.fill (fun i => some (i * z, z)) arr qs = some arr' ∧ Flat κ w z rows' arr' ∧ arr'.size = arr.size ∧ rows'.length = rows.length
  | [], [], xs, rows, rows', arr, _, _, _, hz, hf => by
    cases xs with
    | nil => simp [fillS] at hf; subst hf; exact ⟨arr, rfl, hz, rfl, rfl⟩
    | cons x xs => simp [fillS] at hf
  | [], _ :: _, _, _, _, _, hl, _, _, _, _ => by simp at hl
  | _ :: _, [], _, _, _, _, hl, _, _, _, _ => by simp at hl
  | i :: is, q :: qs, xs, rows, rows', arr, hl, hp, hx, hz, hf => by
    cases xs with
    | nil => simp [fillS] at hf
    | cons x xs =>
      simp only [fillS] at hf
      split at hf
      · rename_i cs hcs
        split at hf
        · rename_i hc
          have hq : OpRep κ w live tk x q.2 := by simpa using hx 0 (by simp)
          have hcr := cells0_rep hq hcs
          have hpl : q.1 = i := by simpa using hp 0 (by simp)
          have hs := Flat.set hz hc.2 hcr hc.1
          obtain ⟨arr', h1, h2, h3, h4⟩ := fillS_runs is qs xs _ rows' _ (by simpa using hl) (fun j hj => by simpa using hp (j + 1) (by simpa using hj))
            (fun j hj => by simpa using hx (j + 1) (by simpa using hj)) hs hf
          obtain ⟨qi, qv⟩ := q
          simp only at hpl
          subst hpl
          have hsz := hcr.1
          simp only at hsz
          have hfit : qi * z + z ≤ arr.size := by
            have := Nat.mul_le_mul_right z (Nat.succ_le_of_lt hc.2)
            rw [Nat.succ_mul] at this
            have := hz.1
            omega
          refine ⟨arr', ?_, h2, ?_, by rw [h4]; simp⟩
          · simp only [Instr.fill]
            rw [if_neg (by simp; omega)]
            exact h1
          · rw [h3]
            have hx : qv.cells.zipIdx.foldl (fun cs (x : Value × Nat) => cs.setIfInBounds (qi * z + x.2) x.1) arr = (qv.cells.toList.zipIdx 0).foldl (fun cs (x : Value × Nat) => cs.setIfInBounds (qi * z + x.2) x.1) arr := by
              rw [← Array.foldl_toList, Array.toList_zipIdx]
            rw [hx]
            exact (foldl_set qv.cells.toList 0 (qi * z) arr (by simp; omega)).1
        · cases hf
      · cases hf

/-- A row in a block of its own. -/
theorem newRow_rep (hnew : ∀ b, w.heap.size ≤ b → κ b = .none) {z c : Nat} {rows : List (List PV)} {arr : Array Value} (T : TypeId) (K : Kind) (h : Flat κ w z rows arr) (hc : rows.length ≤ c)
    (hK : foot (updK κ w.heap.size K) w.heap.size (rows.length * z)) :
    RepC (updK κ w.heap.size K) (w.alloc (.cells arr T)) (.sl 0 z rows) (.slice (some ⟨w.heap.size, 0, none⟩) rows.length c) := by
  have k := keep_alloc (live := fun _ => false) (tk := 0) hnew (.cells arr T) K
  by_cases he : rows = []
  · subst he; exact .nil _ _ _
  · refine .sl z rows _ _ _ (fun i j => arr.getD (i * z + j) undef) he h.2.1 (by simpa using hK) (fun i j hi hj => ?_) (fun i j hi hj => (h.2.2 i j hi hj).mono k.mono) hc
    have hlt : i * z + j < arr.size := by
      have := Nat.mul_le_mul_right z (Nat.succ_le_of_lt hi)
      rw [Nat.succ_mul] at this
      have := h.1
      omega
    have hh : (w.alloc (.cells arr T)).heap[w.heap.size]? = some (.cells arr T (0, 0)) := by
      show (w.heap.push _)[w.heap.size]? = _
      simp
    simp only [World.cell?, hh]
    simp [hlt]

theorem foot_imm {n h : Nat} : foot (updK κ n .imm) n h := by simp [foot, updK]

/-- A slice's literal. -/
theorem Rel.bslice (hR : Rel G L κ0 w0 κ st a w) {S : Operand → PV} {ρ : Operand → Value} (hS : ∀ x, OpRep κ w st.ef.live st.ef.tk (S x) (ρ x)) {T E : TypeId} {len : Nat} {ps : Array (Nat × Operand)}
    {z1 z : List PV} (hT : P.underlying T = some (.slice E)) (hz1 : zeroC P E = some z1) (hz : clrs z1 = some z) (hl : z.length = P.cellsOf E) (hmax : len * P.cellsOf E ≤ 2 ^ 24) (hpos : 0 < P.cellsOf E)
    {old p : PV} (h : evalP (.bslice z len (P.cellsOf E) (ps.toList.map (·.1))) old (ps.toList.map fun q => S q.2) = some p) {d : Option Nat} (hd : ∀ t, d = some t → L.contains t = false) :
    ∃ v w' κ', (Instr.buildSlice T len (ps.map fun (i, x) => (i, ρ x))).run P w = .ok v w' ∧ Rel G L κ0 w0 κ' ⟨putD st.regs d p, st.ef⟩ (a.put d v) w' := by
  obtain ⟨i, v, hi, hv, hc⟩ := zeroC_inv hz1
  have hzr : CellsRep κ w z v.cells := (ofCells_rep (live := st.ef.live) (tk := st.ef.tk) hc).clr hz
  simp only [evalP] at h
  split at h
  · rename_i rows hrows
    cases h
    have hcz : P.cellsOf E = i.size := by simp [Program.cellsOf, hi]
    generalize hzz : P.cellsOf E = n at *
    have hflat : Flat κ w n (List.replicate len z) ((Array.range (len * n)).map (v.cells[· % v.cells.size]!)) := by
      refine ⟨by simp, fun r hr => by rw [List.eq_of_mem_replicate hr, hl], fun i' j hi' hj => ?_⟩
      have hi'' : i' < len := by simpa using hi'
      have e1 : (List.replicate len z).getD i' [] = z := by simp [List.getD_eq_getElem?_getD, hi'']
      have hlt : i' * n + j < len * n := by have := at_lt hi'' hj 0; omega
      have hvs : v.cells.size = n := by rw [hzr.1, hl]
      have e2 : ((Array.range (len * n)).map (v.cells[· % v.cells.size]!)).getD (i' * n + j) undef = v.cells.getD j undef := by
        have hm : (i' * n + j) % n = j := by rw [Nat.mul_comm, Nat.mul_add_mod]; exact Nat.mod_eq_of_lt hj
        have hj' : j < v.cells.size := by omega
        simp [hlt, hvs, hm]
        rw [show v.cells[j]! = v.cells[j] from getElem!_pos v.cells j hj', Array.getElem?_eq_getElem hj']
        rfl
      rw [e1, e2]
      exact hzr.2 j (by omega)
    obtain ⟨arr, h1, h2, h3, h4⟩ := fillS_runs (live := st.ef.live) (tk := st.ef.tk) (ps.toList.map (·.1)) (ps.toList.map fun x => (x.1, ρ x.2)) _ _ rows _ (by simp)
      (fun j hj => by
        have hj' : j < ps.toList.length := by simpa using hj
        rw [getD_map' _ _ j (0, undef) (0, .func 0) hj', getD_map' _ _ j 0 (0, .func 0) hj'])
      (fun j hj => by
        have hj' : j < ps.toList.length := by simpa using hj
        rw [getD_map' _ _ j (0, undef) (0, .func 0) hj', getD_map' (fun q => S q.2) _ j PV.un (0, .func 0) hj']
        exact hS _) hflat hrows
    have hlen : rows.length = len := by rw [h4]; simp
    refine ⟨.slice (some ⟨w.heap.size, 0, none⟩) len len, w.alloc (.cells arr E), updK κ w.heap.size .imm, ?_, ?_⟩
    · have hq : (ps.map fun (x : Nat × Operand) => match x with | (i, x) => (i, ρ x)).toList = ps.toList.map fun x => (x.1, ρ x.2) := by simp
      simp only [Instr.buildSlice, Sem.run_bind, run_underlying hT, Result.andThen_ok, run_sizeOf w hi, hzz]
      rw [if_neg (by omega)]
      by_cases h0 : len * n = 0
      · have hl0 : len = 0 := by
          rcases Nat.mul_eq_zero.1 h0 with h | h
          · exact h
          · omega
        subst hl0
        simp only [Nat.zero_mul, if_true, Sem.run_pure, Result.andThen_ok, Sem.run_bind] at h1 ⊢
        have e : (Array.map (fun x => (#[] : Array Value)[x % (#[] : Array Value).size]!) (Array.range 0)) = Array.map (fun x => v.cells[x % v.cells.size]!) (Array.range 0) := by simp
        simp only [hq]
        rw [e, h1]
        simp [newRow]
      · rw [if_neg h0]
        simp only [Sem.run_bind, run_zeroValue' hi hv, Result.andThen_ok, Sem.run_pure, hq]
        rw [h1]
        simp [newRow]
    · have hR' := hR.alloc (.cells arr E) .imm (by simp) (by simp) (by simp)
      have hrep := newRow_rep (T := E) hR.new .imm h2 (show rows.length ≤ len by omega) foot_imm
      rw [hlen] at hrep
      exact hR'.put ⟨trivial, .inl ⟨hrep, .inr (.inl ⟨rfl, _, _, rfl⟩)⟩⟩ hd
  · cases h

end
end Go.Pi

/- append. -/
namespace Go.Pi
open Go
open PV (genOf asSrc clrC clrs clr clrAll cellsT cells0)

section
variable {P : Program} {G : Glob} {L : Lst} {κ0 : KM} {w0 : World} {κ κ' : KM} {st : St} {a a' : Act} {w w' : World} {live : Nat → Bool} {tk : Nat}

theorem cell_heap {w w2 : World} (h : w2.heap = w.heap) (ad : Addr) : w2.cell? ad = w.cell? ad := by simp [World.cell?, h]

theorem flat_of_rep {z c : Nat} {rows : List (List PV)} {ad : Option Addr} (h : RepC κ w (.sl 0 z rows) (.slice ad rows.length c)) :
    ∃ arr : Array Value, arr.size = rows.length * z ∧ Flat κ w z rows arr ∧ (∀ v ∈ arr.toList, v.oneCell' = true) ∧
      ∀ w2 : World, w2.heap = w.heap → (Builtin.firstCells z rows.length (.slice ad rows.length c)).run P w2 = .ok arr w2 := by
  generalize hx : Value.slice ad rows.length c = x at h
  cases h with
  | nil _ a' c' =>
    refine ⟨#[], by simp, ⟨by simp, by simp, by simp⟩, by simp, fun w2 _ => ?_⟩
    cases hx
    cases ad with
    | none => simp [Builtin.firstCells]
    | some b => simp [Builtin.firstCells, loadCells, loadCellsFrom]
  | sl _ _ b o c' vs h1 h2 h3 h4 h5 h6 =>
    cases hx
    have hdiv : ∀ q, q < rows.length * z → q / z < rows.length ∧ q % z < z ∧ q / z * z + q % z = q := by
      intro q hq
      have hz : 0 < z := by
        rcases Nat.eq_zero_or_pos z with e | e
        · subst e; simp at hq
        · exact e
      exact ⟨Nat.div_lt_of_lt_mul (by rw [Nat.mul_comm]; exact hq), Nat.mod_lt _ hz, by rw [Nat.mul_comm]; exact Nat.div_add_mod q z⟩
    have hval : ∀ i j, i < rows.length → j < z → (((List.range (rows.length * z)).map fun q => vs (q / z) (q % z)).toArray).getD (i * z + j) undef = vs i j := by
      intro i j hi hj
      have hlt : i * z + j < rows.length * z := by have := at_lt hi hj 0; omega
      have hz : 0 < z := by omega
      have e1 : (i * z + j) / z = i := by
        rw [Nat.mul_comm, Nat.mul_add_div hz, Nat.div_eq_of_lt hj, Nat.add_zero]
      have e2 : (i * z + j) % z = j := by rw [Nat.mul_comm, Nat.mul_add_mod]; exact Nat.mod_eq_of_lt hj
      simp [hlt, e1, e2]
    refine ⟨((List.range (rows.length * z)).map fun q => vs (q / z) (q % z)).toArray, by simp, ⟨by simp, h2, fun i j hi hj => ?_⟩, fun v hv => ?_, fun w2 hw2 => ?_⟩
    · rw [hval i j hi hj]
      exact h5 i j hi hj
    · simp only [List.mem_map, List.mem_range] at hv
      obtain ⟨q, hq, e⟩ := hv
      obtain ⟨g1, g2, _⟩ := hdiv q hq
      rw [← e]
      exact (h5 _ _ g1 g2).oneCell
    · simp only [Builtin.firstCells]
      refine run_loadCells w2 ⟨b, o, none⟩ _ (fun q => vs (q / z) (q % z)) fun q hq => ?_
      obtain ⟨g1, g2, g3⟩ := hdiv q hq
      rw [addr_add, cell_heap hw2]
      have := h4 _ _ g1 g2
      rw [Nat.add_assoc, g3] at this
      exact this

theorem Flat.append {z : Nat} {rows rows' : List (List PV)} {arr arr' rest : Array Value} (h : Flat κ w z rows arr) (h' : Flat κ w z rows' arr') (hs : arr.size = rows.length * z) :
    Flat κ w z (rows ++ rows') (arr ++ arr' ++ rest) := by
  have h1 := h'.1
  refine ⟨by simp [Nat.add_mul]; omega, fun r hr => ?_, fun i j hi hj => ?_⟩
  · rcases List.mem_append.1 hr with hr | hr
    · exact h.2.1 r hr
    · exact h'.2.1 r hr
  · by_cases hlt : i < rows.length
    · have hq : i * z + j < arr.size := by rw [hs]; have := at_lt hlt hj 0; omega
      have e1 : (rows ++ rows').getD i [] = rows.getD i [] := by
        simp only [List.getD_eq_getElem?_getD]
        rw [List.getElem?_append_left hlt]
      have e2 : (arr ++ arr' ++ rest).getD (i * z + j) undef = arr.getD (i * z + j) undef := by
        simp only [Array.getD_eq_getD_getElem?, Array.append_assoc]
        rw [Array.getElem?_append_left hq]
      rw [e1, e2]
      exact h.2.2 i j hlt hj
    · have hi' : i - rows.length < rows'.length := by simp at hi; omega
      have hq : (i - rows.length) * z + j < arr'.size := by have := at_lt hi' hj 0; omega
      have e1 : (rows ++ rows').getD i [] = rows'.getD (i - rows.length) [] := by
        simp only [List.getD_eq_getElem?_getD]
        rw [List.getElem?_append_right (by omega)]
      have hi2 : i * z + j = arr.size + ((i - rows.length) * z + j) := by
        rw [hs, ← Nat.add_assoc, ← Nat.add_mul]
        congr 2
        omega
      have e2 : (arr ++ arr' ++ rest).getD (i * z + j) undef = arr'.getD ((i - rows.length) * z + j) undef := by
        simp only [Array.getD_eq_getD_getElem?, Array.append_assoc]
        rw [hi2, Array.getElem?_append_right (by omega), Array.getElem?_append_left (by omega)]
        congr 2
        omega
      rw [e1, e2]
      exact h'.2.2 _ j hi' hj

/-- append, where there is no room. -/
theorem append_grows {T T' E : TypeId} {i : TypeInfo} {zv : Value} (hT : P.underlying T = some (.slice E)) (hT' : ∃ E', P.underlying T' = some (.slice E')) (hi : P.info? E = some i) (hz : i.zero = some zv)
    {ad ad' : Option Addr} {n c m c' : Nat} {olds news : Array Value} (ty : TypeId)
    (ho : ∀ w2 : World, w2.heap = w.heap → (Builtin.firstCells i.size n (.slice ad n c)).run P w2 = .ok olds w2)
    (hn : ∀ w2 : World, w2.heap = w.heap → (Builtin.firstCells i.size m (.slice ad' m c')).run P w2 = .ok news w2)
    (hg : c < n + m) (hmax : n + m ≤ appMax) (hb : i.bytes ≤ 4096) :
    ∃ (cap : Nat) (w2 : World), n + m ≤ cap ∧ w2.heap = w.heap ∧ Env w w2 ∧ (Builtin.append_ #[T, T'] ty #[.slice ad n c, .slice ad' m c']).run P w =
      .ok (.slice (some ⟨w.heap.size, 0, none⟩) (n + m) cap) (w2.alloc (.cells (olds ++ news ++ Builtin.zeroCells zv.cells (cap - (n + m))) E)) := by
  obtain ⟨E', hT'⟩ := hT'
  have h1 : ¬ (n + m ≤ c) := by omega
  have h63 : ¬ (9223372036854775807 < ((n : Int) + (m : Int))) := by unfold appMax at hmax; omega
  have hbound : (n + m) * i.bytes ≤ 140737488355328 := by
    have := Nat.mul_le_mul hmax hb
    unfold appMax at this
    omega
  have h48 : ¬ (281474976710656 < Builtin.nextslicecap (n + m) c * i.bytes) := by
    have := growslice_fits hg hbound
    omega
  have ho' := ho w.drew rfl
  have hn' := hn w.drew rfl
  refine ⟨grownCap w (n + m) c E, w.drew, grownCap_ge w _ _ _, rfl, ⟨rfl, rfl, rfl⟩, ?_⟩
  simp [Builtin.append_, run_underlying hT, run_underlying hT', sizeOf, typeInfo, zeroValue, hi, hz, Builtin.lenOf, h1, h63, h48, Question.forced, ho', hn', newRow, grownCap]

/-- append, where there is room. -/
theorem append_room {T T' E : TypeId} {i : TypeInfo} (hT : P.underlying T = some (.slice E)) (hT' : ∃ E', P.underlying T' = some (.slice E')) (hi : P.info? E = some i)
    {ad ad' : Option Addr} {n c m c' : Nat} {news : Array Value} (ty : TypeId)
    (hn : (Builtin.firstCells i.size m (.slice ad' m c')).run P w = .ok news w) (hg : n + m ≤ c) :
    (Builtin.append_ #[T, T'] ty #[.slice ad n c, .slice ad' m c']).run P w =
      ((match ad with | some a => storeCells (a.add (n * i.size)) news.toList | none => pure () : Sem Unit).run P w).andThen fun _ w' => .ok (.slice ad (n + m) c) w' := by
  obtain ⟨E', hT'⟩ := hT'
  have h1 : n + m ≤ c := hg
  cases ad <;> simp [Builtin.append_, run_underlying hT, run_underlying hT', sizeOf, typeInfo, hi, Builtin.lenOf, h1, hn]


theorem keep_ext {live' : Nat → Bool} {tk' : Nat} (hκ : ∀ b, κ b ≠ .none → κ' b = κ b) (hh : ∀ b, κ b ≠ .none → w'.heap[b]? = w.heap[b]?)
    (hl : ∀ t, t < tk → live' t = true → live t = true) (htk : tk ≤ tk') : Keep κ w live tk κ' w' live' tk' := by
  refine ⟨⟨fun b n hf => ?_, fun b id hk => ?_, fun b o n hf _ => World.cell?_of_block (hh b (foot_some hf))⟩, fun b s g hk => ?_, fun b t h _ _ hk => ?_, hl, htk⟩
  · have := hκ b (foot_some hf)
    unfold foot at *
    rw [this]
    exact hf
  · rw [hκ b (by simp [hk])]; exact hk
  · rw [hκ b (by simp [hk])]; exact hk
  · exact ⟨by rw [hκ b (by simp [hk])]; exact hk, hh b (by simp [hk])⟩

/-- What is kept of a frame when nothing that stood is written. -/
theorem Rel.ext (hR : Rel G L κ0 w0 κ st a w) {ef' : Eff} (henv : Env w w') (hκ : ∀ b, κ b ≠ .none → κ' b = κ b) (hh : ∀ b, b < w.heap.size → w'.heap[b]? = w.heap[b]?) (hsz : w.heap.size ≤ w'.heap.size)
    (hl : ∀ t, t < st.ef.tk → ef'.live t = true → st.ef.live t = true) (htk : st.ef.tk ≤ ef'.tk) (hsh : ef'.sh = st.ef.sh)
    (hb : ∀ b, κ' b ≠ .none → κ b = .none → (∀ s g, κ' b ≠ .lb s g) ∧ (∀ id, κ' b ≠ .sb id) ∧ (∀ t h, κ' b = .arr t h → 2 ≤ t ∧ t < ef'.tk) ∧ w.heap.size ≤ b ∧ b < w'.heap.size) :
    Rel G L κ0 w0 κ' ⟨st.regs, ef'⟩ a w' := by
  have lt : ∀ b, κ b ≠ .none → b < w.heap.size := fun b h => Nat.lt_of_not_le fun hle => h (hR.new b hle)
  have k : Keep κ w st.ef.live st.ef.tk κ' w' ef'.live ef'.tk := keep_ext hκ (fun b h => hh b (lt b h)) hl htk
  have back : ∀ b K, κ' b = K → K ≠ .none → (κ b = K ∧ b < w.heap.size) ∨ (κ b = .none) := by
    intro b K h1 h2
    by_cases e : κ b = .none
    · exact .inr e
    · left; exact ⟨by rw [← hκ b e]; exact h1, lt b e⟩
  refine hR.upd k henv hsz rfl rfl hR.defers (fun i hi => (hR.reg i hi).keep k fun b g hk => hh b (lt b (by simp [hk]))) (fun _ _ => Nat.le_refl _) ?_ (fun b h => by rw [hκ b (by simp [h])]; exact h) ?_ ?_ (Nat.le_trans hR.tki htk) ?_ ?_ ?_
  · rw [hsh]
    refine hR.mem.mono k.mono (fun b id h => ?_) fun b id hk => hh b (lt b (by simp [hk]))
    rcases back b _ h (by simp) with h' | h'
    · exact h'.1
    · exact absurd h ((hb b (by simp [h]) h').2.1 id)
  · intro b s g h
    rcases back b _ h (by simp) with h' | h'
    · exact h'.1
    · exact absurd h ((hb b (by simp [h]) h').1 s g)
  · intro b t h h1
    rcases back b _ h1 (by simp) with h' | h'
    · have := hR.tok b t h h'.1; omega
    · exact (hb b (by simp [h1]) h').2.2.1 t h h1
  · intro b hbb
    by_cases e : κ' b = .none
    · exact e
    · by_cases e' : κ b = .none
      · have := (hb b e e').2.2.2.2; omega
      · have := lt b e'; omega
  · intro b hbb
    have := hR.base
    by_cases e : κ b = .none
    · by_cases e' : κ' b = .none
      · rw [e, e']
      · have := (hb b e' e).2.2.2.1; omega
    · exact hκ b e
  · intro b hbb _
    have := hR.base
    exact hh b (by omega)

theorem rep_sz {z sz c : Nat} {rows : List (List PV)} {ad : Option Addr} {x : Value} (h : RepC κ w (.sl 0 z rows) x) (hx : x = .slice ad rows.length c) (hz : z = sz ∨ rows = []) :
    RepC κ w (.sl 0 sz rows) (.slice ad rows.length c) := by
  rw [← hx]
  by_cases e : z = sz
  · rw [← e]; exact h
  · have e2 : rows = [] := by
      rcases hz with h | h
      · exact absurd h e
      · exact h
    subst e2
    rw [hx]
    exact .nil _ _ _

theorem rep_cap {z c : Nat} {rows : List (List PV)} {ad : Option Addr} (h : RepC κ w (.sl 0 z rows) (.slice ad rows.length c)) : rows.length ≤ c := by
  generalize hx : Value.slice ad rows.length c = x at h
  cases h with
  | nil => simp
  | sl _ _ _ _ _ _ _ _ _ _ _ h6 => cases hx; exact h6

theorem Rel.app (hR : Rel G L κ0 w0 κ st a w) {S : Operand → PV} {ρ : Operand → Value} (hS : ∀ x, OpRep κ w st.ef.live st.ef.tk (S x) (ρ x)) {x y : Operand} {T T' E : TypeId} {i : TypeInfo}
    (hT : P.underlying T = some (.slice E)) (hT' : ∃ E', P.underlying T' = some (.slice E')) (hi : P.info? E = some i) {zc : List PV} (hzc : zeroC P E = some zc) (hzl : zc.length = i.size)
    (hb : i.bytes ≤ 4096) (ty : TypeId) {call : CallF} {p : PV} {ef' : Eff} (h : evalE call (.app i.size) [S x, S y] st.ef = some (p, ef'))
    {d : Option Nat} (hd : ∀ t, d = some t → L.contains t = false) :
    ∃ v w' κ', (Builtin.append_ #[T, T'] ty #[ρ x, ρ y]).run P w = .ok v w' ∧ Rel G L κ0 w0 κ' ⟨putD st.regs d p, ef'⟩ (a.put d v) w' := by
  obtain ⟨i2, zv, hi2, hzv, hzr⟩ := zeroC_inv hzc
  rw [hi] at hi2
  cases hi2
  have hzs : zv.cells.size = i.size := by
    have := (ofCells_rep (κ := κ) (w := w) (live := st.ef.live) (tk := st.ef.tk) hzr).1
    omega
  have hx := hS x
  have hy := hS y
  generalize S x = px at *
  generalize S y = py at *
  generalize ρ x = vx at *
  generalize ρ y = vy at *
  cases px with
  | sl t z rows =>
    cases py with
    | sl t' z' rows' =>
      simp only [evalE] at h
      split at h
      · rename_i hc
        simp only [Option.some.injEq, Prod.mk.injEq] at h
        obtain ⟨rfl, rfl⟩ := h
        simp only [appOk, Bool.and_eq_true, Bool.or_eq_true, decide_eq_true_eq, List.isEmpty_iff] at hc
        obtain ⟨⟨hc1, hc2⟩, hmax⟩ := hc
        obtain ⟨hrx, ad, c, hxv⟩ := hx.sl_inv
        obtain ⟨hry, ad', c', hyv⟩ := hy.sl_inv
        have htok : (t = 1 ∧ FullV vx) ∨ (2 ≤ t ∧ st.ef.live t = true ∧ z = i.size ∧ (FullV vx ∨ OwnV κ w t z rows.length vx)) := by
          obtain ⟨_, ht⟩ := CRep.old hx.2 (by simp)
          by_cases e : t = 1
          · subst e
            rcases ht with h | h | h
            · omega
            · exact .inl h
            · omega
          · rw [if_neg e] at hc1
            simp only [Bool.and_eq_true, decide_eq_true_eq] at hc1
            rcases ht with h | h | h
            · omega
            · exact absurd h.1 e
            · exact .inr ⟨hc1.1.1, hc1.1.2, hc1.2, h.2.2 hc1.1.2⟩
        have hz : z = i.size ∨ rows = [] := by
          rcases htok with h | h
          · rw [if_pos h.1] at hc1; simpa using hc1
          · exact .inl h.2.2.1
        have hr1 := rep_sz hrx hxv hz
        have hr2 := rep_sz hry hyv hc2
        obtain ⟨olds, ho1, ho2, ho3, ho4⟩ := flat_of_rep (P := P) hr1
        obtain ⟨news, hn1, hn2, hn3, hn4⟩ := flat_of_rep (P := P) hr2
        have hlive : ∀ s, s < st.ef.tk → (if s = st.ef.tk then true else if s = t then false else st.ef.live s) = true → st.ef.live s = true := by
          intro s hs h
          rw [if_neg (by omega)] at h
          split at h
          · cases h
          · exact h
        rw [hxv, hyv]
        by_cases hg : c < rows.length + rows'.length
        · obtain ⟨cap, w2, g1, g2, genv, g3⟩ := append_grows hT hT' hi hzv (n := rows.length) (m := rows'.length) ty ho4 hn4 hg hmax hb
          have hsz2 : w2.heap.size = w.heap.size := by rw [g2]
          have hflat := Flat.append (rest := Builtin.zeroCells zv.cells (cap - (rows.length + rows'.length))) ho2 hn2 ho1
          have hRx : Rel G L κ0 w0 (updK κ w.heap.size (.arr st.ef.tk ((rows.length + rows'.length) * i.size)))
              ⟨st.regs, { st.ef with tk := st.ef.tk + 1, live := fun x => if x = st.ef.tk then true else if x = t then false else st.ef.live x }⟩ a
              (w2.alloc (.cells (olds ++ news ++ Builtin.zeroCells zv.cells (cap - (rows.length + rows'.length))) E)) := by
            refine hR.ext ⟨genv.1, genv.2.1, genv.2.2⟩ (fun b hb => ?_) (fun b hb => ?_) ?_ hlive (by simp) rfl (fun b hb1 hb2 => ?_)
            · exact updK_ne (fun e => hb (by rw [e]; exact hR.new _ (Nat.le_refl _)))
            · rw [heap_alloc_lt _ (by omega), g2]
            · simp; omega
            · by_cases e : b = w.heap.size
              · subst e
                rw [updK_eq]
                refine ⟨by simp, by simp, fun t h hh => ?_, Nat.le_refl _, by simp; omega⟩
                cases hh
                have := hR.tki
                simp only
                omega
              · rw [updK_ne e] at hb1; exact absurd hb2 hb1
          refine ⟨_, _, _, g3, hRx.put ⟨trivial, .inl ⟨?_, ?_⟩⟩ hd⟩
          · have hnew2 : ∀ b, w2.heap.size ≤ b → κ b = .none := by rw [hsz2]; exact hR.new
            have m2 : Mono κ w κ w2 := ⟨fun _ _ h => h, fun _ _ h => h, fun b o n _ _ => cell_heap g2 _⟩
            have := newRow_rep (T := E) hnew2 (.arr st.ef.tk ((rows.length + rows'.length) * i.size)) (hflat.mono m2) (c := cap) (by simpa using g1) (by
              rw [List.length_append]; simp [foot, updK_eq])
            rw [hsz2, List.length_append] at this
            exact this
          · refine .inr (.inr ⟨hR.tki, by simp, fun _ => .inr ⟨w.heap.size, 0, cap, E, olds ++ news ++ Builtin.zeroCells zv.cells (cap - (rows.length + rows'.length)), ?_, ?_, ?_, ?_, ?_⟩⟩)
            · rw [List.length_append]
            · rw [updK_eq]; simp
            · show (w2.heap.push _)[w.heap.size]? = _
              rw [← hsz2]; simp
            · simp only [Array.size_append, ho1, hn1, size_zeroCells, hzs]
              rw [Nat.sub_mul, Nat.add_mul]
              have := Nat.mul_le_mul_right i.size g1
              rw [Nat.add_mul] at this
              omega
            · rw [List.length_append]; exact g1
        · have hroom : rows.length + rows'.length ≤ c := by omega
          have hrun := append_room (P := P) hT hT' hi (ad := ad) (n := rows.length) ty (hn4 w rfl) hroom
          have full : FullV vx → ∃ v w' κ', (Builtin.append_ #[T, T'] ty #[.slice ad rows.length c, .slice ad' rows'.length c']).run P w = .ok v w' ∧
              Rel G L κ0 w0 κ' ⟨putD st.regs d (.sl st.ef.tk i.size (rows ++ rows')), { st.ef with tk := st.ef.tk + 1, live := fun x => if x = st.ef.tk then true else if x = t then false else st.ef.live x }⟩ (a.put d v) w' := by
            intro ⟨a1, n1, hf⟩
            rw [hxv] at hf
            have hnc : rows.length = c := by cases hf; rfl
            have hm : rows' = [] := by
              have : rows'.length = 0 := by omega
              exact List.eq_nil_of_length_eq_zero this
            subst hm
            have hnews : news.toList = [] := by
              have : news.toList.length = 0 := by simpa using hn1
              exact List.eq_nil_of_length_eq_zero this
            have hRx := hR.ext (κ' := κ) (w' := w) (ef' := { st.ef with tk := st.ef.tk + 1, live := fun x => if x = st.ef.tk then true else if x = t then false else st.ef.live x }) ⟨rfl, rfl, rfl⟩ (fun _ _ => rfl) (fun _ _ => rfl) (Nat.le_refl _) hlive (by simp) rfl (fun b h1 h2 => absurd h2 h1)
            refine ⟨.slice ad (rows.length + 0) c, w, κ, ?_, hRx.put ⟨trivial, .inl ⟨?_, ?_⟩⟩ hd⟩
            · rw [List.length_nil] at hrun ⊢
              rw [hrun, hnews]
              cases ad <;> simp [storeCells]
            · rw [List.append_nil]; exact hr1
            · exact .inr (.inr ⟨hR.tki, by simp, fun _ => .inl ⟨ad, rows.length, by rw [← hnc]; rfl⟩⟩)
          rcases htok with ⟨_, hf⟩ | ⟨ht2, htl, hzz, hf | hown⟩
          · exact full hf
          · exact full hf
          · obtain ⟨b, o, c2, T0, arr, hv, hk, hh, hsz, _⟩ := hown
            rw [hxv] at hv
            cases hv
            subst hzz
            have hbw : ¬ b < w0.heap.size := by
              intro hlt
              have h1 := hR.keep b hlt
              have h2 := hR.pl b
              rw [← h1, hk] at h2
              exact h2
            have hfit : o + rows.length * i.size + rows'.length * i.size ≤ arr.size := by
              have := Nat.mul_le_mul_right i.size hroom
              rw [Nat.add_mul] at this
              omega
            have hst := run_storeCells_at P b (o + rows.length * i.size) T0 news.toList 0 arr w hh (by simp; omega) hn3
            simp only [Nat.add_zero] at hst
            generalize hA : (arr.toList.take (o + rows.length * i.size) ++ news.toList ++ arr.toList.drop (o + rows.length * i.size + news.toList.length)).toArray = arr2 at hst
            have hget : ∀ q, arr2.getD q undef = if o + rows.length * i.size ≤ q ∧ q < o + rows.length * i.size + rows'.length * i.size then news.getD (q - (o + rows.length * i.size)) undef else arr.getD q undef := by
              intro q
              rw [← hA, toArray_getD, spl_get _ _ _ _ _ (by simp; omega), toList_getD, toList_getD]
              simp [hn1]
            have hsz2 : arr2.size = arr.size := by rw [← hA]; simp; omega
            have hh2 := setRow_heap w b arr arr2 T0 _ hh
            have hother : ∀ q, q ≠ b → (w.setRow b arr2).heap[q]? = w.heap[q]? := fun q hq => setRow_other w b q _ hq
            have hcell : ∀ q, q < arr.size → (w.setRow b arr2).cell? ⟨b, q, none⟩ = some (arr2.getD q undef) := by
              intro q hq
              have : q < arr2.size := by omega
              simp only [World.cell?, hh2]
              simp [this]
            have hcell0 : ∀ q, q < arr.size → w.cell? ⟨b, q, none⟩ = some (arr.getD q undef) := by
              intro q hq
              simp only [World.cell?, hh]
              simp [hq]
            have k : Keep κ w st.ef.live st.ef.tk (updK κ b (.arr st.ef.tk (o + (rows.length + rows'.length) * i.size))) (w.setRow b arr2)
                (fun x => if x = st.ef.tk then true else if x = t then false else st.ef.live x) (st.ef.tk + 1) := by
              refine ⟨⟨fun q n hf => ?_, fun q id hq => ?_, fun q o2 n hf hlt => ?_⟩, fun q s g hq => ?_, fun q s h hls hts hq => ?_, hlive, by omega⟩
              · by_cases e : q = b
                · subst e
                  simp only [foot, hk, updK_eq, Nat.add_mul] at hf ⊢
                  omega
                · unfold foot at *; rw [updK_ne e]; exact hf
              · rw [updK_ne (fun e => by rw [e, hk] at hq; cases hq)]; exact hq
              · by_cases e : q = b
                · subst e
                  simp only [foot, hk] at hf
                  rw [hcell o2 (by omega), hcell0 o2 (by omega), hget o2, if_neg (by omega)]
                · exact World.cell?_of_block (hother q e)
              · rw [updK_ne (fun e => by rw [e, hk] at hq; cases hq)]; exact hq
              · have e : q ≠ b := by
                  intro e
                  rw [e, hk] at hq
                  cases hq
                  simp at hls
                  omega
                exact ⟨by rw [updK_ne e]; exact hq, hother q e⟩
            have hRx : Rel G L κ0 w0 (updK κ b (.arr st.ef.tk (o + (rows.length + rows'.length) * i.size)))
                ⟨st.regs, { st.ef with tk := st.ef.tk + 1, live := fun x => if x = st.ef.tk then true else if x = t then false else st.ef.live x }⟩ a (w.setRow b arr2) := by
              have lt : ∀ q, κ q ≠ .none → q < w.heap.size := fun q h => Nat.lt_of_not_le fun hle => h (hR.new q hle)
              refine hR.upd k ⟨rfl, rfl, rfl⟩ (by simp) rfl rfl hR.defers (fun j hj => (hR.reg j hj).keep k fun q g hq => hother q fun e => by rw [e, hk] at hq; cases hq) (fun _ _ => Nat.le_refl _) ?_ ?_ ?_ ?_ (by have := hR.tki; simp only; omega) ?_ ?_ ?_
              · refine hR.mem.mono k.mono (fun q id hq => ?_) fun q id hq => hother q fun e => by rw [e, hk] at hq; cases hq
                by_cases e : q = b
                · rw [e, updK_eq] at hq; cases hq
                · rw [updK_ne e] at hq; exact hq
              · intro q hq; rw [updK_ne (fun e => by rw [e, hk] at hq; cases hq)]; exact hq
              · intro q s g hq
                by_cases e : q = b
                · rw [e, updK_eq] at hq; cases hq
                · rw [updK_ne e] at hq; exact hq
              · intro q s h hq
                by_cases e : q = b
                · rw [e, updK_eq] at hq; cases hq
                  have := hR.tki
                  simp only
                  omega
                · rw [updK_ne e] at hq
                  have := hR.tok q s h hq
                  simp only
                  omega
              · intro q hq
                rw [size_setRow] at hq
                have := hR.new q hq
                rw [updK_ne (fun e => by rw [e, hk] at this; cases this)]
                exact this
              · intro q hq
                exact updK_ne (by omega)
              · intro q hq _
                exact hother q (by omega)
            refine ⟨.slice (some ⟨b, o, none⟩) (rows.length + rows'.length) c, w.setRow b arr2, updK κ b (.arr st.ef.tk (o + (rows.length + rows'.length) * i.size)), ?_, hRx.put ⟨trivial, .inl ⟨?_, ?_⟩⟩ hd⟩
            · rw [hrun]
              simp only [addr_add, hst, Result.andThen_ok]
            · suffices H : RepC (updK κ b (.arr st.ef.tk (o + (rows.length + rows'.length) * i.size))) (w.setRow b arr2) (.sl 0 i.size (rows ++ rows')) (.slice (some ⟨b, o, none⟩) (rows ++ rows').length c) by
                rw [List.length_append] at H; exact H
              by_cases he : rows ++ rows' = []
              · rw [he]; exact .nil _ _ _
              · refine .sl i.size (rows ++ rows') b o c (fun p q => arr2.getD (o + p * i.size + q) undef) he (fun r hr => ?_) ?_ (fun p q hp hq => ?_) (fun p q hp hq => ?_) (by rw [List.length_append]; exact hroom)
                · rcases List.mem_append.1 hr with hr | hr
                  · exact ho2.2.1 r hr
                  · exact hn2.2.1 r hr
                · rw [List.length_append]; simp [foot, updK_eq]
                · refine hcell _ ?_
                  have := at_lt hp hq o
                  rw [List.length_append, Nat.add_mul] at this
                  omega
                · by_cases hlt : p < rows.length
                  · have e1 : (rows ++ rows').getD p [] = rows.getD p [] := by
                      simp only [List.getD_eq_getElem?_getD]
                      rw [List.getElem?_append_left hlt]
                    have hq2 : o + p * i.size + q < o + rows.length * i.size := at_lt hlt hq o
                    rw [e1, hget, if_neg (by omega)]
                    generalize hX : Value.slice (some ⟨b, o, none⟩) rows.length c = X at hr1
                    cases hr1 with
                    | nil => simp at hlt
                    | sl _ _ b3 o3 c3 vs g1 g2 g3 g4 g5 g6 =>
                      cases hX
                      have h4 := g4 p q hlt hq
                      rw [hcell0 _ (by omega)] at h4
                      rw [Option.some.inj h4]
                      exact (g5 p q hlt hq).mono k.mono
                  · have hp' : p - rows.length < rows'.length := by rw [List.length_append] at hp; omega
                    have e1 : (rows ++ rows').getD p [] = rows'.getD (p - rows.length) [] := by
                      simp only [List.getD_eq_getElem?_getD]
                      rw [List.getElem?_append_right (by omega)]
                    have hlt2 := at_lt hp' hq 0
                    have hsplit : p * i.size = rows.length * i.size + (p - rows.length) * i.size := by
                      rw [← Nat.add_mul]; congr 1; omega
                    rw [e1, hget, if_pos (by omega)]
                    have e3 : o + p * i.size + q - (o + rows.length * i.size) = (p - rows.length) * i.size + q := by omega
                    rw [e3]
                    exact (hn2.2.2 _ q hp' hq).mono k.mono
            · refine .inr (.inr ⟨hR.tki, by simp, fun _ => .inr ⟨b, o, c, T0, arr2, ?_, ?_, hh2, ?_, ?_⟩⟩)
              · rw [List.length_append]
              · rw [updK_eq, List.length_append]
              · rw [hsz2]; exact hsz
              · rw [List.length_append]; exact hroom
      · cases h
    | _ => simp [evalE] at h
  | _ => cases py <;> simp [evalE] at h

/-- append to nothing: rows of the frame's own. -/
theorem Rel.appB (hR : Rel G L κ0 w0 κ st a w) {S : Operand → PV} {ρ : Operand → Value} (hS : ∀ x, OpRep κ w st.ef.live st.ef.tk (S x) (ρ x)) {x y : Operand} {T T' E : TypeId} {i : TypeInfo}
    (hT : P.underlying T = some (.slice E)) (hT' : ∃ E', P.underlying T' = some (.slice E')) (hi : P.info? E = some i) {zc : List PV} (hzc : zeroC P E = some zc)
    (hb : i.bytes ≤ 4096) (ty : TypeId) {d : Nat} (hd : L.contains d = true) {p : PV} (h : evalP (.appB i.size) (st.regs.getD d .un) [S x, S y] = some p) :
    ∃ v w' κ', (Builtin.append_ #[T, T'] ty #[ρ x, ρ y]).run P w = .ok v w' ∧ Rel G L κ0 w0 κ' ⟨putD st.regs (some d) p, st.ef⟩ (a.put (some d) v) w' := by
  obtain ⟨i2, zv, hi2, hzv, hzr⟩ := zeroC_inv hzc
  rw [hi] at hi2
  cases hi2
  have hx := hS x
  have hy := hS y
  generalize S x = px at *
  generalize S y = py at *
  generalize ρ x = vx at *
  generalize ρ y = vy at *
  have hform : ∃ z0 t z rows, px = .sl 1 z0 [] ∧ py = .sl t z rows ∧ z = i.size ∧ rows ≠ [] ∧ rows.length ≤ appMax ∧ p = .bs ((st.regs.getD d .un).genOf + 1) i.size rows := by
    unfold evalP at h
    split at h <;> first | (cases h; done) | skip
    all_goals rename_i h1 h2
    all_goals first | (cases h1; done) | skip
    all_goals cases h1
    all_goals cases h2
    all_goals split at h <;> first | (cases h; done) | skip
    all_goals rename_i hc
    all_goals cases h
    all_goals exact ⟨_, _, _, _, rfl, rfl, hc.1, hc.2.1, hc.2.2, rfl⟩
  obtain ⟨z0, t, z, rows, rfl, rfl, rfl, hne, hmax, rfl⟩ := hform
  obtain ⟨hrx, ad, c, hxv⟩ := hx.sl_inv
  obtain ⟨hry, ad', c', hyv⟩ := hy.sl_inv
  obtain ⟨_, ht⟩ := CRep.old hx.2 (by simp)
  have hfull : FullV vx := by
    rcases ht with h | h | h
    · omega
    · exact h.2
    · omega
  have hc0 : c = 0 := by
    obtain ⟨a1, n1, hf⟩ := hfull
    rw [hxv] at hf
    cases hf
    rfl
  subst hc0
  rw [hxv] at hrx
  rw [hyv] at hry
  have hr1 : RepC κ w (.sl 0 i.size []) (.slice ad ([] : List (List PV)).length 0) := .nil _ _ _
  obtain ⟨olds, ho1, ho2, ho3, ho4⟩ := flat_of_rep (P := P) hr1
  obtain ⟨news, hn1, hn2, hn3, hn4⟩ := flat_of_rep (P := P) hry
  have hpos : 0 < rows.length := List.length_pos_iff.2 hne
  rw [hxv, hyv]
  obtain ⟨cap, w2, g1, g2, genv, g3⟩ := append_grows hT hT' hi hzv (n := 0) (m := rows.length) ty ho4 hn4 (by omega) (by omega) hb
  have hflat := Flat.append (rest := Builtin.zeroCells zv.cells (cap - (0 + rows.length))) ho2 hn2 ho1
  have hR2 : Rel G L κ0 w0 κ ⟨st.regs, st.ef⟩ a w2 :=
    hR.ext ⟨genv.1, genv.2.1, genv.2.2⟩ (fun _ _ => rfl) (fun b _ => by rw [g2]) (by rw [g2]; exact Nat.le_refl _) (fun _ _ h => h) (Nat.le_refl _) rfl fun b h1 h2 => absurd h2 h1
  have m2 : Mono κ w κ w2 := ⟨fun _ _ h => h, fun _ _ h => h, fun b o n _ _ => cell_heap g2 _⟩
  have hrr : RowsRep κ w2 i.size cap rows (olds ++ news ++ Builtin.zeroCells zv.cells (cap - (0 + rows.length))) := by
    obtain ⟨f1, f2, f3⟩ := hflat.mono m2
    simp only [List.nil_append] at f1 f2 f3
    exact ⟨f2, by omega, f1, f3⟩
  have hfin := hR2.newArr hd E hrr
  have e : w2.heap.size = w.heap.size := by rw [g2]
  rw [e] at hfin
  rw [Nat.zero_add] at g3
  simp only [Nat.zero_add] at g3 hfin
  exact ⟨_, _, _, g3, hfin⟩

end
end Go.Pi
