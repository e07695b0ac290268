/- A box of a frame is written; a box is read; a new row. -/
import Derived.Test.YtckcklkbdbafbaaDoorPiH
import Derived.Laws.CopyRow
namespace Go.Pi
open Go
open PV (genOf asSrc clrC clrs clr clrAll cellsT cells0)

section
variable {P : Program} {G : Glob} {L : List Nat} {κ0 : KM} {w0 : World} {κ κ' : KM} {st : St} {a a' : Act} {w w' : World} {live : Nat → Bool} {tk : Nat}

theorem spl_get {α : Type} (cs vs : List α) (off i : Nat) (d : α) (h : off + vs.length ≤ cs.length) :
    (cs.take off ++ vs ++ cs.drop (off + vs.length)).getD i d = if off ≤ i ∧ i < off + vs.length then vs.getD (i - off) d else cs.getD i d := by
  simp only [List.getD_eq_getElem?_getD, List.append_assoc]
  by_cases h1 : i < off
  · rw [if_neg (by omega), List.getElem?_append_left (by simp; omega)]
    simp [h1]
  · by_cases h2 : i < off + vs.length
    · rw [if_pos (by omega), List.getElem?_append_right (by simp; omega), List.getElem?_append_left (by simp; omega)]
      simp only [List.length_take]
      rw [Nat.min_eq_left (by omega)]
    · rw [if_neg (by omega), List.getElem?_append_right (by simp; omega), List.getElem?_append_right (by simp; omega)]
      simp only [List.length_take, List.getElem?_drop]
      rw [Nat.min_eq_left (by omega)]
      congr 2
      omega

theorem toArray_getD (l : List Value) (i : Nat) : l.toArray.getD i undef = l.getD i undef := by
  simp [List.getD_eq_getElem?_getD]

theorem toList_getD (l : Array Value) (i : Nat) : l.toList.getD i undef = l.getD i undef := by
  simp [List.getD_eq_getElem?_getD]

theorem CellsT.row {cs vs : List PV} {arr xs : Array Value} {off : Nat} (h : CellsT κ w live tk cs arr) (hv : CellsT κ w live tk vs xs) (hle : off + vs.length ≤ cs.length) :
    CellsT κ w live tk (Pi.splice cs off vs) (arr.toList.take off ++ xs.toList ++ arr.toList.drop (off + xs.toList.length)).toArray := by
  have h1 := h.1
  have h2 := hv.1
  refine ⟨?_, fun i hi => ?_⟩
  · rw [splice_len _ _ _ hle]; simp; omega
  · rw [splice_len _ _ _ hle] at hi
    rw [toArray_getD, spl_get _ _ _ _ _ (by simp; omega), splice_get _ _ _ _ hle]
    by_cases hc : off ≤ i ∧ i < off + vs.length
    · rw [if_pos hc, if_pos (by simp; omega), toList_getD]
      exact hv.2 (i - off) (by omega)
    · rw [if_neg hc, if_neg (by simp; omega), toList_getD]
      exact h.2 i hi

theorem CellsRep.row {cs vs : List PV} {arr xs : Array Value} {off : Nat} (h : CellsRep κ w cs arr) (hv : CellsRep κ w vs xs) (hle : off + vs.length ≤ cs.length) :
    CellsRep κ w (Pi.splice cs off vs) (arr.toList.take off ++ xs.toList ++ arr.toList.drop (off + xs.toList.length)).toArray := by
  have h1 := h.1
  have h2 := hv.1
  refine ⟨?_, fun i hi => ?_⟩
  · rw [splice_len _ _ _ hle]; simp; omega
  · rw [splice_len _ _ _ hle] at hi
    rw [toArray_getD, spl_get _ _ _ _ _ (by simp; omega), splice_get _ _ _ _ hle]
    by_cases hc : off ≤ i ∧ i < off + vs.length
    · rw [if_pos hc, if_pos (by simp; omega), toList_getD]
      exact hv.2 (i - off) (by omega)
    · rw [if_neg hc, if_neg (by simp; omega), toList_getD]
      exact h.2 i hi

theorem CellsT.one {cs : List PV} {arr : Array Value} (h : CellsT κ w live tk cs arr) : ∀ v ∈ arr.toList, v.oneCell' = true := by
  intro v hv
  obtain ⟨i, hi, e⟩ := List.getElem_of_mem hv
  have hi' : i < arr.size := by simpa using hi
  have := (h.2 i (by rw [← h.1]; exact hi')).1.oneCell
  have e2 : arr.getD i undef = v := by rw [← e]; simp [hi']
  rwa [e2] at this

theorem Rel.upd (hR : Rel G L κ0 w0 κ st a w) {ef' : Eff} {regs' : List PV} (k : Keep κ w st.ef.live st.ef.tk κ' w' ef'.live ef'.tk) (henv : Env w w') (hsz : w.heap.size ≤ w'.heap.size)
    (hregs : regs'.length = st.regs.length) (ha : a'.tmps.size = a.tmps.size) (hdef : a'.defers = [])
    (hreg : ∀ i, i < st.regs.length → RegRep κ' w' ef'.live ef'.tk i (regs'.getD i .un) (a'.tmps.getD i undef))
    (hgen : ∀ s, L.contains s = true → (st.regs.getD s .un).genOf ≤ (regs'.getD s .un).genOf)
    (hmem : Mem κ' ef'.sh w') (himm : ∀ b, κ b = .imm → κ' b = .imm) (hlb : ∀ b s g, κ' b = .lb s g → κ b = .lb s g)
    (htok : ∀ b t h, κ' b = .arr t h → 2 ≤ t ∧ t < ef'.tk) (htk : 2 ≤ ef'.tk) (hnew : ∀ b, w'.heap.size ≤ b → κ' b = .none)
    (hkeep : ∀ b, b < w0.heap.size → κ' b = κ b) (hold : ∀ b, b < w0.heap.size → (∀ id, κ0 b ≠ .sb id) → w'.heap[b]? = w.heap[b]?) :
    Rel G L κ0 w0 κ' ⟨regs', ef'⟩ a' w' :=
  { size := by rw [ha, hR.size]; exact hregs.symm
    defers := hdef
    reg := fun i hi => hreg i (by rw [← hregs]; exact hi)
    mem := hmem
    glob := hR.glob.mono k.mono himm
    lbi := fun b b' s g h1 h2 => hR.lbi b b' s g (hlb _ _ _ h1) (hlb _ _ _ h2)
    lbg := fun b s g h1 => ⟨(hR.lbg b s g (hlb _ _ _ h1)).1, Nat.le_trans (hR.lbg b s g (hlb _ _ _ h1)).2 (hgen s (hR.lbg b s g (hlb _ _ _ h1)).1)⟩
    tok := htok
    tki := htk
    new := hnew
    base := Nat.le_trans hR.base hsz
    keep := fun b hb => (hkeep b hb).trans (hR.keep b hb)
    old := fun b hb hs => (hold b hb hs).trans (hR.old b hb hs)
    pl := hR.pl
    lbd := fun s hs => by show s < regs'.length; rw [hregs]; exact hR.lbd s hs
    env := hR.env.trans henv }

/-- A store into a box of this frame. -/
theorem Rel.stL (hR : Rel G L κ0 w0 κ st a w) {T : TypeId} {i : TypeInfo} (hi : P.info? T = some i) {p x old : PV} {va vx : Value} {slot : Nat}
    (hL : L.contains slot = true) (hp : OpRep κ w st.ef.live st.ef.tk p va) (hx : OpRep κ w st.ef.live st.ef.tk x vx) (h : evalW p x (st.regs.getD slot .un) slot i.size = some old) :
    ∃ w', (Instr.storeAt T va vx).run P w = .ok () w' ∧ Rel G L κ0 w0 κ ⟨st.regs.set slot old, st.ef⟩ a w' := by
  have hl := hR.lbd slot hL
  unfold evalW at h
  split at h <;> first | (cases h; done) | skip
  rename_i s g off g' cs vs hbox hcells
  split at h
  · rename_i hc
    obtain ⟨rfl, rfl, hvl, hle⟩ := hc
    cases h
    have hrg := hR.reg s hl
    rw [hbox] at hrg
    obtain ⟨b, T', arr, hb1, hb2, hb3, hb4⟩ := hrg
    obtain ⟨_, b', hva, hk'⟩ := hp
    have : b' = b := hR.lbi _ _ _ _ hk' hb2
    subst this
    have hxs := cellsT_rep hx hcells
    have hnot : ∀ c n, foot κ c n → c ≠ b' := by
      intro c n hf e
      subst e
      simp [foot, hb2] at hf
    have hother : ∀ c, c ≠ b' → (w.setRow b' (arr.toList.take off ++ vx.cells.toList ++ arr.toList.drop (off + vx.cells.toList.length)).toArray).heap[c]? = w.heap[c]? :=
      fun c hc => setRow_other w b' c _ hc
    have hsz : vx.cells.size = i.size := by rw [hxs.1, hvl]
    have hrun := run_storeCells_at P b' off T' vx.cells.toList 0 arr w hb3 (by have := hb4.1; simp; omega) hxs.one
    have k : Keep κ w st.ef.live st.ef.tk κ (w.setRow b' (arr.toList.take off ++ vx.cells.toList ++ arr.toList.drop (off + vx.cells.toList.length)).toArray) st.ef.live st.ef.tk := by
      refine ⟨⟨fun _ _ h => h, fun _ _ h => h, fun c o n hf _ => World.cell?_of_block (hother c (hnot c n hf))⟩, fun _ _ _ h => h, fun c t h _ _ hk => ⟨hk, hother c (fun e => ?_)⟩, fun _ _ h => h, Nat.le_refl _⟩
      subst e
      rw [hb2] at hk
      cases hk
    refine ⟨_, ?_, hR.upd k ⟨rfl, rfl, rfl⟩ ?_ ?_ rfl hR.defers ?_ ?_ ?_ (fun _ h => h) (fun _ _ _ h => h) hR.tok hR.tki ?_ (fun _ _ => rfl) ?_⟩
    · rw [hva]
      have hci : P.cellsOf T = i.size := by simp [Program.cellsOf, hi]
      simp only [Nat.add_zero] at hrun
      simp [Instr.storeAt, Instr.sureAddr, storeVar, run_sizeOf w hi, hci, hsz, hrun]
    · simp
    · simp
    · intro j hj
      by_cases e : s = j
      · subst e
        rw [getD_set_eq _ _ _ _ hj]
        exact ⟨b', T', _, hb1, hb2, setRow_heap w b' arr _ T' _ hb3, (hb4.row hxs (by omega)).keep k⟩
      · rw [getD_set_ne _ _ _ _ _ e]
        refine (hR.reg j hj).keep k fun c g' hk => hother c fun ec => ?_
        subst ec
        rw [hb2] at hk
        cases hk
        exact e rfl
    · intro q hq
      by_cases e : s = q
      · subst e
        rw [getD_set_eq _ _ _ _ hl, hbox]
        exact Nat.le_refl _
      · rw [getD_set_ne _ _ _ _ _ e]
        exact Nat.le_refl _
    · refine hR.mem.mono k.mono (fun _ _ h => h) fun c id hk => hother c fun ec => ?_
      subst ec
      rw [hb2] at hk
      cases hk
    · intro c hc
      rw [size_setRow] at hc
      exact hR.new c hc
    · intro c hc _
      refine hother c fun ec => ?_
      subst ec
      have := hR.keep c hc
      rw [hb2] at this
      have hp := hR.pl c
      rw [← this] at hp
      exact hp
  · cases h

/-- A load from a box of this frame. -/
theorem ldL_runs (hR : Rel G L κ0 w0 κ st a w) {T : TypeId} {i : TypeInfo} (hi : P.info? T = some i) (hd : (P.underlying T).isSome = true) {p q : PV} {va : Value} {slot : Nat}
    (hp : OpRep κ w st.ef.live st.ef.tk p va) (h : evalL p (st.regs.getD slot .un) slot (if aggT P T then i.size else 1) (aggT P T) = some q) :
    ∃ v, (Instr.loadAt T va).run P w = .ok v w ∧ OpRep κ w st.ef.live st.ef.tk q v := by
  obtain ⟨d, hd⟩ := Option.isSome_iff_exists.1 hd
  unfold evalL at h
  split at h <;> first | (cases h; done) | skip
  rename_i s g off g' cs hbox
  split at h
  · rename_i hc
    obtain ⟨rfl, rfl⟩ := hc
    have hl : s < st.regs.length := by
      rcases Nat.lt_or_ge s st.regs.length with h' | h'
      · exact h'
      · rw [List.getD_eq_getElem?_getD, List.getElem?_eq_none h'] at hbox; cases hbox
    have hrg := hR.reg s hl
    rw [hbox] at hrg
    obtain ⟨b, T', arr, hb1, hb2, hb3, hb4⟩ := hrg
    obtain ⟨_, b', hva, hk'⟩ := hp
    have : b' = b := hR.lbi _ _ _ _ hk' hb2
    subst this
    obtain ⟨h0, h1, h2⟩ := cut_rep hb4 h
    have hs := hb4.1
    have hrun := run_loadVar_known (P := P) (w := w) T hi hd b' off (fun j => arr.getD (off + j) undef) (fun j hj => by
      have hlt : off + j < arr.size := by omega
      simp [World.cell?, hb3, hlt])
    refine ⟨if aggT P T then .agg ((List.range i.size).map fun j => arr.getD (off + j) undef).toArray else arr.getD (off + 0) undef, ?_, ?_⟩
    · rw [hva]
      simpa [Instr.loadAt, Instr.sureAddr] using hrun
    · cases hg : aggT P T with
      | true =>
        simp only [hg, if_true] at h0 h1 ⊢
        have e : arr.extract off (off + i.size) = ((List.range i.size).map fun j => arr.getD (off + j) undef).toArray := by
          apply Array.ext
          · simp; omega
          · intro j hj hj'
            have : off + j < arr.size := by simp at hj; omega
            simp [this]
        rw [← e]
        exact h1 trivial
      | false =>
        simp only [hg, Bool.false_eq_true, if_false] at h2 ⊢
        exact (h2 trivial).2
  · cases h

end
end Go.Pi
