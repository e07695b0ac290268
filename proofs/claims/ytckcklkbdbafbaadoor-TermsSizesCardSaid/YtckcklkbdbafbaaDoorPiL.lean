/- Boxes that calls share; calls. -/
import Derived.Test.YtckcklkbdbafbaaDoorPiK
namespace Go.Pi
open Go
open PV (genOf asSrc clrC clrs clr clrAll cellsT cells0)

section
variable {P : Program} {G : Glob} {L : List Nat} {κ0 : KM} {w0 : World} {κ κ' : KM} {st : St} {a a' : Act} {w w' : World} {live : Nat → Bool} {tk : Nat}

theorem getB_mem : ∀ {l : List (Nat × List PV)} {id : Nat} {c : List PV}, getB l id = some c → id ∈ l.map (·.1)
  | [], _, _, h => by simp [getB] at h
  | (i, d) :: r, id, c, h => by
    simp only [getB] at h
    split at h
    · rename_i e; simp [e]
    · have := getB_mem h; simp at this ⊢; exact .inr this

theorem getB_setB : ∀ (l : List (Nat × List PV)) (id j : Nat) (d : List PV), getB (setB l id d) j = if j = id then (getB l id).map (fun _ => d) else getB l j
  | [], id, j, d => by simp [setB, getB]
  | (i, c) :: r, id, j, d => by
    simp only [setB]
    by_cases e : i = id
    · rw [if_pos e]
      by_cases e2 : j = id
      · rw [if_pos e2]; simp [getB, e, e2]
      · rw [if_neg e2]
        simp only [getB]
        rw [if_neg (by omega), if_neg (by omega)]
    · rw [if_neg e]
      simp only [getB]
      rw [getB_setB r id j d]
      by_cases e2 : j = id
      · rw [if_neg (by omega), if_pos e2, if_pos e2, if_neg e]
      · rw [if_neg e2, if_neg e2]

theorem setB_ids : ∀ (l : List (Nat × List PV)) (id : Nat) (d : List PV), (setB l id d).map (·.1) = l.map (·.1)
  | [], _, _ => rfl
  | (i, c) :: r, id, d => by
    simp only [setB]
    split
    · simp
    · simp [setB_ids r id d]

theorem getB_drop : ∀ (l : List (Nat × List PV)) (k id : Nat) (c : List PV), (l.map (·.1)).Nodup → getB (l.drop k) id = some c → getB l id = some c
  | l, 0, _, _, _, h => by simpa using h
  | [], _ + 1, _, _, _, h => by simp [getB] at h
  | (i, d) :: r, k + 1, id, c, hn, h => by
    simp only [List.drop_succ_cons] at h
    simp only [List.map_cons, List.nodup_cons] at hn
    have h1 := getB_drop r k id c hn.2 h
    simp only [getB]
    rw [if_neg (fun e => hn.1 (by rw [e]; exact getB_mem h1))]
    exact h1

theorem ldS_runs (hR : Rel G L κ0 w0 κ st a w) {T : TypeId} {i : TypeInfo} (hi : P.info? T = some i) (hd : (P.underlying T).isSome = true) {id off : Nat} {va : Value}
    (hp : OpRep κ w st.ef.live st.ef.tk (.sp id off) va) {cs : List PV} (hg : getB st.ef.sh.boxes id = some cs) {q : PV} (h : cut cs off (if aggT P T then i.size else 1) (aggT P T) = some q) :
    ∃ v, (Instr.loadAt T va).run P w = .ok v w ∧ OpRep κ w st.ef.live st.ef.tk q v := by
  obtain ⟨d, hd⟩ := Option.isSome_iff_exists.1 hd
  obtain ⟨b, T', arr, hb1, hb3, hb4⟩ := hR.mem.box id cs hg
  obtain ⟨b', hva, hk'⟩ := hp.sp_inv
  have : b' = b := hR.mem.inj _ _ _ hk' hb1
  subst this
  obtain ⟨h0, h1, h2⟩ := cut_rep (hb4.tok (live := st.ef.live) (tk := st.ef.tk)) h
  have hs := hb4.1
  have hrun := run_loadVar_known (P := P) (w := w) T hi hd b' off (fun j => arr.getD (off + j) undef) (fun j hj => by
    have hlt : off + j < arr.size := by omega
    simp [World.cell?, hb3, hlt])
  refine ⟨if aggT P T then .agg ((List.range i.size).map fun j => arr.getD (off + j) undef).toArray else arr.getD (off + 0) undef, ?_, ?_⟩
  · rw [hva]
    simpa [Instr.loadAt, Instr.sureAddr] using hrun
  · cases hg : aggT P T with
    | true =>
      simp only [hg, if_true] at h0 h1 ⊢
      have e : arr.extract off (off + i.size) = ((List.range i.size).map fun j => arr.getD (off + j) undef).toArray := by
        apply Array.ext
        · simp; omega
        · intro j hj hj'
          have : off + j < arr.size := by simp at hj; omega
          simp [this]
      rw [← e]
      exact h1 trivial
    | false =>
      simp only [hg, Bool.false_eq_true, if_false] at h2 ⊢
      exact (h2 trivial).2

theorem CellsRep.one {cs : List PV} {arr : Array Value} (h : CellsRep κ w cs arr) : ∀ v ∈ arr.toList, v.oneCell' = true :=
  CellsT.one (live := fun _ => false) (tk := 0) h.tok

theorem stS_runs (hR : Rel G L κ0 w0 κ st a w) {T : TypeId} {i : TypeInfo} (hi : P.info? T = some i) {id off : Nat} {x : PV} {va vx : Value}
    (hp : OpRep κ w st.ef.live st.ef.tk (.sp id off) va) (hx : OpRep κ w st.ef.live st.ef.tk x vx) {cs vs : List PV} (hg : getB st.ef.sh.boxes id = some cs) (hcells : cells0 x = some vs)
    (hvl : vs.length = i.size) (hle : off + i.size ≤ cs.length) :
    ∃ w', (Instr.storeAt T va vx).run P w = .ok () w' ∧ Rel G L κ0 w0 κ ⟨st.regs, { st.ef with sh := { st.ef.sh with boxes := setB st.ef.sh.boxes id (splice cs off vs) } }⟩ a w' := by
  obtain ⟨b, T', arr, hb2, hb3, hb4⟩ := hR.mem.box id cs hg
  obtain ⟨b', hva, hk'⟩ := hp.sp_inv
  have : b' = b := hR.mem.inj _ _ _ hk' hb2
  subst this
  have hxs := cells0_rep hx hcells
  have hnot : ∀ c n, foot κ c n → c ≠ b' := by
    intro c n hf e
    subst e
    simp [foot, hb2] at hf
  have hother : ∀ c, c ≠ b' → (w.setRow b' (arr.toList.take off ++ vx.cells.toList ++ arr.toList.drop (off + vx.cells.toList.length)).toArray).heap[c]? = w.heap[c]? :=
    fun c hc => setRow_other w b' c _ hc
  have hsz : vx.cells.size = i.size := by rw [hxs.1, hvl]
  have hrun := run_storeCells_at P b' off T' vx.cells.toList 0 arr w hb3 (by have := hb4.1; simp; omega) hxs.one
  have k : Keep κ w st.ef.live st.ef.tk κ (w.setRow b' (arr.toList.take off ++ vx.cells.toList ++ arr.toList.drop (off + vx.cells.toList.length)).toArray) st.ef.live st.ef.tk := by
    refine ⟨⟨fun _ _ h => h, fun _ _ h => h, fun c o n hf _ => World.cell?_of_block (hother c (hnot c n hf))⟩, fun _ _ _ h => h, fun c t h _ _ hk => ⟨hk, hother c (fun e => ?_)⟩, fun _ _ h => h, Nat.le_refl _⟩
    subst e
    rw [hb2] at hk
    cases hk
  refine ⟨_, ?_, hR.upd k ⟨rfl, rfl, rfl⟩ ?_ rfl rfl hR.defers ?_ (fun _ _ => Nat.le_refl _) ?_ (fun _ h => h) (fun _ _ _ h => h) hR.tok hR.tki ?_ (fun _ _ => rfl) ?_⟩
  · rw [hva]
    have hci : P.cellsOf T = i.size := by simp [Program.cellsOf, hi]
    simp only [Nat.add_zero] at hrun
    simp [Instr.storeAt, Instr.sureAddr, storeVar, run_sizeOf w hi, hci, hsz, hrun]
  · simp
  · intro j hj
    refine (hR.reg j hj).keep k fun c g' hk => hother c fun ec => ?_
    subst ec
    rw [hb2] at hk
    cases hk
  · refine ⟨fun j ds hj => ?_, hR.mem.inj, hR.mem.lt, by rw [setB_ids]; exact hR.mem.nd⟩
    rw [getB_setB] at hj
    by_cases e : j = id
    · rw [if_pos e, hg] at hj
      cases hj
      subst e
      exact ⟨b', T', _, hb2, setRow_heap w b' arr _ T' _ hb3, (hb4.row hxs (by omega)).mono k.mono⟩
    · rw [if_neg e] at hj
      obtain ⟨c, T2, arr2, h1, h2, h3⟩ := hR.mem.box j ds hj
      have hne : c ≠ b' := by
        intro ec
        subst ec
        rw [hb2] at h1
        cases h1
        exact e rfl
      exact ⟨c, T2, arr2, h1, (hother c hne).trans h2, h3.mono k.mono⟩
  · intro c hc
    rw [size_setRow] at hc
    exact hR.new c hc
  · intro c hc hs
    refine hother c fun ec => ?_
    subst ec
    have := hR.keep c hc
    rw [hb2] at this
    exact hs id this.symm

theorem Rel.newShared (hR : Rel G L κ0 w0 κ st a w) {cs : List PV} {arr : Array Value} (T : TypeId) (hc : CellsRep κ w cs arr) {d : Option Nat} (hd : ∀ t, d = some t → L.contains t = false) :
    Rel G L κ0 w0 (updK κ w.heap.size (.sb st.ef.sh.nx)) ⟨putD st.regs d (.sp st.ef.sh.nx 0), { st.ef with sh := ⟨(st.ef.sh.nx, cs) :: st.ef.sh.boxes, st.ef.sh.nx + 1⟩ }⟩
      (a.put d (.pointer (some ⟨w.heap.size, 0, none⟩))) (w.alloc (.cells arr T)) := by
  have k := keep_alloc (live := st.ef.live) (tk := st.ef.tk) hR.new (.cells arr T) (.sb st.ef.sh.nx)
  have lt : ∀ b, κ b ≠ .none → b < w.heap.size := fun b h => Nat.lt_of_not_le fun hle => h (hR.new b hle)
  have back : ∀ b, b ≠ w.heap.size → updK κ w.heap.size (.sb st.ef.sh.nx) b = κ b := fun b h => updK_ne h
  have hbase := hR.base
  have hRx : Rel G L κ0 w0 (updK κ w.heap.size (.sb st.ef.sh.nx)) ⟨st.regs, { st.ef with sh := ⟨(st.ef.sh.nx, cs) :: st.ef.sh.boxes, st.ef.sh.nx + 1⟩ }⟩ a (w.alloc (.cells arr T)) := by
    refine hR.upd k ⟨rfl, rfl, rfl⟩ (by simp) rfl rfl hR.defers (fun i hi => (hR.reg i hi).keep k fun b g hk => heap_alloc_lt _ (lt b (by simp [hk]))) (fun _ _ => Nat.le_refl _) ?_ ?_ ?_ ?_ hR.tki ?_ ?_ ?_
    · refine ⟨fun id ds hg => ?_, fun b b' id h1 h2 => ?_, fun b id h1 => ?_, ?_⟩
      · simp only [getB] at hg
        split at hg
        · rename_i e
          cases hg
          refine ⟨w.heap.size, T, arr, by rw [updK_eq, e], ?_, hc.mono k.mono⟩
          show (w.heap.push _)[w.heap.size]? = _
          simp
        · obtain ⟨b, T2, arr2, h1, h2, h3⟩ := hR.mem.box id ds hg
          have := lt b (by simp [h1])
          exact ⟨b, T2, arr2, by rw [back b (by omega)]; exact h1, (heap_alloc_lt _ this).trans h2, h3.mono k.mono⟩
      · by_cases e : b = w.heap.size
        · by_cases e' : b' = w.heap.size
          · omega
          · rw [e, updK_eq] at h1; rw [back _ e'] at h2; cases h1
            have := hR.mem.lt b' _ h2; omega
        · by_cases e' : b' = w.heap.size
          · rw [e', updK_eq] at h2; rw [back _ e] at h1; cases h2
            have := hR.mem.lt b _ h1; omega
          · rw [back _ e] at h1; rw [back _ e'] at h2; exact hR.mem.inj b b' id h1 h2
      · by_cases e : b = w.heap.size
        · rw [e, updK_eq] at h1; cases h1; simp
        · rw [back _ e] at h1; have := hR.mem.lt b id h1; simp only; omega
      · simp only [List.map_cons, List.nodup_cons]
        refine ⟨fun hm => ?_, hR.mem.nd⟩
        have : ∀ (l : List (Nat × List PV)) (id : Nat), id ∈ l.map (·.1) → ∃ c, getB l id = some c := by
          intro l
          induction l with
          | nil => intro id h; simp at h
          | cons x r ih =>
            intro id h
            simp only [getB]
            by_cases e : x.1 = id
            · exact ⟨x.2, by rw [if_pos e]⟩
            · rw [if_neg e]
              refine ih id ?_
              simp at h ⊢
              rcases h with h | h
              · exact absurd h.symm e
              · exact h
        obtain ⟨c, hcc⟩ := this _ _ hm
        obtain ⟨b, _, _, h1, _, _⟩ := hR.mem.box _ _ hcc
        have := hR.mem.lt b _ h1
        omega
    · intro b hb; rw [back b (by have := lt b (by simp [hb]); omega)]; exact hb
    · intro b s g h1
      by_cases e : b = w.heap.size
      · rw [e, updK_eq] at h1; cases h1
      · rw [back _ e] at h1; exact h1
    · intro b t h h1
      by_cases e : b = w.heap.size
      · rw [e, updK_eq] at h1; cases h1
      · rw [back _ e] at h1; exact hR.tok b t h h1
    · intro b hb
      rw [World.size_alloc] at hb
      rw [back b (by omega)]
      exact hR.new b (by omega)
    · intro b hb; exact back b (by omega)
    · intro b hb _; exact heap_alloc_lt _ (by omega)
  exact hRx.put ⟨trivial, .sp _ _ _ updK_eq, trivial⟩ hd

/-- What a call owes. -/
structure Pre (G : Glob) (κ : KM) (w : World) (args : List PV) (vals : Array Value) (sh : Sh) : Prop where
  mem : Mem κ sh w
  glob : GlobOK G κ w
  new : ∀ b, w.heap.size ≤ b → κ b = .none
  pl : ∀ b, plainK (κ b)
  size : vals.size = args.length
  arg : ∀ i, i < args.length → ValRep κ w (args.getD i .un) (vals.getD i undef)

structure PostR (G : Glob) (κ : KM) (w : World) (r : PV) (sh' : Sh) (v : Value) (κ' : KM) (w' : World) : Prop where
  res : ResRep κ' w' r v
  mem : Mem κ' sh' w'
  glob : GlobOK G κ' w'
  new : ∀ b, w'.heap.size ≤ b → κ' b = .none
  pl : ∀ b, plainK (κ' b)
  le : w.heap.size ≤ w'.heap.size
  keep : ∀ b, b < w.heap.size → κ' b = κ b
  old : ∀ b, b < w.heap.size → (∀ id, κ b ≠ .sb id) → w'.heap[b]? = w.heap[b]?
  env : Env w w'

def Post (G : Glob) (κ : KM) (w : World) (r : PV) (sh' : Sh) : Ending → World → Prop
  | .returned v, w' => ∃ κ', PostR G κ w r sh' v κ' w'
  | _, _ => False

/-- Calls are what the interpreter says. -/
def CallOK (P : Program) (G : Glob) (call : CallF) : Prop :=
  ∀ f args sh r sh', call f args sh = some (r, sh') →
    (∃ fn, P.funcs[f]? = some fn ∧ (fn.name == "runtime.NumGoroutine") = false ∧ fn.body.isNone = false) ∧
    ∀ κ w vals, Pre G κ w args vals sh → Calls P f vals w (Post G κ w r sh')

def outK : Kind → Kind
  | .arr _ h => .frz h
  | .lb _ _ => .none
  | k => k

theorem foot_out {b n : Nat} (h : foot κ b n) : foot (fun b => outK (κ b)) b n := by
  unfold foot at *
  cases hk : κ b <;> simp [hk, outK] at * <;> exact h

theorem Rel.callPost (hR : Rel G L κ0 w0 κ st a w) {r : PV} {sh' : Sh} {v : Value} {κ1 : KM} {w' : World} (h : PostR G (fun b => outK (κ b)) w r sh' v κ1 w')
    {d : Option Nat} (hd : ∀ t, d = some t → L.contains t = false) :
    ∃ κ', Rel G L κ0 w0 κ' ⟨putD st.regs d r, { st.ef with sh := sh' }⟩ (a.put d v) w' := by
  have lt : ∀ b, κ b ≠ .none → b < w.heap.size := fun b h => Nat.lt_of_not_le fun hle => h (hR.new b hle)
  let κ2 : KM := fun b => if b < w.heap.size then κ b else κ1 b
  have e1 : ∀ b, b < w.heap.size → κ2 b = κ b := fun b hb => if_pos hb
  have e2 : ∀ b, ¬ b < w.heap.size → κ2 b = κ1 b := fun b hb => if_neg hb
  have hh : ∀ b, b < w.heap.size → (∀ id, κ b ≠ .sb id) → w'.heap[b]? = w.heap[b]? := by
    intro b hb hs
    refine h.old b hb fun id e => ?_
    cases hk : κ b <;> simp [hk, outK] at e
    exact hs id (by rw [hk, e])
  have notsb : ∀ b n, foot κ b n → ∀ id, κ b ≠ .sb id := by
    intro b n hf id e
    simp [foot, e] at hf
  have m12 : Mono κ1 w' κ2 w' := by
    refine ⟨fun b n hf => ?_, fun b id hk => ?_, fun _ _ _ _ _ => rfl⟩
    · by_cases hb : b < w.heap.size
      · have := h.keep b hb
        unfold foot at *
        rw [e1 b hb]
        rw [this] at hf
        cases hk : κ b <;> simp [hk, outK] at hf ⊢ <;> exact hf
      · unfold foot at *; rw [e2 b hb]; exact hf
    · by_cases hb : b < w.heap.size
      · have := h.keep b hb
        rw [e1 b hb]
        rw [this] at hk
        cases hq : κ b <;> simp [hq, outK] at hk
        rw [hk]
      · rw [e2 b hb]; exact hk
  have sb21 : ∀ b id, κ2 b = .sb id → κ1 b = .sb id := by
    intro b id hk
    by_cases hb : b < w.heap.size
    · rw [e1 b hb] at hk
      rw [h.keep b hb, hk]
      rfl
    · rw [e2 b hb] at hk; exact hk
  have k : Keep κ w st.ef.live st.ef.tk κ2 w' st.ef.live st.ef.tk := by
    refine ⟨⟨fun b n hf => ?_, fun b id hk => ?_, fun b o n hf _ => World.cell?_of_block (hh b (lt b (foot_some hf)) (notsb b n hf))⟩, fun b s g hk => ?_, fun b t h _ _ hk => ?_, fun _ _ h => h, Nat.le_refl _⟩
    · have := lt b (foot_some hf)
      unfold foot at *; rw [e1 b this]; exact hf
    · rw [e1 b (lt b (by simp [hk]))]; exact hk
    · rw [e1 b (lt b (by simp [hk]))]; exact hk
    · have hb := lt b (by simp [hk])
      exact ⟨by rw [e1 b hb]; exact hk, hh b hb (by simp [hk])⟩
  have hRx : Rel G L κ0 w0 κ2 ⟨st.regs, { st.ef with sh := sh' }⟩ a w' := by
    refine hR.upd k h.env h.le rfl rfl hR.defers (fun i hi => (hR.reg i hi).keep k fun b g hk => hh b (lt b (by simp [hk])) (by simp [hk])) (fun _ _ => Nat.le_refl _) ?_ ?_ ?_ ?_ hR.tki ?_ ?_ ?_
    · refine ⟨fun id cs hg => ?_, fun b b' id h1 h2 => h.mem.inj b b' id (sb21 _ _ h1) (sb21 _ _ h2), fun b id h1 => h.mem.lt b id (sb21 _ _ h1), h.mem.nd⟩
      obtain ⟨b, T, arr, g1, g2, g3⟩ := h.mem.box id cs hg
      exact ⟨b, T, arr, m12.sb _ _ g1, g2, g3.mono m12⟩
    · intro b hb; rw [e1 b (lt b (by simp [hb]))]; exact hb
    · intro b s g hk
      by_cases hb : b < w.heap.size
      · rw [e1 b hb] at hk; exact hk
      · rw [e2 b hb] at hk; have := h.pl b; rw [hk] at this; exact this.elim
    · intro b t h' hk
      by_cases hb : b < w.heap.size
      · rw [e1 b hb] at hk; exact hR.tok b t h' hk
      · rw [e2 b hb] at hk; have := h.pl b; rw [hk] at this; exact this.elim
    · intro b hb
      have := h.le
      rw [e2 b (by omega)]
      exact h.new b hb
    · intro b hb; exact e1 b (by have := hR.base; omega)
    · intro b hb hs
      refine hh b (by have := hR.base; omega) fun id e => ?_
      rw [hR.keep b hb] at e
      exact hs id e
  exact ⟨κ2, hRx.put ((h.res.mono m12).op) hd⟩

theorem Rel.callPre (hR : Rel G L κ0 w0 κ st a w) {args : List PV} {vals : Array Value} (hs : vals.size = args.length) (ha : ∀ i, i < args.length → ValRep κ w (args.getD i .un) (vals.getD i undef)) :
    Pre G (fun b => outK (κ b)) w args vals st.ef.sh := by
  have m : Mono κ w (fun b => outK (κ b)) w := ⟨fun b n h => foot_out h, fun b id h => by simp [h, outK], fun _ _ _ _ _ => rfl⟩
  refine ⟨hR.mem.mono m (fun b id h => ?_) (fun _ _ _ => rfl), hR.glob.mono m (fun b h => by simp [h, outK]), fun b hb => by simp [hR.new b hb, outK], fun b => ?_, hs, fun i hi => (ha i hi).mono m⟩
  · cases hk : κ b <;> simp [hk, outK] at h ⊢; exact h
  · cases hk : κ b <;> simp [outK, plainK]

end
end Go.Pi
