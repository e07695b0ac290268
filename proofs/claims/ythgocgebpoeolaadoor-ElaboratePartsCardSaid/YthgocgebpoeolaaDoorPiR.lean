import Derived.Test.YthgocgebpoeolaaDoorPiK
import Derived.MapKept
/- Boxes that calls share; calls. -/
namespace Go.Pi
open Go Go.MapKept
open PV (genOf asSrc clrC clrs clr clrAll cellsT cells0)

section
variable {P : Program} {G : Glob} {L : Lst} {κ0 : KM} {w0 : World} {κ κ' : KM} {st : St} {a a' : Act} {w w' : World} {live : Nat → Bool} {tk : Nat}

theorem getB_mem : ∀ {l : List (Nat × List PV)} {id : Nat} {c : List PV}, getB l id = some c → id ∈ l.map (·.1)
  | [], _, _, h => by simp [getB] at h
  | (i, d) :: r, id, c, h => by
    simp only [getB] at h
    split at h
    · rename_i e; simp [e]
    · have := getB_mem h; simp at this ⊢; exact .inr this

theorem getB_setB : ∀ (l : List (Nat × List PV)) (id j : Nat) (d : List PV), getB (setB l id d) j = if j = id then (getB l id).map (fun _ => d) else getB l j
  | [], id, j, d => by simp [setB, getB]
  | (i, c) :: r, id, j, d => by
    simp only [setB]
    by_cases e : i = id
    · rw [if_pos e]
      by_cases e2 : j = id
      · rw [if_pos e2]; simp [getB, e, e2]
      · rw [if_neg e2]
        simp only [getB]
        rw [if_neg (by omega), if_neg (by omega)]
    · rw [if_neg e]
      simp only [getB]
      rw [getB_setB r id j d]
      by_cases e2 : j = id
      · rw [if_neg (by omega), if_pos e2, if_pos e2, if_neg e]
      · rw [if_neg e2, if_neg e2]

theorem setB_ids : ∀ (l : List (Nat × List PV)) (id : Nat) (d : List PV), (setB l id d).map (·.1) = l.map (·.1)
  | [], _, _ => rfl
  | (i, c) :: r, id, d => by
    simp only [setB]
    split
    · simp
    · simp [setB_ids r id d]

theorem getB_drop : ∀ (l : List (Nat × List PV)) (k id : Nat) (c : List PV), (l.map (·.1)).Nodup → getB (l.drop k) id = some c → getB l id = some c
  | l, 0, _, _, _, h => by simpa using h
  | [], _ + 1, _, _, _, h => by simp [getB] at h
  | (i, d) :: r, k + 1, id, c, hn, h => by
    simp only [List.drop_succ_cons] at h
    simp only [List.map_cons, List.nodup_cons] at hn
    have h1 := getB_drop r k id c hn.2 h
    simp only [getB]
    rw [if_neg (fun e => hn.1 (by rw [e]; exact getB_mem h1))]
    exact h1

theorem ldS_runs (hR : Rel G L κ0 w0 κ st a w) {T : TypeId} {i : TypeInfo} (hi : P.info? T = some i) (hd : (P.underlying T).isSome = true) {id off : Nat} {va : Value}
    (hp : OpRep κ w st.ef.live st.ef.tk (.sp id off) va) {cs : List PV} (hg : getB st.ef.sh.boxes id = some cs) (hm : isMd cs = false) {q : PV} (h : cut cs off (if aggT P T then i.size else 1) (aggT P T) = some q) :
    ∃ v, (Instr.loadAt T va).run P w = .ok v w ∧ OpRep κ w st.ef.live st.ef.tk q v := by
  obtain ⟨d, hd⟩ := Option.isSome_iff_exists.1 hd
  obtain ⟨b, o, hb1, hb3, hb0⟩ := hR.mem.box id cs hg
  obtain ⟨T', arr, rfl, hb4⟩ := hb0.cells hm
  obtain ⟨b', hva, hk'⟩ := hp.sp_inv
  have : b' = b := hR.mem.inj _ _ _ hk' hb1
  subst this
  obtain ⟨h0, h1, h2⟩ := cut_rep (hb4.tok (live := st.ef.live) (tk := st.ef.tk)) h
  have hs := hb4.1
  have hrun := run_loadVar_known (P := P) (w := w) T hi hd b' off (fun j => arr.getD (off + j) undef) (fun j hj => by
    have hlt : off + j < arr.size := by omega
    simp [World.cell?, hb3, hlt])
  refine ⟨if aggT P T then .agg ((List.range i.size).map fun j => arr.getD (off + j) undef).toArray else arr.getD (off + 0) undef, ?_, ?_⟩
  · rw [hva]
    simpa [Instr.loadAt, Instr.sureAddr] using hrun
  · cases hg : aggT P T with
    | true =>
      simp only [hg, if_true] at h0 h1 ⊢
      have e : arr.extract off (off + i.size) = ((List.range i.size).map fun j => arr.getD (off + j) undef).toArray := by
        apply Array.ext
        · simp; omega
        · intro j hj hj'
          have : off + j < arr.size := by simp at hj; omega
          simp [this]
      rw [← e]
      exact h1 trivial
    | false =>
      simp only [hg, Bool.false_eq_true, if_false] at h2 ⊢
      exact (h2 trivial).2

theorem stS_runs (hR : Rel G L κ0 w0 κ st a w) {T : TypeId} {i : TypeInfo} (hi : P.info? T = some i) {id off : Nat} {x : PV} {va vx : Value}
    (hp : OpRep κ w st.ef.live st.ef.tk (.sp id off) va) (hx : OpRep κ w st.ef.live st.ef.tk x vx) {cs vs : List PV} (hg : getB st.ef.sh.boxes id = some cs) (hm : isMd cs = false) (hcells : cells0 x = some vs)
    (hvl : vs.length = i.size) (hle : off + i.size ≤ cs.length) :
    ∃ w', (Instr.storeAt T va vx).run P w = .ok () w' ∧ Rel G L κ0 w0 κ ⟨st.regs, { st.ef with sh := { st.ef.sh with boxes := setB st.ef.sh.boxes id (splice cs off vs) } }⟩ a w' := by
  obtain ⟨b, o, hb2, hb3, hb0⟩ := hR.mem.box id cs hg
  obtain ⟨T', arr, rfl, hb4⟩ := hb0.cells hm
  obtain ⟨b', hva, hk'⟩ := hp.sp_inv
  have : b' = b := hR.mem.inj _ _ _ hk' hb2
  subst this
  have hxs := cells0_rep hx hcells
  have hnot : ∀ c n, foot κ c n → c ≠ b' := by
    intro c n hf e
    subst e
    simp [foot, hb2] at hf
  have hother : ∀ c, c ≠ b' → (w.setRow b' (arr.toList.take off ++ vx.cells.toList ++ arr.toList.drop (off + vx.cells.toList.length)).toArray).heap[c]? = w.heap[c]? :=
    fun c hc => setRow_other w b' c _ hc
  have hsz : vx.cells.size = i.size := by rw [hxs.1, hvl]
  have hrun := run_storeCells_at P b' off T' vx.cells.toList 0 arr w hb3 (by have := hb4.1; simp; omega) hxs.one
  have k : Keep κ w st.ef.live st.ef.tk κ (w.setRow b' (arr.toList.take off ++ vx.cells.toList ++ arr.toList.drop (off + vx.cells.toList.length)).toArray) st.ef.live st.ef.tk := by
    refine ⟨⟨fun _ _ h => h, fun _ _ h => h, fun c o n hf _ => World.cell?_of_block (hother c (hnot c n hf))⟩, fun _ _ _ h => h, fun c t h _ _ hk => ⟨hk, hother c (fun e => ?_)⟩, fun _ _ h => h, Nat.le_refl _⟩
    subst e
    rw [hb2] at hk
    cases hk
  refine ⟨_, ?_, hR.upd k ⟨rfl, rfl, rfl⟩ ?_ rfl rfl hR.defers ?_ (fun _ _ => Nat.le_refl _) ?_ (fun _ h => h) (fun _ _ _ h => h) hR.tok hR.tki ?_ (fun _ _ => rfl) ?_⟩
  · rw [hva]
    have hci : P.cellsOf T = i.size := by simp [Program.cellsOf, hi]
    simp only [Nat.add_zero] at hrun
    simp [Instr.storeAt, Instr.sureAddr, storeVar, run_sizeOf w hi, hci, hsz, hrun]
  · simp
  · intro j hj
    refine (hR.reg j hj).keep k fun c g' hk => hother c fun ec => ?_
    subst ec
    rw [hb2] at hk
    cases hk
  · refine ⟨fun j ds hj => ?_, hR.mem.inj, hR.mem.lt, by rw [setB_ids]; exact hR.mem.nd⟩
    rw [getB_setB] at hj
    by_cases e : j = id
    · rw [if_pos e, hg] at hj
      cases hj
      subst e
      exact ⟨b', _, hb2, setRow_heap w b' arr _ T' _ hb3, .inl ⟨T', _, rfl, (hb4.row hxs (by omega)).mono k.mono⟩⟩
    · rw [if_neg e] at hj
      obtain ⟨c, o2, h1, h2, h3⟩ := hR.mem.box j ds hj
      have hne : c ≠ b' := by
        intro ec
        subst ec
        rw [hb2] at h1
        cases h1
        exact e rfl
      exact ⟨c, o2, h1, (hother c hne).trans h2, h3.mono k.mono⟩
  · intro c hc
    rw [size_setRow] at hc
    exact hR.new c hc
  · intro c hc hs
    refine hother c fun ec => ?_
    subst ec
    have := hR.keep c hc
    rw [hb2] at this
    exact hs id this.symm

/-- A new box. -/
theorem Rel.newBoxS (hR : Rel G L κ0 w0 κ st a w) {cs : List PV} (o : Obj) (hc : BoxObj κ w cs o) :
    Rel G L κ0 w0 (updK κ w.heap.size (.sb st.ef.sh.nx)) ⟨st.regs, { st.ef with sh := ⟨(st.ef.sh.nx, cs) :: st.ef.sh.boxes, st.ef.sh.nx + 1⟩ }⟩ a (w.alloc o) := by
  have k := keep_alloc (live := st.ef.live) (tk := st.ef.tk) hR.new o (.sb st.ef.sh.nx)
  have lt : ∀ b, κ b ≠ .none → b < w.heap.size := fun b h => Nat.lt_of_not_le fun hle => h (hR.new b hle)
  have back : ∀ b, b ≠ w.heap.size → updK κ w.heap.size (.sb st.ef.sh.nx) b = κ b := fun b h => updK_ne h
  have hbase := hR.base
  · refine hR.upd k ⟨rfl, rfl, rfl⟩ (by simp) rfl rfl hR.defers (fun i hi => (hR.reg i hi).keep k fun b g hk => heap_alloc_lt _ (lt b (by simp [hk]))) (fun _ _ => Nat.le_refl _) ?_ ?_ ?_ ?_ hR.tki ?_ ?_ ?_
    · refine ⟨fun id ds hg => ?_, fun b b' id h1 h2 => ?_, fun b id h1 => ?_, ?_⟩
      · simp only [getB] at hg
        split at hg
        · rename_i e
          cases hg
          refine ⟨w.heap.size, o, by rw [updK_eq, e], ?_, hc.mono k.mono⟩
          show (w.heap.push _)[w.heap.size]? = _
          simp
        · obtain ⟨b, o2, h1, h2, h3⟩ := hR.mem.box id ds hg
          have := lt b (by simp [h1])
          exact ⟨b, o2, by rw [back b (by omega)]; exact h1, (heap_alloc_lt _ this).trans h2, h3.mono k.mono⟩
      · by_cases e : b = w.heap.size
        · by_cases e' : b' = w.heap.size
          · omega
          · rw [e, updK_eq] at h1; rw [back _ e'] at h2; cases h1
            have := hR.mem.lt b' _ h2; omega
        · by_cases e' : b' = w.heap.size
          · rw [e', updK_eq] at h2; rw [back _ e] at h1; cases h2
            have := hR.mem.lt b _ h1; omega
          · rw [back _ e] at h1; rw [back _ e'] at h2; exact hR.mem.inj b b' id h1 h2
      · by_cases e : b = w.heap.size
        · rw [e, updK_eq] at h1; cases h1; simp
        · rw [back _ e] at h1; have := hR.mem.lt b id h1; simp only; omega
      · simp only [List.map_cons, List.nodup_cons]
        refine ⟨fun hm => ?_, hR.mem.nd⟩
        have : ∀ (l : List (Nat × List PV)) (id : Nat), id ∈ l.map (·.1) → ∃ c, getB l id = some c := by
          intro l
          induction l with
          | nil => intro id h; simp at h
          | cons x r ih =>
            intro id h
            simp only [getB]
            by_cases e : x.1 = id
            · exact ⟨x.2, by rw [if_pos e]⟩
            · rw [if_neg e]
              refine ih id ?_
              simp at h ⊢
              rcases h with h | h
              · exact absurd h.symm e
              · exact h
        obtain ⟨c, hcc⟩ := this _ _ hm
        obtain ⟨b, _, h1, _, _⟩ := hR.mem.box _ _ hcc
        have := hR.mem.lt b _ h1
        omega
    · intro b hb; rw [back b (by have := lt b (by simp [hb]); omega)]; exact hb
    · intro b s g h1
      by_cases e : b = w.heap.size
      · rw [e, updK_eq] at h1; cases h1
      · rw [back _ e] at h1; exact h1
    · intro b t h h1
      by_cases e : b = w.heap.size
      · rw [e, updK_eq] at h1; cases h1
      · rw [back _ e] at h1; exact hR.tok b t h h1
    · intro b hb
      rw [World.size_alloc] at hb
      rw [back b (by omega)]
      exact hR.new b (by omega)
    · intro b hb; exact back b (by omega)
    · intro b hb _; exact heap_alloc_lt _ (by omega)
theorem Rel.newShared (hR : Rel G L κ0 w0 κ st a w) {cs : List PV} {arr : Array Value} (T : TypeId) (hc : CellsRep κ w cs arr) {d : Option Nat} (hd : ∀ t, d = some t → L.contains t = false) :
    Rel G L κ0 w0 (updK κ w.heap.size (.sb st.ef.sh.nx)) ⟨putD st.regs d (.sp st.ef.sh.nx 0), { st.ef with sh := ⟨(st.ef.sh.nx, cs) :: st.ef.sh.boxes, st.ef.sh.nx + 1⟩ }⟩
      (a.put d (.pointer (some ⟨w.heap.size, 0, none⟩))) (w.alloc (.cells arr T)) :=
  (hR.newBoxS (.cells arr T) (.inl ⟨T, arr, rfl, hc⟩)).put ⟨trivial, .inl ⟨.sp _ _ _ updK_eq, trivial⟩⟩ hd
theorem Rel.newMap (hR : Rel G L κ0 w0 κ st a w) {d : Option Nat} (hd : ∀ t, d = some t → L.contains t = false) :
    Rel G L κ0 w0 (updK κ w.heap.size (.sb st.ef.sh.nx)) ⟨putD st.regs d (.mp st.ef.sh.nx), { st.ef with sh := ⟨(st.ef.sh.nx, [.md [] []]) :: st.ef.sh.boxes, st.ef.sh.nx + 1⟩ }⟩
      (a.put d (.map (some w.heap.size))) (w.alloc (.map #[] 0)) :=
  (hR.newBoxS (.map #[] 0) (.inr ⟨[], [], #[], 0, rfl, rfl, rfl, rfl, rfl, List.nodup_nil, fun i hi => absurd hi (Nat.not_lt_zero i)⟩)).put ⟨trivial, .inl ⟨.mp _ _ updK_eq, trivial⟩⟩ hd

theorem OpRep.mp_inv {i : Nat} {x : Value} (h : OpRep κ w live tk (.mp i) x) : ∃ b, x = .map (some b) ∧ κ b = .sb i := by
  obtain ⟨hr, _⟩ := CRep.old h.2 (by simp)
  cases hr with
  | mp _ b hk => exact ⟨b, rfl, hk⟩

theorem kIdx_some : ∀ {ks : List Int} {k : Int} {i : Nat}, kIdx ks k = some i → i < ks.length ∧ ks.getD i 0 = k
  | [], _, _, h => by cases h
  | a :: r, k, i, h => by
    simp only [kIdx] at h
    split at h
    · rename_i e; cases h; exact ⟨by simp, by simp [e]⟩
    · cases hr : kIdx r k with
      | none => rw [hr] at h; cases h
      | some j =>
        rw [hr] at h
        cases h
        obtain ⟨h1, h2⟩ := kIdx_some hr
        exact ⟨by simp; omega, by simpa using h2⟩
theorem kIdx_none : ∀ {ks : List Int} {k : Int}, kIdx ks k = none → k ∉ ks
  | [], _, _ => by simp
  | a :: r, k, h => by
    simp only [kIdx] at h
    split at h
    · cases h
    · rename_i e
      have hr : kIdx r k = none := by
        cases hr : kIdx r k with
        | none => rfl
        | some j => rw [hr] at h; cases h
      simp only [List.mem_cons, not_or]
      exact ⟨e, kIdx_none hr⟩

/-- What the machine finds in a map. -/
theorem findNow_ok (k : Int) : ∀ (l : List MapEntry) (ks : List Int) (n : Nat), l.length = ks.length → (∀ i, i < ks.length → ∃ e, l[i]? = some e ∧ e.key = .int .i64 (ks.getD i 0)) →
    Instr.findNow (.int .i64) (.int .i64 k) l n = some ((kIdx ks k).map fun i => (n + i, ((l[i]?).map (·.val)).getD undef))
  | [], [], n, _, _ => rfl
  | [], _ :: _, _, h, _ => by simp at h
  | _ :: _, [], _, h, _ => by simp at h
  | e :: l, a :: ks, n, h, hk => by
    obtain ⟨e', h1, h2⟩ := hk 0 (by simp)
    simp at h1
    subst h1
    simp only [List.getD_cons_zero] at h2
    have ih := findNow_ok k l ks (n + 1) (by simpa using h) (fun i hi => by
      obtain ⟨x, h3, h4⟩ := hk (i + 1) (by simp; omega)
      exact ⟨x, by simpa using h3, by simpa using h4⟩)
    simp only [Instr.findNow, h2, Instr.sameNow, if_true, kIdx]
    by_cases hka : k = a
    · simp [hka]
    · have hb : (k == a) = false := by simpa using hka
      rw [hb, if_neg hka]
      simp only [ih]
      cases kIdx ks k with
      | none => rfl
      | some i => simp; omega

theorem MapRep.find {ks : List Int} {vs : List PV} {es : Array MapEntry} {clk : Nat} (h : MapRep κ w ks vs es clk) (k : Int) :
    Instr.findNow (.int .i64) (.int .i64 k) es.toList 0 = some ((kIdx ks k).map fun i => (i, ((es[i]?).map (·.val)).getD undef)) := by
  have := findNow_ok k es.toList ks 0 (by simpa using h.1) (fun i hi => by
    obtain ⟨v, h1, _⟩ := h.2.2.2.2 i hi
    exact ⟨_, by simpa using h1, rfl⟩)
  simpa using this

theorem mget_runs (hR : Rel G L κ0 w0 κ st a w) {T K E : TypeId} {i : TypeInfo} {zv : Value} (hT : P.underlying T = some (.map K E)) (hK : P.underlying K = some (.int .i64)) (hi : P.info? E = some i) (hz : i.zero = some zv)
    {z : PV} (hzc : clr (ofVal zv) = some z) {id : Nat} {k : Int} {vm vk : Value} (hm : OpRep κ w st.ef.live st.ef.tk (.mp id) vm) (hk : OpRep κ w st.ef.live st.ef.tk (.v (.int .i64 k)) vk)
    {ks : List Int} {vs : List PV} (hg : getB st.ef.sh.boxes id = some [.md ks vs]) (ok : Bool) :
    ∃ v, (Instr.lookup T vm vk ok).run P w = .ok v w ∧ OpRep κ w st.ef.live st.ef.tk (if ok then .tup [(mGet ks vs k z).1, .v (.bool (mGet ks vs k z).2)] else (mGet ks vs k z).1) v := by
  obtain ⟨b, o, hb1, hb3, hb0⟩ := hR.mem.box id _ hg
  obtain ⟨es, clk, rfl, hb4⟩ := hb0.map
  obtain ⟨b', rfl, hk'⟩ := hm.mp_inv
  obtain rfl : b' = b := hR.mem.inj _ _ _ hk' hb1
  obtain ⟨rfl, _⟩ := hk.v_inv
  have hzr : ValRep κ w z zv := clr_rep (live := st.ef.live) (tk := st.ef.tk) (ofVal_rep zv) hzc
  have hf := run_findKey (P := P) (w := w) hK (hb4.find k)
  have hc : (Instr.checkKey es.isEmpty 10000 K (.int .i64 k)).run P w = .ok () w := run_checkKey (k := .int .i64 k) hK (by rfl) es.isEmpty 9999
  have hzrun := run_zeroValue' (w := w) hi hz
  have hrun : ∃ v f, (Instr.lookup T (.map (some b')) (.int .i64 k) ok).run P w = .ok (if ok then .tuple #[v, .bool f] else v) w ∧ ValRep κ w (mGet ks vs k z).1 v ∧ f = (mGet ks vs k z).2 := by
    cases hx : kIdx ks k with
    | none =>
      rw [hx] at hf
      simp only [Option.map_none] at hf
      refine ⟨zv, false, ?_, by simpa [mGet, hx] using hzr, by simp [mGet, hx]⟩
      simp [Instr.lookup, run_underlying hT, Go.MapKept.run_getObj_map hb3, hc, hf, hzrun, Result.andThen]
    | some j =>
      rw [hx] at hf
      obtain ⟨h1, h2⟩ := kIdx_some hx
      obtain ⟨v, h3, h4⟩ := hb4.2.2.2.2 j h1
      simp only [Option.map_some, h3, Option.getD_some] at hf
      refine ⟨v, true, ?_, by simpa [mGet, hx] using h4, by simp [mGet, hx]⟩
      simp [Instr.lookup, run_underlying hT, Go.MapKept.run_getObj_map hb3, hc, hf, Result.andThen]
  obtain ⟨v, f, h1, h2, h3⟩ := hrun
  refine ⟨_, h1, ?_⟩
  cases ok with
  | false => exact h2.op
  | true =>
    simp only [if_true]
    refine ResRep.op (p := .tup _) ⟨_, rfl, rfl, fun i hi => ?_⟩
    match i, hi with
    | 0, _ => simpa using h2
    | 1, _ => subst h3; exact RepC.v _ rfl

theorem mlen_runs (hR : Rel G L κ0 w0 κ st a w) {ts : Array TypeId} {T K E : TypeId} (h0 : ts[0]? = some T) (hT : P.underlying T = some (.map K E)) (ty : TypeId) {id : Nat} {vm : Value}
    (hm : OpRep κ w st.ef.live st.ef.tk (.mp id) vm) {ks : List Int} {vs : List PV} (hg : getB st.ef.sh.boxes id = some [.md ks vs]) :
    (Builtin.len_ ts ty #[vm]).run P w = .ok (.int .i64 ks.length) w := by
  obtain ⟨b, o, hb1, hb3, hb0⟩ := hR.mem.box id _ hg
  obtain ⟨es, clk, rfl, hb4⟩ := hb0.map
  obtain ⟨b', rfl, hk'⟩ := hm.mp_inv
  obtain rfl : b' = b := hR.mem.inj _ _ _ hk' hb1
  simp [Builtin.len_, h0, run_underlying hT, Go.MapKept.run_getObj_map hb3, Result.andThen, goInt, hb4.1]

theorem mset_runs (hR : Rel G L κ0 w0 κ st a w) {T K E : TypeId} (hT : P.underlying T = some (.map K E)) (hK : P.underlying K = some (.int .i64))
    {id : Nat} {k : Int} {x y : PV} {vm vk vx : Value} (hm : OpRep κ w st.ef.live st.ef.tk (.mp id) vm) (hk : OpRep κ w st.ef.live st.ef.tk (.v (.int .i64 k)) vk) (hx : OpRep κ w st.ef.live st.ef.tk x vx)
    {ks : List Int} {vs : List PV} (hg : getB st.ef.sh.boxes id = some [.md ks vs]) (hy : clr x = some y) :
    ∃ w', (Instr.mapUpdate T vm vk vx).run P w = .ok () w' ∧ Rel G L κ0 w0 κ ⟨st.regs, { st.ef with sh := { st.ef.sh with boxes := setB st.ef.sh.boxes id [mIns ks vs k y] } }⟩ a w' := by
  obtain ⟨b, o, hb2, hb3, hb0⟩ := hR.mem.box id _ hg
  obtain ⟨es, clk, rfl, hb4⟩ := hb0.map
  obtain ⟨b', rfl, hk'⟩ := hm.mp_inv
  obtain rfl : b' = b := hR.mem.inj _ _ _ hk' hb2
  obtain ⟨rfl, _⟩ := hk.v_inv
  have hyr : ValRep κ w y vx := clr_rep hx hy
  have hf := run_findKey (P := P) (w := w) hK (hb4.find k)
  have hc : (Instr.checkKey false 10000 K (.int .i64 k)).run P w = .ok () w := run_checkKey (k := .int .i64 k) hK (by rfl) false 9999
  have key : ∃ es' clk', (Instr.mapUpdate T (.map (some b')) (.int .i64 k) vx).run P w = .ok () { w with heap := w.heap.setIfInBounds b' (.map es' clk') } ∧ ∃ ks' vs', mIns ks vs k y = .md ks' vs' ∧ MapRep κ w ks' vs' es' clk' := by
    obtain ⟨e1, e2, e3, e4, e5⟩ := hb4
    cases hi : kIdx ks k with
    | none =>
      rw [hi] at hf
      simp only [Option.map_none] at hf
      refine ⟨es.push ⟨.int .i64 k, vx, clk⟩, clk + 1, ?_, ks ++ [k], vs ++ [y], by simp [mIns, hi], by simp [e1], by simp [e2], by simp [e3], ?_, fun i hlt => ?_⟩
      · simp [Instr.mapUpdate, run_underlying hT, Go.MapKept.run_getObj_map hb3, hc, hf, Go.MapKept.run_setObj_map _ hb3, Result.andThen]
      · rw [List.nodup_append]
        refine ⟨e4, by simp, fun a ha b hb => ?_⟩
        simp at hb
        subst hb
        intro e
        subst e
        exact kIdx_none hi ha
      · simp only [List.length_append, List.length_singleton] at hlt
        by_cases hl : i < ks.length
        · obtain ⟨v, h1, h2⟩ := e5 i hl
          refine ⟨v, ?_, ?_⟩
          · rw [Array.getElem?_push_lt (by omega)]
            have h1' := h1
            rw [Array.getElem?_eq_getElem (by omega)] at h1'
            rw [h1']
            simp only [List.getD_eq_getElem?_getD]
            rw [List.getElem?_append_left hl]
          · simp only [List.getD_eq_getElem?_getD] at h2 ⊢
            rw [List.getElem?_append_left (by omega)]
            exact h2
        · obtain rfl : i = ks.length := by omega
          refine ⟨vx, ?_, ?_⟩
          · rw [← e1, Array.getElem?_push_size]
            simp [List.getD_eq_getElem?_getD, e1, e3]
          · have : (vs ++ [y]).getD ks.length .un = y := by simp [List.getD_eq_getElem?_getD, ← e2]
            rw [this]
            exact hyr
    | some j =>
      rw [hi] at hf
      obtain ⟨h1, h2⟩ := kIdx_some hi
      obtain ⟨v0, h3, h4⟩ := e5 j h1
      simp only [Option.map_some, h3, Option.getD_some] at hf
      have hstay : (Instr.keyThatStays (.int .i64 k) (.int .i64 k)).run P w = .ok (.int .i64 k) w := by
        simp [Instr.keyThatStays, Instr.sameBits]
      rw [h2] at h3
      refine ⟨es.modify j fun e => { e with key := .int .i64 k, val := vx }, clk, ?_, ks, vs.set j y, by simp [mIns, hi], by simp [e1], by simp [e2], e3, e4, fun i hlt => ?_⟩
      · simp [Instr.mapUpdate, run_underlying hT, Go.MapKept.run_getObj_map hb3, hc, hf, h3, hstay, Go.MapKept.run_setObj_map _ hb3, Result.andThen]
      · by_cases hij : i = j
        · subst hij
          refine ⟨vx, ?_, ?_⟩
          · rw [Array.getElem?_modify, h2]
            simp [h3]
          · have : (vs.set i y).getD i .un = y := by
              have : i < vs.length := by omega
              simp [List.getD_eq_getElem?_getD, this]
            rw [this]
            exact hyr
        · obtain ⟨v, h5, h6⟩ := e5 i hlt
          refine ⟨v, ?_, ?_⟩
          · rw [Array.getElem?_modify, if_neg (by omega)]
            exact h5
          · simp only [List.getD_eq_getElem?_getD] at h6 ⊢
            rw [List.getElem?_set_ne (by omega)]
            exact h6
  obtain ⟨es', clk', hrun, ks', vs', hmi, hmr⟩ := key
  have hlt : b' < w.heap.size := (Array.getElem?_eq_some_iff.1 hb3).1
  have hat : (w.heap.setIfInBounds b' (.map es' clk'))[b']? = some (.map es' clk') := by simp [hlt]
  have hother : ∀ c, c ≠ b' → (w.heap.setIfInBounds b' (.map es' clk'))[c]? = w.heap[c]? := fun c hc => by simp [Ne.symm hc]
  have hnot : ∀ c n, foot κ c n → c ≠ b' := by
    intro c n hf e
    subst e
    simp [foot, hb2] at hf
  have k : Keep κ w st.ef.live st.ef.tk κ { w with heap := w.heap.setIfInBounds b' (.map es' clk') } st.ef.live st.ef.tk := by
    refine ⟨⟨fun _ _ h => h, fun _ _ h => h, fun c o n hf _ => World.cell?_of_block (hother c (hnot c n hf))⟩, fun _ _ _ h => h, fun c t h _ _ hk => ⟨hk, hother c (fun e => ?_)⟩, fun _ _ h => h, Nat.le_refl _⟩
    subst e
    rw [hb2] at hk
    cases hk
  refine ⟨_, hrun, hR.upd k ⟨rfl, rfl, rfl⟩ (by simp) rfl rfl hR.defers ?_ (fun _ _ => Nat.le_refl _) ?_ (fun _ h => h) (fun _ _ _ h => h) hR.tok hR.tki ?_ (fun _ _ => rfl) ?_⟩
  · intro j hj
    refine (hR.reg j hj).keep k fun c g' hk => hother c fun ec => ?_
    subst ec
    rw [hb2] at hk
    cases hk
  · refine ⟨fun j ds hj => ?_, hR.mem.inj, hR.mem.lt, by rw [setB_ids]; exact hR.mem.nd⟩
    rw [getB_setB] at hj
    by_cases e : j = id
    · rw [if_pos e, hg] at hj
      cases hj
      subst e
      exact ⟨b', _, hb2, hat, .inr ⟨ks', vs', es', clk', by rw [hmi], rfl, hmr.mono k.mono⟩⟩
    · rw [if_neg e] at hj
      obtain ⟨c, o2, h1, h2, h3⟩ := hR.mem.box j ds hj
      have hne : c ≠ b' := by
        intro ec
        subst ec
        rw [hb2] at h1
        cases h1
        exact e rfl
      exact ⟨c, o2, h1, (hother c hne).trans h2, h3.mono k.mono⟩
  · intro c hc
    have hs : ({ w with heap := w.heap.setIfInBounds b' (.map es' clk') } : World).heap.size = w.heap.size := by simp
    rw [hs] at hc
    exact hR.new c hc
  · intro c hc hs
    refine hother c fun ec => ?_
    subst ec
    have := hR.keep c hc
    rw [hb2] at this
    exact hs id this.symm

/-- What a call owes. -/
structure Pre (G : Glob) (κ : KM) (w : World) (args : List PV) (vals : Array Value) (sh : Sh) : Prop where
  mem : Mem κ sh w
  glob : GlobOK G κ w
  new : ∀ b, w.heap.size ≤ b → κ b = .none
  pl : ∀ b, plainK (κ b)
  size : vals.size = args.length
  arg : ∀ i, i < args.length → ValRep κ w (args.getD i .un) (vals.getD i undef)

structure PostR (G : Glob) (κ : KM) (w : World) (r : PV) (sh' : Sh) (v : Value) (κ' : KM) (w' : World) : Prop where
  res : ResRep κ' w' r v
  mem : Mem κ' sh' w'
  glob : GlobOK G κ' w'
  new : ∀ b, w'.heap.size ≤ b → κ' b = .none
  pl : ∀ b, plainK (κ' b)
  le : w.heap.size ≤ w'.heap.size
  keep : ∀ b, b < w.heap.size → κ' b = κ b
  old : ∀ b, b < w.heap.size → (∀ id, κ b ≠ .sb id) → w'.heap[b]? = w.heap[b]?
  env : Env w w'

def Post (G : Glob) (κ : KM) (w : World) (r : PV) (sh' : Sh) : Ending → World → Prop
  | .returned v, w' => ∃ κ', PostR G κ w r sh' v κ' w'
  | _, _ => False

/-- Calls are what the interpreter says. -/
def CallOK (P : Program) (G : Glob) (call : CallF) : Prop :=
  ∀ f args sh r sh', call f args sh = some (r, sh') →
    (∃ fn, P.funcs[f]? = some fn ∧ (fn.name == "runtime.NumGoroutine") = false ∧ fn.body.isNone = false) ∧
    ∀ κ w vals, Pre G κ w args vals sh → Calls P f vals w (Post G κ w r sh')

/-- Kinds behind a function's end. -/
def resK : Kind → Kind
  | .arr _ h => .frz h
  | .lb _ _ => .imm
  | k => k

theorem foot_res {b n : Nat} (h : foot κ b n) : foot (fun b => resK (κ b)) b n := by
  unfold foot at *
  cases hk : κ b <;> simp [hk, resK] at * <;> exact h

def outK : Kind → Kind
  | .arr _ h => .frz h
  | .lb _ _ => .none
  | k => k

theorem foot_out {b n : Nat} (h : foot κ b n) : foot (fun b => outK (κ b)) b n := by
  unfold foot at *
  cases hk : κ b <;> simp [hk, outK] at * <;> exact h

theorem Rel.callPost (hR : Rel G L κ0 w0 κ st a w) {r : PV} {sh' : Sh} {v : Value} {κ1 : KM} {w' : World} (h : PostR G (fun b => outK (κ b)) w r sh' v κ1 w')
    {d : Option Nat} (hd : ∀ t, d = some t → L.contains t = false) :
    ∃ κ', Rel G L κ0 w0 κ' ⟨putD st.regs d r, { st.ef with sh := sh' }⟩ (a.put d v) w' := by
  have lt : ∀ b, κ b ≠ .none → b < w.heap.size := fun b h => Nat.lt_of_not_le fun hle => h (hR.new b hle)
  let κ2 : KM := fun b => if b < w.heap.size then κ b else κ1 b
  have e1 : ∀ b, b < w.heap.size → κ2 b = κ b := fun b hb => if_pos hb
  have e2 : ∀ b, ¬ b < w.heap.size → κ2 b = κ1 b := fun b hb => if_neg hb
  have hh : ∀ b, b < w.heap.size → (∀ id, κ b ≠ .sb id) → w'.heap[b]? = w.heap[b]? := by
    intro b hb hs
    refine h.old b hb fun id e => ?_
    cases hk : κ b <;> simp [hk, outK] at e
    exact hs id (by rw [hk, e])
  have notsb : ∀ b n, foot κ b n → ∀ id, κ b ≠ .sb id := by
    intro b n hf id e
    simp [foot, e] at hf
  have m12 : Mono κ1 w' κ2 w' := by
    refine ⟨fun b n hf => ?_, fun b id hk => ?_, fun _ _ _ _ _ => rfl⟩
    · by_cases hb : b < w.heap.size
      · have := h.keep b hb
        unfold foot at *
        rw [e1 b hb]
        rw [this] at hf
        cases hk : κ b <;> simp [hk, outK] at hf ⊢ <;> exact hf
      · unfold foot at *; rw [e2 b hb]; exact hf
    · by_cases hb : b < w.heap.size
      · have := h.keep b hb
        rw [e1 b hb]
        rw [this] at hk
        cases hq : κ b <;> simp [hq, outK] at hk
        rw [hk]
      · rw [e2 b hb]; exact hk
  have sb21 : ∀ b id, κ2 b = .sb id → κ1 b = .sb id := by
    intro b id hk
    by_cases hb : b < w.heap.size
    · rw [e1 b hb] at hk
      rw [h.keep b hb, hk]
      rfl
    · rw [e2 b hb] at hk; exact hk
  have k : Keep κ w st.ef.live st.ef.tk κ2 w' st.ef.live st.ef.tk := by
    refine ⟨⟨fun b n hf => ?_, fun b id hk => ?_, fun b o n hf _ => World.cell?_of_block (hh b (lt b (foot_some hf)) (notsb b n hf))⟩, fun b s g hk => ?_, fun b t h _ _ hk => ?_, fun _ _ h => h, Nat.le_refl _⟩
    · have := lt b (foot_some hf)
      unfold foot at *; rw [e1 b this]; exact hf
    · rw [e1 b (lt b (by simp [hk]))]; exact hk
    · rw [e1 b (lt b (by simp [hk]))]; exact hk
    · have hb := lt b (by simp [hk])
      exact ⟨by rw [e1 b hb]; exact hk, hh b hb (by simp [hk])⟩
  have hRx : Rel G L κ0 w0 κ2 ⟨st.regs, { st.ef with sh := sh' }⟩ a w' := by
    refine hR.upd k h.env h.le rfl rfl hR.defers (fun i hi => (hR.reg i hi).keep k fun b g hk => hh b (lt b (by simp [hk])) (by simp [hk])) (fun _ _ => Nat.le_refl _) ?_ ?_ ?_ ?_ hR.tki ?_ ?_ ?_
    · refine ⟨fun id cs hg => ?_, fun b b' id h1 h2 => h.mem.inj b b' id (sb21 _ _ h1) (sb21 _ _ h2), fun b id h1 => h.mem.lt b id (sb21 _ _ h1), h.mem.nd⟩
      obtain ⟨b, o, g1, g2, g3⟩ := h.mem.box id cs hg
      exact ⟨b, o, m12.sb _ _ g1, g2, g3.mono m12⟩
    · intro b hb; rw [e1 b (lt b (by simp [hb]))]; exact hb
    · intro b s g hk
      by_cases hb : b < w.heap.size
      · rw [e1 b hb] at hk; exact hk
      · rw [e2 b hb] at hk; have := h.pl b; rw [hk] at this; exact this.elim
    · intro b t h' hk
      by_cases hb : b < w.heap.size
      · rw [e1 b hb] at hk; exact hR.tok b t h' hk
      · rw [e2 b hb] at hk; have := h.pl b; rw [hk] at this; exact this.elim
    · intro b hb
      have := h.le
      rw [e2 b (by omega)]
      exact h.new b hb
    · intro b hb; exact e1 b (by have := hR.base; omega)
    · intro b hb hs
      refine hh b (by have := hR.base; omega) fun id e => ?_
      rw [hR.keep b hb] at e
      exact hs id e
  exact ⟨κ2, hRx.put ((h.res.mono m12).op) hd⟩

/- A call that no shared box is handed to. -/
def hidK : Kind → Kind
  | .sb _ => .none
  | k => outK k
theorem foot_hid {b n : Nat} (h : foot κ b n) : foot (fun b => hidK (κ b)) b n := by
  unfold foot at *
  cases hk : κ b <;> simp [hk, outK, hidK] at * <;> exact h
theorem npR_get : ∀ {l : List PV}, npR l = true → ∀ i, i < l.length → np (l.getD i .un) = true
  | [], _, i, hi => by simp at hi
  | x :: r, h, i, hi => by
    simp only [npR, Bool.and_eq_true] at h
    cases i with
    | zero => simpa using h.1
    | succ i => simpa using npR_get h.2 i (by simpa using hi)
theorem npRR_get : ∀ {l : List (List PV)}, npRR l = true → ∀ i, i < l.length → npR (l.getD i []) = true
  | [], _, i, hi => by simp at hi
  | x :: r, h, i, hi => by
    simp only [npRR, Bool.and_eq_true] at h
    cases i with
    | zero => simpa using h.1
    | succ i => simpa using npRR_get h.2 i (by simpa using hi)
/-- What is kept of values from which no shared box is reached. -/
theorem RepC.np_mono {κ κ' : KM} {w w' : World} (hf : ∀ b n, foot κ b n → foot κ' b n) (hc : ∀ b o n, foot κ b n → o < n → w'.cell? ⟨b, o, Option.none⟩ = w.cell? ⟨b, o, Option.none⟩) {p : PV} {x : Value} (h : RepC κ w p x) : np p = true → RepC κ' w' p x := by
  induction h with
  | v x h => intro _; exact .v x h
  | nil z a c => intro _; exact .nil z a c
  | sl z rows b o c vs hne hlen hft hce hr hcap ih =>
    intro hn
    simp only [np] at hn
    refine .sl z rows b o c vs hne hlen (hf _ _ hft) ?_ (fun i j hi hj => ih i j hi hj ?_) hcap
    · intro i j hi hj
      rw [hc b _ _ hft (at_lt hi hj o)]
      exact hce i j hi hj
    · have h1 := npRR_get hn i hi
      have h2 : (rows.getD i []).length = z := by
        have hm : rows.getD i [] ∈ rows := by
          rw [List.getD_eq_getElem?_getD, List.getElem?_eq_getElem hi]
          exact List.getElem_mem _
        exact hlen _ hm
      exact npR_get h1 j (by omega)
  | sp id off b h => intro hn; simp [np] at hn
  | mp id b h => intro hn; simp [np] at hn
  | fn f caps arr hl h ih => intro hn; simp [np] at hn
  | ifc t cs arr hl h ih => intro hn; simp [np] at hn
theorem ValRep.np_mono {κ κ' : KM} {w w' : World} (hf : ∀ b n, foot κ b n → foot κ' b n) (hc : ∀ b o n, foot κ b n → o < n → w'.cell? ⟨b, o, Option.none⟩ = w.cell? ⟨b, o, Option.none⟩) {p : PV} {x : Value} (h : ValRep κ w p x) (hn : np p = true) : ValRep κ' w' p x := by
  cases p <;> first
    | exact RepC.np_mono hf hc h hn
    | (obtain ⟨arr, hx, h1, h2⟩ := h
       simp only [np] at hn
       exact ⟨arr, hx, h1, fun i hi => (h2 i hi).np_mono hf hc (npR_get hn i hi)⟩)
theorem ResRep.np_mono {κ κ' : KM} {w w' : World} (hf : ∀ b n, foot κ b n → foot κ' b n) (hc : ∀ b o n, foot κ b n → o < n → w'.cell? ⟨b, o, Option.none⟩ = w.cell? ⟨b, o, Option.none⟩) {p : PV} {x : Value} (h : ResRep κ w p x) (hn : np p = true) : ResRep κ' w' p x := by
  cases p with
  | tup vs =>
    obtain ⟨arr, hx, h1, h2⟩ := h
    simp only [np] at hn
    exact ⟨arr, hx, h1, fun i hi => (h2 i hi).np_mono hf hc (npR_get hn i hi)⟩
  | ag l => exact ValRep.np_mono (p := .ag l) hf hc h hn
  | v y => exact ValRep.np_mono (p := .v y) hf hc h hn
  | sl t z rows => exact ValRep.np_mono (p := .sl t z rows) hf hc h hn
  | _ => simp [np] at hn
theorem Rel.isoPre (hR : Rel G L κ0 w0 κ st a w) {args : List PV} {vals : Array Value} (hn : npR args = true) (hs : vals.size = args.length) (ha : ∀ i, i < args.length → ValRep κ w (args.getD i .un) (vals.getD i undef)) :
    Pre G (fun b => hidK (κ b)) w args vals ⟨[], st.ef.sh.nx⟩ := by
  have hf : ∀ b n, foot κ b n → foot (fun b => hidK (κ b)) b n := fun b n h => foot_hid h
  refine ⟨⟨fun id cs hq => by simp [getB] at hq, fun b b' id h1 _ => ?_, fun b id h1 => ?_, by simp⟩, fun g cs hg => ?_, fun b hb => by simp [hR.new b hb, outK, hidK], fun b => ?_, hs, fun i hi => (ha i hi).np_mono hf (fun _ _ _ _ _ => rfl) (npR_get hn i hi)⟩
  · cases hk : κ b <;> simp [hk, outK, hidK] at h1
  · cases hk : κ b <;> simp [hk, outK, hidK] at h1
  · obtain ⟨h1, h2⟩ := hR.glob g cs hg
    refine ⟨by simp [h1, outK, hidK], fun j hj => ?_⟩
    obtain ⟨x, hx, hr⟩ := h2 j hj
    exact ⟨x, hx, hr.1.np_mono hf (fun _ _ _ _ _ => rfl) hr.2, hr.2⟩
  · cases hk : κ b <;> simp [outK, hidK, plainK]

theorem Rel.isoPost (hR : Rel G L κ0 w0 κ st a w) {r : PV} {nx : Nat} {v : Value} {κ1 : KM} {w' : World} (h : PostR G (fun b => hidK (κ b)) w r ⟨[], nx⟩ v κ1 w') (hnp : np r = true) (hnx : st.ef.sh.nx ≤ nx)
    {d : Option Nat} (hd : ∀ t, d = some t → L.contains t = false) :
    ∃ κ', Rel G L κ0 w0 κ' ⟨putD st.regs d r, { st.ef with sh := ⟨st.ef.sh.boxes, nx⟩ }⟩ (a.put d v) w' := by
  have lt : ∀ b, κ b ≠ .none → b < w.heap.size := fun b h => Nat.lt_of_not_le fun hle => h (hR.new b hle)
  let κ2 : KM := fun b => if b < w.heap.size then κ b else (match κ1 b with | .sb _ => .none | k => k)
  have e1 : ∀ b, b < w.heap.size → κ2 b = κ b := fun b hb => if_pos hb
  have e2 : ∀ b, ¬ b < w.heap.size → κ2 b = (match κ1 b with | .sb _ => .none | k => k) := fun b hb => if_neg hb
  have hh : ∀ b, b < w.heap.size → w'.heap[b]? = w.heap[b]? := by
    intro b hb
    refine h.old b hb fun id e => ?_
    cases hk : κ b <;> simp [hk, outK, hidK] at e
  have hf12 : ∀ b n, foot κ1 b n → foot κ2 b n := by
    intro b n hf
    by_cases hb : b < w.heap.size
    · have := h.keep b hb
      unfold foot at *
      rw [e1 b hb]
      rw [this] at hf
      cases hk : κ b <;> simp [hk, outK, hidK] at hf ⊢ <;> exact hf
    · unfold foot at *
      rw [e2 b hb]
      cases hk : κ1 b <;> simp [hk] at hf ⊢ <;> exact hf
  have sb2 : ∀ b id, κ2 b = .sb id → κ b = .sb id := by
    intro b id hk
    by_cases hb : b < w.heap.size
    · rw [e1 b hb] at hk; exact hk
    · rw [e2 b hb] at hk
      cases hq : κ1 b <;> simp [hq] at hk
  have k : Keep κ w st.ef.live st.ef.tk κ2 w' st.ef.live st.ef.tk := by
    refine ⟨⟨fun b n hf => ?_, fun b id hk => ?_, fun b o n hf _ => World.cell?_of_block (hh b (lt b (foot_some hf)))⟩, fun b s g hk => ?_, fun b t h _ _ hk => ?_, fun _ _ h => h, Nat.le_refl _⟩
    · have := lt b (foot_some hf)
      unfold foot at *; rw [e1 b this]; exact hf
    · rw [e1 b (lt b (by simp [hk]))]; exact hk
    · rw [e1 b (lt b (by simp [hk]))]; exact hk
    · have hb := lt b (by simp [hk])
      exact ⟨by rw [e1 b hb]; exact hk, hh b hb⟩
  have hRx : Rel G L κ0 w0 κ2 ⟨st.regs, { st.ef with sh := ⟨st.ef.sh.boxes, nx⟩ }⟩ a w' := by
    refine hR.upd k h.env h.le rfl rfl hR.defers (fun i hi => (hR.reg i hi).keep k fun b g hk => hh b (lt b (by simp [hk]))) (fun _ _ => Nat.le_refl _) ?_ ?_ ?_ ?_ hR.tki ?_ ?_ ?_
    · refine ⟨fun id cs hg => ?_, fun b b' id h1 h2 => hR.mem.inj b b' id (sb2 _ _ h1) (sb2 _ _ h2), fun b id h1 => Nat.lt_of_lt_of_le (hR.mem.lt b id (sb2 _ _ h1)) hnx, hR.mem.nd⟩
      obtain ⟨b, o, g1, g2, g3⟩ := hR.mem.box id cs hg
      have hb := lt b (by simp [g1])
      exact ⟨b, o, by rw [e1 b hb]; exact g1, (hh b hb).trans g2, g3.mono k.mono⟩
    · intro b hb; rw [e1 b (lt b (by simp [hb]))]; exact hb
    · intro b s g hk
      by_cases hb : b < w.heap.size
      · rw [e1 b hb] at hk; exact hk
      · rw [e2 b hb] at hk; have := h.pl b; cases hq : κ1 b <;> simp [hq, plainK] at hk this
    · intro b t h' hk
      by_cases hb : b < w.heap.size
      · rw [e1 b hb] at hk; exact hR.tok b t h' hk
      · rw [e2 b hb] at hk; have := h.pl b; cases hq : κ1 b <;> simp [hq, plainK] at hk this
    · intro b hb
      have := h.le
      rw [e2 b (by omega), h.new b hb]
    · intro b hb; exact e1 b (by have := hR.base; omega)
    · intro b hb hs
      exact hh b (by have := hR.base; omega)
  exact ⟨κ2, hRx.put ((h.res.np_mono hf12 (fun _ _ _ _ _ => rfl) hnp).op) hd⟩

theorem Rel.callPre (hR : Rel G L κ0 w0 κ st a w) {args : List PV} {vals : Array Value} (hs : vals.size = args.length) (ha : ∀ i, i < args.length → ValRep κ w (args.getD i .un) (vals.getD i undef)) :
    Pre G (fun b => outK (κ b)) w args vals st.ef.sh := by
  have m : Mono κ w (fun b => outK (κ b)) w := ⟨fun b n h => foot_out h, fun b id h => by simp [h, outK], fun _ _ _ _ _ => rfl⟩
  refine ⟨hR.mem.mono m (fun b id h => ?_) (fun _ _ _ => rfl), hR.glob.mono m (fun b h => by simp [h, outK]), fun b hb => by simp [hR.new b hb, outK], fun b => ?_, hs, fun i hi => (ha i hi).mono m⟩
  · cases hk : κ b <;> simp [hk, outK] at h ⊢; exact h
  · cases hk : κ b <;> simp [outK, plainK]

end
end Go.Pi

/- One operation: the machine does what the interpreter says. -/
namespace Go.Pi
open Go
open PV (genOf asSrc clrC clrs clr clrAll cellsT cells0)

section
variable {P : Program} {call : CallF} {G : Glob} {L : Lst} {κ0 : KM} {w0 : World} {κ : KM} {st : St} {a : Act} {w : World} {live : Nat → Bool} {tk : Nat} {S : Operand → PV} {ρ : Operand → Value}

theorem clrAll_spec : ∀ {l m : List PV}, clrAll l = some m → m.length = l.length ∧ ∀ i, i < l.length → clr (l.getD i .un) = some (m.getD i .un)
  | [], m, h => by simp [clrAll] at h; subst h; exact ⟨rfl, fun i hi => by simp at hi⟩
  | x :: r, m, h => by
    simp only [clrAll] at h
    split at h
    · rename_i y l' hy hl
      cases h
      obtain ⟨h1, h2⟩ := clrAll_spec hl
      refine ⟨by simp [h1], fun i hi => ?_⟩
      cases i with
      | zero => simpa using hy
      | succ i => simpa using h2 i (by simpa using hi)
    · cases h

theorem args_rep (hS : ∀ x, OpRep κ w live tk (S x) (ρ x)) {args : Array Operand} {ys : List PV} (h : clrAll (args.toList.map S) = some ys) :
    (args.map ρ).size = ys.length ∧ ∀ i, i < ys.length → ValRep κ w (ys.getD i .un) ((args.map ρ).getD i undef) := by
  obtain ⟨h1, h2⟩ := clrAll_spec h
  have hl : ys.length = args.size := by rw [h1]; simp
  refine ⟨by simp [hl], fun i hi => ?_⟩
  have hi' : i < args.toList.length := by simp; omega
  have := h2 i (by simpa using hi')
  rw [getD_map' S _ i PV.un (.func 0) hi'] at this
  have e : (args.map ρ).getD i undef = ρ (args.toList.getD i (.func 0)) := by
    have hi2 : i < args.size := by simpa using hi'
    simp [hi2, List.getD_eq_getElem?_getD]
  rw [e]
  exact clr_rep (hS _) this

/-- An operation that yields a value. -/
theorem wp_yield {o : Oper} {v : Value} {w' : World} {K : Act → World → Prop} {Q : Exit → Act → World → Prop} (hr : (execOp a.eval o).run P w = .ok (.value v) w') (hk : K (a.put o.dst v) w') : o.wp P a w K Q := by
  simp only [Oper.wp, hr, Oper.upon]
  exact hk

theorem wp_skipped {o : Oper} {w' : World} {K : Act → World → Prop} {Q : Exit → Act → World → Prop} (hr : (execOp a.eval o).run P w = .ok .skip w') (hk : K (a.put o.dst undef) w') : o.wp P a w K Q := by
  simp only [Oper.wp, hr, Oper.upon]
  exact hk

theorem wp_entered {o : Oper} {f : FuncId} {args : Array Value} {w' : World} {K : Act → World → Prop} {Q : Exit → Act → World → Prop} {R : Value → World → Prop}
    (hr : (execOp a.eval o).run P w = .ok (.enter f args) w') (hc : Calls P f args w' fun | .returned v, w'' => R v w'' | _, _ => False) (hk : ∀ v w'', R v w'' → K (a.put o.dst v) w'') : o.wp P a w K Q := by
  simp only [Oper.wp, hr, Oper.upon]
  refine hc.mono fun e w'' h => ?_
  cases e with
  | returned v => exact hk v w'' h
  | panicked c => exact h.elim
  | outgrown => exact h.elim

/-- A call, by what is owed of it. -/
theorem wp_call (hcall : CallOK P G call) (hR : Rel G L κ0 w0 κ st a w) {o : Oper} {f : FuncId} {ys : List PV} {vals : Array Value} {r : PV} {sh' : Sh} (hc : call f ys st.ef.sh = some (r, sh'))
    (hs : vals.size = ys.length) (ha : ∀ i, i < ys.length → ValRep κ w (ys.getD i .un) (vals.getD i undef))
    (hrun : ∀ fn, P.funcs[f]? = some fn → (fn.name == "runtime.NumGoroutine") = false → fn.body.isNone = false → (execOp a.eval o).run P w = .ok (.enter f vals) w)
    (hd : ∀ t, o.dst = some t → L.contains t = false) {K : Act → World → Prop} {Q : Exit → Act → World → Prop}
    (hk : ∀ κ' a' w', Rel G L κ0 w0 κ' ⟨putD st.regs o.dst r, { st.ef with sh := sh' }⟩ a' w' → K a' w') : o.wp P a w K Q := by
  obtain ⟨⟨fn, h1, h2, h3⟩, h4⟩ := hcall f ys st.ef.sh r sh' hc
  refine wp_entered (hrun fn h1 h2 h3) (R := fun v w' => ∃ κ', PostR G (fun b => outK (κ b)) w r sh' v κ' w') ((h4 _ w vals (hR.callPre hs ha)).mono fun e w' h => ?_) fun v w' ⟨κ', h⟩ => ?_
  · cases e with
    | returned v => exact h
    | panicked c => exact h
    | outgrown => exact h
  · obtain ⟨κ2, hR2⟩ := hR.callPost h hd
    exact hk _ _ _ hR2

/-- A call that no shared box is handed to, by what is owed of it. -/
theorem wp_callI (hcall : CallOK P G call) (hR : Rel G L κ0 w0 κ st a w) {o : Oper} {f : FuncId} {ys : List PV} {vals : Array Value} {r : PV} {nx : Nat} (hc : call f ys ⟨[], st.ef.sh.nx⟩ = some (r, ⟨[], nx⟩)) (hny : npR ys = true) (hnr : np r = true) (hnx : st.ef.sh.nx ≤ nx)
    (hs : vals.size = ys.length) (ha : ∀ i, i < ys.length → ValRep κ w (ys.getD i .un) (vals.getD i undef))
    (hrun : ∀ fn, P.funcs[f]? = some fn → (fn.name == "runtime.NumGoroutine") = false → fn.body.isNone = false → (execOp a.eval o).run P w = .ok (.enter f vals) w)
    (hd : ∀ t, o.dst = some t → L.contains t = false) {K : Act → World → Prop} {Q : Exit → Act → World → Prop}
    (hk : ∀ κ' a' w', Rel G L κ0 w0 κ' ⟨putD st.regs o.dst r, { st.ef with sh := ⟨st.ef.sh.boxes, nx⟩ }⟩ a' w' → K a' w') : o.wp P a w K Q := by
  obtain ⟨⟨fn, h1, h2, h3⟩, h4⟩ := hcall f ys _ r _ hc
  refine wp_entered (hrun fn h1 h2 h3) (R := fun v w' => ∃ κ', PostR G (fun b => hidK (κ b)) w r ⟨[], nx⟩ v κ' w') ((h4 _ w vals (hR.isoPre hny hs ha)).mono fun e w' h => ?_) fun v w' ⟨κ', h⟩ => ?_
  · cases e with
    | returned v => exact h
    | panicked c => exact h
    | outgrown => exact h
  · obtain ⟨κ2, hR2⟩ := hR.isoPost h hnr hnx hd
    exact hk _ _ _ hR2

theorem callFunc_run {f : FuncId} {fn : Func} (h1 : P.funcs[f]? = some fn) (h2 : (fn.name == "runtime.NumGoroutine") = false) (h3 : fn.body.isNone = false) (args : Array Value) :
    (callFunc f args).run P w = .ok (.enter f args) w := by
  have h2' : ¬ fn.name = "runtime.NumGoroutine" := by simpa using h2
  have h3' : ¬ fn.body = none := by intro e; simp [e] at h3
  simp [callFunc, h1, h2', h3']


/-- What is known of a compiled operation. -/
theorem compI_inv {ops prev : List Oper} {o : Oper} {i : PI} (h : compI P L ops prev o = some i) :
    ∃ k rs r g, compOp P L prev o.dst o.op = some (k, rs, r) ∧ guardOf ops o.guard = some g ∧ i = ⟨k, rs, o.dst, r, g⟩ ∧
      (k.boxes = false → ∀ t, o.dst = some t → L.contains t = false) ∧ (k.boxes = true → ∃ t, o.dst = some t ∧ L.contains t = true) ∧
      (∀ n, k = .stL n → ∃ s, r = some s ∧ L.contains s = true ∧ o.dst = none) ∧ (∀ n g, k = .ldL n g → r.isSome = true) ∧ ((∀ n, k ≠ .stL n) → (∀ n g, k ≠ .ldL n g) → r = none) ∧ (∀ n, k = .stS n → o.dst = none) := by
  unfold compI at h
  split at h
  · rename_i k rs r g hk hg
    split at h
    · rename_i hc
      cases h
      simp only [compOk, Bool.and_eq_true] at hc
      obtain ⟨hc1, hc2⟩ := hc
      refine ⟨k, rs, r, g, hk, hg, rfl, ?_, ?_, ?_, ?_, ?_, ?_⟩
      · intro hb t ht
        simpa [dstOk, ht, hb] using hc1
      · intro hb
        cases hd : o.dst with
        | none => simp [dstOk, hd, hb] at hc1
        | some d => exact ⟨d, rfl, by simpa [dstOk, hd, hb] using hc1⟩
      · intro n e
        subst e
        cases r with
        | none => simp [boxOk] at hc2
        | some s => simp [boxOk] at hc2; exact ⟨s, rfl, by simpa using hc2.1, hc2.2⟩
      · intro n g e
        subst e
        cases r with
        | none => simp [boxOk] at hc2
        | some s => rfl
      · intro h1 h2
        cases r with
        | none => rfl
        | some s =>
          cases k <;> simp [boxOk] at hc2
          · exact absurd rfl (h2 _ _)
          · exact absurd rfl (h1 _)
      · intro n e
        subst e
        cases r with
        | none => simpa [boxOk] using hc2
        | some s => simp [boxOk] at hc2
    · cases h
  · cases h

end
end Go.Pi

/- One operation, whichever it is. -/
namespace Go.Pi
open Go
open PV (genOf asSrc clrC clrs clr clrAll cellsT cells0)

section
variable {P : Program} {call : CallF} {G : Glob} {L : Lst} {κ0 : KM} {w0 : World} {κ : KM} {st : St} {a : Act} {w : World}

theorem act_plain {k : PK} {rs : List Src} {d : Nat} {g : Option (Nat × Bool)} {get : Nat → PV} {e e' : Eff} {x : PV} (hk : k.eff = false) (hl : ∀ n b, k ≠ .ldL n b) (hs : ∀ n, k ≠ .stL n)
    (h : act call G ⟨k, rs, some d, none, g⟩ get e = some (x, e')) : e' = e ∧ evalP k (get d) (rs.map (src G get)) = some x := by
  simp only [act, hk] at h
  cases k <;> first
    | (exact absurd rfl (hl _ _))
    | (exact absurd rfl (hs _))
    | (simp at h
       split at h
       · rename_i y hy; simp at h; exact ⟨h.2.symm, by rw [hy, h.1]⟩
       · cases h)

theorem act_plain_none {k : PK} {rs : List Src} {g : Option (Nat × Bool)} {get : Nat → PV} {e e' : Eff} {x : PV} (hk : k.eff = false) (hl : ∀ n b, k ≠ .ldL n b) (hs : ∀ n, k ≠ .stL n)
    (h : act call G ⟨k, rs, none, none, g⟩ get e = some (x, e')) : False := by
  simp only [act, hk] at h
  cases k <;> first
    | (exact absurd rfl (hl _ _))
    | (exact absurd rfl (hs _))
    | (simp at h)

theorem RepC.val {p : PV} {x : Value} (h : RepC κ w p x) : ValRep κ w p x := by
  cases p <;> first | exact h | cases h

theorem opt_srcs (get : Nat → PV) (o : Option Operand) : (optSrc o).map (src G get) = o.toList.map fun x => src G get (toSrc x) := by
  cases o <;> rfl


theorem op_act (hcall : CallOK P G call) (hR : Rel G L κ0 w0 κ st a w) {ops prev : List Oper} {o : Oper} {i : PI} (hc : compI P L ops prev o = some i) {x : PV} {e : Eff}
    (ha : act call G i (fun t => st.regs.getD t .un) st.ef = some (x, e)) {K : Act → World → Prop} {Q : Exit → Act → World → Prop}
    (hK : ∀ κ' a' w', Rel G L κ0 w0 κ' ⟨putD st.regs i.target x, e⟩ a' w' → K a' w') : o.wp P a w K Q := by
  obtain ⟨k, rs, r, g, hk, hg, rfl, hnb, hbx, hst, hld, hr, hss⟩ := compI_inv hc
  have hS : ∀ x, OpRep κ w st.ef.live st.ef.tk ((fun x => src G (fun t => st.regs.getD t .un) (toSrc x)) x) (a.eval x) := fun x => src_rep hR x
  have val : k.eff = false → (∀ n b, k ≠ .ldL n b) → (∀ n, k ≠ .stL n) → k.boxes = false →
      (∀ old, evalP k old (rs.map (src G fun t => st.regs.getD t .un)) = some x → ∃ v, (execOp a.eval o).run P w = .ok (.value v) w ∧ OpRep κ w st.ef.live st.ef.tk x v) → o.wp P a w K Q := by
    intro h1 h2 h3 h4 h5
    have hrn := hr h3 h2
    subst hrn
    cases hd : o.dst with
    | none => rw [hd] at ha; exact (act_plain_none h1 h2 h3 ha).elim
    | some d =>
      rw [hd] at ha
      obtain ⟨he, hev⟩ := act_plain h1 h2 h3 ha
      obtain ⟨v, hrun, hrep⟩ := h5 _ hev
      refine wp_yield hrun (hK κ _ _ ?_)
      have := hR.put (d := o.dst) hrep (hnb h4)
      subst he
      have et : (⟨k, rs, o.dst, none, g⟩ : PI).target = o.dst := by
        cases k <;> first | rfl | exact absurd rfl (h3 _)
      rw [et]
      exact this
  have v1 : ∀ (s : Sem Value) (p : PV), execOp a.eval o = (do pure (.value (← s)) : Sem Next) → (∃ v, s.run P w = .ok v w ∧ OpRep κ w st.ef.live st.ef.tk p v) →
      ∃ v, (execOp a.eval o).run P w = .ok (.value v) w ∧ OpRep κ w st.ef.live st.ef.tk p v := by
    intro s p he ⟨v, h1, h2⟩
    exact ⟨v, by rw [he]; simp [h1], h2⟩
  generalize hop : o.op = op at hk
  cases op with
  | move y =>
    simp only [compOp, Option.some.injEq, Prod.mk.injEq] at hk
    obtain ⟨rfl, rfl, rfl⟩ := hk
    refine val rfl (by simp) (by simp) rfl fun old h => ?_
    have := mv_yields (P := P) hS y h
    simpa [execOp, hop] using this
  | assign y =>
    simp only [compOp, Option.some.injEq, Prod.mk.injEq] at hk
    obtain ⟨rfl, rfl, rfl⟩ := hk
    refine val rfl (by simp) (by simp) rfl fun old h => ?_
    have := mv_yields (P := P) hS y h
    simpa [execOp, hop] using this
  | pick c y z =>
    simp only [compOp, Option.some.injEq, Prod.mk.injEq] at hk
    obtain ⟨rfl, rfl, rfl⟩ := hk
    refine val rfl (by simp) (by simp) rfl fun old h => ?_
    have := pick_yields (P := P) hS c y z h
    simp only [execOp, hop]
    exact this
  | nilCheck y =>
    simp only [compOp, Option.some.injEq, Prod.mk.injEq] at hk
    obtain ⟨rfl, rfl, rfl⟩ := hk
    refine val rfl (by simp) (by simp) rfl fun old h => nilck_yields (P := P) hS y h o hop
  | binOp op T y z T2 =>
    simp only [compOp] at hk
    split at hk
    · rename_i hT
      simp only [Option.some.injEq, Prod.mk.injEq] at hk
      obtain ⟨rfl, rfl, rfl⟩ := hk
      refine val rfl (by simp) (by simp) rfl fun old h => v1 _ _ (by simp only [execOp, hop] <;> rfl) ?_
      have h1 := hS y
      have h2 := hS z
      simp only [List.map_cons, List.map_nil] at h h1 h2
      generalize src G (fun t => st.regs.getD t .un) (toSrc y) = py at *
      generalize src G (fun t => st.regs.getD t .un) (toSrc z) = pz at *
      cases py <;> first | (simp [evalP] at h; done) | skip
      cases pz <;> first | (simp [evalP] at h; done) | skip
      simp only [evalP] at h
      split at h <;> first | (cases h; done) | skip
      rename_i r hr
      cases h
      obtain ⟨e1, _⟩ := h1.v_inv
      obtain ⟨e2, _⟩ := h2.v_inv
      refine ⟨r, ?_, trivial, .inl ⟨RepC.v _ ?_, trivial⟩⟩
      · rw [e1, e2]; exact bin_runs op T y z hr
      · unfold binV at hr
        split at hr <;> first | (cases hr; done) | skip
        split at hr <;> first | (cases hr; done) | skip
        unfold intBin at hr
        cases op <;> simp only [Option.some.injEq, reduceCtorEq] at hr <;> first | (subst hr; rfl) | (split at hr <;> first | (cases hr; done) | (cases hr; rfl))
    · rename_i hT
      simp only [Option.some.injEq, Prod.mk.injEq] at hk
      obtain ⟨rfl, rfl, rfl⟩ := hk
      refine val rfl (by simp) (by simp) rfl fun old h => v1 _ _ (by simp only [execOp, hop] <;> rfl) ?_
      have h1 := hS y
      have h2 := hS z
      simp only [List.map_cons, List.map_nil] at h h1 h2
      generalize src G (fun t => st.regs.getD t .un) (toSrc y) = py at *
      generalize src G (fun t => st.regs.getD t .un) (toSrc z) = pz at *
      cases py <;> first | (simp [evalP] at h; done) | skip
      cases pz <;> first | (simp [evalP] at h; done) | skip
      simp only [evalP] at h
      split at h <;> first | (cases h; done) | skip
      rename_i r hr
      cases h
      obtain ⟨e1, _⟩ := h1.v_inv
      obtain ⟨e2, _⟩ := h2.v_inv
      refine ⟨r, ?_, trivial, .inl ⟨RepC.v _ ?_, trivial⟩⟩
      · rw [e1, e2]; exact binB_runs op T y z hT hr
      · unfold binBV at hr
        split at hr <;> first | (cases hr; done) | (cases hr; rfl)
    · rename_i ps rs vv hT
      cases op <;> first | (cases hk; done) | skip
      all_goals
        simp only [Option.some.injEq, Prod.mk.injEq] at hk
        obtain ⟨rfl, rfl, rfl⟩ := hk
        refine val rfl (by simp) (by simp) rfl fun old h => v1 _ _ (by simp only [execOp, hop] <;> rfl) ?_
        first
        | exact fnil_yields hS (.inl ⟨rfl, rfl⟩) hT y z _ _ h
        | exact fnil_yields hS (.inr ⟨rfl, rfl⟩) hT y z _ _ h
    · cases hk
  | unOp op T y =>
    simp only [compOp, Option.some.injEq, Prod.mk.injEq] at hk
    obtain ⟨rfl, rfl, rfl⟩ := hk
    refine val rfl (by simp) (by simp) rfl fun old h => v1 _ _ (by simp only [execOp, hop] <;> rfl) ?_
    have h1 := hS y
    simp only [List.map_cons, List.map_nil] at h h1
    generalize src G (fun t => st.regs.getD t .un) (toSrc y) = py at *
    cases py <;> first | (simp [evalP] at h; done) | skip
    simp only [evalP] at h
    split at h <;> first | (cases h; done) | skip
    rename_i r hr
    cases h
    obtain ⟨e1, _⟩ := h1.v_inv
    refine ⟨r, ?_, trivial, .inl ⟨RepC.v _ ?_, trivial⟩⟩
    · rw [e1]; exact uno_runs op hr
    · unfold unoV at hr
      split at hr <;> first | (cases hr; done) | (cases hr; rfl)
  | convert s d y =>
    simp only [compOp] at hk
    split at hk <;> first | (cases hk; done) | skip
    rename_i k1 k2 hs hd
    simp only [Option.some.injEq, Prod.mk.injEq] at hk
    obtain ⟨rfl, rfl, rfl⟩ := hk
    refine val rfl (by simp) (by simp) rfl fun old h => v1 _ _ (by simp only [execOp, hop] <;> rfl) (conv_yields hS hs hd y h)
  | fieldAddr T y f =>
    simp only [compOp] at hk
    split at hk <;> first | (cases hk; done) | skip
    rename_i off n b hs
    split at hk <;> first | (cases hk; done) | skip
    rename_i hn
    simp only [Option.some.injEq, Prod.mk.injEq] at hk
    obtain ⟨rfl, rfl, rfl⟩ := hk
    refine val rfl (by simp) (by simp) rfl fun old h => v1 _ _ (by simp only [execOp, hop] <;> rfl) (fa_yields hS T y f hs hn (by simpa [evalP] using h))
  | field T y f =>
    simp only [compOp] at hk
    split at hk <;> first | (cases hk; done) | skip
    rename_i off n b hs
    split at hk <;> first | (cases hk; done) | skip
    rename_i hkn
    simp only [Option.some.injEq, Prod.mk.injEq] at hk
    obtain ⟨rfl, rfl, rfl⟩ := hk
    refine val rfl (by simp) (by simp) rfl fun old h => v1 _ _ (by simp only [execOp, hop] <;> rfl) ?_
    simp only [List.map_cons, List.map_nil] at h
    generalize hq : src G (fun t => st.regs.getD t .un) (toSrc y) = py at h
    cases py <;> first | (simp [evalP] at h; done) | skip
    exact fld_yields hS T y f hs hq (by simpa [evalP] using h) hkn
  | indexAddr T y j =>
    simp only [compOp] at hk
    split at hk <;> first | (cases hk; done) | skip
    · rename_i E hT
      split at hk <;> first | (cases hk; done) | skip
      rename_i ti hi
      simp only [Option.some.injEq, Prod.mk.injEq] at hk
      obtain ⟨rfl, rfl, rfl⟩ := hk
      exact val rfl (by simp) (by simp) rfl fun old h => v1 _ _ (by simp only [execOp, hop] <;> rfl) (ia_yields hS hT hi y j h)
    · rename_i n E hT
      split at hk <;> first | (cases hk; done) | skip
      rename_i ti hi
      simp only [Option.some.injEq, Prod.mk.injEq] at hk
      obtain ⟨rfl, rfl, rfl⟩ := hk
      exact val rfl (by simp) (by simp) rfl fun old h => v1 _ _ (by simp only [execOp, hop] <;> rfl) (iaA_yields hS hT hi y j h)
  | extract y j =>
    simp only [compOp, Option.some.injEq, Prod.mk.injEq] at hk
    obtain ⟨rfl, rfl, rfl⟩ := hk
    exact val rfl (by simp) (by simp) rfl fun old h => v1 _ _ (by simp only [execOp, hop] <;> rfl) (ext_yields hS y j h)
  | slice T y lo hi mx =>
    simp only [compOp] at hk
    split at hk <;> first | (cases hk; done) | skip
    rename_i E hT
    split at hk <;> first | (cases hk; done) | skip
    rename_i ti hti
    simp only [Option.some.injEq, Prod.mk.injEq] at hk
    obtain ⟨rfl, rfl, rfl⟩ := hk
    refine val rfl (by simp) (by simp) rfl fun old h => v1 _ _ (by simp only [execOp, hop] <;> rfl) (slc_yields hS hT hti y lo hi mx ?_)
    have e3 : pull mx.isSome (mx.toList.map fun x => src G (fun t => st.regs.getD t .un) (toSrc x)) = (mx.map fun x => src G (fun t => st.regs.getD t .un) (toSrc x), []) := by
      have := pull_some (S := fun x => src G (fun t => st.regs.getD t .un) (toSrc x)) mx []
      simpa using this
    simpa only [evalP, List.map_cons, List.map_append, opt_srcs, List.append_assoc, pull_some (S := fun x => src G (fun t => st.regs.getD t .un) (toSrc x)), e3] using h
  | makeFunc f first caps =>
    cases f <;> first | (simp [compOp] at hk; done) | skip
    rename_i f
    simp only [compOp] at hk
    split at hk <;> first | (cases hk; done) | skip
    rename_i h0
    simp only [Option.some.injEq, Prod.mk.injEq] at hk
    obtain ⟨rfl, rfl, rfl⟩ := hk
    refine val rfl (by simp) (by simp) rfl fun old h => v1 _ _ (by simp only [execOp, hop] <;> rfl) ⟨_, ?_, mkfn_yields hS f caps (by rw [List.map_map] at h; exact h)⟩
    have : first = #[] := Array.eq_empty_of_size_eq_zero h0
    simp [Instr.makeFunc, this]
  | makeInterface T y =>
    simp only [compOp] at hk
    split at hk <;> first | (cases hk; done) | skip
    rename_i fs hT
    simp only [Option.some.injEq, Prod.mk.injEq] at hk
    obtain ⟨rfl, rfl, rfl⟩ := hk
    exact val rfl (by simp) (by simp) rfl fun old h => v1 _ _ (by simp only [execOp, hop] <;> rfl) (mkifc_yields hS hT y h)
  | typeAssert y X A ok =>
    cases ok <;> simp only [compOp] at hk <;> first | (cases hk; done) | skip
    split at hk <;> first | (cases hk; done) | skip
    rename_i fs ti hT hti
    split at hk <;> first | (cases hk; done) | skip
    rename_i zv hzv
    split at hk <;> first | (cases hk; done) | skip
    rename_i z hz
    simp only [Option.some.injEq, Prod.mk.injEq] at hk
    obtain ⟨rfl, rfl, rfl⟩ := hk
    exact val rfl (by simp) (by simp) rfl fun old h => v1 _ _ (by simp only [execOp, hop] <;> rfl) (tass_yields hS hT hti hzv hz y h)
  | load T y =>
    simp only [compOp] at hk
    split at hk <;> first | (cases hk; done) | skip
    rename_i ti hti
    split at hk <;> first | (cases hk; done) | skip
    rename_i hu
    have hu' : (P.underlying T).isSome = true := by simpa [Option.isSome_iff_ne_none] using hu
    have hy : OpRep κ w st.ef.live st.ef.tk (src G (fun t => st.regs.getD t .un) (toSrc y)) (a.eval y) := src_rep hR y
    split at hk
    · rename_i s _
      simp only [Option.some.injEq, Prod.mk.injEq] at hk
      obtain ⟨rfl, rfl, rfl⟩ := hk
      simp only [act, PK.eff, Bool.false_eq_true, if_false, List.map_cons, List.map_nil] at ha
      split at ha <;> first | (cases ha; done) | skip
      rename_i q hq
      cases ha
      obtain ⟨v, h1, h2⟩ := ldL_runs hR hti hu' hy hq
      refine wp_yield (v := v) (w' := w) (by simp [execOp, hop, h1]) (hK κ _ _ ?_)
      exact hR.put h2 (hnb rfl)
    · simp only [Option.some.injEq, Prod.mk.injEq] at hk
      obtain ⟨rfl, rfl, rfl⟩ := hk
      refine val rfl (by simp) (by simp) rfl fun old h => v1 _ _ (by simp only [execOp, hop] <;> rfl) ?_
      simp only [List.map_cons, List.map_nil] at h
      generalize src G (fun t => st.regs.getD t .un) (toSrc y) = py at *
      cases py <;> first | (simp [evalP] at h; done) | skip
      exact ldE_runs hti hu' hy.2 (by simpa [evalP] using h)
    · simp only [Option.some.injEq, Prod.mk.injEq] at hk
      obtain ⟨rfl, rfl, rfl⟩ := hk
      simp only [act, PK.eff, if_true, List.map_cons, List.map_nil] at ha
      generalize src G (fun t => st.regs.getD t .un) (toSrc y) = py at *
      cases py <;> first | (simp [evalE] at ha; done) | skip
      simp only [evalE] at ha
      split at ha <;> first | (cases ha; done) | skip
      rename_i cs hcs
      split at ha <;> first | (cases ha; done) | skip
      rename_i hmd
      split at ha <;> first | (cases ha; done) | skip
      rename_i q hq
      cases ha
      obtain ⟨v, h1, h2⟩ := ldS_runs hR hti hu' hy hcs (by simpa using hmd) hq
      refine wp_yield (v := v) (w' := w) (by simp [execOp, hop, h1]) (hK κ _ _ ?_)
      exact hR.put h2 (hnb rfl)
  | store T y z =>
    simp only [compOp] at hk
    split at hk <;> first | (cases hk; done) | skip
    rename_i ti hti
    have hy : OpRep κ w st.ef.live st.ef.tk (src G (fun t => st.regs.getD t .un) (toSrc y)) (a.eval y) := src_rep hR y
    have hz : OpRep κ w st.ef.live st.ef.tk (src G (fun t => st.regs.getD t .un) (toSrc z)) (a.eval z) := src_rep hR z
    split at hk <;> first | (cases hk; done) | skip
    · rename_i s _
      simp only [Option.some.injEq, Prod.mk.injEq] at hk
      obtain ⟨rfl, rfl, rfl⟩ := hk
      obtain ⟨s', e', hL, hd0⟩ := hst _ rfl
      cases e'
      simp only [act, PK.eff, Bool.false_eq_true, if_false, List.map_cons, List.map_nil] at ha
      split at ha <;> first | (cases ha; done) | skip
      rename_i q hq
      cases ha
      obtain ⟨w', h1, h2⟩ := hR.stL hti hL hy hz hq
      refine wp_skipped (w' := w') (by simp [execOp, hop, h1]) ?_
      rw [hd0]
      exact hK κ a w' h2
    · simp only [Option.some.injEq, Prod.mk.injEq] at hk
      obtain ⟨rfl, rfl, rfl⟩ := hk
      have hd0 := hss _ rfl
      simp only [act, PK.eff, if_true, List.map_cons, List.map_nil] at ha
      generalize src G (fun t => st.regs.getD t .un) (toSrc y) = py at *
      generalize src G (fun t => st.regs.getD t .un) (toSrc z) = pz at *
      cases py <;> first | (simp [evalE] at ha; done) | skip
      simp only [evalE] at ha
      split at ha <;> first | (cases ha; done) | skip
      rename_i cs vs hcs hvs
      split at ha <;> first | (cases ha; done) | skip
      rename_i hmd
      split at ha <;> first | (cases ha; done) | skip
      rename_i hcond
      cases ha
      obtain ⟨w', h1, h2⟩ := stS_runs hR hti hy hz hcs (by simpa using hmd) hvs hcond.1 hcond.2
      refine wp_skipped (w' := w') (by simp [execOp, hop, h1]) ?_
      have := hK κ a w'
      rw [hd0] at this ⊢
      exact this h2
  | alloc T =>
    simp only [compOp] at hk
    split at hk <;> first | (cases hk; done) | skip
    rename_i z d hz hd
    simp only [Option.some.injEq, Prod.mk.injEq] at hk
    obtain ⟨rfl, rfl, rfl⟩ := hk
    obtain ⟨ti, zv, hti, hzv, hzr⟩ := zeroC_inv hz
    have hrun : (execOp a.eval o).run P w = .ok (.value (.pointer (some ⟨w.heap.size, 0, none⟩))) (w.alloc (.cells zv.cells T)) := by
      simp [execOp, hop, Instr.alloc, run_zeroValue' hti hzv, newVar, newRow]
    by_cases hL : L.contains d = true
    · rw [if_pos hL] at ha hK
      rw [hd] at ha
      obtain ⟨he, hev⟩ := act_plain rfl (by simp) (by simp) ha
      subst he
      simp only [evalP, List.map_nil, Option.some.injEq] at hev
      subst hev
      have := hR.newBox hL T (ofCells_rep hzr)
      rw [← hd] at this
      exact wp_yield hrun (hK _ _ _ this)
    · rw [if_neg hL] at ha hK hnb
      simp only [act, PK.eff, if_true, List.map_nil, evalE] at ha
      split at ha <;> first | (cases ha; done) | skip
      rename_i z0 hz0
      cases ha
      exact wp_yield hrun (hK _ _ _ (hR.newShared T ((ofCells_rep (live := st.ef.live) (tk := st.ef.tk) hzr).clr hz0) (hnb rfl)))
  | box T y =>
    simp only [compOp] at hk
    split at hk <;> first | (cases hk; done) | skip
    rename_i d hd
    simp only [Option.some.injEq, Prod.mk.injEq] at hk
    obtain ⟨rfl, rfl, rfl⟩ := hk
    have hy : OpRep κ w st.ef.live st.ef.tk (src G (fun t => st.regs.getD t .un) (toSrc y)) (a.eval y) := src_rep hR y
    have hrun : (execOp a.eval o).run P w = .ok (.value (.pointer (some ⟨w.heap.size, 0, none⟩))) (w.alloc (.cells (a.eval y).cells T)) := by
      simp [execOp, hop, Instr.box, newVar, newRow]
    by_cases hL : L.contains d = true
    · rw [if_pos hL] at ha hK
      rw [hd] at ha
      obtain ⟨he, hev⟩ := act_plain rfl (by simp) (by simp) ha
      subst he
      simp only [evalP, List.map_cons, List.map_nil] at hev
      split at hev <;> first | (cases hev; done) | skip
      rename_i cs hcs
      cases hev
      have := hR.newBox hL T (cellsT_rep hy hcs)
      rw [← hd] at this
      exact wp_yield hrun (hK _ _ _ this)
    · rw [if_neg hL] at ha hK hnb
      simp only [act, PK.eff, if_true, List.map_cons, List.map_nil, evalE] at ha
      split at ha <;> first | (cases ha; done) | skip
      rename_i z0 hz0
      cases ha
      exact wp_yield hrun (hK _ _ _ (hR.newShared T (cells0_rep hy hz0) (hnb rfl)))
  | makeMap T rv =>
    cases rv with
    | some y => simp [compOp] at hk
    | none =>
      simp only [compOp] at hk
      split at hk <;> first | (cases hk; done) | skip
      simp only [Option.some.injEq, Prod.mk.injEq] at hk
      obtain ⟨rfl, rfl, rfl⟩ := hk
      simp only [act, PK.eff, if_true, List.map_nil, evalE] at ha
      cases ha
      refine wp_yield (v := .map (some w.heap.size)) (w' := w.alloc (.map #[] 0)) ?_ (hK _ _ _ (hR.newMap (hnb rfl)))
      simp [execOp, hop, Instr.makeMap]
  | mapUpdate T m j z =>
    simp only [compOp] at hk
    split at hk <;> first | (cases hk; done) | skip
    rename_i K E hT hd0
    split at hk <;> first | (cases hk; done) | skip
    rename_i hK'
    simp only [Option.some.injEq, Prod.mk.injEq] at hk
    obtain ⟨rfl, rfl, rfl⟩ := hk
    have hm : OpRep κ w st.ef.live st.ef.tk (src G (fun t => st.regs.getD t .un) (toSrc m)) (a.eval m) := src_rep hR m
    have hj : OpRep κ w st.ef.live st.ef.tk (src G (fun t => st.regs.getD t .un) (toSrc j)) (a.eval j) := src_rep hR j
    have hz : OpRep κ w st.ef.live st.ef.tk (src G (fun t => st.regs.getD t .un) (toSrc z)) (a.eval z) := src_rep hR z
    simp only [act, PK.eff, if_true, List.map_cons, List.map_nil] at ha
    generalize src G (fun t => st.regs.getD t .un) (toSrc m) = pm at *
    generalize src G (fun t => st.regs.getD t .un) (toSrc j) = pj at *
    generalize src G (fun t => st.regs.getD t .un) (toSrc z) = pz at *
    cases pm <;> first | (simp [evalE] at ha; done) | skip
    rename_i id
    cases pj <;> first | (simp [evalE] at ha; done) | skip
    rename_i yv
    cases yv <;> first | (simp [evalE] at ha; done) | skip
    rename_i ik n
    cases ik <;> first | (simp [evalE] at ha; done) | skip
    simp only [evalE] at ha
    split at ha <;> first | (cases ha; done) | skip
    rename_i ks vs y hgb hy
    cases ha
    obtain ⟨w', h1, h2⟩ := mset_runs hR hT hK' hm hj hz hgb hy
    refine wp_skipped (w' := w') (by simp [execOp, hop, h1]) ?_
    have := hK κ a w'
    rw [hd0] at this ⊢
    exact this h2
  | lookup T m j ok =>
    simp only [compOp] at hk
    split at hk <;> first | (cases hk; done) | skip
    rename_i K E hT
    split at hk <;> first | (cases hk; done) | skip
    rename_i ti hK' hti
    split at hk <;> first | (cases hk; done) | skip
    rename_i zv hzv
    split at hk <;> first | (cases hk; done) | skip
    rename_i z hz
    simp only [Option.some.injEq, Prod.mk.injEq] at hk
    obtain ⟨rfl, rfl, rfl⟩ := hk
    have hm : OpRep κ w st.ef.live st.ef.tk (src G (fun t => st.regs.getD t .un) (toSrc m)) (a.eval m) := src_rep hR m
    have hj : OpRep κ w st.ef.live st.ef.tk (src G (fun t => st.regs.getD t .un) (toSrc j)) (a.eval j) := src_rep hR j
    simp only [act, PK.eff, if_true, List.map_cons, List.map_nil] at ha
    generalize src G (fun t => st.regs.getD t .un) (toSrc m) = pm at *
    generalize src G (fun t => st.regs.getD t .un) (toSrc j) = pj at *
    cases pm <;> first | (simp [evalE] at ha; done) | skip
    rename_i id
    cases pj <;> first | (simp [evalE] at ha; done) | skip
    rename_i yv
    cases yv <;> first | (simp [evalE] at ha; done) | skip
    rename_i ik n
    cases ik <;> first | (simp [evalE] at ha; done) | skip
    simp only [evalE] at ha
    split at ha <;> first | (cases ha; done) | skip
    rename_i ks vs hgb
    simp only [Option.some.injEq, Prod.mk.injEq] at ha
    obtain ⟨rfl, rfl⟩ := ha
    obtain ⟨v, h1, h2⟩ := mget_runs hR hT hK' hti hzv hz hm hj hgb ok
    exact wp_yield (v := v) (w' := w) (by simp [execOp, hop, h1]) (hK κ _ _ (hR.put h2 (hnb rfl)))
  | build T ps =>
    simp only [compOp] at hk
    split at hk <;> first | (cases hk; done) | skip
    rename_i z l fs hz hl hu
    split at hk <;> first | (cases hk; done) | skip
    rename_i hall
    simp only [Option.some.injEq, Prod.mk.injEq] at hk
    obtain ⟨rfl, rfl, rfl⟩ := hk
    refine val rfl (by simp) (by simp) rfl fun old h => v1 _ _ (by simp only [execOp, hop] <;> rfl) ?_
    simp only [evalP] at h
    split at h <;> first | (cases h; done) | skip
    rename_i cs hcs
    cases h
    rw [List.map_map] at hcs
    exact build_runs hS hz hl hu (by simpa only [Bool.not_eq_true', Bool.not_eq_false] using hall) hcs
  | buildSlice T n ps =>
    simp only [compOp] at hk
    split at hk <;> first | (cases hk; done) | skip
    rename_i E hT
    split at hk <;> first | (cases hk; done) | skip
    rename_i z1 hz1
    split at hk <;> first | (cases hk; done) | skip
    rename_i z hz
    split at hk <;> first | (cases hk; done) | skip
    rename_i hcond
    simp only [Bool.and_eq_true, decide_eq_true_eq] at hcond
    simp only [Option.some.injEq, Prod.mk.injEq] at hk
    obtain ⟨rfl, rfl, rfl⟩ := hk
    have hrn := hr (by simp) (by simp)
    cases hd : o.dst with
    | none => rw [hd] at ha; exact (act_plain_none rfl (by simp) (by simp) ha).elim
    | some d =>
      rw [hd] at ha
      obtain ⟨he, hev⟩ := act_plain rfl (by simp) (by simp) ha
      subst he
      rw [List.map_map] at hev
      obtain ⟨v, w', κ', h1, h2⟩ := hR.bslice hS hT hz1 hz hcond.1.1 hcond.1.2 hcond.2 hev (d := o.dst) (hnb rfl)
      refine wp_yield (v := v) (w' := w') ?_ (hK κ' _ _ h2)
      simp only [execOp, hop]
      simp [h1]
  | call c =>
    obtain ⟨callee, args, ts⟩ := c
    cases callee with
    | invoke y m => simp [compOp] at hk
    | value fv =>
      cases fv with
      | const v => simp [compOp] at hk
      | global g => simp [compOp] at hk
      | func f =>
        simp only [compOp, Option.some.injEq, Prod.mk.injEq] at hk
        obtain ⟨hk1, rfl, rfl⟩ := hk
        cases hiso : L.iso.contains f with
        | false =>
          rw [hiso] at hk1
          simp only [Bool.false_eq_true, if_false] at hk1
          subst hk1
          simp only [act, PK.eff, if_true, List.map_map] at ha
          simp only [evalE] at ha
          split at ha <;> first | (cases ha; done) | skip
          rename_i ys hys
          split at ha <;> first | (cases ha; done) | skip
          rename_i rr sh' hcl
          cases ha
          obtain ⟨h1, h2⟩ := args_rep hS hys
          refine wp_call hcall hR hcl h1 h2 (fun fn g1 g2 g3 => ?_) (hnb rfl) hK
          simp [execOp, hop, resolve, Deferred.ofValue, Act.eval, invoke, callFunc_run g1 g2 g3]
        | true =>
          rw [hiso] at hk1
          simp only [if_true] at hk1
          subst hk1
          simp only [act, PK.eff, if_true, List.map_map] at ha
          simp only [evalE] at ha
          split at ha <;> first | (cases ha; done) | skip
          rename_i ys hys
          split at ha <;> first | (cases ha; done) | skip
          rename_i hny
          split at ha <;> first | (cases ha; done) | skip
          rename_i rr nx' hcl
          split at ha <;> first | (cases ha; done) | skip
          rename_i hnr
          simp only [Bool.and_eq_true, decide_eq_true_eq] at hnr
          cases ha
          obtain ⟨h1, h2⟩ := args_rep hS hys
          refine wp_callI hcall hR hcl hny hnr.1 hnr.2 h1 h2 (fun fn g1 g2 g3 => ?_) (hnb rfl) hK
          simp [execOp, hop, resolve, Deferred.ofValue, Act.eval, invoke, callFunc_run g1 g2 g3]
      | tmp t =>
        simp only [compOp, Option.some.injEq, Prod.mk.injEq] at hk
        obtain ⟨rfl, rfl, rfl⟩ := hk
        have hf := hS (.tmp t)
        simp only [act, PK.eff, if_true, List.map_cons, List.map_map] at ha
        simp only [toSrc] at hf
        generalize src G (fun t => st.regs.getD t .un) (.s t) = pf at *
        cases pf <;> first | (simp [evalE] at ha; done) | skip
        rename_i f caps
        obtain ⟨arr, hav, hal, har⟩ := hf.fn_inv
        simp only [evalE] at ha
        split at ha <;> first | (cases ha; done) | skip
        rename_i ys hys
        split at ha <;> first | (cases ha; done) | skip
        rename_i rr sh' hcl
        cases ha
        obtain ⟨h1, h2⟩ := args_rep hS hys
        refine wp_call hcall hR hcl (vals := args.map a.eval ++ arr) (by simp [hal] at h1 ⊢; omega) (fun i hi => ?_) (fun fn g1 g2 g3 => ?_) (hnb rfl) hK
        · by_cases hlt : i < ys.length
          · have e1 : (ys ++ caps).getD i .un = ys.getD i .un := by
              simp only [List.getD_eq_getElem?_getD]; rw [List.getElem?_append_left hlt]
            have e2 : (args.map a.eval ++ arr).getD i undef = (args.map a.eval).getD i undef := by
              simp only [Array.getD_eq_getD_getElem?]; rw [Array.getElem?_append_left (by omega)]
            rw [e1, e2]
            exact h2 i hlt
          · have hi2 : i - ys.length < caps.length := by simp at hi; omega
            have e1 : (ys ++ caps).getD i .un = caps.getD (i - ys.length) .un := by
              simp only [List.getD_eq_getElem?_getD]; rw [List.getElem?_append_right (by omega)]
            have e2 : (args.map a.eval ++ arr).getD i undef = arr.getD (i - ys.length) undef := by
              simp only [Array.getD_eq_getD_getElem?]; rw [Array.getElem?_append_right (by omega), h1]
            rw [e1, e2]
            have := har _ hi2
            exact this.val
        · simp [execOp, hop, resolve, Deferred.ofValue, hav, invoke, callFunc_run g1 g2 g3]
    | builtin b =>
      cases b <;> first | (simp [compOp] at hk; done) | skip
      · simp only [compOp] at hk
        split at hk <;> first | (cases hk; done) | skip
        rename_i T T' hT0 hT1
        split at hk <;> first | (cases hk; done) | skip
        rename_i E E' hT hT'
        split at hk <;> first | (cases hk; done) | skip
        rename_i ti z hti hz
        split at hk <;> first | (cases hk; done) | skip
        rename_i hcond
        simp only [Bool.and_eq_true, decide_eq_true_eq] at hcond
        obtain ⟨⟨⟨⟨hc1, hc2⟩, hc3⟩, hc4⟩, hc5⟩ := hcond
        simp only [Option.some.injEq, Prod.mk.injEq] at hk
        obtain ⟨rfl, rfl, rfl⟩ := hk
        obtain ⟨al⟩ := args
        match al, hc1 with
        | [y, z'], _ =>
          have hts : (#[T, T'] : Array TypeId)[0]? = ts[0]? ∧ (#[T, T'] : Array TypeId)[1]? = ts[1]? := by simp [hT0, hT1]
          have happ : Builtin.append_ ts o.type #[a.eval y, a.eval z'] = Builtin.append_ #[T, T'] o.type #[a.eval y, a.eval z'] := by
            unfold Builtin.append_
            rw [← hts.1, ← hts.2]
          by_cases hB : L.holds o.dst = true
          · rw [if_pos hB] at ha hK
            cases hd : o.dst with
            | none => rw [hd] at hB; cases hB
            | some d =>
              rw [hd] at ha hB
              obtain ⟨he, hev⟩ := act_plain rfl (by simp) (by simp) ha
              subst he
              simp only [List.map_cons, List.map_nil] at hev
              obtain ⟨v, w', κ', h1, h2⟩ := hR.appB hS hT ⟨E', hT'⟩ hti hz hc5 o.type hB hev
              rw [← hd] at h2
              refine wp_yield (v := v) (w' := w') ?_ (hK κ' _ _ h2)
              simp [execOp, hop, resolve, invoke, builtin, happ, h1]
          rw [if_neg hB] at ha hK hnb
          simp only [act, PK.eff, if_true, List.map_cons, List.map_nil] at ha
          obtain ⟨v, w', κ', h1, h2⟩ := hR.app hS hT ⟨E', hT'⟩ hti hz hc3 hc5 o.type (p := x) (ef' := e) ha (d := o.dst) (hnb rfl)
          refine wp_yield (v := v) (w' := w') ?_ (hK κ' _ _ h2)
          simp [execOp, hop, resolve, invoke, builtin, happ, h1]
      · simp only [compOp] at hk
        split at hk <;> first | (cases hk; done) | skip
        rename_i T hT0
        split at hk <;> first | (cases hk; done) | skip
        · rename_i E hT
          split at hk <;> first | (cases hk; done) | skip
          rename_i hsz
          simp only [Option.some.injEq, Prod.mk.injEq] at hk
          obtain ⟨rfl, rfl, rfl⟩ := hk
          obtain ⟨al⟩ := args
          match al, hsz with
          | [y], _ =>
            refine val rfl (by simp) (by simp) rfl fun old h => ?_
            obtain ⟨v, h1, h2⟩ := len_yields (P := P) hS y hT0 hT o.type (by simpa using h)
            exact ⟨v, by simp [execOp, hop, resolve, invoke, builtin, h1], h2⟩
        · rename_i K E hT
          split at hk <;> first | (cases hk; done) | skip
          rename_i hsz
          simp only [Option.some.injEq, Prod.mk.injEq] at hk
          obtain ⟨rfl, rfl, rfl⟩ := hk
          obtain ⟨al⟩ := args
          match al, hsz with
          | [y], _ =>
            have hy : OpRep κ w st.ef.live st.ef.tk (src G (fun t => st.regs.getD t .un) (toSrc y)) (a.eval y) := src_rep hR y
            simp only [act, PK.eff, if_true, List.map_cons, List.map_nil] at ha
            generalize src G (fun t => st.regs.getD t .un) (toSrc y) = py at *
            cases py <;> first | (simp [evalE] at ha; done) | skip
            simp only [evalE] at ha
            split at ha <;> first | (cases ha; done) | skip
            rename_i ks vs hgb
            cases ha
            have h1 := mlen_runs hR hT0 hT o.type hy hgb
            exact wp_yield (w' := w) (by simp [execOp, hop, resolve, invoke, builtin, h1]) (hK κ _ _ (hR.put ⟨trivial, .inl ⟨.v _ rfl, trivial⟩⟩ (hnb rfl)))
      · simp only [compOp] at hk
        split at hk <;> first | (cases hk; done) | skip
        rename_i hsz
        simp only [Option.some.injEq, Prod.mk.injEq] at hk
        obtain ⟨rfl, rfl, rfl⟩ := hk
        obtain ⟨al⟩ := args
        match al, hsz with
        | [y, z], _ =>
          refine val rfl (by simp) (by simp) rfl fun old h => ?_
          obtain ⟨v, h1, h2⟩ := max_yields (P := P) hS y z true ts o.type (by simpa using h)
          simp only [if_true] at h1
          exact ⟨v, by simp [execOp, hop, resolve, invoke, builtin, h1], h2⟩
      · simp only [compOp] at hk
        split at hk <;> first | (cases hk; done) | skip
        rename_i hsz
        simp only [Option.some.injEq, Prod.mk.injEq] at hk
        obtain ⟨rfl, rfl, rfl⟩ := hk
        obtain ⟨al⟩ := args
        match al, hsz with
        | [y, z], _ =>
          refine val rfl (by simp) (by simp) rfl fun old h => ?_
          obtain ⟨v, h1, h2⟩ := max_yields (P := P) hS y z false ts o.type (by simpa using h)
          simp only [Bool.false_eq_true, if_false] at h1
          exact ⟨v, by simp [execOp, hop, resolve, invoke, builtin, h1], h2⟩
  | _ => simp [compOp] at hk

end
end Go.Pi

/- Regions, in the text's order or in any order. -/
namespace Go.Pi
open Go
open PV (genOf asSrc clrC clrs clr clrAll cellsT cells0)

section
variable {P : Program} {call : CallF} {G : Glob} {L : Lst} {κ0 : KM} {w0 : World} {κ : KM} {st : St} {a : Act} {w : World}

theorem guardOf_inv {ops : Array Oper} {gd : Option (Nat × Bool)} {g : Option (Nat × Bool)} (h : guardOf ops.toList gd = some g) :
    (gd = none ∧ g = none) ∨ ∃ j b o' d, gd = some (j, b) ∧ ops[j]? = some o' ∧ o'.dst = some d ∧ g = some (d, b) := by
  unfold guardOf at h
  split at h
  · cases h; exact .inl ⟨rfl, rfl⟩
  · rename_i j b
    split at h <;> first | (cases h; done) | skip
    rename_i o' ho
    split at h <;> first | (cases h; done) | skip
    rename_i d hd
    cases h
    exact .inr ⟨j, b, o', d, rfl, by simpa using ho, hd, rfl⟩

/-- A guard, told by the interpreter. -/
theorem wanted_ok (hR : Rel G L κ0 w0 κ st a w) {ops : Array Oper} {o : Oper} {g : Option (Nat × Bool)} (hg : guardOf ops.toList o.guard = some g) {b : Bool}
    (h : wantedP (fun t => st.regs.getD t .un) g = some b) : Region.wanted o (yielded ops a.tmps) = b := by
  rcases guardOf_inv hg with ⟨h1, h2⟩ | ⟨j, c, o', d, h1, h2, h3, h4⟩
  · subst h2
    simp only [wantedP, Option.some.injEq] at h
    simp [Region.wanted, h1, h]
  · subst h4
    simp only [wantedP] at h
    have hd : d < st.regs.length ∨ st.regs.getD d .un = .un := by
      rcases Nat.lt_or_ge d st.regs.length with h' | h'
      · exact .inl h'
      · right; rw [List.getD_eq_getElem?_getD, List.getElem?_eq_none h']; rfl
    rcases hd with hd | hd
    · have hr := hR.reg d hd
      have hlt : d < a.tmps.size := by rw [hR.size]; exact hd
      have hget : a.tmps[d]? = some (a.tmps.getD d undef) := by simp [hlt]
      have hy : yielded ops a.tmps j = (match a.tmps.getD d undef with | .bool b => some b | _ => none) := by
        unfold yielded
        simp only [h2, Option.bind_some, h3, hget]
        cases a.tmps.getD d undef <;> rfl
      simp only [Region.wanted, h1, hy]
      split at h
      · rename_i x hx
        rw [hx] at hr
        have hop : OpRep κ w st.ef.live st.ef.tk (.v (.bool x)) (a.tmps.getD d undef) := ⟨trivial, hr⟩
        have e := hop.v_inv.1
        rw [e]
        simp only [Option.some.injEq] at h
        rw [← h]
        cases x <;> cases c <;> rfl
      · rename_i hx
        rw [hx] at hr
        have e : a.tmps.getD d undef = undef := hr
        rw [e]
        simp only [Option.some.injEq] at h
        rw [← h]
        rfl
      · cases h
    · rw [hd] at h; cases h

theorem step_ok (hcall : CallOK P G call) (hR : Rel G L κ0 w0 κ st a w) {ops : Array Oper} {prev : List Oper} {o : Oper} {i : PI} (hc : compI P L ops.toList prev o = some i) {st' : St}
    (hs : step call G i st = some st') {K : Act → World → Prop} {Q : Exit → Act → World → Prop} (hK : ∀ κ' a' w', Rel G L κ0 w0 κ' st' a' w' → K a' w') :
    if Region.wanted o (yielded ops a.tmps) then o.wp P a w K Q ∨ (o.asks P a w ∧ LetsOut Q) else K (a.put o.dst undef) w := by
  obtain ⟨k, rs, r, g, hk, hg, hi, hnb, _, _, _, _, _⟩ := compI_inv hc
  have hig : i.g = g := by rw [hi]
  unfold step at hs
  simp only at hs
  split at hs
  · rename_i hw
    rw [hig] at hw
    rw [wanted_ok hR hg hw, if_pos rfl]
    split at hs <;> first | (cases hs; done) | skip
    rename_i x e ha
    cases hs
    exact .inl (op_act hcall hR hc ha hK)
  · rename_i hw
    rw [hig] at hw
    rw [wanted_ok hR hg hw, if_neg (by simp)]
    split at hs <;> first | (cases hs; done) | skip
    rename_i hb
    cases hs
    have hkb : k.boxes = false := by rw [hi] at hb; simpa using hb
    have := hR.put (d := o.dst) (p := .ud) (v := undef) ⟨trivial, rfl⟩ (hnb hkb)
    have hd : i.d = o.dst := by rw [hi]
    rw [hd] at hK
    exact hK _ _ _ this
  · cases hs

/-- In the text's order. -/
theorem steps_ok (hcall : CallOK P G call) {ops : Array Oper} {Q : Exit → Act → World → Prop} : ∀ (l : List Oper) (prev : List Oper) (is : List PI) (st st' : St) (κ : KM) (a : Act) (w : World),
    Rel G L κ0 w0 κ st a w → compL P L ops.toList prev l = some is → steps call G is st = some st' →
    (∀ κ' a' w', Rel G L κ0 w0 κ' st' a' w' → Q .normal a' w') → wpList P ops Q l a w
  | [], prev, is, st, st', κ, a, w, hR, hc, hs, hQ => by
    simp only [compL, Option.some.injEq] at hc
    subst hc
    simp only [steps, Option.some.injEq] at hs
    subst hs
    exact hQ κ a w hR
  | o :: l, prev, is, st, st', κ, a, w, hR, hc, hs, hQ => by
    simp only [compL] at hc
    split at hc <;> first | (cases hc; done) | skip
    rename_i i is' hi his
    cases hc
    simp only [steps] at hs
    split at hs <;> first | (cases hs; done) | skip
    rename_i st1 hs1
    unfold wpList
    exact step_ok hcall hR hi hs1 fun κ' a' w' hR' => steps_ok hcall l _ is' st1 st' κ' a' w' hR' his hs hQ

end
end Go.Pi

/- Operations that are apart may change places. -/
namespace Go.Pi
open Go
open PV (genOf asSrc clrC clrs clr clrAll cellsT cells0)

section
variable {call : CallF} {G : Glob}

/-- What an operation writes, and where. -/
def out (call : CallF) (G : Glob) (i : PI) (get : Nat → PV) (e : Eff) : Option (Option Nat × PV × Eff) :=
  match wantedP get i.g with
  | some true => (match act call G i get e with | some (x, e') => some (i.target, x, e') | none => none)
  | some false => if i.k.boxes then none else some (i.d, .ud, e)
  | none => none

def apply (st : St) : Option Nat × PV × Eff → St
  | (t, x, e) => ⟨putD st.regs t x, e⟩

theorem step_out (i : PI) (st : St) : step call G i st = (out call G i (fun t => st.regs.getD t .un) st.ef).map (apply st) := by
  unfold step out
  simp only
  cases wantedP (fun t => st.regs.getD t .un) i.g with
  | none => rfl
  | some b =>
    cases b with
    | true => cases act call G i (fun t => st.regs.getD t .un) st.ef <;> rfl
    | false => cases i.k.boxes <;> rfl

theorem evalP_old {k : PK} (h : k.boxes = false) (old old' : PV) (xs : List PV) : evalP k old xs = evalP k old' xs := by
  cases k <;> first | (simp [PK.boxes] at h; done) | kernel_rfl

theorem src_congr {get get' : Nat → PV} {x : Src} (h : ∀ t, x = .s t → get t = get' t) : src G get x = src G get' x := by
  cases x with
  | s t => simp only [src, h t rfl]
  | c x => rfl
  | g i => rfl

theorem act_congr {i : PI} {get get' : Nat → PV} (h : ∀ t, t ∈ i.reads → get t = get' t) (e : Eff) : act call G i get e = act call G i get' e := by
  have hrs : i.rs.map (src G get) = i.rs.map (src G get') := by
    apply List.map_congr_left
    intro x hx
    refine src_congr fun t ht => h t ?_
    subst ht
    simp only [PI.reads, List.mem_append]
    exact .inl (.inl (.inl (List.mem_filterMap.2 ⟨_, hx, rfl⟩)))
  have hr : ∀ s, i.r = some s → get s = get' s := fun s hs => h s (by simp [PI.reads, hs])
  unfold act
  simp only [hrs]
  split
  · rfl
  · split
    · rename_i n agg r p hk' hir hxs; rw [hr _ hir]
    · rename_i n r p x hk' hir hxs; rw [hr _ hir]
    · cases hd : i.d with
      | none => rfl
      | some d =>
        by_cases hb : i.k.boxes = true
        · have := h d (by simp [PI.reads, hb, hd])
          simp only [this]
        · have hb' : i.k.boxes = false := by simpa using hb
          simp only [evalP_old hb' (get d) (get' d)]
    · rfl

theorem wanted_congr {i : PI} {get get' : Nat → PV} (h : ∀ t, t ∈ i.reads → get t = get' t) : wantedP get i.g = wantedP get' i.g := by
  cases hg : i.g with
  | none => rfl
  | some p =>
    obtain ⟨j, b⟩ := p
    have := h j (by simp [PI.reads, hg])
    simp only [wantedP, this]

theorem out_congr {i : PI} {get get' : Nat → PV} (h : ∀ t, t ∈ i.reads → get t = get' t) (e : Eff) : out call G i get e = out call G i get' e := by
  unfold out
  rw [wanted_congr h, act_congr h]

theorem target_writes {i : PI} {d : Nat} (h : i.target = some d) : d ∈ i.writes := by
  unfold PI.target at h
  unfold PI.writes
  split at h
  · rename_i n hk; simp [h]
  · simp [h]

theorem out_writes {i : PI} {get : Nat → PV} {e e' : Eff} {t : Option Nat} {x : PV} (h : out call G i get e = some (t, x, e')) : ∀ d, t = some d → d ∈ i.writes := by
  intro d hd
  subst hd
  unfold out at h
  split at h
  · split at h <;> first | (cases h; done) | skip
    simp only [Option.some.injEq, Prod.mk.injEq] at h
    exact target_writes h.1
  · split at h <;> first | (cases h; done) | skip
    simp only [Option.some.injEq, Prod.mk.injEq] at h
    simp [PI.writes, h.1]
  · cases h

theorem act_pure {i : PI} (hk : i.k.eff = false) (get : Nat → PV) : ∃ f : Option PV, ∀ e, act call G i get e = f.map fun x => (x, e) := by
  unfold act
  simp only [hk, Bool.false_eq_true, if_false]
  split
  · rename_i n agg r p hk' hir hxs
    cases hq : evalL p (get r) r n agg with
    | none => exact ⟨none, fun e => rfl⟩
    | some x => exact ⟨some x, fun e => rfl⟩
  · rename_i n r p x hk' hir hxs
    cases hq : evalW p x (get r) r n with
    | none => exact ⟨none, fun e => rfl⟩
    | some x => exact ⟨some x, fun e => rfl⟩
  · cases hd : i.d with
    | none => exact ⟨none, fun e => rfl⟩
    | some d =>
      simp only
      cases hq : evalP i.k (get d) (i.rs.map (src G get)) with
      | none => exact ⟨none, fun e => rfl⟩
      | some x => exact ⟨some x, fun e => rfl⟩
  · exact ⟨none, fun e => rfl⟩

theorem out_pure {i : PI} (hk : i.k.eff = false) (get : Nat → PV) : ∃ f : Option (Option Nat × PV), ∀ e, out call G i get e = f.map fun p => (p.1, p.2, e) := by
  obtain ⟨f, hf⟩ := act_pure (call := call) (G := G) hk get
  unfold out
  cases wantedP get i.g with
  | none => exact ⟨none, fun e => rfl⟩
  | some b =>
    cases b with
    | true =>
      cases f with
      | none => exact ⟨none, fun e => by simp [hf]⟩
      | some x => exact ⟨some (i.target, x), fun e => by simp [hf]⟩
    | false =>
      cases i.k.boxes with
      | true => exact ⟨none, fun e => rfl⟩
      | false => exact ⟨some (i.d, .ud), fun e => rfl⟩

theorem putD_get {regs : List PV} {t : Option Nat} {x : PV} {d : Nat} (h : ∀ s, t = some s → s ≠ d) : (putD regs t x).getD d .un = regs.getD d .un := by
  cases t with
  | none => rfl
  | some s => exact getD_set_ne _ _ _ _ _ (h s rfl)

theorem putD_comm {regs : List PV} {t s : Option Nat} {x y : PV} (h : ∀ d, t = some d → s ≠ some d) : putD (putD regs t x) s y = putD (putD regs s y) t x := by
  cases t with
  | none => rfl
  | some d =>
    cases s with
    | none => rfl
    | some c =>
      simp only [putD]
      exact List.set_comm _ _ (fun e => h d rfl (by rw [e]))

/-- Two operations that do not meet. -/
structure Apart (pu : List Nat) (i j : PI) : Prop where
  wr : ∀ t, t ∈ i.writes → t ∉ j.reads
  rw : ∀ t, t ∈ j.writes → t ∉ i.reads
  ww : ∀ t, t ∈ i.writes → t ∉ j.writes
  ee : i.k.eff = false ∨ j.k.eff = false ∨ (calm pu i.k = true ∧ calm pu j.k = true) ∨ (i.k.quiet = true ∧ j.k.alone = true) ∨ (i.k.alone = true ∧ j.k.quiet = true)

theorem apart_spec {pu : List Nat} {i j : PI} (h : apart pu i j = true) : Apart pu i j := by
  simp only [apart, Bool.and_eq_true, Bool.or_eq_true, List.all_eq_true, Bool.not_eq_true', List.contains_eq_mem, decide_eq_false_iff_not, Bool.and_eq_false_imp] at h
  obtain ⟨⟨h1, h2⟩, h3⟩ := h
  refine ⟨fun t ht => (h1 t ht).1, fun t ht => h2 t ht, fun t ht => (h1 t ht).2, ?_⟩
  rcases h3 with ((h3 | h3) | h3) | h3
  · cases he : i.k.eff with
    | false => exact .inl rfl
    | true => exact .inr (.inl (h3 he))
  · exact .inr (.inr (.inl h3))
  · exact .inr (.inr (.inr (.inl h3)))
  · exact .inr (.inr (.inr (.inr h3)))

theorem Apart.symm {pu : List Nat} {i j : PI} (h : Apart pu i j) : Apart pu j i := ⟨h.rw, h.wr, fun t h1 h2 => h.ww t h2 h1, by
  rcases h.ee with h | h | h | h | h
  · exact .inr (.inl h)
  · exact .inl h
  · exact .inr (.inr (.inl ⟨h.2, h.1⟩))
  · exact .inr (.inr (.inr (.inr ⟨h.2, h.1⟩)))
  · exact .inr (.inr (.inr (.inl ⟨h.2, h.1⟩)))⟩

theorem comm_pure {pu : List Nat} {i j : PI} (h : Apart pu i j) (hk : i.k.eff = false) (st : St) : (step call G i st).bind (step call G j) = (step call G j st).bind (step call G i) := by
  obtain ⟨f, hf⟩ := out_pure (call := call) (G := G) hk fun t => st.regs.getD t .un
  rw [step_out i st, step_out j st, hf]
  have hj : ∀ t x e, f = some (t, x) → step call G j (apply st (t, x, e)) = (out call G j (fun t => st.regs.getD t .un) e).map (apply (apply st (t, x, e))) := by
    intro t x e hq
    rw [step_out]
    have ho : out call G i (fun t => st.regs.getD t .un) e = some (t, x, e) := by rw [hf, hq]; rfl
    have := out_writes ho
    congr 1
    refine out_congr (fun s hs => putD_get fun d hd => ?_) e
    intro e'
    subst e'
    exact h.wr _ (this _ hd) hs
  have hi : ∀ t x e e', out call G j (fun t => st.regs.getD t .un) e = some (t, x, e') → step call G i (apply st (t, x, e')) = (f.map fun p => (p.1, p.2, e')).map (apply (apply st (t, x, e'))) := by
    intro t x e e' ho
    rw [step_out]
    have := out_writes ho
    rw [← hf]
    congr 1
    refine out_congr (fun s hs => putD_get fun d hd => ?_) e'
    intro e''
    subst e''
    exact h.rw _ (this _ hd) hs
  cases hq : f with
  | none =>
    simp only [Option.map_none, Option.bind_none]
    cases ho : out call G j (fun t => st.regs.getD t .un) st.ef with
    | none => rfl
    | some p => obtain ⟨t, x, e'⟩ := p; simp only [Option.map_some, Option.bind_some]; rw [hi t x _ e' ho, hq]; rfl
  | some p =>
    obtain ⟨t, x⟩ := p
    simp only [Option.map_some, Option.bind_some]
    rw [hj t x _ hq]
    cases ho : out call G j (fun t => st.regs.getD t .un) st.ef with
    | none => rfl
    | some p =>
      obtain ⟨s, y, e'⟩ := p
      simp only [Option.map_some, Option.bind_some]
      rw [hi s y _ e' ho, hq]
      simp only [Option.map_some, apply]
      have h1 : out call G i (fun t => st.regs.getD t .un) st.ef = some (t, x, st.ef) := by rw [hf, hq]; rfl
      rw [putD_comm]
      intro d hd hs
      exact h.ww d (out_writes h1 d hd) (out_writes ho d hs)

/-- Calls that leave the shared memory as it is. -/
def CalmCall (call : CallF) (pu : List Nat) : Prop := ∀ f, f ∈ pu → ∀ args sh r sh', call f args sh = some (r, sh') → sh' = sh

theorem evalE_calm {pu : List Nat} (hp : CalmCall call pu) {k : PK} (hk : calm pu k = true) {xs : List PV} {e e' : Eff} {x : PV} (h : evalE call k xs e = some (x, e')) : e' = e := by
  unfold evalE at h
  split at h
  case h_1 =>
    split at h <;> first | (cases h; done) | skip
    split at h <;> first | (cases h; done) | skip
    rename_i hc
    have := hp _ (by simpa [calm] using hk) _ _ _ _ hc
    cases h
    rw [this]
  all_goals first
    | (simp [calm, PK.quiet, PK.eff] at hk; done)
    | (split at h <;> first | (cases h; done) | skip
       first
        | (cases h; rfl)
        | (split at h <;> first | (cases h; done) | skip
           first
            | (cases h; rfl)
            | (split at h <;> first | (cases h; done) | skip
               cases h; rfl)))
    | cases h

theorem act_quiet {pu : List Nat} (hp : CalmCall call pu) {i : PI} (hk : calm pu i.k = true) (get : Nat → PV) (e : Eff) : ∃ f : Option PV, act call G i get e = f.map fun x => (x, e) := by
  by_cases he : i.k.eff = true
  · unfold act
    simp only [he, if_true]
    cases hq : evalE call i.k (i.rs.map (src G get)) e with
    | none => exact ⟨none, rfl⟩
    | some p =>
      obtain ⟨x, e'⟩ := p
      rw [evalE_calm hp hk hq]
      exact ⟨some x, rfl⟩
  · obtain ⟨f, hf⟩ := act_pure (call := call) (G := G) (by simpa using he) get
    exact ⟨f, hf e⟩

theorem out_quiet {pu : List Nat} (hp : CalmCall call pu) {i : PI} (hk : calm pu i.k = true) (get : Nat → PV) (e : Eff) : ∃ f : Option (Option Nat × PV), out call G i get e = f.map fun p => (p.1, p.2, e) := by
  obtain ⟨f, hf⟩ := act_quiet (call := call) (G := G) hp hk get e
  unfold out
  cases wantedP get i.g with
  | none => exact ⟨none, rfl⟩
  | some b =>
    cases b with
    | true =>
      cases f with
      | none => exact ⟨none, by simp [hf]⟩
      | some x => exact ⟨some (i.target, x), by simp [hf]⟩
    | false =>
      cases i.k.boxes with
      | true => exact ⟨none, rfl⟩
      | false => exact ⟨some (i.d, .ud), rfl⟩

theorem comm_quiet {pu : List Nat} (hp : CalmCall call pu) {i j : PI} (h : Apart pu i j) (hi : calm pu i.k = true) (hj : calm pu j.k = true) (st : St) : (step call G i st).bind (step call G j) = (step call G j st).bind (step call G i) := by
  obtain ⟨f, hf⟩ := out_quiet (call := call) (G := G) hp hi (fun t => st.regs.getD t .un) st.ef
  obtain ⟨g, hg⟩ := out_quiet (call := call) (G := G) hp hj (fun t => st.regs.getD t .un) st.ef
  have hjj : ∀ t x, f = some (t, x) → step call G j (apply st (t, x, st.ef)) = (g.map fun p => (p.1, p.2, st.ef)).map (apply (apply st (t, x, st.ef))) := by
    intro t x hq
    have ho : out call G i (fun t => st.regs.getD t .un) st.ef = some (t, x, st.ef) := by rw [hf, hq]; rfl
    have := out_writes ho
    rw [step_out, ← hg]
    congr 1
    refine out_congr (fun s hs => putD_get fun d hd => ?_) st.ef
    intro e'
    subst e'
    exact h.wr _ (this _ hd) hs
  have hii : ∀ t x, g = some (t, x) → step call G i (apply st (t, x, st.ef)) = (f.map fun p => (p.1, p.2, st.ef)).map (apply (apply st (t, x, st.ef))) := by
    intro t x hq
    have ho : out call G j (fun t => st.regs.getD t .un) st.ef = some (t, x, st.ef) := by rw [hg, hq]; rfl
    have := out_writes ho
    rw [step_out, ← hf]
    congr 1
    refine out_congr (fun s hs => putD_get fun d hd => ?_) st.ef
    intro e'
    subst e'
    exact h.rw _ (this _ hd) hs
  rw [step_out i st, step_out j st, hf, hg]
  cases hq : f with
  | none =>
    cases hp : g with
    | none => rfl
    | some p => obtain ⟨t, x⟩ := p; simp only [Option.map_none, Option.bind_none, Option.map_some, Option.bind_some]; rw [hii t x hp, hq]; rfl
  | some p =>
    obtain ⟨t, x⟩ := p
    cases hp : g with
    | none => simp only [Option.map_none, Option.bind_none, Option.map_some, Option.bind_some]; rw [hjj t x hq, hp]; rfl
    | some p =>
      obtain ⟨s, y⟩ := p
      simp only [Option.map_some, Option.bind_some]
      rw [hjj t x hq, hii s y hp, hp, hq]
      simp only [Option.map_some, apply]
      have h1 : out call G i (fun t => st.regs.getD t .un) st.ef = some (t, x, st.ef) := by rw [hf, hq]; rfl
      have h2 : out call G j (fun t => st.regs.getD t .un) st.ef = some (s, y, st.ef) := by rw [hg, hp]; rfl
      rw [putD_comm]
      intro d hd hs
      exact h.ww d (out_writes h1 d hd) (out_writes h2 d hs)

theorem comm_box {pu : List Nat} {i j : PI} (h : Apart pu i j) (st : St) {f : Option (Option Nat × PV)} (hf0 : ∀ e, e.sh.boxes = st.ef.sh.boxes → out call G i (fun t => st.regs.getD t .un) e = f.map fun p => (p.1, p.2, e))
    (hbj : ∀ t x e', out call G j (fun t => st.regs.getD t .un) st.ef = some (t, x, e') → e'.sh.boxes = st.ef.sh.boxes) : (step call G i st).bind (step call G j) = (step call G j st).bind (step call G i) := by
  have hf := hf0 st.ef rfl
  rw [step_out i st, step_out j st, hf]
  have hj : ∀ t x, f = some (t, x) → step call G j (apply st (t, x, st.ef)) = (out call G j (fun t => st.regs.getD t .un) st.ef).map (apply (apply st (t, x, st.ef))) := by
    intro t x hq
    rw [step_out]
    have ho : out call G i (fun t => st.regs.getD t .un) st.ef = some (t, x, st.ef) := by rw [hf, hq]; rfl
    have := out_writes ho
    congr 1
    refine out_congr (fun s hs => putD_get fun d hd => ?_) st.ef
    intro e'
    subst e'
    exact h.wr _ (this _ hd) hs
  have hi : ∀ t x e', out call G j (fun t => st.regs.getD t .un) st.ef = some (t, x, e') → step call G i (apply st (t, x, e')) = (f.map fun p => (p.1, p.2, e')).map (apply (apply st (t, x, e'))) := by
    intro t x e' ho
    rw [step_out]
    have := out_writes ho
    rw [← hf0 e' (hbj _ _ _ ho)]
    congr 1
    refine out_congr (fun s hs => putD_get fun d hd => ?_) e'
    intro e''
    subst e''
    exact h.rw _ (this _ hd) hs
  cases hq : f with
  | none =>
    simp only [Option.map_none, Option.bind_none]
    cases ho : out call G j (fun t => st.regs.getD t .un) st.ef with
    | none => rfl
    | some p => obtain ⟨t, x, e'⟩ := p; simp only [Option.map_some, Option.bind_some]; rw [hi t x e' ho, hq]; rfl
  | some p =>
    obtain ⟨t, x⟩ := p
    simp only [Option.map_some, Option.bind_some]
    rw [hj t x hq]
    cases ho : out call G j (fun t => st.regs.getD t .un) st.ef with
    | none => rfl
    | some p =>
      obtain ⟨s, y, e'⟩ := p
      simp only [Option.map_some, Option.bind_some]
      rw [hi s y e' ho, hq]
      simp only [Option.map_some, apply]
      have h1 : out call G i (fun t => st.regs.getD t .un) st.ef = some (t, x, st.ef) := by rw [hf, hq]; rfl
      rw [putD_comm]
      intro d hd hs
      exact h.ww d (out_writes h1 d hd) (out_writes ho d hs)


theorem act_qbox {i : PI} (hk : i.k.quiet = true) (get : Nat → PV) (bx : List (Nat × List PV)) : ∃ f : Option PV, ∀ e, e.sh.boxes = bx → act call G i get e = f.map fun x => (x, e) := by
  by_cases he : i.k.eff = true
  · unfold act
    simp only [he, if_true]
    have hc : ∀ e, e.sh.boxes = bx → ∃ f : Option PV, evalE call i.k (i.rs.map (src G get)) e = f.map fun x => (x, e) := fun e _ => by
      cases hq : evalE call i.k (i.rs.map (src G get)) e with
      | none => exact ⟨none, rfl⟩
      | some p =>
        obtain ⟨x, e'⟩ := p
        rw [evalE_calm (pu := []) (fun f hf => by cases hf) (by cases hkk : i.k <;> simp [hkk, calm, PK.quiet, PK.eff] at hk ⊢) hq]
        exact ⟨some x, rfl⟩
    have same : ∀ e e' : Eff, e.sh.boxes = bx → e'.sh.boxes = bx → (evalE call i.k (i.rs.map (src G get)) e).map (·.1) = (evalE call i.k (i.rs.map (src G get)) e').map (·.1) := by
      intro e e' h1 h2
      generalize i.rs.map (src G get) = xs
      generalize i.k = k at hk he
      cases k <;> first | (simp [PK.quiet, PK.eff] at hk he; done) | skip
      · rename_i n agg
        match xs with
        | [] => rfl
        | [x] =>
          cases x <;> first | rfl | skip
          rename_i id off
          simp only [evalE, h1, h2]
          cases getB bx id with
          | none => rfl
          | some cs =>
            simp only
            split
            · rfl
            · cases cut cs off n agg <;> rfl
        | x :: _ :: _ => cases x <;> rfl
      · rename_i z ok
        match xs with
        | [] => rfl
        | [x] => cases x <;> rfl
        | [x, y] =>
          cases x <;> first | rfl | skip
          rename_i id
          cases y <;> first | rfl | skip
          rename_i v
          cases v <;> first | rfl | skip
          rename_i ik m
          cases ik <;> first | rfl | skip
          simp only [evalE, h1, h2]
          cases getB bx id with
          | none => rfl
          | some cs =>
            split <;> rfl
        | x :: y :: _ :: _ =>
          cases x <;> first | rfl | skip
          cases y <;> first | rfl | skip
          rename_i v
          cases v <;> first | rfl | skip
          rename_i ik m
          cases ik <;> rfl
      · match xs with
        | [] => rfl
        | [x] =>
          cases x <;> first | rfl | skip
          rename_i id
          simp only [evalE, h1, h2]
          cases getB bx id with
          | none => rfl
          | some cs =>
            split <;> rfl
        | x :: _ :: _ => cases x <;> rfl
    cases hb : (evalE call i.k (i.rs.map (src G get)) ⟨⟨bx, 0⟩, fun _ => false, 0⟩).map (·.1) with
    | none =>
      refine ⟨none, fun e h => ?_⟩
      obtain ⟨f, hf⟩ := hc e h
      have := same e ⟨⟨bx, 0⟩, fun _ => false, 0⟩ h rfl
      rw [hb, hf] at this
      cases f with
      | none => exact hf
      | some x => simp at this
    | some x =>
      refine ⟨some x, fun e h => ?_⟩
      obtain ⟨f, hf⟩ := hc e h
      have := same e ⟨⟨bx, 0⟩, fun _ => false, 0⟩ h rfl
      rw [hb, hf] at this
      cases f with
      | none => simp at this
      | some y => simp at this; rw [hf, this]
  · obtain ⟨f, hf⟩ := act_pure (call := call) (G := G) (by simpa using he) get
    exact ⟨f, fun e _ => hf e⟩
theorem out_qbox {i : PI} (hk : i.k.quiet = true) (get : Nat → PV) (bx : List (Nat × List PV)) : ∃ f : Option (Option Nat × PV), ∀ e, e.sh.boxes = bx → out call G i get e = f.map fun p => (p.1, p.2, e) := by
  obtain ⟨f, hf⟩ := act_qbox (call := call) (G := G) hk get bx
  unfold out
  cases wantedP get i.g with
  | none => exact ⟨none, fun _ _ => rfl⟩
  | some b =>
    cases b with
    | true =>
      cases f with
      | none => exact ⟨none, fun e h => by simp [hf e h]⟩
      | some x => exact ⟨some (i.target, x), fun e h => by simp [hf e h]⟩
    | false =>
      cases i.k.boxes with
      | true => exact ⟨none, fun _ _ => rfl⟩
      | false => exact ⟨some (i.d, .ud), fun _ _ => rfl⟩
theorem alone_boxes {j : PI} (hk : j.k.alone = true) (get : Nat → PV) (e : Eff) : ∀ t x e', out call G j get e = some (t, x, e') → e'.sh.boxes = e.sh.boxes := by
  intro t x e' h
  obtain ⟨k, rs, d, r, g⟩ := j
  cases k <;> first | (cases hk; done) | skip
  unfold out at h
  split at h
  · split at h <;> first | (cases h; done) | skip
    rename_i ha
    cases h
    simp only [act, PK.eff, if_true, evalE] at ha
    split at ha <;> first | (cases ha; done) | skip
    split at ha <;> first | (cases ha; done) | skip
    split at ha <;> first | (cases ha; done) | skip
    split at ha <;> first | (cases ha; done) | skip
    cases ha
    rfl
  · split at h <;> first | (cases h; done) | skip
    cases h
    rfl
  · cases h

theorem comm {pu : List Nat} (hp : CalmCall call pu) {i j : PI} (h : Apart pu i j) (st : St) : (step call G i st).bind (step call G j) = (step call G j st).bind (step call G i) := by
  rcases h.ee with hk | hk | hk | hk | hk
  · exact comm_pure h hk st
  · exact (comm_pure h.symm hk st).symm
  · exact comm_quiet hp h hk.1 hk.2 st
  · obtain ⟨f, hf⟩ := out_qbox (call := call) (G := G) hk.1 (fun t => st.regs.getD t .un) st.ef.sh.boxes
    exact comm_box h st hf (alone_boxes hk.2 _ _)
  · obtain ⟨f, hf⟩ := out_qbox (call := call) (G := G) hk.2 (fun t => st.regs.getD t .un) st.ef.sh.boxes
    exact (comm_box h.symm st hf (alone_boxes hk.1 _ _)).symm

theorem steps_cons (i : PI) (l : List PI) (st : St) : steps call G (i :: l) st = (step call G i st).bind (steps call G l) := by
  simp only [steps]
  cases step call G i st <;> rfl

theorem push_back {pu : List Nat} (hp : CalmCall call pu) {i : PI} : ∀ (l : List PI) (st : St), (∀ j, j ∈ l → Apart pu i j) → steps call G (i :: l) st = (steps call G l st).bind (step call G i)
  | [], st, _ => by
    rw [steps_cons]
    show (step call G i st).bind (steps call G []) = (some st).bind (step call G i)
    rw [Option.bind_some]
    cases step call G i st <;> rfl
  | j :: l, st, h => by
    rw [steps_cons, steps_cons]
    have e : ∀ s, steps call G (j :: l) s = (step call G j s).bind (steps call G l) := fun s => steps_cons j l s
    have h1 : (step call G i st).bind (steps call G (j :: l)) = ((step call G i st).bind (step call G j)).bind (steps call G l) := by
      rw [Option.bind_assoc]
      congr 1
      funext s
      exact e s
    rw [h1, comm hp (h j (by simp)) st, Option.bind_assoc, Option.bind_assoc]
    congr 1
    funext s
    rw [← steps_cons]
    exact push_back hp l s fun q hq => h q (by simp [hq])

/-- The operations at some places. -/
def sel (S : Nat → Bool) : Nat → List PI → List PI
  | _, [] => []
  | k, i :: r => if S k then i :: sel S (k + 1) r else sel S (k + 1) r

theorem sel_congr {S S' : Nat → Bool} : ∀ (l : List PI) (k : Nat), (∀ j, k ≤ j → S j = S' j) → sel S k l = sel S' k l
  | [], _, _ => rfl
  | i :: r, k, h => by
    simp only [sel]
    rw [h k (Nat.le_refl _), sel_congr r (k + 1) fun j hj => h j (by omega)]

theorem sel_all {S : Nat → Bool} : ∀ (l : List PI) (k : Nat), (∀ j, k ≤ j → j < k + l.length → S j = true) → sel S k l = l
  | [], _, _ => rfl
  | i :: r, k, h => by
    simp only [sel]
    rw [h k (Nat.le_refl _) (by simp), if_pos rfl, sel_all r (k + 1) fun j h1 h2 => h j (by omega) (by simp at h2 ⊢; omega)]

theorem sel_mem {S : Nat → Bool} {x : PI} : ∀ (l : List PI) (k : Nat), x ∈ sel S k l → ∃ j, k ≤ j ∧ S j = true ∧ l[j - k]? = some x
  | [], _, h => by simp [sel] at h
  | i :: r, k, h => by
    simp only [sel] at h
    have rest : x ∈ sel S (k + 1) r → ∃ j, k ≤ j ∧ S j = true ∧ (i :: r)[j - k]? = some x := by
      intro h
      obtain ⟨j, h1, h2, h3⟩ := sel_mem r (k + 1) h
      refine ⟨j, by omega, h2, ?_⟩
      rw [show j - k = (j - (k + 1)) + 1 by omega]
      simpa using h3
    split at h
    · rename_i hs
      simp only [List.mem_cons] at h
      rcases h with h | h
      · exact ⟨k, Nat.le_refl _, hs, by simp [h]⟩
      · exact rest h
    · exact rest h

theorem insert_sel {pu : List Nat} (hp : CalmCall call pu) {S S' : Nat → Bool} {n : Nat} {x : PI} (hn : S n = false) (hS : ∀ j, S' j = if j = n then true else S j) : ∀ (l : List PI) (k : Nat) (st : St), k ≤ n → l[n - k]? = some x →
    (∀ j y, n < j → S j = true → l[j - k]? = some y → Apart pu x y) → steps call G (sel S' k l) st = (steps call G (sel S k l) st).bind (step call G x)
  | [], k, st, _, hx, _ => by simp at hx
  | i :: r, k, st, hk, hx, hc => by
    by_cases e : k = n
    · subst e
      simp only [Nat.sub_self, List.getElem?_cons_zero, Option.some.injEq] at hx
      subst hx
      have hs' : S' k = true := by rw [hS, if_pos rfl]
      simp only [sel, hs', hn, if_true, Bool.false_eq_true, if_false]
      rw [sel_congr r (k + 1) (S := S') (S' := S) fun j hj => by rw [hS, if_neg (by omega)]]
      refine push_back hp _ st fun y hy => ?_
      obtain ⟨j, h1, h2, h3⟩ := sel_mem r (k + 1) hy
      refine hc j y (by omega) h2 ?_
      rw [show j - k = (j - (k + 1)) + 1 by omega]
      simpa using h3
    · have hx' : r[n - (k + 1)]? = some x := by
        rw [show n - k = (n - (k + 1)) + 1 by omega] at hx
        simpa using hx
      have hc' : ∀ j y, n < j → S j = true → r[j - (k + 1)]? = some y → Apart pu x y := by
        intro j y h1 h2 h3
        refine hc j y h1 h2 ?_
        rw [show j - k = (j - (k + 1)) + 1 by omega]
        simpa using h3
      have ih := fun s => insert_sel hp hn hS r (k + 1) s (by omega) hx' hc'
      simp only [sel, hS k, if_neg e]
      split
      · rw [steps_cons, steps_cons, Option.bind_assoc]
        congr 1
        funext s
        exact ih s
      · exact ih st

end
end Go.Pi

/- A region whose order is open; code; functions. -/
namespace Go.Pi
open Go
open PV (genOf asSrc clrC clrs clr clrAll cellsT cells0)

section
variable {P : Program} {call : CallF} {G : Glob} {L : Lst} {κ0 : KM} {w0 : World}

theorem compL_get {ops : List Oper} : ∀ {l prev : List Oper} {is : List PI}, compL P L ops prev l = some is → is.length = l.length ∧
    ∀ (j : Nat) (o : Oper), l[j]? = some o → ∃ prev' i, is[j]? = some i ∧ compI P L ops prev' o = some i
  | [], prev, is, h => by
    simp only [compL, Option.some.injEq] at h
    subst h
    exact ⟨rfl, fun j o ho => by simp at ho⟩
  | o :: l, prev, is, h => by
    simp only [compL] at h
    split at h <;> first | (cases h; done) | skip
    rename_i i is' hi his
    cases h
    obtain ⟨h1, h2⟩ := compL_get his
    refine ⟨by simp [h1], fun j o' ho => ?_⟩
    cases j with
    | zero => simp at ho; subst ho; exact ⟨prev, i, rfl, hi⟩
    | succ j => simpa using h2 j o' (by simpa using ho)

theorem behinds_len : ∀ (l : List Oper) (acc : List (List Nat)), (behinds acc l).length = acc.length + l.length
  | [], acc => by simp [behinds]
  | o :: r, acc => by simp only [behinds]; rw [behinds_len r]; simp; omega

theorem behinds_old : ∀ (l : List Oper) (acc : List (List Nat)) (j : Nat), j < acc.length → (behinds acc l).getD j [] = acc.getD j []
  | [], acc, j, _ => rfl
  | o :: r, acc, j, h => by
    simp only [behinds]
    rw [behinds_old r _ j (by simp; omega)]
    simp only [List.getD_eq_getElem?_getD]
    rw [List.getElem?_append_left h]

theorem behinds_get : ∀ (l : List Oper) (acc : List (List Nat)) (j : Nat) (o : Oper), l[j]? = some o →
    ∃ acc' : List (List Nat), (behinds acc l).getD (acc.length + j) [] = behind1 acc' o ∧ ∀ d, d < acc.length + j → acc'.getD d [] = (behinds acc l).getD d []
  | [], acc, j, o, h => by simp at h
  | x :: r, acc, j, o, h => by
    cases j with
    | zero =>
      simp at h
      subst h
      refine ⟨acc, ?_, fun d hd => (behinds_old (x :: r) acc d (by omega)).symm⟩
      simp only [behinds]
      rw [behinds_old r _ _ (by simp)]
      simp [List.getD_eq_getElem?_getD]
    | succ j =>
      obtain ⟨acc', h1, h2⟩ := behinds_get r (acc ++ [behind1 acc x]) j o (by simpa using h)
      simp only [behinds]
      simp only [List.length_append, List.length_singleton] at h1 h2
      refine ⟨acc', ?_, fun d hd => h2 d (by omega)⟩
      rw [← h1]
      congr 1
      omega

/-- A set of places that holds all that its places come behind. -/
def Closed (bs : List (List Nat)) (S : Nat → Bool) : Prop := ∀ j, S j = true → ∀ i, i ∈ bs.getD j [] → S i = true

theorem behind_lt {ops : List Oper} (he : edgesOk ops = true) : ∀ j, ∀ i, i ∈ (behinds [] ops).getD j [] → i < j := by
  intro j
  induction j using Nat.strongRecOn with
  | _ j ih =>
    intro i hi
    cases ho : ops[j]? with
    | none =>
      have hlen := behinds_len ops []
      have : j ≥ ops.length := by
        rcases Nat.lt_or_ge j ops.length with h | h
        · simp [List.getElem?_eq_getElem h] at ho
        · exact h
      rw [List.getD_eq_getElem?_getD, List.getElem?_eq_none (by simp at hlen; omega)] at hi
      simp at hi
    | some o =>
      obtain ⟨acc', h1, h2⟩ := behinds_get ops [] j o ho
      simp only [List.length_nil, Nat.zero_add] at h1 h2
      rw [h1] at hi
      have hedge : ∀ d, d ∈ ((o.after.toList.filter fun e => Region.binds .any e).map (·.on)) → d < j := by
        intro d hd
        simp only [List.mem_map, List.mem_filter] at hd
        obtain ⟨e, ⟨hm, hb⟩, rfl⟩ := hd
        simp only [edgesOk, List.all_eq_true] at he
        have := he (o, j) (by
          rw [List.mem_zipIdx_iff_getElem?]
          exact ho) e hm
        simpa [hb] using this
      simp only [behind1, List.mem_append, List.mem_flatMap] at hi
      rcases hi with hi | ⟨d, hd, hi⟩
      · exact hedge i hi
      · have hdj := hedge d hd
        rw [h2 d hdj] at hi
        have := ih d hdj i hi
        omega

theorem closed_add {ops : List Oper} (he : edgesOk ops = true) {S S' : Nat → Bool} {n : Nat} {o : Oper} (hS : Closed (behinds [] ops) S) (hS' : ∀ j, S' j = if j = n then true else S j) (ho : ops[n]? = some o)
    (hr : ∀ e, e ∈ o.after.toList → Region.binds .any e = true → S e.on = true) : Closed (behinds [] ops) S' ∧ ∀ i, i ∈ (behinds [] ops).getD n [] → S i = true := by
  have key : ∀ i, i ∈ (behinds [] ops).getD n [] → S i = true := by
    intro i hi
    obtain ⟨acc', h1, h2⟩ := behinds_get ops [] n o ho
    simp only [List.length_nil, Nat.zero_add] at h1 h2
    rw [h1] at hi
    simp only [behind1, List.mem_append, List.mem_flatMap, List.mem_map, List.mem_filter] at hi
    rcases hi with ⟨e, ⟨hm, hb⟩, rfl⟩ | ⟨d, ⟨e, ⟨hm, hb⟩, rfl⟩, hi⟩
    · exact hr e hm hb
    · have hlt : e.on < n := by
        simp only [edgesOk, List.all_eq_true] at he
        have := he (o, n) (by rw [List.mem_zipIdx_iff_getElem?]; exact ho) e hm
        simpa [hb] using this
      rw [h2 _ hlt] at hi
      exact hS _ (hr e hm hb) i hi
  refine ⟨fun j hj i hi => ?_, key⟩
  rw [hS']
  by_cases hi' : i = n
  · rw [if_pos hi']
  · rw [if_neg hi']
    rw [hS'] at hj
    by_cases hj' : j = n
    · subst hj'; exact key i hi
    · rw [if_neg hj'] at hj
      exact hS j hj i hi

theorem pairs_apart {pu : List Nat} {is : List PI} {bs : List (List Nat)} (h : pairsOk pu is bs = true) {i j : Nat} {x y : PI} (hij : i < j) (hx : is[i]? = some x) (hy : is[j]? = some y) : i ∈ bs.getD j [] ∨ Apart pu x y := by
  have hj : j < is.length := by
    rcases Nat.lt_or_ge j is.length with h' | h'
    · exact h'
    · rw [List.getElem?_eq_none h'] at hy; cases hy
  simp only [pairsOk, List.all_eq_true, List.mem_range] at h
  have := h j hj i hij
  rw [hx, hy] at this
  simp only [Bool.or_eq_true, List.contains_eq_mem, decide_eq_true_eq] at this
  rcases this with h1 | h1
  · exact .inl h1
  · exact .inr (apart_spec h1)

theorem ins {pu : List Nat} (hpu : CalmCall call pu) {is : List PI} {ops : List Oper} (hp : pairsOk pu is (behinds [] ops) = true) {S S' : Nat → Bool} {n : Nat} {x : PI} (hn : S n = false) (hS : Closed (behinds [] ops) S)
    (hS' : ∀ j, S' j = if j = n then true else S j) (hx : is[n]? = some x) (st : St) : steps call G (sel S' 0 is) st = (steps call G (sel S 0 is) st).bind (step call G x) := by
  refine insert_sel hpu hn hS' is 0 st (Nat.zero_le _) (by simpa using hx) fun j y hj hSj hy => ?_
  rcases pairs_apart hp hj hx (by simpa using hy) with h | h
  · rw [hS j hSj n h] at hn
    cases hn
  · exact h

/-- What runs as a whole runs in part. -/
theorem part_runs {pu : List Nat} (hpu : CalmCall call pu) {is : List PI} {ops : List Oper} (hl : is.length = ops.length) (he : edgesOk ops = true) (hp : pairsOk pu is (behinds [] ops) = true) {st st' : St} (h : steps call G is st = some st') :
    ∀ (m : Nat) (S : Nat → Bool), Closed (behinds [] ops) S → (∀ j, j + m < is.length → S j = true) → ∃ s, steps call G (sel S 0 is) st = some s := by
  intro m
  induction m with
  | zero =>
    intro S _ hall
    rw [sel_all is 0 fun j _ hj => hall j (by omega)]
    exact ⟨st', h⟩
  | succ m ih =>
    intro S hS hall
    by_cases hm : m < is.length
    · have hq : is.length - 1 - m < is.length := by omega
      generalize hn : is.length - 1 - m = n at hq
      by_cases hSn : S n = true
      · exact ih S hS fun j hj => by
          by_cases e : j = n
          · subst e; exact hSn
          · exact hall j (by omega)
      · have hSn' : S n = false := by simpa using hSn
        have hx : is[n]? = some is[n] := List.getElem?_eq_getElem hq
        have ho : ops[n]? = some (ops[n]'(by omega)) := List.getElem?_eq_getElem (by omega)
        have hready : ∀ e, e ∈ (ops[n]'(by omega)).after.toList → Region.binds .any e = true → S e.on = true := by
          intro e hm' hb
          have hlt : e.on < n := by
            simp only [edgesOk, List.all_eq_true] at he
            have := he (_, n) (by rw [List.mem_zipIdx_iff_getElem?]; exact ho) e hm'
            simpa [hb] using this
          exact hall _ (by omega)
        obtain ⟨hS2, _⟩ := closed_add he hS (S' := fun j => if j = n then true else S j) (fun _ => rfl) ho hready
        obtain ⟨s, hs⟩ := ih _ hS2 fun j hj => by
          by_cases e : j = n
          · simp [e]
          · simp only [if_neg e]; exact hall j (by omega)
        rw [ins hpu hp hSn' hS (fun _ => rfl) hx] at hs
        cases hq2 : steps call G (sel S 0 is) st with
        | none => rw [hq2] at hs; cases hs
        | some s' => exact ⟨s', rfl⟩
    · exact ih S hS fun j hj => by omega

theorem ready_iff {ops : Array Oper} {listed : Array Bool} (hs : listed.size = ops.size) {i : Nat} : i ∈ Region.ready .any ops listed ↔
    ∃ o, ops[i]? = some o ∧ listed.getD i false = false ∧ ∀ e, e ∈ o.after.toList → Region.binds .any e = true → listed.getD e.on false = true := by
  unfold Region.ready
  simp only [List.mem_filter, List.mem_range, Bool.and_eq_true, Bool.not_eq_true']
  constructor
  · rintro ⟨h1, h2, h3⟩
    have ho : ops[i]? = some ops[i] := Array.getElem?_eq_getElem h1
    refine ⟨ops[i], ho, ?_, ?_⟩
    · have hl : i < listed.size := by omega
      simpa [hl] using h2
    · rw [ho] at h3
      simp only [Option.map_some, Option.getD_some, Array.all_eq_true', Bool.or_eq_true, Bool.not_eq_true'] at h3
      intro e he hb
      have := h3 e (by simpa using he)
      rcases this with h | h
      · rw [hb] at h; cases h
      · exact h
  · rintro ⟨o, ho, h2, h3⟩
    have hi : i < ops.size := by
      rcases Nat.lt_or_ge i ops.size with h | h
      · exact h
      · rw [Array.getElem?_eq_none h] at ho; cases ho
    refine ⟨hi, ?_, ?_⟩
    · have hl : i < listed.size := by omega
      simpa [hl] using h2
    · rw [ho]
      simp only [Option.map_some, Option.getD_some, Array.all_eq_true', Bool.or_eq_true, Bool.not_eq_true']
      intro e he
      cases hb : Region.binds .any e with
      | false => exact .inl rfl
      | true => exact .inr (h3 e (by simpa using he) hb)

end
end Go.Pi
