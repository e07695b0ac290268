/- append. -/
import Derived.Test.YtckcklkbdbafbaaDoorPiJ
namespace Go.Pi
open Go
open PV (genOf asSrc clrC clrs clr clrAll cellsT cells0)

section
variable {P : Program} {G : Glob} {L : List Nat} {κ0 : KM} {w0 : World} {κ κ' : KM} {st : St} {a a' : Act} {w w' : World} {live : Nat → Bool} {tk : Nat}

theorem cell_heap {w w2 : World} (h : w2.heap = w.heap) (ad : Addr) : w2.cell? ad = w.cell? ad := by simp [World.cell?, h]

theorem flat_of_rep {z c : Nat} {rows : List (List PV)} {ad : Option Addr} (h : RepC κ w (.sl 0 z rows) (.slice ad rows.length c)) :
    ∃ arr : Array Value, arr.size = rows.length * z ∧ Flat κ w z rows arr ∧ (∀ v ∈ arr.toList, v.oneCell' = true) ∧
      ∀ w2 : World, w2.heap = w.heap → (Builtin.firstCells z rows.length (.slice ad rows.length c)).run P w2 = .ok arr w2 := by
  generalize hx : Value.slice ad rows.length c = x at h
  cases h with
  | nil _ a' c' =>
    refine ⟨#[], by simp, ⟨by simp, by simp, by simp⟩, by simp, fun w2 _ => ?_⟩
    cases hx
    cases ad with
    | none => simp [Builtin.firstCells]
    | some b => simp [Builtin.firstCells, loadCells, loadCellsFrom]
  | sl _ _ b o c' vs h1 h2 h3 h4 h5 h6 =>
    cases hx
    have hdiv : ∀ q, q < rows.length * z → q / z < rows.length ∧ q % z < z ∧ q / z * z + q % z = q := by
      intro q hq
      have hz : 0 < z := by
        rcases Nat.eq_zero_or_pos z with e | e
        · subst e; simp at hq
        · exact e
      exact ⟨Nat.div_lt_of_lt_mul (by rw [Nat.mul_comm]; exact hq), Nat.mod_lt _ hz, by rw [Nat.mul_comm]; exact Nat.div_add_mod q z⟩
    have hval : ∀ i j, i < rows.length → j < z → (((List.range (rows.length * z)).map fun q => vs (q / z) (q % z)).toArray).getD (i * z + j) undef = vs i j := by
      intro i j hi hj
      have hlt : i * z + j < rows.length * z := by have := at_lt hi hj 0; omega
      have hz : 0 < z := by omega
      have e1 : (i * z + j) / z = i := by
        rw [Nat.mul_comm, Nat.mul_add_div hz, Nat.div_eq_of_lt hj, Nat.add_zero]
      have e2 : (i * z + j) % z = j := by rw [Nat.mul_comm, Nat.mul_add_mod]; exact Nat.mod_eq_of_lt hj
      simp [hlt, e1, e2]
    refine ⟨((List.range (rows.length * z)).map fun q => vs (q / z) (q % z)).toArray, by simp, ⟨by simp, h2, fun i j hi hj => ?_⟩, fun v hv => ?_, fun w2 hw2 => ?_⟩
    · rw [hval i j hi hj]
      exact h5 i j hi hj
    · simp only [List.mem_map, List.mem_range] at hv
      obtain ⟨q, hq, e⟩ := hv
      obtain ⟨g1, g2, _⟩ := hdiv q hq
      rw [← e]
      exact (h5 _ _ g1 g2).oneCell
    · simp only [Builtin.firstCells]
      refine run_loadCells w2 ⟨b, o, none⟩ _ (fun q => vs (q / z) (q % z)) fun q hq => ?_
      obtain ⟨g1, g2, g3⟩ := hdiv q hq
      rw [addr_add, cell_heap hw2]
      have := h4 _ _ g1 g2
      rw [Nat.add_assoc, g3] at this
      exact this

theorem Flat.append {z : Nat} {rows rows' : List (List PV)} {arr arr' rest : Array Value} (h : Flat κ w z rows arr) (h' : Flat κ w z rows' arr') (hs : arr.size = rows.length * z) :
    Flat κ w z (rows ++ rows') (arr ++ arr' ++ rest) := by
  have h1 := h'.1
  refine ⟨by simp [Nat.add_mul]; omega, fun r hr => ?_, fun i j hi hj => ?_⟩
  · rcases List.mem_append.1 hr with hr | hr
    · exact h.2.1 r hr
    · exact h'.2.1 r hr
  · by_cases hlt : i < rows.length
    · have hq : i * z + j < arr.size := by rw [hs]; have := at_lt hlt hj 0; omega
      have e1 : (rows ++ rows').getD i [] = rows.getD i [] := by
        simp only [List.getD_eq_getElem?_getD]
        rw [List.getElem?_append_left hlt]
      have e2 : (arr ++ arr' ++ rest).getD (i * z + j) undef = arr.getD (i * z + j) undef := by
        simp only [Array.getD_eq_getD_getElem?, Array.append_assoc]
        rw [Array.getElem?_append_left hq]
      rw [e1, e2]
      exact h.2.2 i j hlt hj
    · have hi' : i - rows.length < rows'.length := by simp at hi; omega
      have hq : (i - rows.length) * z + j < arr'.size := by have := at_lt hi' hj 0; omega
      have e1 : (rows ++ rows').getD i [] = rows'.getD (i - rows.length) [] := by
        simp only [List.getD_eq_getElem?_getD]
        rw [List.getElem?_append_right (by omega)]
      have hi2 : i * z + j = arr.size + ((i - rows.length) * z + j) := by
        rw [hs, ← Nat.add_assoc, ← Nat.add_mul]
        congr 2
        omega
      have e2 : (arr ++ arr' ++ rest).getD (i * z + j) undef = arr'.getD ((i - rows.length) * z + j) undef := by
        simp only [Array.getD_eq_getD_getElem?, Array.append_assoc]
        rw [hi2, Array.getElem?_append_right (by omega), Array.getElem?_append_left (by omega)]
        congr 2
        omega
      rw [e1, e2]
      exact h'.2.2 _ j hi' hj

/-- append, where there is no room. -/
theorem append_grows {T T' E : TypeId} {i : TypeInfo} {zv : Value} (hT : P.underlying T = some (.slice E)) (hT' : ∃ E', P.underlying T' = some (.slice E')) (hi : P.info? E = some i) (hz : i.zero = some zv)
    {ad ad' : Option Addr} {n c m c' : Nat} {olds news : Array Value} (ty : TypeId)
    (ho : ∀ w2 : World, w2.heap = w.heap → (Builtin.firstCells i.size n (.slice ad n c)).run P w2 = .ok olds w2)
    (hn : ∀ w2 : World, w2.heap = w.heap → (Builtin.firstCells i.size m (.slice ad' m c')).run P w2 = .ok news w2)
    (hg : c < n + m) (hmax : n + m ≤ appMax) (hb : i.bytes ≤ 4096) :
    ∃ (cap : Nat) (w2 : World), n + m ≤ cap ∧ w2.heap = w.heap ∧ Env w w2 ∧ (Builtin.append_ #[T, T'] ty #[.slice ad n c, .slice ad' m c']).run P w =
      .ok (.slice (some ⟨w.heap.size, 0, none⟩) (n + m) cap) (w2.alloc (.cells (olds ++ news ++ Builtin.zeroCells zv.cells (cap - (n + m))) E)) := by
  obtain ⟨E', hT'⟩ := hT'
  have h1 : ¬ (n + m ≤ c) := by omega
  have h63 : ¬ (9223372036854775807 < ((n : Int) + (m : Int))) := by unfold appMax at hmax; omega
  have hbound : (n + m) * i.bytes ≤ 140737488355328 := by
    have := Nat.mul_le_mul hmax hb
    unfold appMax at this
    omega
  have h48 : ¬ (281474976710656 < Builtin.nextslicecap (n + m) c * i.bytes) := by
    have := growslice_fits hg hbound
    omega
  have ho' := ho w.drew rfl
  have hn' := hn w.drew rfl
  refine ⟨grownCap w (n + m) c E, w.drew, grownCap_ge w _ _ _, rfl, ⟨rfl, rfl, rfl⟩, ?_⟩
  simp [Builtin.append_, run_underlying hT, run_underlying hT', sizeOf, typeInfo, zeroValue, hi, hz, Builtin.lenOf, h1, h63, h48, Question.forced, ho', hn', newRow, grownCap]

/-- append, where there is room. -/
theorem append_room {T T' E : TypeId} {i : TypeInfo} (hT : P.underlying T = some (.slice E)) (hT' : ∃ E', P.underlying T' = some (.slice E')) (hi : P.info? E = some i)
    {ad ad' : Option Addr} {n c m c' : Nat} {news : Array Value} (ty : TypeId)
    (hn : (Builtin.firstCells i.size m (.slice ad' m c')).run P w = .ok news w) (hg : n + m ≤ c) :
    (Builtin.append_ #[T, T'] ty #[.slice ad n c, .slice ad' m c']).run P w =
      ((match ad with | some a => storeCells (a.add (n * i.size)) news.toList | none => pure () : Sem Unit).run P w).andThen fun _ w' => .ok (.slice ad (n + m) c) w' := by
  obtain ⟨E', hT'⟩ := hT'
  have h1 : n + m ≤ c := hg
  cases ad <;> simp [Builtin.append_, run_underlying hT, run_underlying hT', sizeOf, typeInfo, hi, Builtin.lenOf, h1, hn]


theorem keep_ext {live' : Nat → Bool} {tk' : Nat} (hκ : ∀ b, κ b ≠ .none → κ' b = κ b) (hh : ∀ b, κ b ≠ .none → w'.heap[b]? = w.heap[b]?)
    (hl : ∀ t, t < tk → live' t = true → live t = true) (htk : tk ≤ tk') : Keep κ w live tk κ' w' live' tk' := by
  refine ⟨⟨fun b n hf => ?_, fun b id hk => ?_, fun b o n hf _ => World.cell?_of_block (hh b (foot_some hf))⟩, fun b s g hk => ?_, fun b t h _ _ hk => ?_, hl, htk⟩
  · have := hκ b (foot_some hf)
    unfold foot at *
    rw [this]
    exact hf
  · rw [hκ b (by simp [hk])]; exact hk
  · rw [hκ b (by simp [hk])]; exact hk
  · exact ⟨by rw [hκ b (by simp [hk])]; exact hk, hh b (by simp [hk])⟩

/-- What is kept of a frame when nothing that stood is written. -/
theorem Rel.ext (hR : Rel G L κ0 w0 κ st a w) {ef' : Eff} (henv : Env w w') (hκ : ∀ b, κ b ≠ .none → κ' b = κ b) (hh : ∀ b, b < w.heap.size → w'.heap[b]? = w.heap[b]?) (hsz : w.heap.size ≤ w'.heap.size)
    (hl : ∀ t, t < st.ef.tk → ef'.live t = true → st.ef.live t = true) (htk : st.ef.tk ≤ ef'.tk) (hsh : ef'.sh = st.ef.sh)
    (hb : ∀ b, κ' b ≠ .none → κ b = .none → (∀ s g, κ' b ≠ .lb s g) ∧ (∀ id, κ' b ≠ .sb id) ∧ (∀ t h, κ' b = .arr t h → 2 ≤ t ∧ t < ef'.tk) ∧ w.heap.size ≤ b ∧ b < w'.heap.size) :
    Rel G L κ0 w0 κ' ⟨st.regs, ef'⟩ a w' := by
  have lt : ∀ b, κ b ≠ .none → b < w.heap.size := fun b h => Nat.lt_of_not_le fun hle => h (hR.new b hle)
  have k : Keep κ w st.ef.live st.ef.tk κ' w' ef'.live ef'.tk := keep_ext hκ (fun b h => hh b (lt b h)) hl htk
  have back : ∀ b K, κ' b = K → K ≠ .none → (κ b = K ∧ b < w.heap.size) ∨ (κ b = .none) := by
    intro b K h1 h2
    by_cases e : κ b = .none
    · exact .inr e
    · left; exact ⟨by rw [← hκ b e]; exact h1, lt b e⟩
  refine hR.upd k henv hsz rfl rfl hR.defers (fun i hi => (hR.reg i hi).keep k fun b g hk => hh b (lt b (by simp [hk]))) (fun _ _ => Nat.le_refl _) ?_ (fun b h => by rw [hκ b (by simp [h])]; exact h) ?_ ?_ (Nat.le_trans hR.tki htk) ?_ ?_ ?_
  · rw [hsh]
    refine hR.mem.mono k.mono (fun b id h => ?_) fun b id hk => hh b (lt b (by simp [hk]))
    rcases back b _ h (by simp) with h' | h'
    · exact h'.1
    · exact absurd h ((hb b (by simp [h]) h').2.1 id)
  · intro b s g h
    rcases back b _ h (by simp) with h' | h'
    · exact h'.1
    · exact absurd h ((hb b (by simp [h]) h').1 s g)
  · intro b t h h1
    rcases back b _ h1 (by simp) with h' | h'
    · have := hR.tok b t h h'.1; omega
    · exact (hb b (by simp [h1]) h').2.2.1 t h h1
  · intro b hbb
    by_cases e : κ' b = .none
    · exact e
    · by_cases e' : κ b = .none
      · have := (hb b e e').2.2.2.2; omega
      · have := lt b e'; omega
  · intro b hbb
    have := hR.base
    by_cases e : κ b = .none
    · by_cases e' : κ' b = .none
      · rw [e, e']
      · have := (hb b e' e).2.2.2.1; omega
    · exact hκ b e
  · intro b hbb _
    have := hR.base
    exact hh b (by omega)

theorem rep_sz {z sz c : Nat} {rows : List (List PV)} {ad : Option Addr} {x : Value} (h : RepC κ w (.sl 0 z rows) x) (hx : x = .slice ad rows.length c) (hz : z = sz ∨ rows = []) :
    RepC κ w (.sl 0 sz rows) (.slice ad rows.length c) := by
  rw [← hx]
  by_cases e : z = sz
  · rw [← e]; exact h
  · have e2 : rows = [] := by
      rcases hz with h | h
      · exact absurd h e
      · exact h
    subst e2
    rw [hx]
    exact .nil _ _ _

theorem rep_cap {z c : Nat} {rows : List (List PV)} {ad : Option Addr} (h : RepC κ w (.sl 0 z rows) (.slice ad rows.length c)) : rows.length ≤ c := by
  generalize hx : Value.slice ad rows.length c = x at h
  cases h with
  | nil => simp
  | sl _ _ _ _ _ _ _ _ _ _ _ h6 => cases hx; exact h6

theorem Rel.app (hR : Rel G L κ0 w0 κ st a w) {S : Operand → PV} {ρ : Operand → Value} (hS : ∀ x, OpRep κ w st.ef.live st.ef.tk (S x) (ρ x)) {x y : Operand} {T T' E : TypeId} {i : TypeInfo}
    (hT : P.underlying T = some (.slice E)) (hT' : ∃ E', P.underlying T' = some (.slice E')) (hi : P.info? E = some i) {zc : List PV} (hzc : zeroC P E = some zc) (hzl : zc.length = i.size)
    (hb : i.bytes ≤ 4096) (ty : TypeId) {call : CallF} {p : PV} {ef' : Eff} (h : evalE call (.app i.size) [S x, S y] st.ef = some (p, ef'))
    {d : Option Nat} (hd : ∀ t, d = some t → L.contains t = false) :
    ∃ v w' κ', (Builtin.append_ #[T, T'] ty #[ρ x, ρ y]).run P w = .ok v w' ∧ Rel G L κ0 w0 κ' ⟨putD st.regs d p, ef'⟩ (a.put d v) w' := by
  obtain ⟨i2, zv, hi2, hzv, hzr⟩ := zeroC_inv hzc
  rw [hi] at hi2
  cases hi2
  have hzs : zv.cells.size = i.size := by
    have := (ofCells_rep (κ := κ) (w := w) (live := st.ef.live) (tk := st.ef.tk) hzr).1
    omega
  have hx := hS x
  have hy := hS y
  generalize S x = px at *
  generalize S y = py at *
  generalize ρ x = vx at *
  generalize ρ y = vy at *
  cases px with
  | sl t z rows =>
    cases py with
    | sl t' z' rows' =>
      simp only [evalE] at h
      split at h
      · rename_i hc
        simp only [Option.some.injEq, Prod.mk.injEq] at h
        obtain ⟨rfl, rfl⟩ := h
        simp only [appOk, Bool.and_eq_true, Bool.or_eq_true, decide_eq_true_eq, List.isEmpty_iff] at hc
        obtain ⟨⟨hc1, hc2⟩, hmax⟩ := hc
        obtain ⟨hrx, ad, c, hxv⟩ := hx.sl_inv
        obtain ⟨hry, ad', c', hyv⟩ := hy.sl_inv
        have htok : (t = 1 ∧ FullV vx) ∨ (2 ≤ t ∧ st.ef.live t = true ∧ z = i.size ∧ (FullV vx ∨ OwnV κ w t z rows.length vx)) := by
          obtain ⟨_, _, ht⟩ := hx
          by_cases e : t = 1
          · subst e
            rcases ht with h | h | h
            · omega
            · exact .inl h
            · omega
          · rw [if_neg e] at hc1
            simp only [Bool.and_eq_true, decide_eq_true_eq] at hc1
            rcases ht with h | h | h
            · omega
            · exact absurd h.1 e
            · exact .inr ⟨hc1.1.1, hc1.1.2, hc1.2, h.2.2 hc1.1.2⟩
        have hz : z = i.size ∨ rows = [] := by
          rcases htok with h | h
          · rw [if_pos h.1] at hc1; simpa using hc1
          · exact .inl h.2.2.1
        have hr1 := rep_sz hrx hxv hz
        have hr2 := rep_sz hry hyv hc2
        obtain ⟨olds, ho1, ho2, ho3, ho4⟩ := flat_of_rep (P := P) hr1
        obtain ⟨news, hn1, hn2, hn3, hn4⟩ := flat_of_rep (P := P) hr2
        have hlive : ∀ s, s < st.ef.tk → (if s = st.ef.tk then true else if s = t then false else st.ef.live s) = true → st.ef.live s = true := by
          intro s hs h
          rw [if_neg (by omega)] at h
          split at h
          · cases h
          · exact h
        rw [hxv, hyv]
        by_cases hg : c < rows.length + rows'.length
        · obtain ⟨cap, w2, g1, g2, genv, g3⟩ := append_grows hT hT' hi hzv (n := rows.length) (m := rows'.length) ty ho4 hn4 hg hmax hb
          have hsz2 : w2.heap.size = w.heap.size := by rw [g2]
          have hflat := Flat.append (rest := Builtin.zeroCells zv.cells (cap - (rows.length + rows'.length))) ho2 hn2 ho1
          have hRx : Rel G L κ0 w0 (updK κ w.heap.size (.arr st.ef.tk ((rows.length + rows'.length) * i.size)))
              ⟨st.regs, { st.ef with tk := st.ef.tk + 1, live := fun x => if x = st.ef.tk then true else if x = t then false else st.ef.live x }⟩ a
              (w2.alloc (.cells (olds ++ news ++ Builtin.zeroCells zv.cells (cap - (rows.length + rows'.length))) E)) := by
            refine hR.ext ⟨genv.1, genv.2.1, genv.2.2⟩ (fun b hb => ?_) (fun b hb => ?_) ?_ hlive (by simp) rfl (fun b hb1 hb2 => ?_)
            · exact updK_ne (fun e => hb (by rw [e]; exact hR.new _ (Nat.le_refl _)))
            · rw [heap_alloc_lt _ (by omega), g2]
            · simp; omega
            · by_cases e : b = w.heap.size
              · subst e
                rw [updK_eq]
                refine ⟨by simp, by simp, fun t h hh => ?_, Nat.le_refl _, by simp; omega⟩
                cases hh
                have := hR.tki
                simp only
                omega
              · rw [updK_ne e] at hb1; exact absurd hb2 hb1
          refine ⟨_, _, _, g3, hRx.put ⟨trivial, ?_, ?_⟩ hd⟩
          · have hnew2 : ∀ b, w2.heap.size ≤ b → κ b = .none := by rw [hsz2]; exact hR.new
            have m2 : Mono κ w κ w2 := ⟨fun _ _ h => h, fun _ _ h => h, fun b o n _ _ => cell_heap g2 _⟩
            have := newRow_rep (T := E) hnew2 (.arr st.ef.tk ((rows.length + rows'.length) * i.size)) (hflat.mono m2) (c := cap) (by simpa using g1) (by
              rw [List.length_append]; simp [foot, updK_eq])
            rw [hsz2, List.length_append] at this
            exact this
          · refine .inr (.inr ⟨hR.tki, by simp, fun _ => .inr ⟨w.heap.size, 0, cap, E, olds ++ news ++ Builtin.zeroCells zv.cells (cap - (rows.length + rows'.length)), ?_, ?_, ?_, ?_, ?_⟩⟩)
            · rw [List.length_append]
            · rw [updK_eq]; simp
            · show (w2.heap.push _)[w.heap.size]? = _
              rw [← hsz2]; simp
            · simp only [Array.size_append, ho1, hn1, size_zeroCells, hzs]
              rw [Nat.sub_mul, Nat.add_mul]
              have := Nat.mul_le_mul_right i.size g1
              rw [Nat.add_mul] at this
              omega
            · rw [List.length_append]; exact g1
        · have hroom : rows.length + rows'.length ≤ c := by omega
          have hrun := append_room (P := P) hT hT' hi (ad := ad) (n := rows.length) ty (hn4 w rfl) hroom
          have full : FullV vx → ∃ v w' κ', (Builtin.append_ #[T, T'] ty #[.slice ad rows.length c, .slice ad' rows'.length c']).run P w = .ok v w' ∧
              Rel G L κ0 w0 κ' ⟨putD st.regs d (.sl st.ef.tk i.size (rows ++ rows')), { st.ef with tk := st.ef.tk + 1, live := fun x => if x = st.ef.tk then true else if x = t then false else st.ef.live x }⟩ (a.put d v) w' := by
            intro ⟨a1, n1, hf⟩
            rw [hxv] at hf
            have hnc : rows.length = c := by cases hf; rfl
            have hm : rows' = [] := by
              have : rows'.length = 0 := by omega
              exact List.eq_nil_of_length_eq_zero this
            subst hm
            have hnews : news.toList = [] := by
              have : news.toList.length = 0 := by simpa using hn1
              exact List.eq_nil_of_length_eq_zero this
            have hRx := hR.ext (κ' := κ) (w' := w) (ef' := { st.ef with tk := st.ef.tk + 1, live := fun x => if x = st.ef.tk then true else if x = t then false else st.ef.live x }) ⟨rfl, rfl, rfl⟩ (fun _ _ => rfl) (fun _ _ => rfl) (Nat.le_refl _) hlive (by simp) rfl (fun b h1 h2 => absurd h2 h1)
            refine ⟨.slice ad (rows.length + 0) c, w, κ, ?_, hRx.put ⟨trivial, ?_, ?_⟩ hd⟩
            · rw [List.length_nil] at hrun ⊢
              rw [hrun, hnews]
              cases ad <;> simp [storeCells]
            · rw [List.append_nil]; exact hr1
            · exact .inr (.inr ⟨hR.tki, by simp, fun _ => .inl ⟨ad, rows.length, by rw [← hnc]; rfl⟩⟩)
          rcases htok with ⟨_, hf⟩ | ⟨ht2, htl, hzz, hf | hown⟩
          · exact full hf
          · exact full hf
          · obtain ⟨b, o, c2, T0, arr, hv, hk, hh, hsz, _⟩ := hown
            rw [hxv] at hv
            cases hv
            subst hzz
            have hbw : ¬ b < w0.heap.size := by
              intro hlt
              have h1 := hR.keep b hlt
              have h2 := hR.pl b
              rw [← h1, hk] at h2
              exact h2
            have hfit : o + rows.length * i.size + rows'.length * i.size ≤ arr.size := by
              have := Nat.mul_le_mul_right i.size hroom
              rw [Nat.add_mul] at this
              omega
            have hst := run_storeCells_at P b (o + rows.length * i.size) T0 news.toList 0 arr w hh (by simp; omega) hn3
            simp only [Nat.add_zero] at hst
            generalize hA : (arr.toList.take (o + rows.length * i.size) ++ news.toList ++ arr.toList.drop (o + rows.length * i.size + news.toList.length)).toArray = arr2 at hst
            have hget : ∀ q, arr2.getD q undef = if o + rows.length * i.size ≤ q ∧ q < o + rows.length * i.size + rows'.length * i.size then news.getD (q - (o + rows.length * i.size)) undef else arr.getD q undef := by
              intro q
              rw [← hA, toArray_getD, spl_get _ _ _ _ _ (by simp; omega), toList_getD, toList_getD]
              simp [hn1]
            have hsz2 : arr2.size = arr.size := by rw [← hA]; simp; omega
            have hh2 := setRow_heap w b arr arr2 T0 _ hh
            have hother : ∀ q, q ≠ b → (w.setRow b arr2).heap[q]? = w.heap[q]? := fun q hq => setRow_other w b q _ hq
            have hcell : ∀ q, q < arr.size → (w.setRow b arr2).cell? ⟨b, q, none⟩ = some (arr2.getD q undef) := by
              intro q hq
              have : q < arr2.size := by omega
              simp only [World.cell?, hh2]
              simp [this]
            have hcell0 : ∀ q, q < arr.size → w.cell? ⟨b, q, none⟩ = some (arr.getD q undef) := by
              intro q hq
              simp only [World.cell?, hh]
              simp [hq]
            have k : Keep κ w st.ef.live st.ef.tk (updK κ b (.arr st.ef.tk (o + (rows.length + rows'.length) * i.size))) (w.setRow b arr2)
                (fun x => if x = st.ef.tk then true else if x = t then false else st.ef.live x) (st.ef.tk + 1) := by
              refine ⟨⟨fun q n hf => ?_, fun q id hq => ?_, fun q o2 n hf hlt => ?_⟩, fun q s g hq => ?_, fun q s h hls hts hq => ?_, hlive, by omega⟩
              · by_cases e : q = b
                · subst e
                  simp only [foot, hk, updK_eq, Nat.add_mul] at hf ⊢
                  omega
                · unfold foot at *; rw [updK_ne e]; exact hf
              · rw [updK_ne (fun e => by rw [e, hk] at hq; cases hq)]; exact hq
              · by_cases e : q = b
                · subst e
                  simp only [foot, hk] at hf
                  rw [hcell o2 (by omega), hcell0 o2 (by omega), hget o2, if_neg (by omega)]
                · exact World.cell?_of_block (hother q e)
              · rw [updK_ne (fun e => by rw [e, hk] at hq; cases hq)]; exact hq
              · have e : q ≠ b := by
                  intro e
                  rw [e, hk] at hq
                  cases hq
                  simp at hls
                  omega
                exact ⟨by rw [updK_ne e]; exact hq, hother q e⟩
            have hRx : Rel G L κ0 w0 (updK κ b (.arr st.ef.tk (o + (rows.length + rows'.length) * i.size)))
                ⟨st.regs, { st.ef with tk := st.ef.tk + 1, live := fun x => if x = st.ef.tk then true else if x = t then false else st.ef.live x }⟩ a (w.setRow b arr2) := by
              have lt : ∀ q, κ q ≠ .none → q < w.heap.size := fun q h => Nat.lt_of_not_le fun hle => h (hR.new q hle)
              refine hR.upd k ⟨rfl, rfl, rfl⟩ (by simp) rfl rfl hR.defers (fun j hj => (hR.reg j hj).keep k fun q g hq => hother q fun e => by rw [e, hk] at hq; cases hq) (fun _ _ => Nat.le_refl _) ?_ ?_ ?_ ?_ (by have := hR.tki; simp only; omega) ?_ ?_ ?_
              · refine hR.mem.mono k.mono (fun q id hq => ?_) fun q id hq => hother q fun e => by rw [e, hk] at hq; cases hq
                by_cases e : q = b
                · rw [e, updK_eq] at hq; cases hq
                · rw [updK_ne e] at hq; exact hq
              · intro q hq; rw [updK_ne (fun e => by rw [e, hk] at hq; cases hq)]; exact hq
              · intro q s g hq
                by_cases e : q = b
                · rw [e, updK_eq] at hq; cases hq
                · rw [updK_ne e] at hq; exact hq
              · intro q s h hq
                by_cases e : q = b
                · rw [e, updK_eq] at hq; cases hq
                  have := hR.tki
                  simp only
                  omega
                · rw [updK_ne e] at hq
                  have := hR.tok q s h hq
                  simp only
                  omega
              · intro q hq
                rw [size_setRow] at hq
                have := hR.new q hq
                rw [updK_ne (fun e => by rw [e, hk] at this; cases this)]
                exact this
              · intro q hq
                exact updK_ne (by omega)
              · intro q hq _
                exact hother q (by omega)
            refine ⟨.slice (some ⟨b, o, none⟩) (rows.length + rows'.length) c, w.setRow b arr2, updK κ b (.arr st.ef.tk (o + (rows.length + rows'.length) * i.size)), ?_, hRx.put ⟨trivial, ?_, ?_⟩ hd⟩
            · rw [hrun]
              simp only [addr_add, hst, Result.andThen_ok]
            · suffices H : RepC (updK κ b (.arr st.ef.tk (o + (rows.length + rows'.length) * i.size))) (w.setRow b arr2) (.sl 0 i.size (rows ++ rows')) (.slice (some ⟨b, o, none⟩) (rows ++ rows').length c) by
                rw [List.length_append] at H; exact H
              by_cases he : rows ++ rows' = []
              · rw [he]; exact .nil _ _ _
              · refine .sl i.size (rows ++ rows') b o c (fun p q => arr2.getD (o + p * i.size + q) undef) he (fun r hr => ?_) ?_ (fun p q hp hq => ?_) (fun p q hp hq => ?_) (by rw [List.length_append]; exact hroom)
                · rcases List.mem_append.1 hr with hr | hr
                  · exact ho2.2.1 r hr
                  · exact hn2.2.1 r hr
                · rw [List.length_append]; simp [foot, updK_eq]
                · refine hcell _ ?_
                  have := at_lt hp hq o
                  rw [List.length_append, Nat.add_mul] at this
                  omega
                · by_cases hlt : p < rows.length
                  · have e1 : (rows ++ rows').getD p [] = rows.getD p [] := by
                      simp only [List.getD_eq_getElem?_getD]
                      rw [List.getElem?_append_left hlt]
                    have hq2 : o + p * i.size + q < o + rows.length * i.size := at_lt hlt hq o
                    rw [e1, hget, if_neg (by omega)]
                    generalize hX : Value.slice (some ⟨b, o, none⟩) rows.length c = X at hr1
                    cases hr1 with
                    | nil => simp at hlt
                    | sl _ _ b3 o3 c3 vs g1 g2 g3 g4 g5 g6 =>
                      cases hX
                      have h4 := g4 p q hlt hq
                      rw [hcell0 _ (by omega)] at h4
                      rw [Option.some.inj h4]
                      exact (g5 p q hlt hq).mono k.mono
                  · have hp' : p - rows.length < rows'.length := by rw [List.length_append] at hp; omega
                    have e1 : (rows ++ rows').getD p [] = rows'.getD (p - rows.length) [] := by
                      simp only [List.getD_eq_getElem?_getD]
                      rw [List.getElem?_append_right (by omega)]
                    have hlt2 := at_lt hp' hq 0
                    have hsplit : p * i.size = rows.length * i.size + (p - rows.length) * i.size := by
                      rw [← Nat.add_mul]; congr 1; omega
                    rw [e1, hget, if_pos (by omega)]
                    have e3 : o + p * i.size + q - (o + rows.length * i.size) = (p - rows.length) * i.size + q := by omega
                    rw [e3]
                    exact (hn2.2.2 _ q hp' hq).mono k.mono
            · refine .inr (.inr ⟨hR.tki, by simp, fun _ => .inr ⟨b, o, c, T0, arr2, ?_, ?_, hh2, ?_, ?_⟩⟩)
              · rw [List.length_append]
              · rw [updK_eq, List.length_append]
              · rw [hsz2]; exact hsz
              · rw [List.length_append]; exact hroom
      · cases h
    | _ => simp [evalE] at h
  | _ => cases py <;> simp [evalE] at h

end
end Go.Pi
