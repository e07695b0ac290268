/- How a frame's relation is carried on: a register is written, a block is made, a box is written. -/
import Derived.Test.YtckcklkbdbafbaaDoorPiG
import Derived.Below
namespace Go.Pi
open Go
open PV (genOf asSrc clrC clrs clr clrAll cellsT cells0)

section
variable {P : Program} {G : Glob} {L : List Nat} {κ0 : KM} {w0 : World} {κ κ' : KM} {st : St} {a : Act} {w w' : World} {live : Nat → Bool} {tk : Nat}

theorem getD_set_eq {α : Type} (l : List α) (d : Nat) (x y : α) (h : d < l.length) : (l.set d x).getD d y = x := by
  simp [List.getD_eq_getElem?_getD, h]

theorem getD_set_ne {α : Type} (l : List α) (d i : Nat) (x y : α) (h : d ≠ i) : (l.set d x).getD i y = l.getD i y := by
  simp [List.getD_eq_getElem?_getD, List.getElem?_set_ne h]

theorem setA_eq (l : Array Value) (d : Nat) (x y : Value) (h : d < l.size) : (l.setIfInBounds d x).getD d y = x := by
  simp [h]

theorem setA_ne (l : Array Value) (d i : Nat) (x y : Value) (h : d ≠ i) : (l.setIfInBounds d x).getD i y = l.getD i y := by
  simp only [Array.getD_eq_getD_getElem?]
  rw [Array.getElem?_setIfInBounds_ne h]

theorem Rel.put (hR : Rel G L κ0 w0 κ st a w) {d : Option Nat} {p : PV} {v : Value} (hp : OpRep κ w st.ef.live st.ef.tk p v) (hd : ∀ t, d = some t → L.contains t = false) :
    Rel G L κ0 w0 κ ⟨putD st.regs d p, st.ef⟩ (a.put d v) w := by
  cases d with
  | none => exact hR
  | some t =>
    have hlt := hd t rfl
    refine { hR with size := ?_, reg := ?_, lbg := ?_, lbd := fun s hs => by simpa [putD] using hR.lbd s hs }
    · simpa [putD, Act.put] using hR.size
    · intro i hi
      simp only [putD, Act.put] at hi ⊢
      have hi' : i < st.regs.length := by simpa using hi
      by_cases e : t = i
      · subst e
        rw [getD_set_eq _ _ _ _ hi', setA_eq _ _ _ _ (by rw [hR.size]; exact hi')]
        exact hp.reg t
      · rw [getD_set_ne _ _ _ _ _ e, setA_ne _ _ _ _ _ e]
        exact hR.reg i hi'
    · intro b s g hk
      obtain ⟨h1, h2⟩ := hR.lbg b s g hk
      refine ⟨h1, ?_⟩
      have e : t ≠ s := by intro e; subst e; rw [hlt] at h1; cases h1
      simpa only [putD, getD_set_ne _ _ _ _ _ e] using h2

def updK (κ : KM) (n : Nat) (K : Kind) : KM := fun b => if b = n then K else κ b

theorem updK_ne {κ : KM} {n b : Nat} {K : Kind} (h : b ≠ n) : updK κ n K b = κ b := if_neg h
theorem updK_eq {κ : KM} {n : Nat} {K : Kind} : updK κ n K n = K := if_pos rfl

theorem foot_some {b n : Nat} (h : foot κ b n) : κ b ≠ .none := by
  intro e
  simp [foot, e] at h

theorem heap_alloc_lt (o : Obj) {b : Nat} (h : b < w.heap.size) : (w.alloc o).heap[b]? = w.heap[b]? := by
  show (w.heap.push o)[b]? = w.heap[b]?
  rw [Array.getElem?_push, if_neg (by omega)]

theorem cell_alloc_lt (o : Obj) {b i : Nat} (h : b < w.heap.size) : (w.alloc o).cell? ⟨b, i, none⟩ = w.cell? ⟨b, i, none⟩ := World.cell?_alloc_lt w o (a := ⟨b, i, none⟩) h

theorem keep_alloc (hnew : ∀ b, w.heap.size ≤ b → κ b = .none) (o : Obj) (K : Kind) : Keep κ w live tk (updK κ w.heap.size K) (w.alloc o) live tk := by
  have lt : ∀ b, κ b ≠ .none → b < w.heap.size := fun b h => Nat.lt_of_not_le fun hle => h (hnew b hle)
  refine ⟨⟨fun b n hf => ?_, fun b id hk => ?_, fun b o n hf _ => cell_alloc_lt _ (lt b (foot_some hf))⟩, fun b s g hk => ?_, fun b t h _ _ hk => ?_, fun _ _ h => h, Nat.le_refl _⟩
  · have := lt b (foot_some hf)
    unfold foot at *
    rw [updK_ne (by omega)]
    exact hf
  · rw [updK_ne (by have := lt b (by simp [hk]); omega)]; exact hk
  · rw [updK_ne (by have := lt b (by simp [hk]); omega)]; exact hk
  · have hl := lt b (by simp [hk])
    exact ⟨by rw [updK_ne (by omega)]; exact hk, heap_alloc_lt _ hl⟩

theorem Mem.mono {sh : Sh} (h : Mem κ sh w) (m : Mono κ w κ' w') (hsb : ∀ b id, κ' b = .sb id → κ b = .sb id) (hh : ∀ b id, κ b = .sb id → w'.heap[b]? = w.heap[b]?) : Mem κ' sh w' := by
  refine ⟨fun id cs hg => ?_, fun b b' id h1 h2 => h.inj b b' id (hsb _ _ h1) (hsb _ _ h2), fun b id h1 => h.lt b id (hsb _ _ h1), h.nd⟩
  obtain ⟨b, T, arr, h1, h2, h3⟩ := h.box id cs hg
  exact ⟨b, T, arr, m.sb _ _ h1, (hh b id h1).trans h2, h3.mono m⟩

/-- A new block that is no box of this frame: all stays. -/
theorem Rel.alloc (hR : Rel G L κ0 w0 κ st a w) (o : Obj) (K : Kind) (hK1 : ∀ s g, K ≠ .lb s g) (hK2 : ∀ id, K ≠ .sb id) (hK3 : ∀ t h, K = .arr t h → 2 ≤ t ∧ t < st.ef.tk) :
    Rel G L κ0 w0 (updK κ w.heap.size K) st a (w.alloc o) := by
  have k := keep_alloc (live := st.ef.live) (tk := st.ef.tk) hR.new o K
  have lt : ∀ b, κ b ≠ .none → b < w.heap.size := fun b h => Nat.lt_of_not_le fun hle => h (hR.new b hle)
  have back : ∀ b, b ≠ w.heap.size → updK κ w.heap.size K b = κ b := fun b h => updK_ne h
  refine ⟨hR.size, hR.defers, fun i hi => ?_, ?_, hR.glob.mono k.mono ?_, ?_, ?_, ?_, hR.tki, ?_, ?_, ?_, ?_, hR.pl, hR.lbd, hR.env.trans ⟨rfl, rfl, rfl⟩⟩
  · exact (hR.reg i hi).keep k fun b g hk => heap_alloc_lt _ (lt b (by simp [hk]))
  · refine hR.mem.mono k.mono (fun b id hk => ?_) fun b id hk => heap_alloc_lt _ (lt b (by simp [hk]))
    by_cases e : b = w.heap.size
    · subst e; rw [updK_eq] at hk; exact absurd hk (hK2 id)
    · rw [back b e] at hk; exact hk
  · intro b hb; rw [back b (by have := lt b (by simp [hb]); omega)]; exact hb
  · intro b b' s g h1 h2
    by_cases e : b = w.heap.size
    · subst e; rw [updK_eq] at h1; exact absurd h1 (hK1 s g)
    · by_cases e' : b' = w.heap.size
      · subst e'; rw [updK_eq] at h2; exact absurd h2 (hK1 s g)
      · rw [back _ e] at h1; rw [back _ e'] at h2; exact hR.lbi b b' s g h1 h2
  · intro b s g h1
    by_cases e : b = w.heap.size
    · subst e; rw [updK_eq] at h1; exact absurd h1 (hK1 s g)
    · rw [back _ e] at h1; exact hR.lbg b s g h1
  · intro b t h h1
    by_cases e : b = w.heap.size
    · subst e; rw [updK_eq] at h1; exact hK3 t h h1
    · rw [back _ e] at h1; exact hR.tok b t h h1
  · intro b hb
    rw [World.size_alloc] at hb
    rw [back b (by omega)]
    exact hR.new b (by omega)
  · rw [World.size_alloc]; have := hR.base; omega
  · intro b hb
    have := hR.base
    rw [back b (by omega)]
    exact hR.keep b hb
  · intro b hb hs
    have := hR.base
    rw [heap_alloc_lt o (by omega)]
    exact hR.old b hb hs

/-- A new box of this frame. -/
theorem Rel.newBox (hR : Rel G L κ0 w0 κ st a w) {d : Nat} (hd : L.contains d = true) {cs : List PV} {arr : Array Value} (T : TypeId) (hc : CellsT κ w st.ef.live st.ef.tk cs arr) :
    Rel G L κ0 w0 (updK κ w.heap.size (.lb d ((st.regs.getD d .un).genOf + 1))) ⟨putD st.regs (some d) (.bx ((st.regs.getD d .un).genOf + 1) cs), st.ef⟩
      (a.put (some d) (.pointer (some ⟨w.heap.size, 0, none⟩))) (w.alloc (.cells arr T)) := by
  have hl := hR.lbd d hd
  generalize hg0 : (st.regs.getD d .un).genOf = g0
  have k := keep_alloc (live := st.ef.live) (tk := st.ef.tk) hR.new (.cells arr T) (.lb d (g0 + 1))
  have lt : ∀ b, κ b ≠ .none → b < w.heap.size := fun b h => Nat.lt_of_not_le fun hle => h (hR.new b hle)
  have back : ∀ b, b ≠ w.heap.size → updK κ w.heap.size (.lb d (g0 + 1)) b = κ b := fun b h => updK_ne h
  have fresh : ∀ b g, κ b = .lb d g → g ≤ g0 := fun b g h => hg0 ▸ (hR.lbg b d g h).2
  refine ⟨?_, hR.defers, fun i hi => ?_, ?_, hR.glob.mono k.mono ?_, ?_, ?_, ?_, hR.tki, ?_, ?_, ?_, ?_, hR.pl, fun s hs => by simpa [putD] using hR.lbd s hs, hR.env.trans ⟨rfl, rfl, rfl⟩⟩
  · simpa [putD, Act.put] using hR.size
  · simp only [putD, Act.put] at hi ⊢
    have hi' : i < st.regs.length := by simpa using hi
    by_cases e : d = i
    · subst e
      rw [getD_set_eq _ _ _ _ hi', setA_eq _ _ _ _ (by rw [hR.size]; exact hi')]
      refine ⟨w.heap.size, T, arr, rfl, updK_eq, ?_, hc.keep k⟩
      show (w.heap.push _)[w.heap.size]? = _
      simp
    · rw [getD_set_ne _ _ _ _ _ e, setA_ne _ _ _ _ _ e]
      exact (hR.reg i hi').keep k fun b g hk => heap_alloc_lt _ (lt b (by simp [hk]))
  · refine hR.mem.mono k.mono (fun b id hk => ?_) fun b id hk => heap_alloc_lt _ (lt b (by simp [hk]))
    by_cases e : b = w.heap.size
    · subst e; rw [updK_eq] at hk; cases hk
    · rw [back b e] at hk; exact hk
  · intro b hb; rw [back b (by have := lt b (by simp [hb]); omega)]; exact hb
  · intro b b' s g h1 h2
    by_cases e : b = w.heap.size
    · by_cases e' : b' = w.heap.size
      · omega
      · subst e; rw [updK_eq] at h1; rw [back _ e'] at h2; cases h1
        have := fresh b' _ h2; omega
    · by_cases e' : b' = w.heap.size
      · subst e'; rw [updK_eq] at h2; rw [back _ e] at h1; cases h2
        have := fresh b _ h1; omega
      · rw [back _ e] at h1; rw [back _ e'] at h2; exact hR.lbi b b' s g h1 h2
  · intro b s g h1
    simp only [putD]
    by_cases e : b = w.heap.size
    · subst e; rw [updK_eq] at h1; cases h1
      refine ⟨hd, ?_⟩
      rw [getD_set_eq _ _ _ _ hl]; exact Nat.le_refl _
    · rw [back _ e] at h1
      obtain ⟨h2, h3⟩ := hR.lbg b s g h1
      refine ⟨h2, ?_⟩
      by_cases es : d = s
      · subst es
        rw [getD_set_eq _ _ _ _ hl]; have := fresh b g h1; simp only [genOf]; omega
      · rw [getD_set_ne _ _ _ _ _ es]; exact h3
  · intro b t h h1
    by_cases e : b = w.heap.size
    · subst e; rw [updK_eq] at h1; cases h1
    · rw [back _ e] at h1; exact hR.tok b t h h1
  · intro b hb
    rw [World.size_alloc] at hb
    rw [back b (by omega)]
    exact hR.new b (by omega)
  · rw [World.size_alloc]; have := hR.base; omega
  · intro b hb
    have := hR.base
    rw [back b (by omega)]
    exact hR.keep b hb
  · intro b hb hs
    have := hR.base
    rw [heap_alloc_lt _ (by omega)]
    exact hR.old b hb hs

end
end Go.Pi
