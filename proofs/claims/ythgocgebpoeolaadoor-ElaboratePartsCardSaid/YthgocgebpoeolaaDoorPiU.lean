/- From a run of the interpreter to what a law's row asks of the machine. -/
import Derived.Test.YthgocgebpoeolaaDoorPiT
import Derived.Below
namespace Go.Pi
open Go Go.RowKit
open PV (genOf asSrc clrC clrs clr clrAll cellsT cells0)

section
variable {P : Program} {G : Glob}

/-- Every block that stands is read for good. -/
def allImm (w : World) : KM := fun b => if b < w.heap.size then .imm else .none

/-- The tables that the program lays. -/
def GlobAt (G : Glob) (w : World) : Prop := ∀ g cs, G g = some cs → g < w.heap.size ∧ ∀ j, j < cs.length → ∃ x, cs.getD j .un = .v x ∧ x.oneCell' = true ∧ w.cell? ⟨g, j, none⟩ = some x

theorem globOK_of {w : World} (h : GlobAt G w) : GlobOK G (allImm w) w := by
  intro g cs hg
  obtain ⟨h1, h2⟩ := h g cs hg
  refine ⟨by simp [allImm, h1], fun j hj => ?_⟩
  obtain ⟨x, e, ho, hc⟩ := h2 j hj
  exact ⟨x, hc, by rw [e]; exact .v x ho, by rw [e]; rfl⟩

/-- A law that the interpreter finds true. -/
theorem law_calls (hm : P.follows .mixedOrders = true) {T : Nat → Option PF} (hT : TabOK P T) {n f : Nat} {args : List PV} {sh' : Sh} (h : callN T G n f args ⟨[], 0⟩ = some (.v (.bool true), sh'))
    {w : World} (hg : GlobAt G w) {vals : Array Value} (hs : vals.size = args.length) (ha : ∀ i, i < args.length → ValRep (allImm w) w (args.getD i .un) (vals.getD i undef)) :
    Calls P f vals w fun e w' => e = .returned (.bool true) ∧ Below w.heap.size w w' := by
  refine ((call_ok hm hT n f args ⟨[], 0⟩ _ sh' h).2 (allImm w) w vals ⟨⟨fun id cs hq => by simp [getB] at hq, fun b b' id h1 _ => ?_, fun b id h1 => ?_, by simp⟩, globOK_of hg, fun b hb => ?_, fun b => ?_, hs, ha⟩).mono fun e w' hp => ?_
  · simp only [allImm] at h1; split at h1 <;> cases h1
  · simp only [allImm] at h1; split at h1 <;> cases h1
  · simp only [allImm]; rw [if_neg (by omega)]
  · simp only [allImm]; split <;> trivial
  · cases e with
    | returned v =>
      obtain ⟨κ', hp⟩ := hp
      have hv : v = .bool true := by
        have := hp.res
        cases (show RepC κ' w' _ _ from this) with
        | v _ _ => rfl
      subst hv
      refine ⟨rfl, hp.env.1, hp.env.2.1, hp.env.2.2, hp.le, fun b hb => hp.old b hb fun id h1 => ?_⟩
      simp only [allImm] at h1; split at h1 <;> cases h1
    | panicked c => exact hp.elim
    | outgrown => exact hp.elim

/-- A slice of numbers that came in. -/
def ints (k : IntKind) (l : List Int) : PV := .sl 0 1 (l.map fun x => [.v (.int k x)])

theorem ints_rep {k : IntKind} {w : World} {a : Option Addr} {len cap : Nat} {zs : List Int}
    (h : (a = none ∧ len = 0 ∧ cap = 0 ∧ zs = []) ∨ ∃ x, a = some x ∧ len ≤ cap ∧ zs.length = cap ∧ (∀ i, i < zs.length → w.cell? (x.add i) = some (.int k (zs.getD i 0)))) :
    ValRep (allImm w) w (ints k (zs.take len)) (.slice a len cap) := by
  rcases h with ⟨rfl, rfl, rfl, rfl⟩ | ⟨x, rfl, h1, h2, h3⟩
  · exact RepC.nil 1 none 0
  · have hl : (zs.take len).length = len := by simp; omega
    by_cases h0 : len = 0
    · subst h0
      simp only [ints, List.take_zero, List.map_nil]
      exact RepC.nil 1 _ cap
    · have hx : x = ⟨x.block, x.off, none⟩ := by
        have := h3 0 (by omega)
        obtain ⟨b, o, sp⟩ := x
        cases sp with
        | none => rfl
        | some s =>
          simp only [Addr.add, World.cell?] at this
          simp at this
          split at this <;> simp at this
      have hadd : ∀ i, x.add i = ⟨x.block, x.off + i, none⟩ := by
        intro i
        rw [hx]
        exact addr_add _ _ _
      have hb : x.block < w.heap.size := by
        have := h3 0 (by omega)
        rw [hadd] at this
        exact World.block_lt_of_cell? w ⟨x.block, x.off + 0, none⟩ this
      have hlen : ((zs.take len).map fun z => [PV.v (.int k z)]).length = len := by simp; omega
      have key := RepC.sl (κ := allImm w) (w := w) 1 ((zs.take len).map fun z => [PV.v (.int k z)]) x.block x.off cap (fun i _ => .int k (zs.getD i 0))
        (by intro e; rw [e] at hlen; simp at hlen; omega)
        (fun r hr => by obtain ⟨z, _, rfl⟩ := List.mem_map.1 hr; rfl)
        (by simp [foot, allImm, hb])
        (fun i j hi hj => by
          have hj0 : j = 0 := by omega
          subst hj0
          rw [hlen] at hi
          have := h3 i (by omega)
          rw [hadd] at this
          simpa using this)
        (fun i j hi hj => by
          have hj0 : j = 0 := by omega
          subst hj0
          rw [hlen] at hi
          have e : (((zs.take len).map fun z => [PV.v (.int k z)]).getD i []).getD 0 .un = .v (.int k (zs.getD i 0)) := by
            have h4 : i < zs.length := by omega
            simp [List.getD_eq_getElem?_getD, hi, h4]
          rw [e]
          exact .v _ rfl)
        (by rw [hlen]; exact h1)
      rw [hlen] at key
      rw [hx]
      exact key

end
end Go.Pi
