import Derived.Test.YtckcklkbdbafbaaDoorTR
set_option maxRecDepth 100000
set_option maxHeartbeats 1000000
set_option linter.unusedSimpArgs false
set_option linter.unusedVariables false
namespace Go.Pi.Terms
open Go Go.Pi Go.Proofs.YtckcklkbdbafbaaDoor
def b13_0 : PC := (.seq (.ops [⟨.bin .lss,[.s 177,.s 176],some 178,none,none⟩]) (.seq (.cond (.s 178) .skip (.exit 1)) (.seq (.block 2 (.seq (.ops [⟨.mv,[.s 177],some 179,none,none⟩,⟨.mv,[.s 179],some 15,none,none⟩]) (.seq (.ops [⟨.mv,[.s 1],some 180,none,none⟩,⟨.mv,[.s 1],some 181,none,none⟩,⟨.len,[.s 181],some 182,none,none⟩,⟨.bin .sub,[.s 182,.c (.v (.int .i64 1))],some 183,none,none⟩,⟨.mv,[.s 15],some 184,none,none⟩,⟨.bin .sub,[.s 183,.s 184],some 185,none,none⟩,⟨.ia 2,[.s 180,.s 185],some 186,none,none⟩,⟨.ldE 2 true,[.s 186],some 187,none,none⟩,⟨.alloc [.v (.int .i64 0),.sl 1 0 []],[],some 16,none,none⟩,⟨.stL 2,[.s 16,.s 187],none,some 16,none⟩]) (.seq (.ops [⟨.fa 0,[.s 16],some 188,none,none⟩,⟨.ldL 1 false,[.s 188],some 189,some 16,none⟩,⟨.bin .eql,[.s 189,.c (.v (.int .i64 4))],some 190,none,none⟩,⟨.mv,[.s 190],some 191,none,none⟩,⟨.fa 1,[.s 16],some 192,none,some (191,true)⟩,⟨.ldL 1 false,[.s 192],some 193,some 16,some (191,true)⟩,⟨.ia 2,[.s 193,.c (.v (.int .i64 1))],some 194,none,some (191,true)⟩,⟨.ldE 2 true,[.s 194],some 195,none,some (191,true)⟩,⟨.ldL 2 true,[.s 6],some 196,some 6,some (191,true)⟩,⟨.callF 15,[.s 195,.s 196],some 197,none,some (191,true)⟩,⟨.pick,[.s 191,.s 197,.c (.v (.bool false))],some 198,none,none⟩]) (.cond (.s 198) (.seq (.ops [⟨.mv,[.s 15],some 199,none,none⟩,⟨.callF 18,[.s 199],some 200,none,none⟩,⟨.mv,[.s 0],some 201,none,none⟩,⟨.mv,[.s 1],some 202,none,none⟩,⟨.fa 1,[.s 16],some 203,none,none⟩,⟨.ldL 1 false,[.s 203],some 204,some 16,none⟩,⟨.ia 2,[.s 204,.c (.v (.int .i64 0))],some 205,none,none⟩,⟨.ldE 2 true,[.s 205],some 206,none,none⟩,⟨.mv,[.s 3],some 207,none,none⟩,⟨.bin .sub,[.s 207,.c (.v (.int .i64 1))],some 208,none,none⟩,⟨.callF 13,[.s 201,.s 202,.s 206,.s 208],some 209,none,none⟩,⟨.bslice [.v (.int .i64 0),.v (.int .i64 0),.v (.int .i64 0),.sl 0 0 [],.sl 0 0 []] 2 5 [0,1],[.s 200,.s 209],some 210,none,none⟩,⟨.callF 17,[.c (.v (.int .i64 3)),.s 210],some 211,none,none⟩,⟨.stL 5,[.s 8,.s 211],none,some 8,none⟩]) .ret) .skip))))) (.ops [⟨.bin .add,[.s 177,.c (.v (.int .i64 1))],some 212,none,none⟩,⟨.mv,[.s 212],some 177,none,none⟩]))))
theorem ctx_loop (l : List Int) (hl : l.length ≤ 500) (g : List Ty) (zg : Nat) (hz : g ≠ [] → zg = 2) (c : Nat) (hc : c ≤ 900) (hg : g.length + 3 ≤ c) (hb : ∀ u ∈ g, u.nodes ≤ 3) (t : Ty) (ht : t.nodes ≤ 3) (d : Int) (hd : 0 < d ∧ d ≤ 100) (B BB : Nat) (hBB : B + 2 ≤ BB)
    (rec_ : Rec l (d - 1) B c fun _ => True) (k : List Fr) (n : Nat)
    (HK : ∀ (rg : List PV) (hr : RG l g zg t d rg) (at_ : Nat) (ha : at_ ≤ l.length) (lv : Nat → Bool) (tk : Nat), R T G [] k ⟨rg, ⟨dk l at_, lv, tk⟩⟩ (FQ [.c 8 5 true] false n (Made l g t BB))) :
    ∀ (m i : Nat) (rg : List PV) (at_ : Nat) (lv : Nat → Bool) (tk : Nat), i + m = g.length → RG l g zg t d rg → rg.getD 176 .un = i64 (g.length : Int) → rg.getD 177 .un = i64 (i : Int) → at_ ≤ l.length →
      R T G [] (.pc (.loop b13_0) :: .blk 1 :: k) ⟨rg, ⟨dk l at_, lv, tk⟩⟩ (FQ [.c 8 5 true] false n (Made l g t BB)) := by
  have w1 : IntKind.i64.wrap (d - 1) = d - 1 := wrap_i64 (by omega)
  intro m
  induction m with
  | zero =>
    intro i rg at_ lv tk hi hr h9 h10 ha
    obtain ⟨h1, h2, h3, h4, ⟨g6, h6⟩, ⟨g8, h8⟩⟩ := hr
    have hi' : i = g.length := by omega
    subst hi'
    rw [R.loop_eq]
    unfold b13_0
    simp only [wp0, wp1, wp2, wp3, wp4, PV.cellsT, appMax, dropSh, fillB, fillS, putD, splice, src, startSt, Int.reduceAdd, Int.reduceEq, Int.reduceLE, Int.reduceLT, Int.reduceNeg, Int.reduceSub, Int.reduceToNat, Nat.reduceAdd, Nat.reduceEqDiff, Nat.reduceLT, Nat.reduceLeDiff, Nat.reduceMul, Nat.reduceSub, if_false, if_true, ite_false, ite_true, reduceIte, gs, List.length_set, h1, h9, h10, Int.lt_irrefl]
    refine HK _ ⟨?_, ?_, ?_, ?_, ⟨g6, ?_⟩, ⟨g8, ?_⟩⟩ at_ ha _ _
    all_goals simp only [gs, List.length_set, h1, h2, h3, h4, h6, h8, Nat.reduceEqDiff, false_and, if_false]
  | succ m ih =>
    intro i rg at_ lv tk hi hr h9 h10 ha
    obtain ⟨h1, h2, h3, h4, ⟨g6, h6⟩, ⟨g8, h8⟩⟩ := hr
    have hne : g ≠ [] := by intro e; subst e; simp at hi
    obtain rfl := hz hne
    have c1 : (i : Int) < (g.length : Int) := by omega
    have w2 : IntKind.i64.wrap ((g.length : Int) - 1) = (g.length : Int) - 1 := wrap_i64 (by omega)
    have w3 : IntKind.i64.wrap ((g.length : Int) - 1 - (i : Int)) = ((g.length - 1 - i : Nat) : Int) := by rw [wrap_i64 (by omega)]; omega
    have w4 : IntKind.i64.wrap ((i : Int) + 1) = ((i + 1 : Nat) : Int) := by rw [wrap_i64 (by omega)]; omega
    have c2 : ((g.length - 1 - i : Nat) : Int) < (g.length : Int) := by omega
    have c3 : (0 : Int) ≤ ((g.length - 1 - i : Nat) : Int) := by omega
    have c4 := getD_row g (i := g.length - 1 - i) (by omega)
    have hm : g.getD (g.length - 1 - i) .nat ∈ g := by
      rw [List.getD_eq_getElem?_getD, List.getElem?_eq_getElem (by omega)]
      exact List.getElem_mem _
    have hf3 := hb _ hm
    have u0 := True.intro
    rw [R.loop_eq]
    unfold b13_0
    cases hf : g.getD (g.length - 1 - i) .nat with
    | nat =>
      rw [hf] at c4
      simp only [Ty.row, tyAll] at c4
      simp only [wp0, wp1, wp2, wp3, wp4, PV.cellsT, appMax, dropSh, fillB, fillS, putD, splice, src, startSt, Int.reduceAdd, Int.reduceEq, Int.reduceLE, Int.reduceLT, Int.reduceNeg, Int.reduceSub, Int.reduceToNat, Nat.reduceAdd, Nat.reduceEqDiff, Nat.reduceLT, Nat.reduceLeDiff, Nat.reduceMul, Nat.reduceSub, if_false, if_true, ite_false, ite_true, reduceIte, gs, List.length_set, List.length_map, h1, h2, h3, h4, h6, h8, h9, h10, c1, w2, w3, w4, c2, c3, c4, Int.toNat_natCast, u0]
      refine ih (i + 1) _ at_ _ _ (by omega) ⟨?_, ?_, ?_, ?_, ⟨g6, ?_⟩, ⟨g8, ?_⟩⟩ ?_ ?_ ha
      all_goals simp only [gs, List.length_set, h1, h2, h3, h4, h6, h8, h9, Nat.reduceEqDiff, false_and, if_false, Nat.reduceLT, and_self, if_true]
    | list =>
      rw [hf] at c4
      simp only [Ty.row, tyAll] at c4
      simp only [wp0, wp1, wp2, wp3, wp4, PV.cellsT, appMax, dropSh, fillB, fillS, putD, splice, src, startSt, Int.reduceAdd, Int.reduceEq, Int.reduceLE, Int.reduceLT, Int.reduceNeg, Int.reduceSub, Int.reduceToNat, Nat.reduceAdd, Nat.reduceEqDiff, Nat.reduceLT, Nat.reduceLeDiff, Nat.reduceMul, Nat.reduceSub, if_false, if_true, ite_false, ite_true, reduceIte, gs, List.length_set, List.length_map, h1, h2, h3, h4, h6, h8, h9, h10, c1, w2, w3, w4, c2, c3, c4, Int.toNat_natCast, u0]
      refine ih (i + 1) _ at_ _ _ (by omega) ⟨?_, ?_, ?_, ?_, ⟨g6, ?_⟩, ⟨g8, ?_⟩⟩ ?_ ?_ ha
      all_goals simp only [gs, List.length_set, h1, h2, h3, h4, h6, h8, h9, Nat.reduceEqDiff, false_and, if_false, Nat.reduceLT, and_self, if_true]
    | unit =>
      rw [hf] at c4
      simp only [Ty.row, tyAll] at c4
      simp only [wp0, wp1, wp2, wp3, wp4, PV.cellsT, appMax, dropSh, fillB, fillS, putD, splice, src, startSt, Int.reduceAdd, Int.reduceEq, Int.reduceLE, Int.reduceLT, Int.reduceNeg, Int.reduceSub, Int.reduceToNat, Nat.reduceAdd, Nat.reduceEqDiff, Nat.reduceLT, Nat.reduceLeDiff, Nat.reduceMul, Nat.reduceSub, if_false, if_true, ite_false, ite_true, reduceIte, gs, List.length_set, List.length_map, h1, h2, h3, h4, h6, h8, h9, h10, c1, w2, w3, w4, c2, c3, c4, Int.toNat_natCast, u0]
      refine ih (i + 1) _ at_ _ _ (by omega) ⟨?_, ?_, ?_, ?_, ⟨g6, ?_⟩, ⟨g8, ?_⟩⟩ ?_ ?_ ha
      all_goals simp only [gs, List.length_set, h1, h2, h3, h4, h6, h8, h9, Nat.reduceEqDiff, false_and, if_false, Nat.reduceLT, and_self, if_true]
    | pair a b =>
      rw [hf] at c4
      simp only [Ty.row, tyAll] at c4
      simp only [wp0, wp1, wp2, wp3, wp4, PV.cellsT, appMax, dropSh, fillB, fillS, putD, splice, src, startSt, Int.reduceAdd, Int.reduceEq, Int.reduceLE, Int.reduceLT, Int.reduceNeg, Int.reduceSub, Int.reduceToNat, Nat.reduceAdd, Nat.reduceEqDiff, Nat.reduceLT, Nat.reduceLeDiff, Nat.reduceMul, Nat.reduceSub, if_false, if_true, ite_false, ite_true, reduceIte, gs, List.length_set, List.length_map, h1, h2, h3, h4, h6, h8, h9, h10, c1, w2, w3, w4, c2, c3, c4, Int.toNat_natCast, u0]
      refine ih (i + 1) _ at_ _ _ (by omega) ⟨?_, ?_, ?_, ?_, ⟨g6, ?_⟩, ⟨g8, ?_⟩⟩ ?_ ?_ ha
      all_goals simp only [gs, List.length_set, h1, h2, h3, h4, h6, h8, h9, Nat.reduceEqDiff, false_and, if_false, Nat.reduceLT, and_self, if_true]
    | fn a b =>
      rw [hf] at c4 hf3
      have hf3' : 1 + a.nodes + b.nodes ≤ 3 := hf3
      have pb := b.nodes_pos
      have m1 := same15 (dk l at_) b t
      simp only [Ty.row, tyAll] at c4 m1
      have v1 := clR.use m1
      by_cases hbt : b = t
      · have e : decide (b = t) = true := decide_eq_true hbt
        obtain ⟨x, a2, hx, ex, ha2, mx⟩ := rec_ g 2 a at_ hz (by omega) hb (by omega) trivial ha
        have m2 := var18 (dk l at_) i
        have m3 := n2 (dk l a2) 3 (.var i) x
        simp only [Ty.row, tyAll, Tm.row, tmAll] at mx m2 m3
        have v2 := clR.use mx
        have v3 := clR.use m2
        have v4 := clR.use m3
        simp only [wp0, wp1, wp2, wp3, wp4, PV.cellsT, appMax, dropSh, fillB, fillS, putD, splice, src, startSt, Int.reduceAdd, Int.reduceEq, Int.reduceLE, Int.reduceLT, Int.reduceNeg, Int.reduceSub, Int.reduceToNat, Nat.reduceAdd, Nat.reduceEqDiff, Nat.reduceLT, Nat.reduceLeDiff, Nat.reduceMul, Nat.reduceSub, if_false, if_true, ite_false, ite_true, reduceIte, gs, List.length_set, List.length_map, h1, h2, h3, h4, h6, h8, h9, h10, c1, w1, w2, w3, w4, c2, c3, c4, Int.toNat_natCast, v1, v2, v3, v4, e]
        refine ⟨.app (.var i) x, a2, .app (.v (by omega) hf) hx (by simp only [Ty.nodes]; omega), by simp only [Tm.size]; omega, ha2, rfl, rfl⟩ |> fun h => hbt ▸ h
      · have e : decide (b = t) = false := decide_eq_false hbt
        simp only [wp0, wp1, wp2, wp3, wp4, PV.cellsT, appMax, dropSh, fillB, fillS, putD, splice, src, startSt, Int.reduceAdd, Int.reduceEq, Int.reduceLE, Int.reduceLT, Int.reduceNeg, Int.reduceSub, Int.reduceToNat, Nat.reduceAdd, Nat.reduceEqDiff, Nat.reduceLT, Nat.reduceLeDiff, Nat.reduceMul, Nat.reduceSub, if_false, if_true, ite_false, ite_true, reduceIte, gs, List.length_set, List.length_map, h1, h2, h3, h4, h6, h8, h9, h10, c1, w2, w3, w4, c2, c3, c4, Int.toNat_natCast, v1, e]
        refine ih (i + 1) _ at_ _ _ (by omega) ⟨?_, ?_, ?_, ?_, ⟨g6, ?_⟩, ⟨g8, ?_⟩⟩ ?_ ?_ ha
        all_goals simp only [gs, List.length_set, h1, h2, h3, h4, h6, h8, h9, Nat.reduceEqDiff, false_and, if_false, Nat.reduceLT, and_self, if_true]

/-- The phase of mk.Term with depth left. -/
theorem term_depth (l : List Int) (hl : l.length ≤ 500) (g : List Ty) (zg : Nat) (hz : g ≠ [] → zg = 2) (c : Nat) (hc : c ≤ 900) (hg : g.length + 3 ≤ c) (hb : ∀ u ∈ g, u.nodes ≤ 3) (t : Ty) (ht : t.nodes ≤ 3) (d : Int) (hd : 0 < d ∧ d ≤ 100) (B : Nat)
    (rec_ : Rec l (d - 1) B c fun _ => True)
    (rg : List PV) (hr : RG l g zg t d rg) (at_ : Nat) (ha : at_ ≤ l.length) (lv : Nat → Bool) (tk : Nat) (n : Nat) :
    R T G [] [.pc q13_2] ⟨rg, ⟨dk l at_, lv, tk⟩⟩ (FQ [.c 8 5 true] false n (Made l g t (3 * B + 40))) := by
  have HK : ∀ (rg : List PV) (hr : RG l g zg t d rg) (at_ : Nat) (ha : at_ ≤ l.length) (lv : Nat → Bool) (tk : Nat), R T G [] [.pc q13_3] ⟨rg, ⟨dk l at_, lv, tk⟩⟩ (FQ [.c 8 5 true] false n (Made l g t (3 * B + 40))) := by
    intro rg hr at_ ha lv tk
    exact term_kind l hl g zg hz c hc hg hb t ht d hd B _ (by omega) rec_ rg hr at_ ha lv tk n
  have hr0 := hr
  obtain ⟨h1, h2, h3, h4, ⟨g6, h6⟩, ⟨g8, h8⟩⟩ := hr
  have d1 : 0 < d := hd.1
  have w1 : IntKind.i64.wrap (d - 1) = d - 1 := wrap_i64 (by omega)
  unfold q13_2
  obtain ⟨r, a1, hr, ha1, hn⟩ := next36 l at_ 8 (by omega) ha hl
  have one : ∀ s : Ty, ∀ u ∈ g ++ [s], s.nodes ≤ 3 → u.nodes ≤ 3 := fun s u hu hs => by
    rcases List.mem_append.1 hu with h | h
    · exact hb u h
    · obtain rfl := List.mem_singleton.1 h; exact hs
  have hx : r = 0 ∨ r = 1 ∨ r = 2 ∨ r = 3 ∨ r = 4 ∨ r = 5 ∨ r = 6 ∨ r = 7 := by omega
  rcases hx with rfl | rfl | rfl | rfl | rfl | rfl | rfl | rfl
  · obtain ⟨s, a2, hs, ha2, ms⟩ := type12 l hl 0 a1 (by omega) ha1
    have hs1 : s.nodes ≤ 1 := by omega
    have m1 := longer41 g [s] zg 2 hz (fun _ => rfl) (by omega) (by simp) (dk l a2)
    obtain ⟨x, a3, hx, ex, ha3, mx⟩ := rec_ (g ++ [s]) 2 t a2 (fun _ => rfl) (by simp; omega) (fun u hu => one s u hu (by omega)) (by first | omega | decide) trivial ha2
    have m2 := t1 (dk l a3) 2 x s
    obtain ⟨y, a4, hy, ey, ha4, my⟩ := rec_ g zg s a3 hz (by omega) hb (by first | omega | decide) trivial ha3
    have m3 := n2 (dk l a4) 3 (.lam s x) y
    simp only [Ty.row, tyAll, Tm.row, tmAll, List.map_append, List.map_cons, List.map_nil, Int.cast_ofNat_Int] at ms m1 mx m2 my m3
    have hn' := clR.use hn
    have ms' := clR.use ms
    have m1' := clR.use m1
    have mx' := clR.use mx
    have m2' := clR.use m2
    have my' := clR.use my
    have m3' := clR.use m3
    simp only [wp0, wp1, wp2, wp3, wp4, PV.cellsT, appMax, dropSh, fillB, fillS, putD, splice, src, startSt, Int.reduceAdd, Int.reduceEq, Int.reduceLE, Int.reduceLT, Int.reduceNeg, Int.reduceSub, Int.reduceToNat, Nat.reduceAdd, Nat.reduceEqDiff, Nat.reduceLT, Nat.reduceLeDiff, Nat.reduceMul, Nat.reduceSub, if_false, if_true, ite_false, ite_true, reduceIte, gs, List.length_set, h1, h2, h3, h4, h6, h8, d1, w1, hn', ms', m1', mx', m2', my', m3']
    exact ⟨.app (.lam s x) y, a4, .app (.lam hx (by simp only [Ty.nodes]; omega)) hy (by simp only [Ty.nodes]; omega), by simp only [Tm.size]; omega, ha4, rfl, rfl⟩
  · obtain ⟨s, a2, hs, ha2, ms⟩ := type12 l hl 0 a1 (by omega) ha1
    have hs1 : s.nodes ≤ 1 := by omega
    obtain ⟨x, a3, hx, ex, ha3, mx⟩ := rec_ g zg t a2 hz (by omega) hb (by first | omega | decide) trivial ha2
    obtain ⟨y, a4, hy, ey, ha4, my⟩ := rec_ g zg s a3 hz (by omega) hb (by first | omega | decide) trivial ha3
    have m3 := n2 (dk l a4) 10 x y
    have m4 := n1 (dk l a4) 11 (.pair x y)
    simp only [Ty.row, tyAll, Tm.row, tmAll, List.map_append, List.map_cons, List.map_nil, Int.cast_ofNat_Int] at ms mx my m3 m4
    have hn' := clR.use hn
    have ms' := clR.use ms
    have mx' := clR.use mx
    have my' := clR.use my
    have m3' := clR.use m3
    have m4' := clR.use m4
    simp only [wp0, wp1, wp2, wp3, wp4, PV.cellsT, appMax, dropSh, fillB, fillS, putD, splice, src, startSt, Int.reduceAdd, Int.reduceEq, Int.reduceLE, Int.reduceLT, Int.reduceNeg, Int.reduceSub, Int.reduceToNat, Nat.reduceAdd, Nat.reduceEqDiff, Nat.reduceLT, Nat.reduceLeDiff, Nat.reduceMul, Nat.reduceSub, if_false, if_true, ite_false, ite_true, reduceIte, gs, List.length_set, h1, h2, h3, h4, h6, h8, d1, w1, hn', ms', mx', my', m3', m4']
    exact ⟨.fst (.pair x y), a4, .fst (.pair hx hy (by simp only [Ty.nodes]; omega)) (by simp only [Ty.nodes]; omega), by simp only [Tm.size]; omega, ha4, rfl, rfl⟩
  · have p1 := nat34 (dk l a1)
    have m1 := longer41 g [.nat, t] zg 2 hz (fun _ => rfl) (by omega) (by simp) (dk l a1)
    obtain ⟨x, a2, hx, ex, ha2, mx⟩ := rec_ (g ++ [.nat, t]) 2 t a1 (fun _ => rfl) (by simp; omega) (fun u hu => by rcases List.mem_append.1 hu with h | h; exact hb u h; simp at h; rcases h with rfl | rfl; decide; exact ht) (by first | omega | decide) trivial ha1
    have m2 := t1 (dk l a2) 2 x t
    have m3 := t1 (dk l a2) 2 (.lam t x) .nat
    obtain ⟨y, a3, hy, ey, ha3, my⟩ := rec_ g zg t a2 hz (by omega) hb (by first | omega | decide) trivial ha2
    obtain ⟨r2, a4, hr2, ha4, hn2⟩ := next36 l a3 3 (by omega) ha3 hl
    obtain ⟨z, hz2, bz, mz⟩ := num42 (dk l a4) r2 hr2
    have m4 := t3 (dk l a4) 6 y (.lam .nat (.lam t x)) z t
    simp only [Ty.row, tyAll, Tm.row, tmAll, List.map_append, List.map_cons, List.map_nil, Int.cast_ofNat_Int] at p1 m1 mx m2 m3 my mz m4
    have hn' := clR.use hn
    have p1' := clR.use p1
    have m1' := clR.use m1
    have mx' := clR.use mx
    have m2' := clR.use m2
    have m3' := clR.use m3
    have my' := clR.use my
    have hn2' := clR.use hn2
    have mz' := clR.use mz
    have m4' := clR.use m4
    simp only [wp0, wp1, wp2, wp3, wp4, PV.cellsT, appMax, dropSh, fillB, fillS, putD, splice, src, startSt, Int.reduceAdd, Int.reduceEq, Int.reduceLE, Int.reduceLT, Int.reduceNeg, Int.reduceSub, Int.reduceToNat, Nat.reduceAdd, Nat.reduceEqDiff, Nat.reduceLT, Nat.reduceLeDiff, Nat.reduceMul, Nat.reduceSub, if_false, if_true, ite_false, ite_true, reduceIte, gs, List.length_set, h1, h2, h3, h4, h6, h8, d1, w1, hn', p1', m1', mx', m2', m3', my', hn2', mz', m4']
    exact ⟨.recu t y (.lam .nat (.lam t x)) z, a4, .recu hy (.lam (.lam (by simpa using hx) (by simp only [Ty.nodes]; omega)) (by simp only [Ty.nodes]; omega)) (hz2 g) (by omega), by simp only [Tm.size]; omega, ha4, rfl, rfl⟩
  · have p1 := nat34 (dk l a1)
    have p2 := list37 (dk l a1)
    have m1 := longer41 g [.nat, .list, t] zg 2 hz (fun _ => rfl) (by omega) (by simp) (dk l a1)
    obtain ⟨x, a2, hx, ex, ha2, mx⟩ := rec_ (g ++ [.nat, .list, t]) 2 t a1 (fun _ => rfl) (by simp; omega) (fun u hu => by rcases List.mem_append.1 hu with h | h; exact hb u h; simp at h; rcases h with rfl | rfl | rfl; decide; decide; exact ht) (by first | omega | decide) trivial ha1
    have m2 := t1 (dk l a2) 2 x t
    have m3 := t1 (dk l a2) 2 (.lam t x) .list
    have m5 := t1 (dk l a2) 2 (.lam .list (.lam t x)) .nat
    obtain ⟨y, a3, hy, ey, ha3, my⟩ := rec_ g zg t a2 hz (by omega) hb (by first | omega | decide) trivial ha2
    have p3 := list37 (dk l a3)
    obtain ⟨q, a4, hq, eq, ha4, mq⟩ := rec_ g zg .list a3 hz (by omega) hb (by first | omega | decide) trivial ha3
    have m4 := t3 (dk l a4) 9 y (.lam .nat (.lam .list (.lam t x))) q t
    simp only [Ty.row, tyAll, Tm.row, tmAll, List.map_append, List.map_cons, List.map_nil, Int.cast_ofNat_Int] at p1 p2 m1 mx m2 m3 m5 my p3 mq m4
    have hn' := clR.use hn
    have p1' := clR.use p1
    have p2' := clR.use p2
    have m1' := clR.use m1
    have mx' := clR.use mx
    have m2' := clR.use m2
    have m3' := clR.use m3
    have m5' := clR.use m5
    have my' := clR.use my
    have p3' := clR.use p3
    have mq' := clR.use mq
    have m4' := clR.use m4
    simp only [wp0, wp1, wp2, wp3, wp4, PV.cellsT, appMax, dropSh, fillB, fillS, putD, splice, src, startSt, Int.reduceAdd, Int.reduceEq, Int.reduceLE, Int.reduceLT, Int.reduceNeg, Int.reduceSub, Int.reduceToNat, Nat.reduceAdd, Nat.reduceEqDiff, Nat.reduceLT, Nat.reduceLeDiff, Nat.reduceMul, Nat.reduceSub, if_false, if_true, ite_false, ite_true, reduceIte, gs, List.length_set, h1, h2, h3, h4, h6, h8, d1, w1, hn', p1', p2', m1', mx', m2', m3', m5', my', p3', mq', m4']
    exact ⟨.fold t y (.lam .nat (.lam .list (.lam t x))) q, a4, .fold hy (.lam (.lam (.lam (by simpa using hx) (by simp only [Ty.nodes]; omega)) (by simp only [Ty.nodes]; omega)) (by simp only [Ty.nodes]; omega)) hq (by omega), by simp only [Tm.size]; omega, ha4, rfl, rfl⟩
  · obtain ⟨s, a2, hs, ha2, ms⟩ := type12 l hl 0 a1 (by omega) ha1
    have hs1 : s.nodes ≤ 1 := by omega
    obtain ⟨x, a3, hx, ex, ha3, mx⟩ := rec_ g zg s a2 hz (by omega) hb (by first | omega | decide) trivial ha2
    obtain ⟨y, a4, hy, ey, ha4, my⟩ := rec_ g zg t a3 hz (by omega) hb (by first | omega | decide) trivial ha3
    have m3 := n2 (dk l a4) 10 x y
    have m4 := n1 (dk l a4) 12 (.pair x y)
    simp only [Ty.row, tyAll, Tm.row, tmAll, List.map_append, List.map_cons, List.map_nil, Int.cast_ofNat_Int] at ms mx my m3 m4
    have hn' := clR.use hn
    have ms' := clR.use ms
    have mx' := clR.use mx
    have my' := clR.use my
    have m3' := clR.use m3
    have m4' := clR.use m4
    simp only [wp0, wp1, wp2, wp3, wp4, PV.cellsT, appMax, dropSh, fillB, fillS, putD, splice, src, startSt, Int.reduceAdd, Int.reduceEq, Int.reduceLE, Int.reduceLT, Int.reduceNeg, Int.reduceSub, Int.reduceToNat, Nat.reduceAdd, Nat.reduceEqDiff, Nat.reduceLT, Nat.reduceLeDiff, Nat.reduceMul, Nat.reduceSub, if_false, if_true, ite_false, ite_true, reduceIte, gs, List.length_set, h1, h2, h3, h4, h6, h8, d1, w1, hn', ms', mx', my', m3', m4']
    exact ⟨.snd (.pair x y), a4, .snd (.pair hx hy (by simp only [Ty.nodes]; omega)) (by simp only [Ty.nodes]; omega), by simp only [Tm.size]; omega, ha4, rfl, rfl⟩
  · have u := clR.use hn
    simp only [wp0, wp1, wp2, wp3, wp4, PV.cellsT, appMax, dropSh, fillB, fillS, putD, splice, src, startSt, Int.reduceAdd, Int.reduceEq, Int.reduceLE, Int.reduceLT, Int.reduceNeg, Int.reduceSub, Int.reduceToNat, Nat.reduceAdd, Nat.reduceEqDiff, Nat.reduceLT, Nat.reduceLeDiff, Nat.reduceMul, Nat.reduceSub, if_false, if_true, ite_false, ite_true, reduceIte, gs, List.length_set, List.length_map, h1, h2, h3, h4, h6, h8, d1, u]
    refine ctx_loop l hl g zg hz c hc hg hb t ht d hd B _ (by omega) rec_ _ n ?_ g.length 0 _ a1 _ _ (by omega) ⟨?_, ?_, ?_, ?_, ⟨g6, ?_⟩, ⟨g8, ?_⟩⟩ ?_ ?_ ha1
    · intro rg hr at_ ha lv tk
      simp only [R.blk]
      exact HK rg hr at_ ha lv tk
    all_goals simp only [gs, List.length_set, h1, h2, h3, h4, h6, h8, Nat.reduceEqDiff, false_and, if_false, Nat.reduceLT, and_self, if_true, Int.cast_ofNat_Int]
  · have u := clR.use hn
    simp only [wp0, wp1, wp2, wp3, wp4, PV.cellsT, appMax, dropSh, fillB, fillS, putD, splice, src, startSt, Int.reduceAdd, Int.reduceEq, Int.reduceLE, Int.reduceLT, Int.reduceNeg, Int.reduceSub, Int.reduceToNat, Nat.reduceAdd, Nat.reduceEqDiff, Nat.reduceLT, Nat.reduceLeDiff, Nat.reduceMul, Nat.reduceSub, if_false, if_true, ite_false, ite_true, reduceIte, gs, List.length_set, h1, h2, h3, h4, h6, h8, d1, u]
    refine HK _ ⟨?_, ?_, ?_, ?_, ⟨g6, ?_⟩, ⟨g8, ?_⟩⟩ a1 ha1 _ _
    all_goals simp only [gs, List.length_set, h1, h2, h3, h4, h6, h8, Nat.reduceEqDiff, false_and, if_false]
  · have u := clR.use hn
    simp only [wp0, wp1, wp2, wp3, wp4, PV.cellsT, appMax, dropSh, fillB, fillS, putD, splice, src, startSt, Int.reduceAdd, Int.reduceEq, Int.reduceLE, Int.reduceLT, Int.reduceNeg, Int.reduceSub, Int.reduceToNat, Nat.reduceAdd, Nat.reduceEqDiff, Nat.reduceLT, Nat.reduceLeDiff, Nat.reduceMul, Nat.reduceSub, if_false, if_true, ite_false, ite_true, reduceIte, gs, List.length_set, h1, h2, h3, h4, h6, h8, d1, u]
    refine HK _ ⟨?_, ?_, ?_, ?_, ⟨g6, ?_⟩, ⟨g8, ?_⟩⟩ a1 ha1 _ _
    all_goals simp only [gs, List.length_set, h1, h2, h3, h4, h6, h8, Nat.reduceEqDiff, false_and, if_false]
end Go.Pi.Terms
