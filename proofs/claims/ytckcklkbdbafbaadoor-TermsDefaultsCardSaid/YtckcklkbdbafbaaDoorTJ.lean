import Derived.Test.YtckcklkbdbafbaaDoorTI
set_option maxRecDepth 100000
set_option maxHeartbeats 1000000
set_option linter.unusedSimpArgs false
set_option linter.unusedVariables false
namespace Go.Pi.Terms
open Go Go.Pi Go.Proofs.YtckcklkbdbafbaaDoor
theorem getD_row (g : List Ty) {i : Nat} (h : i < g.length) : (g.map Ty.row).getD i [] = (g.getD i .nat).row := by
  simp [List.getD_eq_getElem?_getD, h]
theorem e_appS {c sz z t t' rows rows' sh lv tk} (h : Tok lv tk t) (hs : t = 1 → rows = []) (h2 : t ≠ 1 → z = sz) :
    evalE c (.app sz) [.sl t z rows, .sl t' sz rows'] ⟨sh, lv, tk⟩ = if rows.length + rows'.length ≤ appMax then some (.sl tk sz (rows ++ rows'), ⟨sh, lvApp lv tk t, tk + 1⟩) else none := by
  rw [e_appG h (fun e => .inr (hs e)) h2]
  simp
def b40_0 : PC := (.seq (.ops [⟨.bin .lss,[.s 9,.s 8],some 10,none,none⟩]) (.seq (.cond (.s 10) .skip (.exit 0)) (.seq (.block 1 (.seq (.ops [⟨.mv,[.s 9],some 11,none,none⟩,⟨.mv,[.s 11],some 6,none,none⟩]) (.seq (.ops [⟨.mv,[.s 0],some 12,none,none⟩,⟨.mv,[.s 0],some 13,none,none⟩,⟨.len,[.s 13],some 14,none,none⟩,⟨.bin .sub,[.s 14,.c (.v (.int .i64 1))],some 15,none,none⟩,⟨.mv,[.s 6],some 16,none,none⟩,⟨.bin .sub,[.s 15,.s 16],some 17,none,none⟩,⟨.ia 2,[.s 12,.s 17],some 18,none,none⟩,⟨.ldE 2 true,[.s 18],some 19,none,none⟩,⟨.ldL 2 true,[.s 3],some 20,some 3,none⟩,⟨.callF 15,[.s 19,.s 20],some 21,none,none⟩]) (.cond (.s 21) (.ops [⟨.mv,[.s 5],some 22,none,none⟩,⟨.mv,[.s 6],some 23,none,none⟩,⟨.bslice [.v (.int .i64 0)] 1 1 [0],[.s 23],some 24,none,none⟩,⟨.app 1,[.s 22,.s 24],some 25,none,none⟩,⟨.mv,[.s 25],some 5,none,none⟩]) .skip)))) (.ops [⟨.bin .add,[.s 9,.c (.v (.int .i64 1))],some 26,none,none⟩,⟨.mv,[.s 26],some 9,none,none⟩]))))
theorem vars_loop (g : List Ty) (t : Ty) (zg gen : Nat) (hz : g ≠ [] → zg = 2) (hg : g.length ≤ 1000) (sh : Sh) (k : List Fr) (Q : Out → Prop) ( x1 x2 x4 x7 x27 : PV)
    (hk : ∀ (is : List Nat) (tok z : Nat) (lv : Nat → Bool) (tk : Nat) ( y6 y10 y11 y12 y13 y14 y15 y16 y17 y18 y19 y20 y21 y22 y23 y24 y25 y26 : PV), (is ≠ [] → z = 1) → is.length ≤ g.length → (∀ j ∈ is, j < g.length ∧ g.getD (g.length - 1 - j) .nat = t) → R T G [] k ⟨[.sl 0 zg (g.map Ty.row), x1, x2, .bx gen [i64 t.kind, .sl 0 t.asz t.arows], x4, .sl tok z (is.map fun j : Nat => [i64 (j : Int)]), y6, x7, i64 (g.length : Int), i64 (g.length : Int), y10, y11, y12, y13, y14, y15, y16, y17, y18, y19, y20, y21, y22, y23, y24, y25, y26, x27], ⟨sh, lv, tk⟩⟩ Q) :
    ∀ (m i : Nat) (is : List Nat) (tok z : Nat) (lv : Nat → Bool) (tk : Nat) ( x6 x10 x11 x12 x13 x14 x15 x16 x17 x18 x19 x20 x21 x22 x23 x24 x25 x26 : PV), i + m = g.length → 2 ≤ tk → Tok lv tk tok → (tok = 1 → is = []) → (tok ≠ 1 → z = 1) → is.length ≤ i → (∀ j ∈ is, j < g.length ∧ g.getD (g.length - 1 - j) .nat = t) →
      R T G [] (.pc (.loop b40_0) :: .blk 0 :: k) ⟨[.sl 0 zg (g.map Ty.row), x1, x2, .bx gen [i64 t.kind, .sl 0 t.asz t.arows], x4, .sl tok z (is.map fun j : Nat => [i64 (j : Int)]), x6, x7, i64 (g.length : Int), i64 (i : Int), x10, x11, x12, x13, x14, x15, x16, x17, x18, x19, x20, x21, x22, x23, x24, x25, x26, x27], ⟨sh, lv, tk⟩⟩ Q := by
  intro m
  induction m with
  | zero =>
    intro i is tok z lv tk  x6 x10 x11 x12 x13 x14 x15 x16 x17 x18 x19 x20 x21 x22 x23 x24 x25 x26 hi htk ht h1 h2 hl ha
    have hi' : i = g.length := by omega
    subst hi'
    rw [R.loop_eq]
    unfold b40_0
    simp only [wp0, wp1, wp2, wp3, wp4, PV.cellsT, appMax, dropSh, fillB, fillS, putD, splice, src, startSt, Int.reduceAdd, Int.reduceEq, Int.reduceLE, Int.reduceLT, Int.reduceNeg, Int.reduceSub, Int.reduceToNat, Nat.reduceAdd, Nat.reduceEqDiff, Nat.reduceLT, Nat.reduceLeDiff, Nat.reduceMul, Nat.reduceSub, if_false, if_true, ite_false, ite_true, reduceIte, Int.lt_irrefl]
    exact hk is tok z lv tk _ _ _ _ _ _ _ _ _ _ _ _ _ _ _ _ _ _ (fun h => h2 fun e => h (h1 e)) hl ha
  | succ m ih =>
    intro i is tok z lv tk  x6 x10 x11 x12 x13 x14 x15 x16 x17 x18 x19 x20 x21 x22 x23 x24 x25 x26 hi htk ht h1 h2 hl ha
    have hne : g ≠ [] := by intro e; subst e; simp at hi
    obtain rfl := hz hne
    have c1 : (i : Int) < (g.length : Int) := by omega
    have w1 : IntKind.i64.wrap ((g.length : Int) - 1) = (g.length : Int) - 1 := wrap_i64 (by omega)
    have w2 : IntKind.i64.wrap ((g.length : Int) - 1 - (i : Int)) = ((g.length - 1 - i : Nat) : Int) := by rw [wrap_i64 (by omega)]; omega
    have w3 : IntKind.i64.wrap ((i : Int) + 1) = ((i + 1 : Nat) : Int) := by rw [wrap_i64 (by omega)]; omega
    have c2 : ((g.length - 1 - i : Nat) : Int) < (g.length : Int) := by omega
    have c3 : (0 : Int) ≤ ((g.length - 1 - i : Nat) : Int) := by omega
    have c4 := getD_row g (i := g.length - 1 - i) (by omega)
    have u := clR.use (same15 sh (g.getD (g.length - 1 - i) .nat) t)
    simp only [Ty.row, tyAll] at u c4
    have ha1 : is.length ≤ 4294967295 := by omega
    have ha2 := @e_appS noCall 1 z tok 1 (is.map fun j : Nat => [i64 (j : Int)]) [[i64 (i : Int)]] sh lv tk ht (fun e => by rw [h1 e]; rfl) h2
    have ha3 : (is.map fun j : Nat => [i64 (j : Int)]) ++ [[i64 (i : Int)]] = (is ++ [i]).map fun j : Nat => [i64 (j : Int)] := by simp
    rw [R.loop_eq]
    unfold b40_0
    by_cases h : g.getD (g.length - 1 - i) .nat = t
    · have e : decide (g.getD (g.length - 1 - i) .nat = t) = true := decide_eq_true h
      simp only [wp0, wp1, wp2, wp3, wp4, PV.cellsT, appMax, dropSh, fillB, fillS, putD, splice, src, startSt, Int.reduceAdd, Int.reduceEq, Int.reduceLE, Int.reduceLT, Int.reduceNeg, Int.reduceSub, Int.reduceToNat, Nat.reduceAdd, Nat.reduceEqDiff, Nat.reduceLT, Nat.reduceLeDiff, Nat.reduceMul, Nat.reduceSub, if_false, if_true, ite_false, ite_true, reduceIte, List.length_map, c1, w1, w2, w3, c2, c3, c4, u, e, ha2, ha1, Int.toNat_natCast, ha3]
      refine ih (i + 1) (is ++ [i]) tk 1 (lvApp lv tk tok) (tk + 1) _ _ _ _ _ _ _ _ _ _ _ _ _ _ _ _ _ _ (by omega) (by omega) (.app htk) (fun e => by omega) (fun _ => rfl) (by simp; omega) ?_
      intro j hj
      rcases List.mem_append.1 hj with hj | hj
      · exact ha j hj
      · obtain rfl := List.mem_singleton.1 hj
        exact ⟨by omega, h⟩
    · have e : decide (g.getD (g.length - 1 - i) .nat = t) = false := decide_eq_false h
      simp only [wp0, wp1, wp2, wp3, wp4, PV.cellsT, appMax, dropSh, fillB, fillS, putD, splice, src, startSt, Int.reduceAdd, Int.reduceEq, Int.reduceLE, Int.reduceLT, Int.reduceNeg, Int.reduceSub, Int.reduceToNat, Nat.reduceAdd, Nat.reduceEqDiff, Nat.reduceLT, Nat.reduceLeDiff, Nat.reduceMul, Nat.reduceSub, if_false, if_true, ite_false, ite_true, reduceIte, List.length_map, c1, w1, w2, w3, c2, c3, c4, u, e, Int.toNat_natCast]
      exact ih (i + 1) is tok z lv tk _ _ _ _ _ _ _ _ _ _ _ _ _ _ _ _ _ _ (by omega) htk ht h1 h2 (by omega) ha
end Go.Pi.Terms
