import Derived.Test.YtckcklkbdbafbaaDoorTN
set_option maxRecDepth 100000
set_option maxHeartbeats 1000000
set_option linter.unusedSimpArgs false
set_option linter.unusedVariables false
namespace Go.Pi.Terms
open Go Go.Pi Go.Proofs.YtckcklkbdbafbaaDoor
def b46_0 : PC := (.seq (.ops [⟨.bin .lss,[.s 11,.s 10],some 12,none,none⟩]) (.seq (.cond (.s 12) .skip (.exit 0)) (.seq (.block 1 (.seq (.ops [⟨.ia 2,[.s 9,.s 11],some 13,none,none⟩,⟨.ldE 2 true,[.s 13],some 14,none,none⟩,⟨.alloc [.v (.int .i64 0),.sl 1 0 []],[],some 4,none,none⟩,⟨.stL 2,[.s 4,.s 14],none,some 4,none⟩]) (.seq (.ops [⟨.ldL 2 true,[.s 4],some 15,some 4,none⟩,⟨.callF 55,[.s 15],some 16,none,none⟩,⟨.mv,[.s 16],some 5,none,none⟩]) (.seq (.ops [⟨.mv,[.s 5],some 17,none,none⟩,⟨.bin .neq,[.s 17,.c (.v (.int .i64 0))],some 18,none,none⟩]) (.cond (.s 18) (.seq (.ops [⟨.mv,[.s 5],some 19,none,none⟩,⟨.mv,[.s 19],some 2,none,none⟩]) .ret) .skip))))) (.ops [⟨.bin .add,[.s 11,.c (.v (.int .i64 1))],some 20,none,none⟩,⟨.mv,[.s 20],some 11,none,none⟩]))))
theorem context_loop (g : List Ty) (zg : Nat) (hz : g ≠ [] → zg = 2) (hg : g.length ≤ 1000) (hb : ∀ t ∈ g, t.nodes ≤ 64) (sh : Sh) (lv : Nat → Bool) (tk : Nat) (k : List Fr) (Q : Out → Prop) ( x0 x1 x3 x6 x7 x8 : PV)
    (hk : ∀ ( y2 y4 y5 y12 y13 y14 y15 y16 y17 y18 y19 y20 : PV), R T G [] k ⟨[x0, x1, y2, x3, y4, y5, x6, x7, x8, .sl 0 zg (g.map Ty.row), i64 (g.length : Int), i64 (g.length : Int), y12, y13, y14, y15, y16, y17, y18, y19, y20], ⟨sh, lv, tk⟩⟩ Q) :
    ∀ (m i : Nat) ( x2 x4 x5 x12 x13 x14 x15 x16 x17 x18 x19 x20 : PV), i + m = g.length → R T G [] (.pc (.loop b46_0) :: .blk 0 :: k) ⟨[x0, x1, x2, x3, x4, x5, x6, x7, x8, .sl 0 zg (g.map Ty.row), i64 (g.length : Int), i64 (i : Int), x12, x13, x14, x15, x16, x17, x18, x19, x20], ⟨sh, lv, tk⟩⟩ Q := by
  intro m
  induction m with
  | zero =>
    intro i  x2 x4 x5 x12 x13 x14 x15 x16 x17 x18 x19 x20 hi
    have hi' : i = g.length := by omega
    subst hi'
    rw [R.loop_eq]
    unfold b46_0
    simp only [wp0, wp1, wp2, wp3, wp4, PV.cellsT, appMax, dropSh, fillB, fillS, putD, splice, src, startSt, Int.reduceAdd, Int.reduceEq, Int.reduceLE, Int.reduceLT, Int.reduceNeg, Int.reduceSub, Int.reduceToNat, Nat.reduceAdd, Nat.reduceEqDiff, Nat.reduceLT, Nat.reduceLeDiff, Nat.reduceMul, Nat.reduceSub, if_false, if_true, ite_false, ite_true, reduceIte, Int.lt_irrefl]
    exact hk _ _ _ _ _ _ _ _ _ _ _ _
  | succ m ih =>
    intro i  x2 x4 x5 x12 x13 x14 x15 x16 x17 x18 x19 x20 hi
    have hne : g ≠ [] := by intro e; subst e; simp at hi
    obtain rfl := hz hne
    have c1 : (i : Int) < (g.length : Int) := by omega
    have w3 : IntKind.i64.wrap ((i : Int) + 1) = ((i + 1 : Nat) : Int) := by rw [wrap_i64 (by omega)]; omega
    have c3 : (0 : Int) ≤ (i : Int) := by omega
    have c4 := getD_row g (i := i) (by omega)
    have hm : g.getD i .nat ∈ g := by
      rw [List.getD_eq_getElem?_getD, List.getElem?_eq_getElem (by omega)]
      exact List.getElem_mem _
    have u := clR.use (typesCheck sh (g.getD i .nat) (hb _ hm))
    simp only [Ty.row, tyAll] at u c4
    rw [R.loop_eq]
    unfold b46_0
    simp only [wp0, wp1, wp2, wp3, wp4, PV.cellsT, appMax, dropSh, fillB, fillS, putD, splice, src, startSt, Int.reduceAdd, Int.reduceEq, Int.reduceLE, Int.reduceLT, Int.reduceNeg, Int.reduceSub, Int.reduceToNat, Nat.reduceAdd, Nat.reduceEqDiff, Nat.reduceLT, Nat.reduceLeDiff, Nat.reduceMul, Nat.reduceSub, if_false, if_true, ite_false, ite_true, reduceIte, List.length_map, c1, w3, c3, c4, u, Int.toNat_natCast]
    exact ih (i + 1) _ _ _ _ _ _ _ _ _ _ _ _ (by omega)
theorem context46 (g : List Ty) (zg : Nat) (hz : g ≠ [] → zg = 2) (hg : g.length ≤ 16) (hb : ∀ t ∈ g, t.nodes ≤ 64) (sh : Sh) :
    ∃ n, callN T G n 46 [.sl 0 zg (g.map Ty.row)] sh = some (i64 0, sh) := by
  have c : ¬ (16 : Int) < (g.length : Int) := by omega
  refine run_eq (run_of (pf := p46) rfl ?_)
  unfold p46
  simp only [wp0, wp1, wp2, wp3, wp4, PV.cellsT, appMax, dropSh, fillB, fillS, putD, splice, src, startSt, Int.reduceAdd, Int.reduceEq, Int.reduceLE, Int.reduceLT, Int.reduceNeg, Int.reduceSub, Int.reduceToNat, Nat.reduceAdd, Nat.reduceEqDiff, Nat.reduceLT, Nat.reduceLeDiff, Nat.reduceMul, Nat.reduceSub, if_false, if_true, ite_false, ite_true, reduceIte, List.length_map, c]
  refine context_loop g zg hz (by omega) hb sh _ _ _ _ _ _ _ _ _ _ ?_ g.length 0 _ _ _ _ _ _ _ _ _ _ _ _ (by omega)
  intro  y2 y4 y5 y12 y13 y14 y15 y16 y17 y18 y19 y20
  simp only [wp0, wp1, wp2, wp3, wp4, PV.cellsT, appMax, dropSh, fillB, fillS, putD, splice, src, startSt, Int.reduceAdd, Int.reduceEq, Int.reduceLE, Int.reduceLT, Int.reduceNeg, Int.reduceSub, Int.reduceToNat, Nat.reduceAdd, Nat.reduceEqDiff, Nat.reduceLT, Nat.reduceLeDiff, Nat.reduceMul, Nat.reduceSub, if_false, if_true, ite_false, ite_true, reduceIte]
def b47_0 : PC := (.seq (.ops [⟨.bin .lss,[.s 8,.s 7],some 9,none,none⟩]) (.seq (.cond (.s 9) .skip (.exit 0)) (.seq (.block 1 (.seq (.ops [⟨.ia 2,[.s 6,.s 8],some 10,none,none⟩,⟨.ldE 2 true,[.s 10],some 11,none,none⟩,⟨.alloc [.v (.int .i64 0),.sl 1 0 []],[],some 5,none,none⟩,⟨.stL 2,[.s 5,.s 11],none,some 5,none⟩]) (.ops [⟨.mv,[.s 3],some 12,none,none⟩,⟨.ldL 2 true,[.s 5],some 13,some 5,none⟩,⟨.callF 71,[.s 13],some 14,none,none⟩,⟨.bslice [.v (.int .i64 0),.sl 0 0 [],.v (.int .i64 0)] 1 3 [0],[.s 14],some 15,none,none⟩,⟨.app 3,[.s 12,.s 15],some 16,none,none⟩,⟨.mv,[.s 16],some 3,none,none⟩]))) (.ops [⟨.bin .add,[.s 8,.c (.v (.int .i64 1))],some 17,none,none⟩,⟨.mv,[.s 17],some 8,none,none⟩]))))
theorem from_loop (g : List Ty) (zg : Nat) (hz : g ≠ [] → zg = 2) (hg : g.length ≤ 1000) (hb : ∀ t ∈ g, t.nodes ≤ 64) (sh : Sh) (k : List Fr) (Q : Out → Prop) ( x0 x1 x2 x4 x18 : PV)
    (hk : ∀ (tok z : Nat) (lv : Nat → Bool) (tk : Nat) ( y5 y9 y10 y11 y12 y13 y14 y15 y16 y17 : PV), (g ≠ [] → z = 3) → R T G [] k ⟨[x0, x1, x2, .sl tok z (g.map Ty.srow), x4, y5, .sl 0 zg (g.map Ty.row), i64 (g.length : Int), i64 (g.length : Int), y9, y10, y11, y12, y13, y14, y15, y16, y17, x18], ⟨sh, lv, tk⟩⟩ Q) :
    ∀ (m i : Nat) (tok z : Nat) (lv : Nat → Bool) (tk : Nat) ( x5 x9 x10 x11 x12 x13 x14 x15 x16 x17 : PV), i + m = g.length → 2 ≤ tk → Tok lv tk tok → (tok = 1 → i = 0) → (tok ≠ 1 → z = 3) → R T G [] (.pc (.loop b47_0) :: .blk 0 :: k) ⟨[x0, x1, x2, .sl tok z ((g.take i).map Ty.srow), x4, x5, .sl 0 zg (g.map Ty.row), i64 (g.length : Int), i64 (i : Int), x9, x10, x11, x12, x13, x14, x15, x16, x17, x18], ⟨sh, lv, tk⟩⟩ Q := by
  intro m
  induction m with
  | zero =>
    intro i tok z lv tk  x5 x9 x10 x11 x12 x13 x14 x15 x16 x17 hi htk ht h1 h2
    have hi' : i = g.length := by omega
    subst hi'
    rw [R.loop_eq]
    unfold b47_0
    simp only [wp0, wp1, wp2, wp3, wp4, PV.cellsT, appMax, dropSh, fillB, fillS, putD, splice, src, startSt, Int.reduceAdd, Int.reduceEq, Int.reduceLE, Int.reduceLT, Int.reduceNeg, Int.reduceSub, Int.reduceToNat, Nat.reduceAdd, Nat.reduceEqDiff, Nat.reduceLT, Nat.reduceLeDiff, Nat.reduceMul, Nat.reduceSub, if_false, if_true, ite_false, ite_true, reduceIte, Int.lt_irrefl, List.take_length]
    exact hk tok z lv tk _ _ _ _ _ _ _ _ _ _ (fun hne => h2 fun e => hne (List.length_eq_zero_iff.1 (h1 e)))
  | succ m ih =>
    intro i tok z lv tk  x5 x9 x10 x11 x12 x13 x14 x15 x16 x17 hi htk ht h1 h2
    have hne : g ≠ [] := by intro e; subst e; simp at hi
    obtain rfl := hz hne
    have c1 : (i : Int) < (g.length : Int) := by omega
    have w3 : IntKind.i64.wrap ((i : Int) + 1) = ((i + 1 : Nat) : Int) := by rw [wrap_i64 (by omega)]; omega
    have c3 : (0 : Int) ≤ (i : Int) := by omega
    have c4 := getD_row g (i := i) (by omega)
    have hm : g.getD i .nat ∈ g := by
      rw [List.getD_eq_getElem?_getD, List.getElem?_eq_getElem (by omega)]
      exact List.getElem_mem _
    have u := clR.use (of71 sh (g.getD i .nat) (hb _ hm))
    have ha3 : ((g.take i).map Ty.srow) ++ [(g.getD i .nat).srow] = (g.take (i + 1)).map Ty.srow := by
      rw [List.take_add_one, List.map_append]
      simp [List.getD_eq_getElem?_getD, List.getElem?_eq_getElem (show i < g.length by omega)]
    have ha2 := @e_appS noCall 3 z tok 1 ((g.take i).map Ty.srow) [(g.getD i .nat).srow] sh lv tk ht (fun e => by rw [h1 e]; rfl) h2
    rw [ha3] at ha2
    have ha1 : ((g.take i).map Ty.srow).length + [(g.getD i .nat).srow].length ≤ appMax := by simp [appMax]; omega
    rw [if_pos ha1] at ha2
    have hs : ∀ t : Ty, t.srow = [i64 t.kind, .sl 0 t.asz t.arows, i64 (t.nodes : Int)] := fun _ => rfl
    simp only [hs] at ha2
    simp only [Ty.row, tyAll, hs] at u c4
    rw [R.loop_eq]
    unfold b47_0
    simp only [wp0, wp1, wp2, wp3, wp4, PV.cellsT, appMax, dropSh, fillB, fillS, putD, splice, src, startSt, Int.reduceAdd, Int.reduceEq, Int.reduceLE, Int.reduceLT, Int.reduceNeg, Int.reduceSub, Int.reduceToNat, Nat.reduceAdd, Nat.reduceEqDiff, Nat.reduceLT, Nat.reduceLeDiff, Nat.reduceMul, Nat.reduceSub, if_false, if_true, ite_false, ite_true, reduceIte, List.length_map, c1, w3, c3, c4, u, ha2, Int.toNat_natCast]
    exact ih (i + 1) tk 3 (lvApp lv tk tok) (tk + 1) _ _ _ _ _ _ _ _ _ _ (by omega) (by omega) (.app htk) (fun e => by omega) (fun _ => rfl)
theorem from47 (g : List Ty) (zg : Nat) (hz : g ≠ [] → zg = 2) (hg : g.length ≤ 1000) (hb : ∀ t ∈ g, t.nodes ≤ 64) (sh : Sh) :
    ∃ z, (g ≠ [] → z = 3) ∧ ∃ n, callN T G n 47 [.sl 0 zg (g.map Ty.row)] sh = some (.sl 0 z (g.map Ty.srow), sh) := by
  have key : Runs T G 47 [.sl 0 zg (g.map Ty.row)] sh fun r s' => ∃ z, (g ≠ [] → z = 3) ∧ r = .sl 0 z (g.map Ty.srow) ∧ s' = sh := by
    refine run_of (pf := p47) rfl ?_
    unfold p47
    simp only [wp0, wp1, wp2, wp3, wp4, PV.cellsT, appMax, dropSh, fillB, fillS, putD, splice, src, startSt, Int.reduceAdd, Int.reduceEq, Int.reduceLE, Int.reduceLT, Int.reduceNeg, Int.reduceSub, Int.reduceToNat, Nat.reduceAdd, Nat.reduceEqDiff, Nat.reduceLT, Nat.reduceLeDiff, Nat.reduceMul, Nat.reduceSub, if_false, if_true, ite_false, ite_true, reduceIte, List.length_map]
    refine from_loop g zg hz hg hb sh _ _ _ _ _ _ _ ?_ g.length 0 1 0 _ _ _ _ _ _ _ _ _ _ _ _ (by omega) (Nat.le_refl _) .one (fun _ => rfl) (fun h => (h rfl).elim)
    intro tok z lv tk  y5 y9 y10 y11 y12 y13 y14 y15 y16 y17 hz'
    simp only [wp0, wp1, wp2, wp3, wp4, PV.cellsT, appMax, dropSh, fillB, fillS, putD, splice, src, startSt, Int.reduceAdd, Int.reduceEq, Int.reduceLE, Int.reduceLT, Int.reduceNeg, Int.reduceSub, Int.reduceToNat, Nat.reduceAdd, Nat.reduceEqDiff, Nat.reduceLT, Nat.reduceLeDiff, Nat.reduceMul, Nat.reduceSub, if_false, if_true, ite_false, ite_true, reduceIte]
    first | exact ⟨z, hz', rfl, rfl⟩ | exact ⟨z, hz', rfl⟩
  obtain ⟨n, r, s', h, z, h1, rfl, rfl⟩ := key
  exact ⟨z, h1, n, h⟩
end Go.Pi.Terms
