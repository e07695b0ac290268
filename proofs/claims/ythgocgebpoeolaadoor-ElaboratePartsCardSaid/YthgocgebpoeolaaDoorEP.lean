import Derived.Test.YthgocgebpoeolaaDoorFG
import Derived.Test.YthgocgebpoeolaaDoorFE
set_option linter.unusedSectionVars false
set_option maxRecDepth 100000
set_option maxHeartbeats 1000000
set_option linter.unusedSimpArgs false
set_option linter.unusedVariables false
namespace Go.Pi.Terms
open Go Go.Pi Go.Proofs.YthgocgebpoeolaaDoor
/-- The leading universal quantifiers, and what stands below. -/
def Fm.alls : Fm → List Ty
  | .qu .all s f => s :: f.alls
  | .qu .allU s f => s :: f.alls
  | _ => []
def Fm.body : Fm → Fm
  | .qu .all _ f => f.body
  | .qu .allU _ f => f.body
  | f => f
/-- The premises, and the conclusion. -/
def Fm.prem : Fm → List Fm
  | .bin true f g => f :: g.prem
  | _ => []
def Fm.concl : Fm → Fm
  | .bin true _ g => g.concl
  | f => f
theorem alls_le : ∀ f : Fm, f.alls.length ≤ f.size
  | .eq _ _ => Nat.zero_le _
  | .bin _ _ _ => Nat.zero_le _
  | .qu .all _ f => by have := alls_le f; simp only [Fm.alls, List.length_cons, Fm.size]; omega
  | .qu .allU _ f => by have := alls_le f; simp only [Fm.alls, List.length_cons, Fm.size]; omega
  | .qu .ex _ _ => Nat.zero_le _
  | .qu .exU _ _ => Nat.zero_le _
theorem prem_le : ∀ f : Fm, f.prem.length ≤ f.size
  | .eq _ _ => Nat.zero_le _
  | .bin true f g => by have := prem_le g; simp only [Fm.prem, List.length_cons, Fm.size]; omega
  | .bin false _ _ => Nat.zero_le _
  | .qu _ _ _ => Nat.zero_le _
theorem body_le : ∀ f : Fm, f.body.size ≤ f.size
  | .eq _ _ => Nat.le_refl _
  | .bin _ _ _ => Nat.le_refl _
  | .qu .all _ f => by have := body_le f; simp only [Fm.body, Fm.size]; omega
  | .qu .allU _ f => by have := body_le f; simp only [Fm.body, Fm.size]; omega
  | .qu .ex _ _ => Nat.le_refl _
  | .qu .exU _ _ => Nat.le_refl _
theorem concl_le : ∀ f : Fm, f.concl.size ≤ f.size
  | .eq _ _ => Nat.le_refl _
  | .bin true f g => by have := concl_le g; simp only [Fm.concl, Fm.size]; omega
  | .bin false _ _ => Nat.le_refl _
  | .qu _ _ _ => Nat.le_refl _
theorem body_kind : ∀ f : Fm, f.body.kind ≠ 4 ∧ f.body.kind ≠ 6
  | .eq _ _ => by simp [Fm.body, Fm.kind]
  | .bin true _ _ => by simp [Fm.body, Fm.kind]
  | .bin false _ _ => by simp [Fm.body, Fm.kind]
  | .qu .all _ f => body_kind f
  | .qu .allU _ f => body_kind f
  | .qu .ex _ _ => by simp [Fm.body, Fm.kind, QK.num]
  | .qu .exU _ _ => by simp [Fm.body, Fm.kind, QK.num]
theorem concl_kind : ∀ f : Fm, f.concl.kind ≠ 3
  | .eq _ _ => by simp [Fm.concl, Fm.kind]
  | .bin true _ g => concl_kind g
  | .bin false _ _ => by simp [Fm.concl, Fm.kind]
  | .qu .all _ _ => by simp [Fm.concl, Fm.kind, QK.num]
  | .qu .ex _ _ => by simp [Fm.concl, Fm.kind, QK.num]
  | .qu .allU _ _ => by simp [Fm.concl, Fm.kind, QK.num]
  | .qu .exU _ _ => by simp [Fm.concl, Fm.kind, QK.num]
theorem concl_self : ∀ f : Fm, f.prem = [] → f.concl = f
  | .eq _ _, _ => rfl
  | .bin true f g, h => by cases h
  | .bin false _ _, _ => rfl
  | .qu _ _ _, _ => rfl
def b26_0 : PC := (.seq (.seq (.ops [⟨.fa 0,[.s 1],some 7,none,none⟩,⟨.ldL 1 false,[.s 7],some 8,some 1,none⟩,⟨.bin .eql,[.s 8,.c (.v (.int .i64 4))],some 9,none,none⟩,⟨.mv,[.s 9],some 10,none,none⟩,⟨.fa 0,[.s 1],some 11,none,some (10,false)⟩,⟨.ldL 1 false,[.s 11],some 12,some 1,some (10,false)⟩,⟨.bin .eql,[.s 12,.c (.v (.int .i64 6))],some 13,none,some (10,false)⟩,⟨.pick,[.s 10,.c (.v (.bool true)),.s 13],some 14,none,none⟩]) (.cond (.s 14) .skip (.exit 0))) (.block 1 (.ops [⟨.mv,[.s 5],some 15,none,none⟩,⟨.fa 1,[.s 1],some 16,none,none⟩,⟨.ldL 2 true,[.s 16],some 17,some 1,none⟩,⟨.callF 49,[.s 17],some 18,none,none⟩,⟨.bslice [.v (.int .i64 0),.sl 0 0 []] 1 2 [0],[.s 18],some 19,none,none⟩,⟨.app 2,[.s 15,.s 19],some 20,none,none⟩,⟨.fa 4,[.s 1],some 21,none,none⟩,⟨.ldL 1 false,[.s 21],some 22,some 1,none⟩,⟨.ia 5,[.s 22,.c (.v (.int .i64 0))],some 23,none,none⟩,⟨.ldE 5 true,[.s 23],some 24,none,none⟩,⟨.mv,[.s 20],some 5,none,none⟩,⟨.stL 5,[.s 1,.s 24],none,some 1,none⟩])))
theorem parts_loop0 (sh : Sh) (k : List Fr) (Q : Out → Prop) (gen : Nat) (x0 x2 x3 x4 x6 x25 x26 x27 x28 x29 x30 x31 x32 x33 x34 x35 x36 x37 x38 x39 x40 x41 x42 x43 : PV) :
    ∀ (f : Fm) (acc : List Ty) (tok z : Nat) (lv : Nat → Bool) (tk : Nat) (x7 x8 x9 x10 x11 x12 x13 x14 x15 x16 x17 x18 x19 x20 x21 x22 x23 x24 : PV), acc.length + f.size ≤ 100000 → 2 ≤ tk → Tok lv tk tok → (tok = 1 → acc = []) → (tok ≠ 1 → z = 2) →
    (∀ (tok z : Nat) (lv : Nat → Bool) (tk : Nat) (y7 y8 y9 y10 y11 y12 y13 y14 y15 y16 y17 y18 y19 y20 y21 y22 y23 y24 : PV), (acc ++ f.alls ≠ [] → z = 2) → 2 ≤ tk → R T G [] k ⟨[x0, .bx gen [i64 (f.body).kind, i64 (f.body).tkind, .sl 0 (f.body).tz (f.body).trows, .sl 0 (f.body).ez (f.body).erows, .sl 0 (f.body).az (f.body).arows], x2, x3, x4, .sl tok z ((acc ++ f.alls).map Ty.row), x6, y7, y8, y9, y10, y11, y12, y13, y14, y15, y16, y17, y18, y19, y20, y21, y22, y23, y24, x25, x26, x27, x28, x29, x30, x31, x32, x33, x34, x35, x36, x37, x38, x39, x40, x41, x42, x43], ⟨sh, lv, tk⟩⟩ Q) →
    R T G [] (.pc (.loop b26_0) :: .blk 0 :: k) ⟨[x0, .bx gen [i64 f.kind, i64 f.tkind, .sl 0 f.tz f.trows, .sl 0 f.ez f.erows, .sl 0 f.az f.arows], x2, x3, x4, .sl tok z (acc.map Ty.row), x6, x7, x8, x9, x10, x11, x12, x13, x14, x15, x16, x17, x18, x19, x20, x21, x22, x23, x24, x25, x26, x27, x28, x29, x30, x31, x32, x33, x34, x35, x36, x37, x38, x39, x40, x41, x42, x43], ⟨sh, lv, tk⟩⟩ Q := by
  intro f
  induction f with
  | eq a b =>
    intro acc tok z lv tk x7 x8 x9 x10 x11 x12 x13 x14 x15 x16 x17 x18 x19 x20 x21 x22 x23 x24 hs htk ht h1 h2 hk
    rw [R.loop_eq]
    unfold b26_0
    simp only [wp0, wp1, wp2, wp3, wp4, wp5, Int.reduceAdd, Int.reduceEq, Int.reduceLE, Int.reduceLT, Int.reduceNeg, Int.reduceSub, Int.reduceToNat, Nat.reduceAdd, Nat.reduceDiv, Nat.reduceEqDiff, Nat.reduceLT, Nat.reduceLeDiff, Nat.reduceMod, Nat.reduceMul, Nat.reduceSub, eq_self, reduceIte, Ty.row, tyAll, Tm.row, tmAll, Fm.row, fmAll]
    simp only [Fm.body, Fm.alls, List.append_nil, Fm.row, fmAll] at hk
    exact hk tok z lv tk _ _ _ _ _ _ _ _ _ _ _ _ _ _ _ _ _ _ (fun hne => h2 fun e => hne (h1 e)) htk
  | bin c f g ihf ihg =>
    intro acc tok z lv tk x7 x8 x9 x10 x11 x12 x13 x14 x15 x16 x17 x18 x19 x20 x21 x22 x23 x24 hs htk ht h1 h2 hk
    cases c with
    | false =>
      rw [R.loop_eq]
      unfold b26_0
      simp only [wp0, wp1, wp2, wp3, wp4, wp5, Int.reduceAdd, Int.reduceEq, Int.reduceLE, Int.reduceLT, Int.reduceNeg, Int.reduceSub, Int.reduceToNat, Nat.reduceAdd, Nat.reduceDiv, Nat.reduceEqDiff, Nat.reduceLT, Nat.reduceLeDiff, Nat.reduceMod, Nat.reduceMul, Nat.reduceSub, eq_self, reduceIte, Ty.row, tyAll, Tm.row, tmAll, Fm.row, fmAll]
      simp only [Fm.body, Fm.alls, List.append_nil, Fm.row, fmAll] at hk
      exact hk tok z lv tk _ _ _ _ _ _ _ _ _ _ _ _ _ _ _ _ _ _ (fun hne => h2 fun e => hne (h1 e)) htk
    | true =>
      rw [R.loop_eq]
      unfold b26_0
      simp only [wp0, wp1, wp2, wp3, wp4, wp5, Int.reduceAdd, Int.reduceEq, Int.reduceLE, Int.reduceLT, Int.reduceNeg, Int.reduceSub, Int.reduceToNat, Nat.reduceAdd, Nat.reduceDiv, Nat.reduceEqDiff, Nat.reduceLT, Nat.reduceLeDiff, Nat.reduceMod, Nat.reduceMul, Nat.reduceSub, eq_self, reduceIte, Ty.row, tyAll, Tm.row, tmAll, Fm.row, fmAll]
      simp only [Fm.body, Fm.alls, List.append_nil, Fm.row, fmAll] at hk
      exact hk tok z lv tk _ _ _ _ _ _ _ _ _ _ _ _ _ _ _ _ _ _ (fun hne => h2 fun e => hne (h1 e)) htk
  | qu q s f ih =>
    intro acc tok z lv tk x7 x8 x9 x10 x11 x12 x13 x14 x15 x16 x17 x18 x19 x20 x21 x22 x23 x24 hs htk ht h1 h2 hk
    cases q with
    | all =>
      simp only [Fm.size] at hs
      have u := clR.use (own49 sh s)
      have ha3 : acc.map Ty.row ++ [s.row] = (acc ++ [s]).map Ty.row := by simp
      have ha2 := @e_appS noCall 2 z tok 1 (acc.map Ty.row) [s.row] sh lv tk ht (fun e => by rw [h1 e]; rfl) h2
      rw [ha3] at ha2
      have ha1 : (acc.map Ty.row).length + [s.row].length ≤ appMax := by simp [appMax]; omega
      rw [if_pos ha1] at ha2
      simp only [Ty.row, tyAll] at u ha2
      rw [R.loop_eq]
      unfold b26_0
      simp only [wp0, wp1, wp2, wp3, wp4, wp5, Int.reduceAdd, Int.reduceEq, Int.reduceLE, Int.reduceLT, Int.reduceNeg, Int.reduceSub, Int.reduceToNat, Nat.reduceAdd, Nat.reduceDiv, Nat.reduceEqDiff, Nat.reduceLT, Nat.reduceLeDiff, Nat.reduceMod, Nat.reduceMul, Nat.reduceSub, eq_self, reduceIte, Ty.row, tyAll, Tm.row, tmAll, Fm.row, fmAll, u, ha2]
      refine ih (acc ++ [s]) tk 2 (lvApp lv tk tok) (tk + 1) _ _ _ _ _ _ _ _ _ _ _ _ _ _ _ _ _ _ (by simp only [List.length_append, List.length_cons, List.length_nil]; omega) (by omega) (.app htk) (fun e => by omega) (fun _ => rfl) ?_
      intro tok z lv tk y7 y8 y9 y10 y11 y12 y13 y14 y15 y16 y17 y18 y19 y20 y21 y22 y23 y24 hz htk
      have := hk tok z lv tk y7 y8 y9 y10 y11 y12 y13 y14 y15 y16 y17 y18 y19 y20 y21 y22 y23 y24 (by simpa only [Fm.alls, List.append_assoc, List.singleton_append] using hz) htk
      simp only [Fm.body, Fm.alls, List.append_assoc, List.singleton_append, List.cons_append, List.nil_append] at this ⊢
      exact this
    | ex =>
      rw [R.loop_eq]
      unfold b26_0
      simp only [wp0, wp1, wp2, wp3, wp4, wp5, Int.reduceAdd, Int.reduceEq, Int.reduceLE, Int.reduceLT, Int.reduceNeg, Int.reduceSub, Int.reduceToNat, Nat.reduceAdd, Nat.reduceDiv, Nat.reduceEqDiff, Nat.reduceLT, Nat.reduceLeDiff, Nat.reduceMod, Nat.reduceMul, Nat.reduceSub, eq_self, reduceIte, Ty.row, tyAll, Tm.row, tmAll, Fm.row, fmAll]
      simp only [Fm.body, Fm.alls, List.append_nil, Fm.row, fmAll] at hk
      exact hk tok z lv tk _ _ _ _ _ _ _ _ _ _ _ _ _ _ _ _ _ _ (fun hne => h2 fun e => hne (h1 e)) htk
    | allU =>
      simp only [Fm.size] at hs
      have u := clR.use (own49 sh s)
      have ha3 : acc.map Ty.row ++ [s.row] = (acc ++ [s]).map Ty.row := by simp
      have ha2 := @e_appS noCall 2 z tok 1 (acc.map Ty.row) [s.row] sh lv tk ht (fun e => by rw [h1 e]; rfl) h2
      rw [ha3] at ha2
      have ha1 : (acc.map Ty.row).length + [s.row].length ≤ appMax := by simp [appMax]; omega
      rw [if_pos ha1] at ha2
      simp only [Ty.row, tyAll] at u ha2
      rw [R.loop_eq]
      unfold b26_0
      simp only [wp0, wp1, wp2, wp3, wp4, wp5, Int.reduceAdd, Int.reduceEq, Int.reduceLE, Int.reduceLT, Int.reduceNeg, Int.reduceSub, Int.reduceToNat, Nat.reduceAdd, Nat.reduceDiv, Nat.reduceEqDiff, Nat.reduceLT, Nat.reduceLeDiff, Nat.reduceMod, Nat.reduceMul, Nat.reduceSub, eq_self, reduceIte, Ty.row, tyAll, Tm.row, tmAll, Fm.row, fmAll, u, ha2]
      refine ih (acc ++ [s]) tk 2 (lvApp lv tk tok) (tk + 1) _ _ _ _ _ _ _ _ _ _ _ _ _ _ _ _ _ _ (by simp only [List.length_append, List.length_cons, List.length_nil]; omega) (by omega) (.app htk) (fun e => by omega) (fun _ => rfl) ?_
      intro tok z lv tk y7 y8 y9 y10 y11 y12 y13 y14 y15 y16 y17 y18 y19 y20 y21 y22 y23 y24 hz htk
      have := hk tok z lv tk y7 y8 y9 y10 y11 y12 y13 y14 y15 y16 y17 y18 y19 y20 y21 y22 y23 y24 (by simpa only [Fm.alls, List.append_assoc, List.singleton_append] using hz) htk
      simp only [Fm.body, Fm.alls, List.append_assoc, List.singleton_append, List.cons_append, List.nil_append] at this ⊢
      exact this
    | exU =>
      rw [R.loop_eq]
      unfold b26_0
      simp only [wp0, wp1, wp2, wp3, wp4, wp5, Int.reduceAdd, Int.reduceEq, Int.reduceLE, Int.reduceLT, Int.reduceNeg, Int.reduceSub, Int.reduceToNat, Nat.reduceAdd, Nat.reduceDiv, Nat.reduceEqDiff, Nat.reduceLT, Nat.reduceLeDiff, Nat.reduceMod, Nat.reduceMul, Nat.reduceSub, eq_self, reduceIte, Ty.row, tyAll, Tm.row, tmAll, Fm.row, fmAll]
      simp only [Fm.body, Fm.alls, List.append_nil, Fm.row, fmAll] at hk
      exact hk tok z lv tk _ _ _ _ _ _ _ _ _ _ _ _ _ _ _ _ _ _ (fun hne => h2 fun e => hne (h1 e)) htk
def b26_1 : PC := (.seq (.seq (.ops [⟨.fa 0,[.s 1],some 25,none,none⟩,⟨.ldL 1 false,[.s 25],some 26,some 1,none⟩,⟨.bin .eql,[.s 26,.c (.v (.int .i64 3))],some 27,none,none⟩]) (.cond (.s 27) .skip (.exit 2))) (.block 3 (.ops [⟨.mv,[.s 6],some 28,none,none⟩,⟨.fa 4,[.s 1],some 29,none,none⟩,⟨.ldL 1 false,[.s 29],some 30,some 1,none⟩,⟨.ia 5,[.s 30,.c (.v (.int .i64 0))],some 31,none,none⟩,⟨.ldE 5 true,[.s 31],some 32,none,none⟩,⟨.callF 50,[.s 32],some 33,none,none⟩,⟨.bslice [.v (.int .i64 0),.v (.int .i64 0),.sl 0 0 [],.sl 0 0 [],.sl 0 0 []] 1 5 [0],[.s 33],some 34,none,none⟩,⟨.app 5,[.s 28,.s 34],some 35,none,none⟩,⟨.fa 4,[.s 1],some 36,none,none⟩,⟨.ldL 1 false,[.s 36],some 37,some 1,none⟩,⟨.ia 5,[.s 37,.c (.v (.int .i64 1))],some 38,none,none⟩,⟨.ldE 5 true,[.s 38],some 39,none,none⟩,⟨.mv,[.s 35],some 6,none,none⟩,⟨.stL 5,[.s 1,.s 39],none,some 1,none⟩])))
theorem parts_loop1 (bx : List (Nat × List PV)) (k : List Fr) (Q : Out → Prop) (gen : Nat) (x0 x2 x3 x4 x5 x7 x8 x9 x10 x11 x12 x13 x14 x15 x16 x17 x18 x19 x20 x21 x22 x23 x24 x40 x41 x42 x43 : PV) :
    ∀ (f : Fm) (acc : List Fm) (nx tok z : Nat) (lv : Nat → Bool) (tk : Nat) (x25 x26 x27 x28 x29 x30 x31 x32 x33 x34 x35 x36 x37 x38 x39 : PV), acc.length + f.size ≤ 100000 → 2 ≤ tk → Tok lv tk tok → (tok = 1 → acc = []) → (tok ≠ 1 → z = 5) →
    (∀ (nx tok z : Nat) (lv : Nat → Bool) (tk : Nat) (y25 y26 y27 y28 y29 y30 y31 y32 y33 y34 y35 y36 y37 y38 y39 : PV), (acc ++ f.prem ≠ [] → z = 5) → 2 ≤ tk → R T G [] k ⟨[x0, .bx gen [i64 (f.concl).kind, i64 (f.concl).tkind, .sl 0 (f.concl).tz (f.concl).trows, .sl 0 (f.concl).ez (f.concl).erows, .sl 0 (f.concl).az (f.concl).arows], x2, x3, x4, x5, .sl tok z ((acc ++ f.prem).map Fm.row), x7, x8, x9, x10, x11, x12, x13, x14, x15, x16, x17, x18, x19, x20, x21, x22, x23, x24, y25, y26, y27, y28, y29, y30, y31, y32, y33, y34, y35, y36, y37, y38, y39, x40, x41, x42, x43], ⟨⟨bx, nx⟩, lv, tk⟩⟩ Q) →
    R T G [] (.pc (.loop b26_1) :: .blk 2 :: k) ⟨[x0, .bx gen [i64 f.kind, i64 f.tkind, .sl 0 f.tz f.trows, .sl 0 f.ez f.erows, .sl 0 f.az f.arows], x2, x3, x4, x5, .sl tok z (acc.map Fm.row), x7, x8, x9, x10, x11, x12, x13, x14, x15, x16, x17, x18, x19, x20, x21, x22, x23, x24, x25, x26, x27, x28, x29, x30, x31, x32, x33, x34, x35, x36, x37, x38, x39, x40, x41, x42, x43], ⟨⟨bx, nx⟩, lv, tk⟩⟩ Q := by
  intro f
  induction f with
  | eq a b =>
    intro acc nx tok z lv tk x25 x26 x27 x28 x29 x30 x31 x32 x33 x34 x35 x36 x37 x38 x39 hs htk ht h1 h2 hk
    rw [R.loop_eq]
    unfold b26_1
    simp only [wp0, wp1, wp2, wp3, wp4, wp5, Int.reduceAdd, Int.reduceEq, Int.reduceLE, Int.reduceLT, Int.reduceNeg, Int.reduceSub, Int.reduceToNat, Nat.reduceAdd, Nat.reduceDiv, Nat.reduceEqDiff, Nat.reduceLT, Nat.reduceLeDiff, Nat.reduceMod, Nat.reduceMul, Nat.reduceSub, eq_self, reduceIte, Ty.row, tyAll, Tm.row, tmAll, Fm.row, fmAll]
    simp only [Fm.concl, Fm.prem, List.append_nil, Fm.row, fmAll] at hk
    exact hk nx tok z lv tk _ _ _ _ _ _ _ _ _ _ _ _ _ _ _ (fun hne => h2 fun e => hne (h1 e)) htk
  | bin c f g ihf ihg =>
    intro acc nx tok z lv tk x25 x26 x27 x28 x29 x30 x31 x32 x33 x34 x35 x36 x37 x38 x39 hs htk ht h1 h2 hk
    cases c with
    | false =>
      rw [R.loop_eq]
      unfold b26_1
      simp only [wp0, wp1, wp2, wp3, wp4, wp5, Int.reduceAdd, Int.reduceEq, Int.reduceLE, Int.reduceLT, Int.reduceNeg, Int.reduceSub, Int.reduceToNat, Nat.reduceAdd, Nat.reduceDiv, Nat.reduceEqDiff, Nat.reduceLT, Nat.reduceLeDiff, Nat.reduceMod, Nat.reduceMul, Nat.reduceSub, eq_self, reduceIte, Ty.row, tyAll, Tm.row, tmAll, Fm.row, fmAll]
      simp only [Fm.concl, Fm.prem, List.append_nil, Fm.row, fmAll] at hk
      exact hk nx tok z lv tk _ _ _ _ _ _ _ _ _ _ _ _ _ _ _ (fun hne => h2 fun e => hne (h1 e)) htk
    | true =>
      simp only [Fm.size] at hs
      obtain ⟨m, l, u0⟩ := ownF bx nx f (by omega)
      simp only [Fm.row, fmAll] at u0
      have u := clR.use u0
      have ha3 : acc.map Fm.row ++ [f.row] = (acc ++ [f]).map Fm.row := by simp
      have ha2 := @e_appS noCall 5 z tok 1 (acc.map Fm.row) [f.row] ⟨bx, m⟩ lv tk ht (fun e => by rw [h1 e]; rfl) h2
      rw [ha3] at ha2
      have ha1 : (acc.map Fm.row).length + [f.row].length ≤ appMax := by simp [appMax]; omega
      rw [if_pos ha1] at ha2
      simp only [Fm.row, fmAll] at ha2
      rw [R.loop_eq]
      unfold b26_1
      simp only [wp0, wp1, wp2, wp3, wp4, wp5, Int.reduceAdd, Int.reduceEq, Int.reduceLE, Int.reduceLT, Int.reduceNeg, Int.reduceSub, Int.reduceToNat, Nat.reduceAdd, Nat.reduceDiv, Nat.reduceEqDiff, Nat.reduceLT, Nat.reduceLeDiff, Nat.reduceMod, Nat.reduceMul, Nat.reduceSub, eq_self, reduceIte, Ty.row, tyAll, Tm.row, tmAll, Fm.row, fmAll, u, ha2]
      refine ihg (acc ++ [f]) m tk 5 (lvApp lv tk tok) (tk + 1) _ _ _ _ _ _ _ _ _ _ _ _ _ _ _ (by simp only [List.length_append, List.length_cons, List.length_nil]; omega) (by omega) (.app htk) (fun e => by omega) (fun _ => rfl) ?_
      intro nx tok z lv tk y25 y26 y27 y28 y29 y30 y31 y32 y33 y34 y35 y36 y37 y38 y39 hz htk
      have := hk nx tok z lv tk y25 y26 y27 y28 y29 y30 y31 y32 y33 y34 y35 y36 y37 y38 y39 (by simpa only [Fm.prem, List.append_assoc, List.singleton_append] using hz) htk
      simp only [Fm.concl, Fm.prem, List.append_assoc, List.singleton_append, List.cons_append, List.nil_append] at this ⊢
      exact this
  | qu q s f ih =>
    intro acc nx tok z lv tk x25 x26 x27 x28 x29 x30 x31 x32 x33 x34 x35 x36 x37 x38 x39 hs htk ht h1 h2 hk
    cases q with
    | all =>
      rw [R.loop_eq]
      unfold b26_1
      simp only [wp0, wp1, wp2, wp3, wp4, wp5, Int.reduceAdd, Int.reduceEq, Int.reduceLE, Int.reduceLT, Int.reduceNeg, Int.reduceSub, Int.reduceToNat, Nat.reduceAdd, Nat.reduceDiv, Nat.reduceEqDiff, Nat.reduceLT, Nat.reduceLeDiff, Nat.reduceMod, Nat.reduceMul, Nat.reduceSub, eq_self, reduceIte, Ty.row, tyAll, Tm.row, tmAll, Fm.row, fmAll]
      simp only [Fm.concl, Fm.prem, List.append_nil, Fm.row, fmAll] at hk
      exact hk nx tok z lv tk _ _ _ _ _ _ _ _ _ _ _ _ _ _ _ (fun hne => h2 fun e => hne (h1 e)) htk
    | ex =>
      rw [R.loop_eq]
      unfold b26_1
      simp only [wp0, wp1, wp2, wp3, wp4, wp5, Int.reduceAdd, Int.reduceEq, Int.reduceLE, Int.reduceLT, Int.reduceNeg, Int.reduceSub, Int.reduceToNat, Nat.reduceAdd, Nat.reduceDiv, Nat.reduceEqDiff, Nat.reduceLT, Nat.reduceLeDiff, Nat.reduceMod, Nat.reduceMul, Nat.reduceSub, eq_self, reduceIte, Ty.row, tyAll, Tm.row, tmAll, Fm.row, fmAll]
      simp only [Fm.concl, Fm.prem, List.append_nil, Fm.row, fmAll] at hk
      exact hk nx tok z lv tk _ _ _ _ _ _ _ _ _ _ _ _ _ _ _ (fun hne => h2 fun e => hne (h1 e)) htk
    | allU =>
      rw [R.loop_eq]
      unfold b26_1
      simp only [wp0, wp1, wp2, wp3, wp4, wp5, Int.reduceAdd, Int.reduceEq, Int.reduceLE, Int.reduceLT, Int.reduceNeg, Int.reduceSub, Int.reduceToNat, Nat.reduceAdd, Nat.reduceDiv, Nat.reduceEqDiff, Nat.reduceLT, Nat.reduceLeDiff, Nat.reduceMod, Nat.reduceMul, Nat.reduceSub, eq_self, reduceIte, Ty.row, tyAll, Tm.row, tmAll, Fm.row, fmAll]
      simp only [Fm.concl, Fm.prem, List.append_nil, Fm.row, fmAll] at hk
      exact hk nx tok z lv tk _ _ _ _ _ _ _ _ _ _ _ _ _ _ _ (fun hne => h2 fun e => hne (h1 e)) htk
    | exU =>
      rw [R.loop_eq]
      unfold b26_1
      simp only [wp0, wp1, wp2, wp3, wp4, wp5, Int.reduceAdd, Int.reduceEq, Int.reduceLE, Int.reduceLT, Int.reduceNeg, Int.reduceSub, Int.reduceToNat, Nat.reduceAdd, Nat.reduceDiv, Nat.reduceEqDiff, Nat.reduceLT, Nat.reduceLeDiff, Nat.reduceMod, Nat.reduceMul, Nat.reduceSub, eq_self, reduceIte, Ty.row, tyAll, Tm.row, tmAll, Fm.row, fmAll]
      simp only [Fm.concl, Fm.prem, List.append_nil, Fm.row, fmAll] at hk
      exact hk nx tok z lv tk _ _ _ _ _ _ _ _ _ _ _ _ _ _ _ (fun hne => h2 fun e => hne (h1 e)) htk
theorem parts26 (bx : List (Nat × List PV)) (nx : Nat) (f : Fm) (hs : f.size ≤ 50000) : ∃ (z z' nx' : Nat), (f.alls ≠ [] → z = 2) ∧ (f.body.prem ≠ [] → z' = 5) ∧ ∃ n, callN T G n 26 [.ag f.row] ⟨bx, nx⟩ = some (.tup [.sl 0 z (f.alls.map Ty.row), .sl 0 z' (f.body.prem.map Fm.row), .ag f.body.concl.row], ⟨bx, nx'⟩) := by
  have key : Runs T G 26 [.ag f.row] ⟨bx, nx⟩ fun r s' => ∃ (z z' nx' : Nat), (f.alls ≠ [] → z = 2) ∧ (f.body.prem ≠ [] → z' = 5) ∧ r = .tup [.sl 0 z (f.alls.map Ty.row), .sl 0 z' (f.body.prem.map Fm.row), .ag f.body.concl.row] ∧ s' = ⟨bx, nx'⟩ := by
    have b1 := body_le f
    refine run_of (pf := p26) rfl ?_
    unfold p26
    simp only [wp0, wp1, wp2, wp3, wp4, wp5, Int.reduceAdd, Int.reduceEq, Int.reduceLE, Int.reduceLT, Int.reduceNeg, Int.reduceSub, Int.reduceToNat, Nat.reduceAdd, Nat.reduceDiv, Nat.reduceEqDiff, Nat.reduceLT, Nat.reduceLeDiff, Nat.reduceMod, Nat.reduceMul, Nat.reduceSub, eq_self, reduceIte, Fm.row, fmAll]
    refine parts_loop0 ⟨bx, nx⟩ _ _ _ _ _ _ _ _ _ _ _ _ _ _ _ _ _ _ _ _ _ _ _ _ _ _ _ f [] 1 0 _ _ _ _ _ _ _ _ _ _ _ _ _ _ _ _ _ _ _ _ (by simp only [List.length_nil]; omega) (Nat.le_refl _) .one (fun _ => rfl) (fun h => (h rfl).elim) ?_
    intro tok z lv tk y7 y8 y9 y10 y11 y12 y13 y14 y15 y16 y17 y18 y19 y20 y21 y22 y23 y24 hz htk
    simp only [wp0, wp1, wp2, wp3, wp4, wp5, Int.reduceAdd, Int.reduceEq, Int.reduceLE, Int.reduceLT, Int.reduceNeg, Int.reduceSub, Int.reduceToNat, Nat.reduceAdd, Nat.reduceDiv, Nat.reduceEqDiff, Nat.reduceLT, Nat.reduceLeDiff, Nat.reduceMod, Nat.reduceMul, Nat.reduceSub, eq_self, reduceIte, List.nil_append] at hz ⊢
    refine parts_loop1 bx _ _ _ _ _ _ _ _ _ _ _ _ _ _ _ _ _ _ _ _ _ _ _ _ _ _ _ _ _ _ f.body [] nx 1 0 _ _ _ _ _ _ _ _ _ _ _ _ _ _ _ _ _ (by simp only [List.length_nil]; omega) htk .one (fun _ => rfl) (fun h => (h rfl).elim) ?_
    intro nx' tok' z' lv tk w25 w26 w27 w28 w29 w30 w31 w32 w33 w34 w35 w36 w37 w38 w39 hz' htk
    obtain ⟨mo, lo, eo⟩ := ownF bx nx' f.body.concl (by have := concl_le f.body; omega)
    simp only [Fm.row, fmAll] at eo
    have vo := clR.use eo
    simp only [List.nil_append] at hz'
    simp only [wp0, wp1, wp2, wp3, wp4, wp5, Int.reduceAdd, Int.reduceEq, Int.reduceLE, Int.reduceLT, Int.reduceNeg, Int.reduceSub, Int.reduceToNat, Nat.reduceAdd, Nat.reduceDiv, Nat.reduceEqDiff, Nat.reduceLT, Nat.reduceLeDiff, Nat.reduceMod, Nat.reduceMul, Nat.reduceSub, eq_self, reduceIte, List.nil_append, vo]
    exact ⟨z, z', mo, hz, hz', rfl, rfl⟩
  obtain ⟨n, r, s', h, z, z', nx', h1, h2, rfl, rfl⟩ := key
  exact ⟨z, z', nx', h1, h2, n, h⟩
theorem parts9 (bx : List (Nat × List PV)) (nx : Nat) (f : Fm) (ho : f.ok) (hs : f.size ≤ 4096) : ∃ (z z' nx' : Nat), (f.alls ≠ [] → z = 2) ∧ (f.body.prem ≠ [] → z' = 5) ∧ ∃ n, callN T G n 9 [.ag f.row] ⟨bx, nx⟩ = some (.tup [.sl 0 z (f.alls.map Ty.row), .sl 0 z' (f.body.prem.map Fm.row), .ag f.body.concl.row, i64 0], ⟨bx, nx'⟩) := by
  obtain ⟨z, z', nx', h1, h2, h3⟩ := parts26 bx nx f (by omega)
  refine ⟨z, z', nx', h1, h2, ?_⟩
  have u0 := h3
  have u1 := fcheckF ⟨bx, nx⟩ f ho hs
  try simp only [Ty.row, tyAll, Tm.row, tmAll, Fm.row, fmAll, Int.cast_ofNat_Int] at u0 u1
  have u0' := clR.use u0
  have u1' := clR.use u1
  refine run_eq (run_of (pf := p9) rfl ?_)
  unfold p9
  simp only [R.loop_eq, wp0, wp1, wp2, wp3, wp4, wp5, Int.reduceAdd, Int.reduceEq, Int.reduceLE, Int.reduceLT, Int.reduceNeg, Int.reduceSub, Int.reduceToNat, Nat.reduceAdd, Nat.reduceDiv, Nat.reduceEqDiff, Nat.reduceLT, Nat.reduceLeDiff, Nat.reduceMod, Nat.reduceMul, Nat.reduceSub, eq_self, reduceIte, Ty.row, tyAll, Tm.row, tmAll, Fm.row, fmAll, u0', u1']
end Go.Pi.Terms
