import Derived.Test.YthgocgebpoeolaaDoorEP
set_option linter.unusedSectionVars false
set_option maxRecDepth 100000
set_option maxHeartbeats 1000000
set_option linter.unusedSimpArgs false
set_option linter.unusedVariables false
namespace Go.Pi.Terms
open Go Go.Pi Go.Proofs.YthgocgebpoeolaaDoor
theorem getD_frow (m : List Fm) (d : Fm) {j : Nat} (h : j < m.length) : (m.map Fm.row).getD j [] = (m.getD j d).row := by
  rw [List.getD_eq_getElem?_getD, List.getD_eq_getElem?_getD, List.getElem?_map]
  simp [h]
/-- Implications from premises. -/
def imps (l : List Fm) (c : Fm) : Fm := l.foldr (fun f g => .bin true f g) c
theorem imps_prem : ∀ f : Fm, imps f.prem f.concl = f
  | .eq _ _ => rfl
  | .bin true f g => by
    have := imps_prem g
    unfold imps at *
    simp only [Fm.prem, Fm.concl, List.foldr_cons, this]
  | .bin false _ _ => rfl
  | .qu _ _ _ => rfl
theorem imps_drop (m : List Fm) (c d : Fm) {j : Nat} (h : j < m.length) : imps (m.drop j) c = .bin true (m.getD j d) (imps (m.drop (j + 1)) c) := by
  have e : m.drop j = m.getD j d :: m.drop (j + 1) := by
    rw [List.drop_eq_getElem_cons h, List.getD_eq_getElem?_getD, List.getElem?_eq_getElem h]
    rfl
  rw [e]; rfl
theorem alls_nil : ∀ f : Fm, f.alls = [] → f.body = f
  | .eq _ _, _ => rfl
  | .bin _ _ _, _ => rfl
  | .qu .all _ _, h => by cases h
  | .qu .allU _ _, h => by cases h
  | .qu .ex _ _, _ => rfl
  | .qu .exU _ _, _ => rfl
theorem alls_cons : ∀ (f : Fm) {s : Ty} {r : List Ty}, f.alls = s :: r → ∃ g : Fm, (f = .qu .all s g ∨ f = .qu .allU s g) ∧ g.alls = r ∧ g.body = f.body
  | .eq _ _, _, _, h => by cases h
  | .bin _ _ _, _, _, h => by cases h
  | .qu .all s f, _, _, h => by cases h; exact ⟨f, .inl rfl, rfl, rfl⟩
  | .qu .allU s f, _, _, h => by cases h; exact ⟨f, .inr rfl, rfl, rfl⟩
  | .qu .ex _ _, _, _, h => by cases h
  | .qu .exU _ _, _, _, h => by cases h
def b3_0 : PC := (.seq (.seq (.ops [⟨.mv,[.s 11],some 60,none,none⟩,⟨.bin .geq,[.s 60,.c (.v (.int .i64 0))],some 61,none,none⟩]) (.cond (.s 61) .skip (.exit 0))) (.seq (.block 1 (.ops [⟨.mv,[.s 7],some 64,none,none⟩,⟨.mv,[.s 11],some 65,none,none⟩,⟨.ia 5,[.s 64,.s 65],some 66,none,none⟩,⟨.ldE 5 true,[.s 66],some 67,none,none⟩,⟨.ldL 5 true,[.s 10],some 68,some 10,none⟩,⟨.callF 10,[.c (.v (.int .i64 3)),.s 67,.s 68],some 69,none,none⟩,⟨.stL 5,[.s 10,.s 69],none,some 10,none⟩])) (.ops [⟨.mv,[.s 11],some 62,none,none⟩,⟨.bin .sub,[.s 62,.c (.v (.int .i64 1))],some 63,none,none⟩,⟨.mv,[.s 63],some 11,none,none⟩])))
theorem law_loop0 (sh : Sh) (lv : Nat → Bool) (tk : Nat) (k : List Fr) (Q : Out → Prop) (gen z : Nat) (m : List Fm) (c : Fm) (hz : m ≠ [] → z = 5) (hm : m.length ≤ 5000) (x0 x1 x2 x3 x4 x5 x6 x8 x9 x12 x13 x14 x15 x16 x17 x18 x19 x20 x21 x22 x23 x24 x25 x26 x27 x28 x29 x30 x31 x32 x33 x34 x35 x36 x37 x38 x39 x40 x41 x42 x43 x44 x45 x46 x47 x48 x49 x50 x51 x52 x53 x54 x55 x56 x57 x58 x59 x70 x71 x72 x73 x74 x75 x76 x77 x78 x79 x80 x81 x82 x83 x84 x85 x86 x87 x88 x89 x90 x91 x92 x93 x94 x95 x96 x97 x98 x99 : PV)
    (hk : ∀ (y60 y61 y62 y63 y64 y65 y66 y67 y68 y69 : PV), R T G [] k ⟨[x0, x1, x2, x3, x4, x5, x6, .sl 0 z (m.map Fm.row), x8, x9, .bx gen [i64 (imps m c).kind, i64 (imps m c).tkind, .sl 0 (imps m c).tz (imps m c).trows, .sl 0 (imps m c).ez (imps m c).erows, .sl 0 (imps m c).az (imps m c).arows], i64 (-1), x12, x13, x14, x15, x16, x17, x18, x19, x20, x21, x22, x23, x24, x25, x26, x27, x28, x29, x30, x31, x32, x33, x34, x35, x36, x37, x38, x39, x40, x41, x42, x43, x44, x45, x46, x47, x48, x49, x50, x51, x52, x53, x54, x55, x56, x57, x58, x59, y60, y61, y62, y63, y64, y65, y66, y67, y68, y69, x70, x71, x72, x73, x74, x75, x76, x77, x78, x79, x80, x81, x82, x83, x84, x85, x86, x87, x88, x89, x90, x91, x92, x93, x94, x95, x96, x97, x98, x99], ⟨sh, lv, tk⟩⟩ Q) :
    ∀ (j : Nat) (x60 x61 x62 x63 x64 x65 x66 x67 x68 x69 : PV), j ≤ m.length → R T G [] (.pc (.loop b3_0) :: .blk 0 :: k) ⟨[x0, x1, x2, x3, x4, x5, x6, .sl 0 z (m.map Fm.row), x8, x9, .bx gen [i64 (imps (m.drop j) c).kind, i64 (imps (m.drop j) c).tkind, .sl 0 (imps (m.drop j) c).tz (imps (m.drop j) c).trows, .sl 0 (imps (m.drop j) c).ez (imps (m.drop j) c).erows, .sl 0 (imps (m.drop j) c).az (imps (m.drop j) c).arows], i64 ((j : Int) - 1), x12, x13, x14, x15, x16, x17, x18, x19, x20, x21, x22, x23, x24, x25, x26, x27, x28, x29, x30, x31, x32, x33, x34, x35, x36, x37, x38, x39, x40, x41, x42, x43, x44, x45, x46, x47, x48, x49, x50, x51, x52, x53, x54, x55, x56, x57, x58, x59, x60, x61, x62, x63, x64, x65, x66, x67, x68, x69, x70, x71, x72, x73, x74, x75, x76, x77, x78, x79, x80, x81, x82, x83, x84, x85, x86, x87, x88, x89, x90, x91, x92, x93, x94, x95, x96, x97, x98, x99], ⟨sh, lv, tk⟩⟩ Q := by
  intro j
  induction j with
  | zero =>
    intro x60 x61 x62 x63 x64 x65 x66 x67 x68 x69 hj
    have c1 : ((0 : Nat) : Int) - 1 = -1 := rfl
    have c2 : ¬ (0 : Int) ≤ -1 := by decide
    rw [R.loop_eq]
    unfold b3_0
    simp only [wp0, wp1, wp2, wp3, wp4, wp5, Int.reduceAdd, Int.reduceEq, Int.reduceLE, Int.reduceLT, Int.reduceNeg, Int.reduceSub, Int.reduceToNat, Nat.reduceAdd, Nat.reduceDiv, Nat.reduceEqDiff, Nat.reduceLT, Nat.reduceLeDiff, Nat.reduceMod, Nat.reduceMul, Nat.reduceSub, eq_self, reduceIte, Fm.row, fmAll, c1, c2, List.drop_zero]
    exact hk _ _ _ _ _ _ _ _ _ _
  | succ j ih =>
    intro x60 x61 x62 x63 x64 x65 x66 x67 x68 x69 hj
    have hne : m ≠ [] := by intro e; subst e; simp at hj
    obtain rfl := hz hne
    have w1 : (((j + 1 : Nat) : Int) - 1) = (j : Int) := by omega
    have c1 : (0 : Int) ≤ (j : Int) := by omega
    have c2 : (j : Int) < (m.length : Int) := by omega
    have c4 := getD_frow m c (j := j) (by omega)
    have w2 : IntKind.i64.wrap ((j : Int) - 1) = (j : Int) - 1 := wrap_i64 (by omega)
    have u0 := two3 sh (m.getD j c) (imps (m.drop (j + 1)) c)
    rw [← imps_drop m c c (by omega)] at u0
    simp only [Fm.row, fmAll] at u0 c4
    have u := clR.use u0
    rw [R.loop_eq]
    unfold b3_0
    simp only [wp0, wp1, wp2, wp3, wp4, wp5, Int.reduceAdd, Int.reduceEq, Int.reduceLE, Int.reduceLT, Int.reduceNeg, Int.reduceSub, Int.reduceToNat, Nat.reduceAdd, Nat.reduceDiv, Nat.reduceEqDiff, Nat.reduceLT, Nat.reduceLeDiff, Nat.reduceMod, Nat.reduceMul, Nat.reduceSub, eq_self, reduceIte, Fm.row, fmAll, List.length_map, w1, c1, c2, c4, w2, u, Int.toNat_natCast]
    exact ih _ _ _ _ _ _ _ _ _ _ (by omega)
def b3_1 : PC := (.seq (.ops [⟨.bin .lss,[.s 73,.s 72],some 74,none,none⟩]) (.seq (.cond (.s 74) .skip (.exit 2)) (.seq (.block 3 (.seq (.ops [⟨.ia 2,[.s 71,.s 73],some 75,none,none⟩,⟨.ldE 2 true,[.s 75],some 76,none,none⟩,⟨.alloc [.v (.int .i64 0),.sl 1 0 []],[],some 14,none,none⟩,⟨.stL 2,[.s 14,.s 76],none,some 14,none⟩]) (.seq (.seq (.ops [⟨.fa 0,[.s 12],some 77,none,none⟩,⟨.ldL 1 false,[.s 77],some 78,some 12,none⟩,⟨.bin .neq,[.s 78,.c (.v (.int .i64 4))],some 79,none,none⟩,⟨.mv,[.s 79],some 80,none,none⟩,⟨.fa 0,[.s 12],some 81,none,some (80,true)⟩,⟨.ldL 1 false,[.s 81],some 82,some 12,some (80,true)⟩,⟨.bin .neq,[.s 82,.c (.v (.int .i64 6))],some 83,none,some (80,true)⟩,⟨.pick,[.s 80,.s 83,.c (.v (.bool false))],some 84,none,none⟩,⟨.mv,[.s 84],some 85,none,none⟩,⟨.fa 1,[.s 12],some 86,none,some (85,false)⟩,⟨.ldL 2 true,[.s 86],some 87,some 12,some (85,false)⟩,⟨.ldL 2 true,[.s 14],some 88,some 14,some (85,false)⟩,⟨.callF 11,[.s 87,.s 88],some 89,none,some (85,false)⟩,⟨.uno .not,[.s 89],some 90,none,some (85,false)⟩,⟨.pick,[.s 85,.c (.v (.bool true)),.s 90],some 91,none,none⟩]) (.cond (.s 91) (.seq (.ops [⟨.mv,[.c (.v (.bool false))],some 2,none,none⟩]) .ret) .skip)) (.ops [⟨.fa 4,[.s 12],some 92,none,none⟩,⟨.ldL 1 false,[.s 92],some 93,some 12,none⟩,⟨.ia 5,[.s 93,.c (.v (.int .i64 0))],some 94,none,none⟩,⟨.ldE 5 true,[.s 94],some 95,none,none⟩,⟨.stL 5,[.s 12,.s 95],none,some 12,none⟩])))) (.ops [⟨.bin .add,[.s 73,.c (.v (.int .i64 1))],some 96,none,none⟩,⟨.mv,[.s 96],some 73,none,none⟩]))))
theorem law_loop1 (sh : Sh) (lv : Nat → Bool) (tk : Nat) (k : List Fr) (Q : Out → Prop) (gen z : Nat) (ss : List Ty) (f : Fm) (hz : ss ≠ [] → z = 2) (hm : ss.length ≤ 5000) (x0 x1 x3 x4 x5 x6 x7 x8 x9 x10 x11 x13 x15 x16 x17 x18 x19 x20 x21 x22 x23 x24 x25 x26 x27 x28 x29 x30 x31 x32 x33 x34 x35 x36 x37 x38 x39 x40 x41 x42 x43 x44 x45 x46 x47 x48 x49 x50 x51 x52 x53 x54 x55 x56 x57 x58 x59 x60 x61 x62 x63 x64 x65 x66 x67 x68 x69 x70 x97 x98 x99 : PV)
    (hk : ∀ (v2 v14 v74 v75 v76 v77 v78 v79 v80 v81 v82 v83 v84 v85 v86 v87 v88 v89 v90 v91 v92 v93 v94 v95 v96 : PV), R T G [] k ⟨[x0, x1, v2, x3, x4, x5, x6, x7, x8, x9, x10, x11, .bx gen [i64 f.kind, i64 f.tkind, .sl 0 f.tz f.trows, .sl 0 f.ez f.erows, .sl 0 f.az f.arows], x13, v14, x15, x16, x17, x18, x19, x20, x21, x22, x23, x24, x25, x26, x27, x28, x29, x30, x31, x32, x33, x34, x35, x36, x37, x38, x39, x40, x41, x42, x43, x44, x45, x46, x47, x48, x49, x50, x51, x52, x53, x54, x55, x56, x57, x58, x59, x60, x61, x62, x63, x64, x65, x66, x67, x68, x69, x70, .sl 0 z (ss.map Ty.row), i64 (ss.length : Int), i64 (ss.length : Int), v74, v75, v76, v77, v78, v79, v80, v81, v82, v83, v84, v85, v86, v87, v88, v89, v90, v91, v92, v93, v94, v95, v96, x97, x98, x99], ⟨sh, lv, tk⟩⟩ Q) :
    ∀ (m i : Nat) (y : Fm) (x2 x14 x74 x75 x76 x77 x78 x79 x80 x81 x82 x83 x84 x85 x86 x87 x88 x89 x90 x91 x92 x93 x94 x95 x96 : PV), i + m = ss.length → y.alls = ss.drop i → y.body = f → R T G [] (.pc (.loop b3_1) :: .blk 2 :: k) ⟨[x0, x1, x2, x3, x4, x5, x6, x7, x8, x9, x10, x11, .bx gen [i64 y.kind, i64 y.tkind, .sl 0 y.tz y.trows, .sl 0 y.ez y.erows, .sl 0 y.az y.arows], x13, x14, x15, x16, x17, x18, x19, x20, x21, x22, x23, x24, x25, x26, x27, x28, x29, x30, x31, x32, x33, x34, x35, x36, x37, x38, x39, x40, x41, x42, x43, x44, x45, x46, x47, x48, x49, x50, x51, x52, x53, x54, x55, x56, x57, x58, x59, x60, x61, x62, x63, x64, x65, x66, x67, x68, x69, x70, .sl 0 z (ss.map Ty.row), i64 (ss.length : Int), i64 (i : Int), x74, x75, x76, x77, x78, x79, x80, x81, x82, x83, x84, x85, x86, x87, x88, x89, x90, x91, x92, x93, x94, x95, x96, x97, x98, x99], ⟨sh, lv, tk⟩⟩ Q := by
  intro m
  induction m with
  | zero =>
    intro i y x2 x14 x74 x75 x76 x77 x78 x79 x80 x81 x82 x83 x84 x85 x86 x87 x88 x89 x90 x91 x92 x93 x94 x95 x96 hi ha hb
    have hi' : i = ss.length := by omega
    subst hi'
    rw [List.drop_length] at ha
    have e : y = f := by rw [← hb]; exact (alls_nil y ha).symm
    subst e
    rw [R.loop_eq]
    unfold b3_1
    simp only [wp0, wp1, wp2, wp3, wp4, wp5, Int.reduceAdd, Int.reduceEq, Int.reduceLE, Int.reduceLT, Int.reduceNeg, Int.reduceSub, Int.reduceToNat, Nat.reduceAdd, Nat.reduceDiv, Nat.reduceEqDiff, Nat.reduceLT, Nat.reduceLeDiff, Nat.reduceMod, Nat.reduceMul, Nat.reduceSub, eq_self, reduceIte, Int.lt_irrefl]
    exact hk _ _ _ _ _ _ _ _ _ _ _ _ _ _ _ _ _ _ _ _ _ _ _ _ _
  | succ m ih =>
    intro i y x2 x14 x74 x75 x76 x77 x78 x79 x80 x81 x82 x83 x84 x85 x86 x87 x88 x89 x90 x91 x92 x93 x94 x95 x96 hi ha hb
    have hne : ss ≠ [] := by intro e; subst e; simp at hi
    obtain rfl := hz hne
    have hil : i < ss.length := by omega
    have ed : ss.drop i = ss.getD i .nat :: ss.drop (i + 1) := by
      rw [List.drop_eq_getElem_cons hil, List.getD_eq_getElem?_getD, List.getElem?_eq_getElem hil]
      rfl
    rw [ed] at ha
    obtain ⟨g, hy, hg, hgb⟩ := alls_cons y ha
    have c1 : (i : Int) < (ss.length : Int) := by omega
    have w3 : IntKind.i64.wrap ((i : Int) + 1) = ((i + 1 : Nat) : Int) := by rw [wrap_i64 (by omega)]; omega
    have c3 : (0 : Int) ≤ (i : Int) := by omega
    have c4 := getD_row ss (i := i) hil
    have u := clR.use (sameTy sh (ss.getD i .nat))
    simp only [Ty.row, tyAll] at u c4
    have hh : ∀ (q2 q14 q74 q75 q76 q77 q78 q79 q80 q81 q82 q83 q84 q85 q86 q87 q88 q89 q90 q91 q92 q93 q94 q95 q96 : PV), R T G [] (.pc (.loop b3_1) :: .blk 2 :: k) _ Q := fun q2 q14 q74 q75 q76 q77 q78 q79 q80 q81 q82 q83 q84 q85 q86 q87 q88 q89 q90 q91 q92 q93 q94 q95 q96 => ih (i + 1) g q2 q14 q74 q75 q76 q77 q78 q79 q80 q81 q82 q83 q84 q85 q86 q87 q88 q89 q90 q91 q92 q93 q94 q95 q96 (by omega) hg (hgb.trans hb)
    rcases hy with rfl | rfl
    all_goals
      rw [R.loop_eq]
      unfold b3_1
      simp only [wp0, wp1, wp2, wp3, wp4, wp5, Int.reduceAdd, Int.reduceEq, Int.reduceLE, Int.reduceLT, Int.reduceNeg, Int.reduceSub, Int.reduceToNat, Nat.reduceAdd, Nat.reduceDiv, Nat.reduceEqDiff, Nat.reduceLT, Nat.reduceLeDiff, Nat.reduceMod, Nat.reduceMul, Nat.reduceSub, eq_self, reduceIte, Ty.row, tyAll, Fm.row, fmAll, List.length_map, c1, w3, c3, c4, u, Int.toNat_natCast]
      exact hh _ _ _ _ _ _ _ _ _ _ _ _ _ _ _ _ _ _ _ _ _ _ _ _ _
theorem law_loop0' (sh : Sh) (lv : Nat → Bool) (tk : Nat) (k : List Fr) (Q : Out → Prop) (gen z : Nat) (m : List Fm) (c X : Fm) (hX : imps m c = X) (hz : m ≠ [] → z = 5) (hm : m.length ≤ 5000) (x0 x1 x2 x3 x4 x5 x6 x8 x9 x12 x13 x14 x15 x16 x17 x18 x19 x20 x21 x22 x23 x24 x25 x26 x27 x28 x29 x30 x31 x32 x33 x34 x35 x36 x37 x38 x39 x40 x41 x42 x43 x44 x45 x46 x47 x48 x49 x50 x51 x52 x53 x54 x55 x56 x57 x58 x59 x70 x71 x72 x73 x74 x75 x76 x77 x78 x79 x80 x81 x82 x83 x84 x85 x86 x87 x88 x89 x90 x91 x92 x93 x94 x95 x96 x97 x98 x99 : PV)
    (hk : ∀ (y60 y61 y62 y63 y64 y65 y66 y67 y68 y69 : PV), R T G [] k ⟨[x0, x1, x2, x3, x4, x5, x6, .sl 0 z (m.map Fm.row), x8, x9, .bx gen [i64 X.kind, i64 X.tkind, .sl 0 X.tz X.trows, .sl 0 X.ez X.erows, .sl 0 X.az X.arows], i64 (-1), x12, x13, x14, x15, x16, x17, x18, x19, x20, x21, x22, x23, x24, x25, x26, x27, x28, x29, x30, x31, x32, x33, x34, x35, x36, x37, x38, x39, x40, x41, x42, x43, x44, x45, x46, x47, x48, x49, x50, x51, x52, x53, x54, x55, x56, x57, x58, x59, y60, y61, y62, y63, y64, y65, y66, y67, y68, y69, x70, x71, x72, x73, x74, x75, x76, x77, x78, x79, x80, x81, x82, x83, x84, x85, x86, x87, x88, x89, x90, x91, x92, x93, x94, x95, x96, x97, x98, x99], ⟨sh, lv, tk⟩⟩ Q) (x60 x61 x62 x63 x64 x65 x66 x67 x68 x69 : PV) : R T G [] (.pc (.loop b3_0) :: .blk 0 :: k) ⟨[x0, x1, x2, x3, x4, x5, x6, .sl 0 z (m.map Fm.row), x8, x9, .bx gen [i64 c.kind, i64 c.tkind, .sl 0 c.tz c.trows, .sl 0 c.ez c.erows, .sl 0 c.az c.arows], i64 ((m.length : Int) - 1), x12, x13, x14, x15, x16, x17, x18, x19, x20, x21, x22, x23, x24, x25, x26, x27, x28, x29, x30, x31, x32, x33, x34, x35, x36, x37, x38, x39, x40, x41, x42, x43, x44, x45, x46, x47, x48, x49, x50, x51, x52, x53, x54, x55, x56, x57, x58, x59, x60, x61, x62, x63, x64, x65, x66, x67, x68, x69, x70, x71, x72, x73, x74, x75, x76, x77, x78, x79, x80, x81, x82, x83, x84, x85, x86, x87, x88, x89, x90, x91, x92, x93, x94, x95, x96, x97, x98, x99], ⟨sh, lv, tk⟩⟩ Q := by
  subst hX
  have := law_loop0 sh lv tk k Q gen z m c hz hm x0 x1 x2 x3 x4 x5 x6 x8 x9 x12 x13 x14 x15 x16 x17 x18 x19 x20 x21 x22 x23 x24 x25 x26 x27 x28 x29 x30 x31 x32 x33 x34 x35 x36 x37 x38 x39 x40 x41 x42 x43 x44 x45 x46 x47 x48 x49 x50 x51 x52 x53 x54 x55 x56 x57 x58 x59 x70 x71 x72 x73 x74 x75 x76 x77 x78 x79 x80 x81 x82 x83 x84 x85 x86 x87 x88 x89 x90 x91 x92 x93 x94 x95 x96 x97 x98 x99 hk m.length x60 x61 x62 x63 x64 x65 x66 x67 x68 x69 (Nat.le_refl _)
  rw [List.drop_length] at this
  exact this
theorem sane18 : ∃ n, callN T G n 4 [] ⟨[], 0⟩ = some (.v (.bool true), ⟨[], 53⟩) := ⟨60, by kernel_rfl⟩
theorem run_ex {f : Nat} {args : List PV} {sh : Sh} {v : PV} {p : Sh → Prop} (h : Runs T G f args sh fun r s => r = v ∧ p s) : ∃ n sh', callN T G n f args sh = some (v, sh') ∧ p sh' := by
  obtain ⟨n, r, s, h1, rfl, h3⟩ := h
  exact ⟨n, s, h1, h3⟩
variable [Inhabited DkT]
theorem lawPm (hm : mm = 53) (l : List Int) : Runs T G 3 [ints .i64 l] ⟨[], 0⟩ fun r s' => r = .v (.bool true) ∧ True := by
  have u0 := clR.use (hm ▸ sane18)
  have u1 := few9 ⟨[], mm⟩ l
  unfold ints at u1
  by_cases hl : l.length ≤ 500
  · have e : decide (l.length ≤ 500) = true := decide_eq_true hl
    rw [e] at u1
    have u1' := clR.use u1
    have u2 : ∃ n, callN T G n 6 [ints .i64 l] ⟨[], mm⟩ = some (.sp mm 0, dk l 0) := new10 l mm
    unfold ints at u2
    have u2' := clR.use u2
    obtain ⟨g, zg, a1, hz, hg, hb, ha1, m3⟩ := context11 l hl 0 (Nat.zero_le _)
    obtain ⟨f, a2, hf, ef, ha2, m4⟩ := formula_made l hl 3 g zg a1 (by omega) hz (by omega) hb ha1
    have hfs : f.size ≤ 991 := ef
    obtain ⟨z, z', nx', hz2, hz5, m5⟩ := parts9 (dk l a2).boxes (dk l a2).nx f hf.ok (by omega)
    have m6 := sameF ⟨(dk l a2).boxes, nx'⟩ f.body
    have m5' : ∃ n, callN T G n 9 [.ag f.row] (dk l a2) = _ := m5
    simp only [Ty.row, tyAll, Tm.row, tmAll, Fm.row, fmAll, Int.cast_ofNat_Int] at m3 m4 m5' m6
    have v3 := clR.use m3
    have v4 := clR.use m4
    have v5 := clR.use m5'
    have v6 := clR.use m6
    have k1 := body_kind f
    have k2 := concl_kind f.body
    have l1 := prem_le f.body
    have l2 := body_le f
    have l3 := alls_le f
    refine run_of (pf := p3) rfl ?_
    unfold p3 ints
    have w1 : IntKind.i64.wrap ((f.body.prem.length : Int) - 1) = (f.body.prem.length : Int) - 1 := wrap_i64 (by omega)
    have k12 := k1.1
    have k13 := k1.2
    by_cases hp : f.body.prem = []
    · have c5 : ((f.body.prem.length : Int) = 0) = True := by rw [hp]; simp
      have ec := concl_self _ hp
      have k4 : ¬ f.body.concl.kind = 4 := by rw [ec]; exact k12
      have k6 : ¬ f.body.concl.kind = 6 := by rw [ec]; exact k13
      simp only [wp0, wp1, wp2, wp3, wp4, wp5, Int.reduceAdd, Int.reduceEq, Int.reduceLE, Int.reduceLT, Int.reduceNeg, Int.reduceSub, Int.reduceToNat, Nat.reduceAdd, Nat.reduceDiv, Nat.reduceEqDiff, Nat.reduceLT, Nat.reduceLeDiff, Nat.reduceMod, Nat.reduceMul, Nat.reduceSub, eq_self, reduceIte, Ty.row, tyAll, Tm.row, tmAll, Fm.row, fmAll, u0, u1', u2', v3, v4, v5, k2, k4, k6, c5, w1, List.length_map]
      refine law_loop0' _ _ _ _ _ _ _ _ _ f.body (imps_prem _) hz5 (by omega) _ _ _ _ _ _ _ _ _ _ _ _ _ _ _ _ _ _ _ _ _ _ _ _ _ _ _ _ _ _ _ _ _ _ _ _ _ _ _ _ _ _ _ _ _ _ _ _ _ _ _ _ _ _ _ _ _ _ _ _ _ _ _ _ _ _ _ _ _ _ _ _ _ _ _ _ _ _ _ _ _ _ _ _ _ _ _ ?_ _ _ _ _ _ _ _ _ _ _
      intro y60 y61 y62 y63 y64 y65 y66 y67 y68 y69
      simp only [wp0, wp1, wp2, wp3, wp4, wp5, Int.reduceAdd, Int.reduceEq, Int.reduceLE, Int.reduceLT, Int.reduceNeg, Int.reduceSub, Int.reduceToNat, Nat.reduceAdd, Nat.reduceDiv, Nat.reduceEqDiff, Nat.reduceLT, Nat.reduceLeDiff, Nat.reduceMod, Nat.reduceMul, Nat.reduceSub, eq_self, reduceIte, Ty.row, tyAll, Tm.row, tmAll, Fm.row, fmAll, List.length_map]
      refine law_loop1 _ _ _ _ _ _ _ f.alls f.body hz2 (by omega) _ _ _ _ _ _ _ _ _ _ _ _ _ _ _ _ _ _ _ _ _ _ _ _ _ _ _ _ _ _ _ _ _ _ _ _ _ _ _ _ _ _ _ _ _ _ _ _ _ _ _ _ _ _ _ _ _ _ _ _ _ _ _ _ _ _ _ _ _ _ _ ?_ f.alls.length 0 f _ _ _ _ _ _ _ _ _ _ _ _ _ _ _ _ _ _ _ _ _ _ _ _ _ (by omega) rfl rfl
      intro w2 w14 w74 w75 w76 w77 w78 w79 w80 w81 w82 w83 w84 w85 w86 w87 w88 w89 w90 w91 w92 w93 w94 w95 w96
      simp only [wp0, wp1, wp2, wp3, wp4, wp5, Int.reduceAdd, Int.reduceEq, Int.reduceLE, Int.reduceLT, Int.reduceNeg, Int.reduceSub, Int.reduceToNat, Nat.reduceAdd, Nat.reduceDiv, Nat.reduceEqDiff, Nat.reduceLT, Nat.reduceLeDiff, Nat.reduceMod, Nat.reduceMul, Nat.reduceSub, eq_self, reduceIte, Ty.row, tyAll, Tm.row, tmAll, Fm.row, fmAll, v6]
    · have c5 : ¬ (f.body.prem.length : Int) = 0 := by have : 0 < f.body.prem.length := List.length_pos_iff.2 hp; omega
      simp only [wp0, wp1, wp2, wp3, wp4, wp5, Int.reduceAdd, Int.reduceEq, Int.reduceLE, Int.reduceLT, Int.reduceNeg, Int.reduceSub, Int.reduceToNat, Nat.reduceAdd, Nat.reduceDiv, Nat.reduceEqDiff, Nat.reduceLT, Nat.reduceLeDiff, Nat.reduceMod, Nat.reduceMul, Nat.reduceSub, eq_self, reduceIte, Ty.row, tyAll, Tm.row, tmAll, Fm.row, fmAll, u0, u1', u2', v3, v4, v5, k2, c5, w1, List.length_map]
      refine law_loop0' _ _ _ _ _ _ _ _ _ f.body (imps_prem _) hz5 (by omega) _ _ _ _ _ _ _ _ _ _ _ _ _ _ _ _ _ _ _ _ _ _ _ _ _ _ _ _ _ _ _ _ _ _ _ _ _ _ _ _ _ _ _ _ _ _ _ _ _ _ _ _ _ _ _ _ _ _ _ _ _ _ _ _ _ _ _ _ _ _ _ _ _ _ _ _ _ _ _ _ _ _ _ _ _ _ _ ?_ _ _ _ _ _ _ _ _ _ _
      intro y60 y61 y62 y63 y64 y65 y66 y67 y68 y69
      simp only [wp0, wp1, wp2, wp3, wp4, wp5, Int.reduceAdd, Int.reduceEq, Int.reduceLE, Int.reduceLT, Int.reduceNeg, Int.reduceSub, Int.reduceToNat, Nat.reduceAdd, Nat.reduceDiv, Nat.reduceEqDiff, Nat.reduceLT, Nat.reduceLeDiff, Nat.reduceMod, Nat.reduceMul, Nat.reduceSub, eq_self, reduceIte, Ty.row, tyAll, Tm.row, tmAll, Fm.row, fmAll, List.length_map]
      refine law_loop1 _ _ _ _ _ _ _ f.alls f.body hz2 (by omega) _ _ _ _ _ _ _ _ _ _ _ _ _ _ _ _ _ _ _ _ _ _ _ _ _ _ _ _ _ _ _ _ _ _ _ _ _ _ _ _ _ _ _ _ _ _ _ _ _ _ _ _ _ _ _ _ _ _ _ _ _ _ _ _ _ _ _ _ _ _ _ ?_ f.alls.length 0 f _ _ _ _ _ _ _ _ _ _ _ _ _ _ _ _ _ _ _ _ _ _ _ _ _ (by omega) rfl rfl
      intro w2 w14 w74 w75 w76 w77 w78 w79 w80 w81 w82 w83 w84 w85 w86 w87 w88 w89 w90 w91 w92 w93 w94 w95 w96
      simp only [wp0, wp1, wp2, wp3, wp4, wp5, Int.reduceAdd, Int.reduceEq, Int.reduceLE, Int.reduceLT, Int.reduceNeg, Int.reduceSub, Int.reduceToNat, Nat.reduceAdd, Nat.reduceDiv, Nat.reduceEqDiff, Nat.reduceLT, Nat.reduceLeDiff, Nat.reduceMod, Nat.reduceMul, Nat.reduceSub, eq_self, reduceIte, Ty.row, tyAll, Tm.row, tmAll, Fm.row, fmAll, v6]
  · have e : decide (l.length ≤ 500) = false := decide_eq_false hl
    rw [e] at u1
    have u1' := clR.use u1
    refine run_of (pf := p3) rfl ?_
    unfold p3 ints
    simp only [wp0, wp1, wp2, wp3, wp4, wp5, Int.reduceAdd, Int.reduceEq, Int.reduceLE, Int.reduceLT, Int.reduceNeg, Int.reduceSub, Int.reduceToNat, Nat.reduceAdd, Nat.reduceDiv, Nat.reduceEqDiff, Nat.reduceLT, Nat.reduceLeDiff, Nat.reduceMod, Nat.reduceMul, Nat.reduceSub, eq_self, reduceIte, u0, u1']
omit [Inhabited DkT] in
theorem law3 (l : List Int) : ∃ n sh', callN T G n 3 [ints .i64 l] ⟨[], 0⟩ = some (.v (.bool true), sh') := by
  obtain ⟨n, sh', h, _⟩ := run_ex (@lawPm ⟨⟨53⟩⟩ rfl l)
  exact ⟨n, sh', h⟩
end Go.Pi.Terms
