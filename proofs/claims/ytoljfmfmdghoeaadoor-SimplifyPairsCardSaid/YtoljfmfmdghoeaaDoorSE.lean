import Derived.Test.YtoljfmfmdghoeaaDoorM3
import Derived.Test.YtoljfmfmdghoeaaDoorSD2
import Derived.Test.YtoljfmfmdghoeaaDoorTU
import Derived.KernelRfl
set_option maxRecDepth 100000
set_option maxHeartbeats 1000000
set_option linter.unusedSimpArgs false
set_option linter.unusedVariables false
namespace Go.Pi.Terms
open Go Go.Pi Go.Proofs.YtoljfmfmdghoeaaDoor
theorem run_ex {f : Nat} {args : List PV} {sh : Sh} {v : PV} {p : Sh → Prop} (h : Runs T G f args sh fun r s => r = v ∧ p s) : ∃ n sh', callN T G n f args sh = some (v, sh') ∧ p sh' := by
  obtain ⟨n, r, s, h1, rfl, h3⟩ := h
  exact ⟨n, s, h1, h3⟩
theorem simp_zero {x u : Tm} (h : Simp x 0 u) : x.next = none ∧ u = x := by
  cases h with
  | done hn => exact ⟨hn, rfl⟩
theorem awakeA : ∃ n, callN T G n 5 [] ⟨[], 0⟩ = some (.v (.bool true), ⟨[], 6⟩) := ⟨60, by kernel_rfl⟩
theorem awakeB : ∃ n, callN T G n 5 [] ⟨[], 6⟩ = some (.v (.bool true), ⟨[], 12⟩) := ⟨60, by kernel_rfl⟩
theorem rec_four [Inhabited DkT] (l : List Int) (hl : l.length ≤ 500) : Rec l 4 2167 868 fun _ => True := rec_succ l hl 4 (by omega) 709 871 (by omega) (rec_three l hl)
theorem awakeM [Inhabited DkT] (hm : mm = 6) : ∃ n, callN T G n 5 [] ⟨[], 0⟩ = some (.v (.bool true), ⟨[], mm⟩) := by rw [hm]; exact awakeA
theorem new10m [Inhabited DkT] (l : List Int) : ∃ n, callN T G n 7 [ints .i64 l] ⟨[], mm⟩ = some (.sp mm 0, dk l 0) := new10 l mm
theorem Simp.typed {g : List Ty} {t u : Tm} {n : Nat} {s : Ty} (h : Simp t n u) (hg : ∀ v ∈ g, v.nodes ≤ 64) (ht : HasTy g t s) : HasTy g u s := ht.reds h.reds hg
def b16_0 : PC := (.block 1000000 (.seq (.seq .skip (.seq (.seq (.ops [⟨.ldL 5 true,[.s 1],some 16,some 1,none⟩,⟨.callF 39,[.s 16],some 17,none,none⟩,⟨.mv,[.s 17],some 15,none,none⟩,⟨.ext 0,[.s 15],some 18,none,none⟩,⟨.ext 1,[.s 15],some 19,none,none⟩,⟨.alloc [.v (.int .i64 0),.v (.int .i64 0),.v (.int .i64 0),.sl 1 0 [],.sl 1 0 []],[],some 7,none,none⟩,⟨.stL 5,[.s 7,.s 18],none,some 7,none⟩,⟨.mv,[.s 19],some 8,none,none⟩]) (.seq (.ops [⟨.mv,[.s 8],some 20,none,none⟩]) (.cond (.s 20) (.seq (.ops [⟨.ldL 5 true,[.s 7],some 21,some 7,none⟩,⟨.stL 5,[.s 1,.s 21],none,some 1,none⟩]) (.seq (.ops [⟨.mv,[.s 6],some 22,none,none⟩,⟨.bin .add,[.s 22,.c (.v (.int .i64 1))],some 23,none,none⟩,⟨.mv,[.s 23],some 6,none,none⟩]) (.exit 1000000))) .skip))) (.seq (.ops [⟨.ldL 5 true,[.s 1],some 24,some 1,none⟩,⟨.mv,[.s 6],some 25,none,none⟩,⟨.stL 5,[.s 2,.s 24],none,some 2,none⟩,⟨.mv,[.s 25],some 3,none,none⟩,⟨.mv,[.c (.v (.int .i64 0))],some 4,none,none⟩]) .ret))) (.exit 2000000)))
theorem term_loop (g : List Ty) (hg : ∀ v ∈ g, v.nodes ≤ 64) (hgl : g.length ≤ 1000) (s : Ty) (u : Tm) (N : Nat) (bx : List (Nat × List PV)) (lv : Nat → Bool) (tk nn : Nat) ( x0 x5 x9 x10 x11 x12 x13 x14 : PV) :
    ∀ (n : Nat) (x : Tm) (c nx : Nat) ( x7 x8 x15 x16 x17 x18 x19 x20 x21 x22 x23 x24 x25 : PV), Simp x n u → HasTy g x s → x.size ≤ 4096 → c + n = N → N ≤ 5000 →
      R T G [] [.pc (.loop b16_0), .blk 2000000] ⟨[x0, .bx 1 x.row, .bx 1 [i64 0, i64 0, i64 0, .sl 1 0 [], .sl 1 0 []], i64 0, i64 0, x5, i64 (c : Int), x7, x8, x9, x10, x11, x12, x13, x14, x15, x16, x17, x18, x19, x20, x21, x22, x23, x24, x25], ⟨⟨bx, nx⟩, lv, tk⟩⟩ (FQ [.c 2 5 true, .t 3, .t 4] false nn fun r s' => r = .tup [.ag u.row, i64 (N : Int), i64 0] ∧ ∃ nx', s' = ⟨bx, nx'⟩) := by
  intro n
  induction n with
  | zero =>
    intro x c nx  x7 x8 x15 x16 x17 x18 x19 x20 x21 x22 x23 x24 x25 hs ht hsz hc hN
    obtain ⟨hn, hu⟩ := simp_zero hs
    rw [hu]
    · have hl := ht.low 1073741824 (by omega)
      obtain ⟨m, h⟩ := next39 x bx nx (by omega) hl
      rw [hn] at h
      simp only [nres, Tm.row, tmAll] at h
      have h' := clR.use h
      obtain rfl : c = N := by omega
      rw [R.loop_eq]
      unfold b16_0
      simp only [wp0, wp1, wp2, wp3, wp4, PV.cellsT, appMax, dropSh, fillB, fillS, putD, splice, src, startSt, Int.reduceAdd, Int.reduceEq, Int.reduceLE, Int.reduceLT, Int.reduceNeg, Int.reduceSub, Int.reduceToNat, Nat.reduceAdd, Nat.reduceDiv, Nat.reduceEqDiff, Nat.reduceLT, Nat.reduceLeDiff, Nat.reduceMod, Nat.reduceMul, Nat.reduceSub, eq_self, if_false, if_true, ite_false, ite_true, reduceIte, Tm.row, tmAll, h']
      exact ⟨_, rfl⟩
  | succ n ih =>
    intro x c nx  x7 x8 x15 x16 x17 x18 x19 x20 x21 x22 x23 x24 x25 hs ht hsz hc hN
    cases hs with
    | step hn hs' =>
      rename_i y
      have hl := ht.low 1073741824 (by omega)
      obtain ⟨m, h⟩ := next39 x bx nx (by omega) hl
      rw [hn] at h
      simp only [nres, Tm.row, tmAll] at h
      have h' := clR.use h
      have w1 : IntKind.i64.wrap ((c : Int) + 1) = ((c + 1 : Nat) : Int) := by rw [wrap_i64 (by omega)]; omega
      have hy := next_red x y hn
      rw [R.loop_eq]
      unfold b16_0
      simp only [wp0, wp1, wp2, wp3, wp4, PV.cellsT, appMax, dropSh, fillB, fillS, putD, splice, src, startSt, Int.reduceAdd, Int.reduceEq, Int.reduceLE, Int.reduceLT, Int.reduceNeg, Int.reduceSub, Int.reduceToNat, Nat.reduceAdd, Nat.reduceDiv, Nat.reduceEqDiff, Nat.reduceLT, Nat.reduceLeDiff, Nat.reduceMod, Nat.reduceMul, Nat.reduceSub, eq_self, if_false, if_true, ite_false, ite_true, reduceIte, Tm.row, tmAll, h', w1]
      exact ih y (c + 1) m _ _ _ _ _ _ _ _ _ _ _ _ _ hs' (ht.red hg _ hy.1) (by omega) (by omega) hN
theorem term16 (g : List Ty) (hg : ∀ v ∈ g, v.nodes ≤ 64) (hgl : g.length ≤ 1000) (s : Ty) (t u : Tm) (N : Nat) (bx : List (Nat × List PV)) (nx : Nat) (hs : Simp t N u) (ht : HasTy g t s) (hsz : t.size ≤ 4096) :
    ∃ nx' n, callN T G n 16 [.ag t.row] ⟨bx, nx⟩ = some (.tup [.ag u.row, i64 (N : Int), i64 0], ⟨bx, nx'⟩) := by
  have hN := hs.le
  have q := look38 ⟨bx, nx⟩ t ht.ok hsz (ht.low 536870912 (by omega))
  have hl := ht.low 1073741824 (by omega)
  obtain ⟨m, h⟩ := next39 t bx nx (by omega) hl
  simp only [Tm.row, tmAll] at q
  have q' := clR.use q
  have hs0 := hs
  have key : Runs T G 16 [.ag t.row] ⟨bx, nx⟩ fun r s' => r = .tup [.ag u.row, i64 (N : Int), i64 0] ∧ ∃ nx', s' = ⟨bx, nx'⟩ := by
    refine run_of (pf := p16) rfl ?_
    unfold p16
    cases hs with
    | done hn =>
      have hn' := (simp_zero hs0).1
      rw [hn'] at h
      simp only [nres, Tm.row, tmAll] at h
      have h' := clR.use h
      simp only [wp0, wp1, wp2, wp3, wp4, PV.cellsT, appMax, dropSh, fillB, fillS, putD, splice, src, startSt, Int.reduceAdd, Int.reduceEq, Int.reduceLE, Int.reduceLT, Int.reduceNeg, Int.reduceSub, Int.reduceToNat, Nat.reduceAdd, Nat.reduceDiv, Nat.reduceEqDiff, Nat.reduceLT, Nat.reduceLeDiff, Nat.reduceMod, Nat.reduceMul, Nat.reduceSub, eq_self, if_false, if_true, ite_false, ite_true, reduceIte, Tm.row, tmAll, q', h']
      exact ⟨_, rfl⟩
    | step hn hs' =>
      rename_i y n
      rw [hn] at h
      simp only [nres, Tm.row, tmAll] at h
      have h' := clR.use h
      have w1 : IntKind.i64.wrap ((0 : Int) + 1) = ((0 + 1 : Nat) : Int) := by decide
      have hy := next_red t y hn
      simp only [wp0, wp1, wp2, wp3, wp4, PV.cellsT, appMax, dropSh, fillB, fillS, putD, splice, src, startSt, Int.reduceAdd, Int.reduceEq, Int.reduceLE, Int.reduceLT, Int.reduceNeg, Int.reduceSub, Int.reduceToNat, Nat.reduceAdd, Nat.reduceDiv, Nat.reduceEqDiff, Nat.reduceLT, Nat.reduceLeDiff, Nat.reduceMod, Nat.reduceMul, Nat.reduceSub, eq_self, if_false, if_true, ite_false, ite_true, reduceIte, Tm.row, tmAll, q', h', w1]
      exact term_loop g hg hgl s u (n + 1) bx _ _ _ _ _ _ _ _ _ _ _ n y (0 + 1) m _ _ _ _ _ _ _ _ _ _ _ _ _ hs' (ht.red hg _ hy.1) (by omega) (by omega) (by omega)
  obtain ⟨n, sh', h1, nx', rfl⟩ := run_ex key
  exact ⟨nx', n, h1⟩
def b3_0 : PC := (.block 1 (.seq (.ops [⟨.ldL 5 true,[.s 6],some 48,some 6,none⟩,⟨.callF 13,[.s 48],some 49,none,none⟩,⟨.mv,[.s 49],some 47,none,none⟩,⟨.ext 0,[.s 47],some 50,none,none⟩,⟨.ext 1,[.s 47],some 51,none,none⟩,⟨.ext 2,[.s 47],some 52,none,none⟩,⟨.alloc [.v (.int .i64 0),.v (.int .i64 0),.v (.int .i64 0),.sl 1 0 [],.sl 1 0 []],[],some 10,none,none⟩,⟨.stL 5,[.s 10,.s 50],none,some 10,none⟩,⟨.mv,[.s 51],some 11,none,none⟩,⟨.mv,[.s 52],some 12,none,none⟩]) (.seq (.seq (.ops [⟨.mv,[.s 12],some 53,none,none⟩,⟨.bin .neq,[.s 53,.c (.v (.int .i64 0))],some 54,none,none⟩]) (.cond (.s 54) (.seq (.ops [⟨.mv,[.c (.v (.bool false))],some 2,none,none⟩]) .ret) .skip)) (.seq (.seq (.ops [⟨.mv,[.s 11],some 55,none,none⟩,⟨.uno .not,[.s 55],some 56,none,none⟩]) (.cond (.s 56) (.exit 0) .skip)) (.seq (.ops [⟨.ldL 5 true,[.s 10],some 58,some 10,none⟩,⟨.callF 11,[.s 58],some 59,none,none⟩,⟨.mv,[.s 59],some 57,none,none⟩,⟨.ext 0,[.s 57],some 60,none,none⟩,⟨.ext 1,[.s 57],some 61,none,none⟩,⟨.mv,[.s 60],some 13,none,none⟩,⟨.mv,[.s 61],some 14,none,none⟩]) (.seq (.ops [⟨.mv,[.s 4],some 63,none,none⟩,⟨.ldL 5 true,[.s 10],some 64,some 10,none⟩,⟨.callF 14,[.s 63,.s 64],some 65,none,none⟩,⟨.mv,[.s 65],some 62,none,none⟩,⟨.ext 0,[.s 62],some 66,none,none⟩,⟨.ext 1,[.s 62],some 67,none,none⟩,⟨.alloc [.v (.int .i64 0),.sl 1 0 []],[],some 15,none,none⟩,⟨.stL 2,[.s 15,.s 66],none,some 15,none⟩,⟨.mv,[.s 67],some 16,none,none⟩]) (.seq (.seq (.ops [⟨.mv,[.s 14],some 68,none,none⟩,⟨.bin .neq,[.s 68,.c (.v (.int .i64 0))],some 69,none,none⟩,⟨.mv,[.s 69],some 70,none,none⟩,⟨.mv,[.s 13],some 71,none,some (70,false)⟩,⟨.mv,[.s 7],some 72,none,some (70,false)⟩,⟨.bin .geq,[.s 71,.s 72],some 73,none,some (70,false)⟩,⟨.pick,[.s 70,.c (.v (.bool true)),.s 73],some 74,none,none⟩,⟨.mv,[.s 74],some 75,none,none⟩,⟨.mv,[.s 16],some 76,none,some (75,false)⟩,⟨.bin .neq,[.s 76,.c (.v (.int .i64 4))],some 77,none,some (75,false)⟩,⟨.mv,[.s 77],some 78,none,some (75,false)⟩,⟨.mv,[.s 16],some 79,none,some (78,true)⟩,⟨.bin .neq,[.s 79,.c (.v (.int .i64 0))],some 80,none,some (78,true)⟩,⟨.mv,[.s 80],some 81,none,some (78,true)⟩,⟨.ldL 2 true,[.s 15],some 82,some 15,some (81,false)⟩,⟨.ldL 2 true,[.s 5],some 83,some 5,some (81,false)⟩,⟨.callF 15,[.s 82,.s 83],some 84,none,some (81,false)⟩,⟨.uno .not,[.s 84],some 85,none,some (81,false)⟩,⟨.pick,[.s 81,.c (.v (.bool true)),.s 85],some 86,none,some (78,true)⟩,⟨.pick,[.s 78,.s 86,.c (.v (.bool false))],some 87,none,some (75,false)⟩,⟨.pick,[.s 75,.c (.v (.bool true)),.s 87],some 88,none,none⟩]) (.cond (.s 88) (.seq (.ops [⟨.mv,[.c (.v (.bool false))],some 2,none,none⟩]) .ret) .skip)) (.seq (.ops [⟨.ldL 5 true,[.s 10],some 89,some 10,none⟩,⟨.mv,[.s 13],some 90,none,none⟩,⟨.stL 5,[.s 6,.s 89],none,some 6,none⟩,⟨.mv,[.s 90],some 7,none,none⟩]) (.ops [⟨.mv,[.s 9],some 91,none,none⟩,⟨.bin .add,[.s 91,.c (.v (.int .i64 1))],some 92,none,none⟩,⟨.mv,[.s 92],some 9,none,none⟩])))))))))
theorem shorter_loop (g : List Ty) (zg : Nat) (hz : g ≠ [] → zg = 2) (hg : ∀ v ∈ g, v.nodes ≤ 64) (hgl : g.length ≤ 1000) (t : Ty) (bx : List (Nat × List PV)) (lv : Nat → Bool) (tk : Nat) (k : List Fr) (Q : Out → Prop) ( x0 x1 x3 x8 x17 x18 x19 x20 x21 x22 x23 x24 x25 x26 x27 x28 x29 x30 x31 x32 x33 x34 x35 x36 x37 x38 x39 x40 x41 x42 x43 x44 x45 x46 x93 x94 x95 x96 x97 x98 x99 x100 x101 x102 x103 x104 x105 x106 x107 x108 x109 : PV)
    (hk : ∀ (x : Tm) (c nx g6 : Nat) ( y10 y11 y12 y13 y14 y15 y16 y47 y48 y49 y50 y51 y52 y53 y54 y55 y56 y57 y58 y59 y60 y61 y62 y63 y64 y65 y66 y67 y68 y69 y70 y71 y72 y73 y74 y75 y76 y77 y78 y79 y80 y81 y82 y83 y84 y85 y86 y87 y88 y89 y90 y91 y92 : PV), x.next = none → HasTy g x t → x.size ≤ 4096 → R T G [] k ⟨[x0, x1, .v (.bool false), x3, .sl 0 zg (g.map Ty.row), .bx 1 t.row, .bx g6 x.row, i64 (x.size : Int), x8, i64 (c : Int), y10, y11, y12, y13, y14, y15, y16, x17, x18, x19, x20, x21, x22, x23, x24, x25, x26, x27, x28, x29, x30, x31, x32, x33, x34, x35, x36, x37, x38, x39, x40, x41, x42, x43, x44, x45, x46, y47, y48, y49, y50, y51, y52, y53, y54, y55, y56, y57, y58, y59, y60, y61, y62, y63, y64, y65, y66, y67, y68, y69, y70, y71, y72, y73, y74, y75, y76, y77, y78, y79, y80, y81, y82, y83, y84, y85, y86, y87, y88, y89, y90, y91, y92, x93, x94, x95, x96, x97, x98, x99, x100, x101, x102, x103, x104, x105, x106, x107, x108, x109], ⟨⟨bx, nx⟩, lv, tk⟩⟩ Q) :
    ∀ (n : Nat) (x u : Tm) (c nx g6 : Nat) ( x10 x11 x12 x13 x14 x15 x16 x47 x48 x49 x50 x51 x52 x53 x54 x55 x56 x57 x58 x59 x60 x61 x62 x63 x64 x65 x66 x67 x68 x69 x70 x71 x72 x73 x74 x75 x76 x77 x78 x79 x80 x81 x82 x83 x84 x85 x86 x87 x88 x89 x90 x91 x92 : PV), Simp x n u → HasTy g x t → x.size ≤ 4096 → c + n ≤ 5000 →
      R T G [] (.pc (.loop b3_0) :: .blk 0 :: k) ⟨[x0, x1, .v (.bool false), x3, .sl 0 zg (g.map Ty.row), .bx 1 t.row, .bx g6 x.row, i64 (x.size : Int), x8, i64 (c : Int), x10, x11, x12, x13, x14, x15, x16, x17, x18, x19, x20, x21, x22, x23, x24, x25, x26, x27, x28, x29, x30, x31, x32, x33, x34, x35, x36, x37, x38, x39, x40, x41, x42, x43, x44, x45, x46, x47, x48, x49, x50, x51, x52, x53, x54, x55, x56, x57, x58, x59, x60, x61, x62, x63, x64, x65, x66, x67, x68, x69, x70, x71, x72, x73, x74, x75, x76, x77, x78, x79, x80, x81, x82, x83, x84, x85, x86, x87, x88, x89, x90, x91, x92, x93, x94, x95, x96, x97, x98, x99, x100, x101, x102, x103, x104, x105, x106, x107, x108, x109], ⟨⟨bx, nx⟩, lv, tk⟩⟩ Q := by
  intro n
  induction n with
  | zero =>
    intro x u c nx g6  x10 x11 x12 x13 x14 x15 x16 x47 x48 x49 x50 x51 x52 x53 x54 x55 x56 x57 x58 x59 x60 x61 x62 x63 x64 x65 x66 x67 x68 x69 x70 x71 x72 x73 x74 x75 x76 x77 x78 x79 x80 x81 x82 x83 x84 x85 x86 x87 x88 x89 x90 x91 x92 hs ht hsz hc
    obtain ⟨hn, hu⟩ := simp_zero hs
    · obtain ⟨m, h⟩ := step13 bx nx x ht.ok hsz (ht.low 536870912 (by omega)) (ht.low 1073741824 (by omega))
      rw [hn] at h
      simp only [Tm.row, tmAll] at h
      have h' := clR.use h
      rw [R.loop_eq]
      unfold b3_0
      simp only [wp0, wp1, wp2, wp3, wp4, PV.cellsT, appMax, dropSh, fillB, fillS, putD, splice, src, startSt, Int.reduceAdd, Int.reduceEq, Int.reduceLE, Int.reduceLT, Int.reduceNeg, Int.reduceSub, Int.reduceToNat, Nat.reduceAdd, Nat.reduceDiv, Nat.reduceEqDiff, Nat.reduceLT, Nat.reduceLeDiff, Nat.reduceMod, Nat.reduceMul, Nat.reduceSub, eq_self, if_false, if_true, ite_false, ite_true, reduceIte, Tm.row, tmAll, h']
      exact hk x c _ g6 _ _ _ _ _ _ _ _ _ _ _ _ _ _ _ _ _ _ _ _ _ _ _ _ _ _ _ _ _ _ _ _ _ _ _ _ _ _ _ _ _ _ _ _ _ _ _ _ _ _ _ _ _ hn ht hsz
  | succ n ih =>
    intro x u c nx g6  x10 x11 x12 x13 x14 x15 x16 x47 x48 x49 x50 x51 x52 x53 x54 x55 x56 x57 x58 x59 x60 x61 x62 x63 x64 x65 x66 x67 x68 x69 x70 x71 x72 x73 x74 x75 x76 x77 x78 x79 x80 x81 x82 x83 x84 x85 x86 x87 x88 x89 x90 x91 x92 hs ht hsz hc
    cases hs with
    | step hn hs' =>
      rename_i y
      obtain ⟨m, h⟩ := step13 bx nx x ht.ok hsz (ht.low 536870912 (by omega)) (ht.low 1073741824 (by omega))
      rw [hn] at h
      have hy := next_red x y hn
      have hty := ht.red hg _ hy.1
      have m2 := size11 ⟨bx, m⟩ y hty.ok (by omega)
      have m3 := typed14 ⟨bx, m⟩ hty zg hz hgl (by omega)
      have m4 := same15 ⟨bx, m⟩ t t
      simp only [Tm.row, tmAll, Ty.row, tyAll] at h m2 m3 m4
      have h' := clR.use h
      have v2 := clR.use m2
      have v3 := clR.use m3
      have v4 := clR.use m4
      have c1 : ¬ ((x.size : Int) ≤ (y.size : Int)) := by omega
      have w1 : IntKind.i64.wrap ((c : Int) + 1) = ((c + 1 : Nat) : Int) := by rw [wrap_i64 (by omega)]; omega
      rw [R.loop_eq]
      unfold b3_0
      simp only [wp0, wp1, wp2, wp3, wp4, PV.cellsT, appMax, dropSh, fillB, fillS, putD, splice, src, startSt, Int.reduceAdd, Int.reduceEq, Int.reduceLE, Int.reduceLT, Int.reduceNeg, Int.reduceSub, Int.reduceToNat, Nat.reduceAdd, Nat.reduceDiv, Nat.reduceEqDiff, Nat.reduceLT, Nat.reduceLeDiff, Nat.reduceMod, Nat.reduceMul, Nat.reduceSub, eq_self, if_false, if_true, ite_false, ite_true, reduceIte, Tm.row, tmAll, Ty.row, tyAll, h', v2, v3, v4, c1, w1]
      exact ih y u (c + 1) m _ _ _ _ _ _ _ _ _ _ _ _ _ _ _ _ _ _ _ _ _ _ _ _ _ _ _ _ _ _ _ _ _ _ _ _ _ _ _ _ _ _ _ _ _ _ _ _ _ _ _ _ _ _ hs' hty (by omega) (by omega)
theorem law3m [Inhabited DkT] (hm : mm = 6) (l : List Int) : Runs T G 3 [ints .i64 l] ⟨[], 0⟩ fun r s' => r = .v (.bool true) ∧ True := by
  have u0 := clR.use (awakeM hm)
  have u1 := few9 ⟨[], mm⟩ l
  unfold ints at u1
  by_cases hl : l.length ≤ 500
  · have e : decide (l.length ≤ 500) = true := decide_eq_true hl
    rw [e] at u1
    have u1' := clR.use u1
    have u2 := new10m l
    unfold ints at u2
    have u2' := clR.use u2
    obtain ⟨g, zg, a1, hz, hg, hb, ha1, m3⟩ := context11 l hl 0 (Nat.zero_le _)
    obtain ⟨t, a2, hs, ha2, m4⟩ := type12 l hl 1 a1 (by omega) ha1
    obtain ⟨x, a3, hx, ex, ha3, m5⟩ := rec_four l hl g zg t a2 hz (by omega) hb (by omega) trivial ha2
    have hb' : ∀ t ∈ g, t.nodes ≤ 64 := fun t ht => by have := hb t ht; omega
    have m6 := size11 (dk l a3) x hx.ok (by omega)
    simp only [Ty.row, tyAll, Tm.row, tmAll, Int.cast_ofNat_Int] at m3 m4 m5 m6
    have v3 := clR.use m3
    have v4 := clR.use m4
    have v5 := clR.use m5
    have v6 := clR.use m6
    obtain ⟨n, u, hsim⟩ := simp_ex x.size x (Nat.le_refl _)
    have hle := hsim.le
    refine run_of (pf := p3) rfl ?_
    unfold p3 ints
    simp only [wp0, wp1, wp2, wp3, wp4, PV.cellsT, appMax, dropSh, fillB, fillS, putD, splice, src, startSt, Int.reduceAdd, Int.reduceEq, Int.reduceLE, Int.reduceLT, Int.reduceNeg, Int.reduceSub, Int.reduceToNat, Nat.reduceAdd, Nat.reduceDiv, Nat.reduceEqDiff, Nat.reduceLT, Nat.reduceLeDiff, Nat.reduceMod, Nat.reduceMul, Nat.reduceSub, eq_self, if_false, if_true, ite_false, ite_true, reduceIte, Ty.row, tyAll, Tm.row, tmAll, u0, u1', u2', v3, v4, v5, v6]
    refine shorter_loop g zg hz hb' (by omega) t (dk l a3).boxes _ _ _ _ _ _ _ _ _ _ _ _ _ _ _ _ _ _ _ _ _ _ _ _ _ _ _ _ _ _ _ _ _ _ _ _ _ _ _ _ _ _ _ _ _ _ _ _ _ _ _ _ _ _ _ ?_ n x u 0 (dk l a3).nx 1 _ _ _ _ _ _ _ _ _ _ _ _ _ _ _ _ _ _ _ _ _ _ _ _ _ _ _ _ _ _ _ _ _ _ _ _ _ _ _ _ _ _ _ _ _ _ _ _ _ _ _ _ _ hsim hx (by omega) (by omega)
    intro y c nx g6  y10 y11 y12 y13 y14 y15 y16 y47 y48 y49 y50 y51 y52 y53 y54 y55 y56 y57 y58 y59 y60 y61 y62 y63 y64 y65 y66 y67 y68 y69 y70 y71 y72 y73 y74 y75 y76 y77 y78 y79 y80 y81 y82 y83 y84 y85 y86 y87 y88 y89 y90 y91 y92 hn hy hys
    obtain ⟨nx', m7⟩ := term16 g hb' (by omega) t y y 0 (dk l a3).boxes nx (.done hn) hy hys
    have m8 := same17 ⟨(dk l a3).boxes, nx'⟩ y y
    simp only [Tm.row, tmAll] at m7 m8
    have v7 := clR.use m7
    have v8 := clR.use m8
    simp only [wp0, wp1, wp2, wp3, wp4, PV.cellsT, appMax, dropSh, fillB, fillS, putD, splice, src, startSt, Int.reduceAdd, Int.reduceEq, Int.reduceLE, Int.reduceLT, Int.reduceNeg, Int.reduceSub, Int.reduceToNat, Nat.reduceAdd, Nat.reduceDiv, Nat.reduceEqDiff, Nat.reduceLT, Nat.reduceLeDiff, Nat.reduceMod, Nat.reduceMul, Nat.reduceSub, eq_self, if_false, if_true, ite_false, ite_true, reduceIte, Tm.row, tmAll, v7, v8, decide_true]
  · have e : decide (l.length ≤ 500) = false := decide_eq_false hl
    rw [e] at u1
    have u1' := clR.use u1
    have u3 := clR.use awakeB
    rw [← hm] at u3
    refine run_of (pf := p3) rfl ?_
    unfold p3 ints
    simp only [wp0, wp1, wp2, wp3, wp4, PV.cellsT, appMax, dropSh, fillB, fillS, putD, splice, src, startSt, Int.reduceAdd, Int.reduceEq, Int.reduceLE, Int.reduceLT, Int.reduceNeg, Int.reduceSub, Int.reduceToNat, Nat.reduceAdd, Nat.reduceDiv, Nat.reduceEqDiff, Nat.reduceLT, Nat.reduceLeDiff, Nat.reduceMod, Nat.reduceMul, Nat.reduceSub, eq_self, if_false, if_true, ite_false, ite_true, reduceIte, u0, u1', u3]
theorem law3 (l : List Int) : ∃ n sh', callN T G n 3 [ints .i64 l] ⟨[], 0⟩ = some (.v (.bool true), sh') := by
  obtain ⟨n, sh', h, _⟩ := run_ex (@law3m ⟨⟨6⟩⟩ rfl l)
  exact ⟨n, sh', h⟩
end Go.Pi.Terms
