import Derived.Test.YtoljfmfmdghoeaaGreatDoorM3
import Derived.Test.YtoljfmfmdghoeaaGreatDoorSD2
import Derived.Test.YtoljfmfmdghoeaaGreatDoorTU
import Derived.KernelRfl
set_option maxRecDepth 100000
set_option maxHeartbeats 1000000
set_option linter.unusedSimpArgs false
set_option linter.unusedVariables false
namespace Go.Pi.Terms
open Go Go.Pi Go.Proofs.YtoljfmfmdghoeaaGreatDoor
theorem run_ex {f : Nat} {args : List PV} {sh : Sh} {v : PV} {p : Sh → Prop} (h : Runs T G f args sh fun r s => r = v ∧ p s) : ∃ n sh', callN T G n f args sh = some (v, sh') ∧ p sh' := by
  obtain ⟨n, r, s, h1, rfl, h3⟩ := h
  exact ⟨n, s, h1, h3⟩
theorem simp_zero {x u : Tm} (h : Simp x 0 u) : x.next = none ∧ u = x := by
  cases h with
  | done hn => exact ⟨hn, rfl⟩
theorem awakeA : ∃ n, callN T G n 5 [] ⟨[], 0⟩ = some (.v (.bool true), ⟨[], 6⟩) := ⟨60, by kernel_rfl⟩
theorem awakeB : ∃ n, callN T G n 5 [] ⟨[], 6⟩ = some (.v (.bool true), ⟨[], 12⟩) := ⟨60, by kernel_rfl⟩
theorem rec_four [Inhabited DkT] (l : List Int) (hl : l.length ≤ 500) : Rec l 4 2167 868 fun _ => True := rec_succ l hl 4 (by omega) 709 871 (by omega) (rec_three l hl)
theorem awakeM [Inhabited DkT] (hm : mm = 6) : ∃ n, callN T G n 5 [] ⟨[], 0⟩ = some (.v (.bool true), ⟨[], mm⟩) := by rw [hm]; exact awakeA
theorem new10m [Inhabited DkT] (l : List Int) : ∃ n, callN T G n 7 [ints .i64 l] ⟨[], mm⟩ = some (.sp mm 0, dk l 0) := new10 l mm
theorem Simp.typed {g : List Ty} {t u : Tm} {n : Nat} {s : Ty} (h : Simp t n u) (hg : ∀ v ∈ g, v.nodes ≤ 64) (ht : HasTy g t s) : HasTy g u s := ht.reds h.reds hg
def b16_0 : PC := (.block 1000000 (.seq (.seq .skip (.seq (.seq (.ops [⟨.ldL 5 true,[.s 1],some 16,some 1,none⟩,⟨.callF 23,[.s 16],some 17,none,none⟩,⟨.mv,[.s 17],some 15,none,none⟩,⟨.ext 0,[.s 15],some 18,none,none⟩,⟨.ext 1,[.s 15],some 19,none,none⟩,⟨.alloc [.v (.int .i64 0),.v (.int .i64 0),.v (.int .i64 0),.sl 1 0 [],.sl 1 0 []],[],some 7,none,none⟩,⟨.stL 5,[.s 7,.s 18],none,some 7,none⟩,⟨.mv,[.s 19],some 8,none,none⟩]) (.seq (.ops [⟨.mv,[.s 8],some 20,none,none⟩]) (.cond (.s 20) (.seq (.ops [⟨.ldL 5 true,[.s 7],some 21,some 7,none⟩,⟨.stL 5,[.s 1,.s 21],none,some 1,none⟩]) (.seq (.ops [⟨.mv,[.s 6],some 22,none,none⟩,⟨.bin .add,[.s 22,.c (.v (.int .i64 1))],some 23,none,none⟩,⟨.mv,[.s 23],some 6,none,none⟩]) (.exit 1000000))) .skip))) (.seq (.ops [⟨.ldL 5 true,[.s 1],some 24,some 1,none⟩,⟨.mv,[.s 6],some 25,none,none⟩,⟨.stL 5,[.s 2,.s 24],none,some 2,none⟩,⟨.mv,[.s 25],some 3,none,none⟩,⟨.mv,[.c (.v (.int .i64 0))],some 4,none,none⟩]) .ret))) (.exit 2000000)))
theorem term_loop (g : List Ty) (hg : ∀ v ∈ g, v.nodes ≤ 64) (hgl : g.length ≤ 1000) (s : Ty) (u : Tm) (N : Nat) (bx : List (Nat × List PV)) (lv : Nat → Bool) (tk nn : Nat) ( x0 x5 x9 x10 x11 x12 x13 x14 : PV) :
    ∀ (n : Nat) (x : Tm) (c nx : Nat) ( x7 x8 x15 x16 x17 x18 x19 x20 x21 x22 x23 x24 x25 : PV), Simp x n u → HasTy g x s → x.size ≤ 4096 → c + n = N → N ≤ 5000 →
      R T G [] [.pc (.loop b16_0), .blk 2000000] ⟨[x0, .bx 1 x.row, .bx 1 [i64 0, i64 0, i64 0, .sl 1 0 [], .sl 1 0 []], i64 0, i64 0, x5, i64 (c : Int), x7, x8, x9, x10, x11, x12, x13, x14, x15, x16, x17, x18, x19, x20, x21, x22, x23, x24, x25], ⟨⟨bx, nx⟩, lv, tk⟩⟩ (FQ [.c 2 5 true, .t 3, .t 4] false nn fun r s' => r = .tup [.ag u.row, i64 (N : Int), i64 0] ∧ ∃ nx', s' = ⟨bx, nx'⟩) := by
  intro n
  induction n with
  | zero =>
    intro x c nx  x7 x8 x15 x16 x17 x18 x19 x20 x21 x22 x23 x24 x25 hs ht hsz hc hN
    obtain ⟨hn, hu⟩ := simp_zero hs
    rw [hu]
    · have hl := ht.low 1073741824 (by omega)
      obtain ⟨m, h⟩ := next39 x bx nx (by omega) hl
      rw [hn] at h
      simp only [nres, Tm.row, tmAll] at h
      have h' := clR.use h
      obtain rfl : c = N := by omega
      rw [R.loop_eq]
      unfold b16_0
      simp only [wp0, wp1, wp2, wp3, wp4, PV.cellsT, appMax, dropSh, fillB, fillS, putD, splice, src, startSt, Int.reduceAdd, Int.reduceEq, Int.reduceLE, Int.reduceLT, Int.reduceNeg, Int.reduceSub, Int.reduceToNat, Nat.reduceAdd, Nat.reduceDiv, Nat.reduceEqDiff, Nat.reduceLT, Nat.reduceLeDiff, Nat.reduceMod, Nat.reduceMul, Nat.reduceSub, eq_self, if_false, if_true, ite_false, ite_true, reduceIte, Tm.row, tmAll, h']
      exact ⟨_, rfl⟩
  | succ n ih =>
    intro x c nx  x7 x8 x15 x16 x17 x18 x19 x20 x21 x22 x23 x24 x25 hs ht hsz hc hN
    cases hs with
    | step hn hs' =>
      rename_i y
      have hl := ht.low 1073741824 (by omega)
      obtain ⟨m, h⟩ := next39 x bx nx (by omega) hl
      rw [hn] at h
      simp only [nres, Tm.row, tmAll] at h
      have h' := clR.use h
      have w1 : IntKind.i64.wrap ((c : Int) + 1) = ((c + 1 : Nat) : Int) := by rw [wrap_i64 (by omega)]; omega
      have hy := next_red x y hn
      rw [R.loop_eq]
      unfold b16_0
      simp only [wp0, wp1, wp2, wp3, wp4, PV.cellsT, appMax, dropSh, fillB, fillS, putD, splice, src, startSt, Int.reduceAdd, Int.reduceEq, Int.reduceLE, Int.reduceLT, Int.reduceNeg, Int.reduceSub, Int.reduceToNat, Nat.reduceAdd, Nat.reduceDiv, Nat.reduceEqDiff, Nat.reduceLT, Nat.reduceLeDiff, Nat.reduceMod, Nat.reduceMul, Nat.reduceSub, eq_self, if_false, if_true, ite_false, ite_true, reduceIte, Tm.row, tmAll, h', w1]
      exact ih y (c + 1) m _ _ _ _ _ _ _ _ _ _ _ _ _ hs' (ht.red hg _ hy.1) (by omega) (by omega) hN
theorem term16 (g : List Ty) (hg : ∀ v ∈ g, v.nodes ≤ 64) (hgl : g.length ≤ 1000) (s : Ty) (t u : Tm) (N : Nat) (bx : List (Nat × List PV)) (nx : Nat) (hs : Simp t N u) (ht : HasTy g t s) (hsz : t.size ≤ 4096) :
    ∃ nx' n, callN T G n 9 [.ag t.row] ⟨bx, nx⟩ = some (.tup [.ag u.row, i64 (N : Int), i64 0], ⟨bx, nx'⟩) := by
  have hN := hs.le
  have q := look38 ⟨bx, nx⟩ t ht.ok hsz (ht.low 536870912 (by omega))
  have hl := ht.low 1073741824 (by omega)
  obtain ⟨m, h⟩ := next39 t bx nx (by omega) hl
  simp only [Tm.row, tmAll] at q
  have q' := clR.use q
  have hs0 := hs
  have key : Runs T G 9 [.ag t.row] ⟨bx, nx⟩ fun r s' => r = .tup [.ag u.row, i64 (N : Int), i64 0] ∧ ∃ nx', s' = ⟨bx, nx'⟩ := by
    refine run_of (pf := p9) rfl ?_
    unfold p9
    cases hs with
    | done hn =>
      have hn' := (simp_zero hs0).1
      rw [hn'] at h
      simp only [nres, Tm.row, tmAll] at h
      have h' := clR.use h
      simp only [wp0, wp1, wp2, wp3, wp4, PV.cellsT, appMax, dropSh, fillB, fillS, putD, splice, src, startSt, Int.reduceAdd, Int.reduceEq, Int.reduceLE, Int.reduceLT, Int.reduceNeg, Int.reduceSub, Int.reduceToNat, Nat.reduceAdd, Nat.reduceDiv, Nat.reduceEqDiff, Nat.reduceLT, Nat.reduceLeDiff, Nat.reduceMod, Nat.reduceMul, Nat.reduceSub, eq_self, if_false, if_true, ite_false, ite_true, reduceIte, Tm.row, tmAll, q', h']
      exact ⟨_, rfl⟩
    | step hn hs' =>
      rename_i y n
      rw [hn] at h
      simp only [nres, Tm.row, tmAll] at h
      have h' := clR.use h
      have w1 : IntKind.i64.wrap ((0 : Int) + 1) = ((0 + 1 : Nat) : Int) := by decide
      have hy := next_red t y hn
      simp only [wp0, wp1, wp2, wp3, wp4, PV.cellsT, appMax, dropSh, fillB, fillS, putD, splice, src, startSt, Int.reduceAdd, Int.reduceEq, Int.reduceLE, Int.reduceLT, Int.reduceNeg, Int.reduceSub, Int.reduceToNat, Nat.reduceAdd, Nat.reduceDiv, Nat.reduceEqDiff, Nat.reduceLT, Nat.reduceLeDiff, Nat.reduceMod, Nat.reduceMul, Nat.reduceSub, eq_self, if_false, if_true, ite_false, ite_true, reduceIte, Tm.row, tmAll, q', h', w1]
      exact term_loop g hg hgl s u (n + 1) bx _ _ _ _ _ _ _ _ _ _ _ n y (0 + 1) m _ _ _ _ _ _ _ _ _ _ _ _ _ hs' (ht.red hg _ hy.1) (by omega) (by omega) (by omega)
  obtain ⟨n, sh', h1, nx', rfl⟩ := run_ex key
  exact ⟨nx', n, h1⟩
end Go.Pi.Terms
