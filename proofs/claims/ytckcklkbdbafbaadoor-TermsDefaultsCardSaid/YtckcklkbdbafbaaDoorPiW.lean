/- The rules by which the simplifier runs the code. -/
import Derived.Test.YtckcklkbdbafbaaDoorPiV
namespace Go.Pi
open Go
open PV (genOf asSrc clrC clrs clr clrAll cellsT cells0)

attribute [congr] WP.cong WS.cong W1.cong Runs.cong obind.cong condP.cong gP.cong Out.on.cong Out.blk.cong

section
variable {T : Nat → Option PF} {G : Glob}

abbrev i64 (z : Int) : PV := .v (.int .i64 z)

theorem ev_mv_v (o x) : evalP .mv o [.v x] = some (.v x) := rfl
theorem ev_mv_sl (o a b c) : evalP .mv o [.sl a b c] = some (.sl a b c) := rfl
theorem ev_mv_ag (o a) : evalP .mv o [.ag a] = some (.ag a) := rfl
theorem ev_mv_tup (o a) : evalP .mv o [.tup a] = some (.tup a) := rfl
theorem ev_mv_lp (o a b c) : evalP .mv o [.lp a b c] = some (.lp a b c) := rfl
theorem ev_mv_ep (o a b) : evalP .mv o [.ep a b] = some (.ep a b) := rfl
theorem ev_mv_sp (o a b) : evalP .mv o [.sp a b] = some (.sp a b) := rfl
theorem ev_mv_fn (o a b) : evalP .mv o [.fn a b] = some (.fn a b) := rfl
theorem ev_pick (o c a b) : evalP .pick o [.v (.bool c), a, b] = some (if c then a else b) := rfl
theorem ev_alloc (o z) : evalP (.alloc z) o [] = some (.bx (o.genOf + 1) z) := rfl
theorem ev_box_v (o x) : evalP .box o [.v x] = some (.bx (o.genOf + 1) [.v x]) := rfl
theorem ev_box_ag (o x) : evalP .box o [.ag x] = some (.bx (o.genOf + 1) x) := rfl
theorem ev_box_sl (o a b c) : evalP .box o [.sl a b c] = some (.bx (o.genOf + 1) [.sl a b c]) := rfl
theorem ev_box_sp (o a b) : evalP .box o [.sp a b] = some (.bx (o.genOf + 1) [.sp a b]) := rfl
theorem ev_box_fn (o a b) : evalP .box o [.fn a b] = some (.bx (o.genOf + 1) [.fn a b]) := rfl
theorem ev_build (o z p xs) : evalP (.build z p) o xs = (fillB z p xs).map .ag := by
  simp only [evalP]
  cases fillB z p xs <;> rfl
theorem ev_bslice (o z l s p xs) : evalP (.bslice z l s p) o xs = (fillS s (List.replicate l z) p xs).map (.sl 1 s) := by
  simp only [evalP]
  cases fillS s (List.replicate l z) p xs <;> rfl
theorem ev_ldE (o n a r off) : evalP (.ldE n a) o [.ep r off] = cut r off n a := rfl
theorem ev_nil_lp (o a b c) : evalP .nilck o [.lp a b c] = some (.lp a b c) := rfl
theorem ev_nil_ep (o a b) : evalP .nilck o [.ep a b] = some (.ep a b) := rfl
theorem ev_nil_sp (o a b) : evalP .nilck o [.sp a b] = some (.sp a b) := rfl
theorem ev_nil_fn (o a b) : evalP .nilck o [.fn a b] = some (.fn a b) := rfl
theorem ev_add (o k a b) : evalP (.bin .add) o [.v (.int k a), .v (.int k b)] = some (.v (.int k (k.wrap (a + b)))) := by cases k <;> rfl
theorem ev_sub (o k a b) : evalP (.bin .sub) o [.v (.int k a), .v (.int k b)] = some (.v (.int k (k.wrap (a - b)))) := by cases k <;> rfl
theorem ev_mul (o k a b) : evalP (.bin .mul) o [.v (.int k a), .v (.int k b)] = some (.v (.int k (k.wrap (a * b)))) := by cases k <;> rfl
theorem ev_quo (o k a b) : evalP (.bin .quo) o [.v (.int k a), .v (.int k b)] = if b = 0 then none else some (.v (.int k (k.wrap (a.tdiv b)))) := by
  by_cases h : b = 0 <;> cases k <;> simp [evalP, binV, sameKind, intBin, h]
theorem ev_rem (o k a b) : evalP (.bin .rem) o [.v (.int k a), .v (.int k b)] = if b = 0 then none else some (.v (.int k (a.tmod b))) := by
  by_cases h : b = 0 <;> cases k <;> simp [evalP, binV, sameKind, intBin, h]
theorem ev_eql (o k a b) : evalP (.bin .eql) o [.v (.int k a), .v (.int k b)] = some (.v (.bool (decide (a = b)))) := by cases k <;> rfl
theorem ev_neq (o k a b) : evalP (.bin .neq) o [.v (.int k a), .v (.int k b)] = some (.v (.bool (!decide (a = b)))) := by cases k <;> rfl
theorem ev_lss (o k a b) : evalP (.bin .lss) o [.v (.int k a), .v (.int k b)] = some (.v (.bool (decide (a < b)))) := by cases k <;> rfl
theorem ev_leq (o k a b) : evalP (.bin .leq) o [.v (.int k a), .v (.int k b)] = some (.v (.bool (decide (a ≤ b)))) := by cases k <;> rfl
theorem ev_gtr (o k a b) : evalP (.bin .gtr) o [.v (.int k a), .v (.int k b)] = some (.v (.bool (decide (b < a)))) := by cases k <;> rfl
theorem ev_geq (o k a b) : evalP (.bin .geq) o [.v (.int k a), .v (.int k b)] = some (.v (.bool (decide (b ≤ a)))) := by cases k <;> rfl
theorem ev_beql (o a b) : evalP (.binB .eql) o [.v (.bool a), .v (.bool b)] = some (.v (.bool (a == b))) := rfl
theorem ev_bneq (o a b) : evalP (.binB .neq) o [.v (.bool a), .v (.bool b)] = some (.v (.bool (a != b))) := rfl
theorem ev_not (o b) : evalP (.uno .not) o [.v (.bool b)] = some (.v (.bool (!b))) := rfl
theorem ev_neg (o k b) : evalP (.uno .neg) o [.v (.int k b)] = some (.v (.int k (k.wrap (0 - b)))) := rfl
theorem ev_fld (o a n g cs) : evalP (.fld a n g) o [.ag cs] = cut cs a n g := rfl
theorem ev_fa_lp (o n a b c) : evalP (.fa n) o [.lp a b c] = some (.lp a b (c + n)) := rfl
theorem ev_fa_ep (o n a b) : evalP (.fa n) o [.ep a b] = some (.ep a (b + n)) := rfl
theorem ev_fa_sp (o n a b) : evalP (.fa n) o [.sp a b] = some (.sp a (b + n)) := rfl
theorem ev_ia (o s t rows k i) : evalP (.ia s) o [.sl t s rows, .v (.int k i)] = if 0 ≤ i ∧ i < rows.length then some (.ep (rows.getD i.toNat []) 0) else none := by
  simp [evalP]
theorem ev_iaA_ep (o l s a b k i) : evalP (.iaA l s) o [.ep a b, .v (.int k i)] = if 0 ≤ i ∧ i < (l : Int) then some (.ep a (b + i.toNat * s)) else none := rfl
theorem ev_iaA_lp (o l s a g b k i) : evalP (.iaA l s) o [.lp a g b, .v (.int k i)] = if 0 ≤ i ∧ i < (l : Int) then some (.lp a g (b + i.toNat * s)) else none := rfl
theorem ev_iaA_sp (o l s a b k i) : evalP (.iaA l s) o [.sp a b, .v (.int k i)] = if 0 ≤ i ∧ i < (l : Int) then some (.sp a (b + i.toNat * s)) else none := rfl
theorem ev_ext (o i vs) : evalP (.ext i) o [.tup vs] = vs[i]? := rfl
theorem ev_len (o t s rows) : evalP .len o [.sl t s rows] = some (.v (.int .i64 rows.length)) := rfl
theorem ev_conv (o k k' n) : evalP (.conv k) o [.v (.int k' n)] = some (.v (.int k (k.wrap n))) := rfl
theorem ev_mkfn (o f xs) : evalP (.mkfn f) o xs = (clrs xs).map (.fn f) := by
  simp only [evalP]
  cases clrs xs <;> rfl
theorem ev_slc (o lo hi mx z x r) : evalP (.slc lo hi mx z) o (x :: r) = sliceOf x (pull lo r).1 (pull hi (pull lo r).2).1 (pull mx (pull hi (pull lo r).2).2).1 z := rfl
theorem ev_max (o a b) : evalP (.maxi true) o [.v (.int .i64 a), .v (.int .i64 b)] = some (.v (.int .i64 (if a < b then b else a))) := rfl
theorem ev_min (o a b) : evalP (.maxi false) o [.v (.int .i64 a), .v (.int .i64 b)] = some (.v (.int .i64 (if b < a then b else a))) := rfl

theorem evL (s g off cs n agg) : evalL (.lp s g off) (.bx g cs) s n agg = cut cs off n agg := by simp [evalL]
theorem evW (s g off x cs n) : evalW (.lp s g off) x (.bx g cs) s n = (match cellsT x with | some vs => if vs.length = n ∧ off + n ≤ cs.length then some (.bx g (splice cs off vs)) else none | none => none) := by
  unfold evalW
  cases cellsT x <;> simp
theorem pull_t (x r) : pull true (x :: r) = (some x, r) := rfl
theorem pull_f (r) : pull false r = (none, r) := by cases r <;> rfl

theorem cut1 (cs off) : cut cs off 1 false = if off < cs.length then some (cs.getD off .un) else none := by
  simp [cut]
  split <;> split <;> first | rfl | omega
theorem cutA (cs off n) : cut cs off n true = if off + n ≤ cs.length then some (.ag ((cs.drop off).take n)) else none := rfl

theorem asSrc_v (t x) : PV.asSrc t (.v x) = .v x := rfl
theorem asSrc_sl (t a b c) : PV.asSrc t (.sl a b c) = .sl a b c := rfl
theorem asSrc_ag (t a) : PV.asSrc t (.ag a) = .ag a := rfl
theorem asSrc_tup (t a) : PV.asSrc t (.tup a) = .tup a := rfl
theorem asSrc_bx (t g c) : PV.asSrc t (.bx g c) = .lp t g 0 := rfl
theorem asSrc_lp (t a b c) : PV.asSrc t (.lp a b c) = .lp a b c := rfl
theorem asSrc_ep (t a b) : PV.asSrc t (.ep a b) = .ep a b := rfl
theorem asSrc_sp (t a b) : PV.asSrc t (.sp a b) = .sp a b := rfl
theorem asSrc_fn (t a b) : PV.asSrc t (.fn a b) = .fn a b := rfl
theorem asSrc_ud (t) : PV.asSrc t .ud = .ud := rfl
theorem genOf_bx (g c) : PV.genOf (.bx g c) = g := rfl
theorem genOf_un : PV.genOf .un = 0 := rfl

theorem cells0_v (x) : cells0 (.v x) = some [.v x] := rfl
theorem cells0_sl (a b c) : cells0 (.sl a b c) = some [.sl 0 b c] := rfl
theorem cells0_sp (a b) : cells0 (.sp a b) = some [.sp a b] := rfl
theorem cells0_fn (a b) : cells0 (.fn a b) = some [.fn a b] := rfl
theorem cells0_ag (a) : cells0 (.ag a) = clrs a := rfl
theorem clrs_nil : clrs [] = some [] := rfl
theorem clrs_v (x r) : clrs (.v x :: r) = (clrs r).map (.v x :: ·) := by simp only [clrs, clrC]; cases clrs r <;> rfl
theorem clrs_sl (a b c r) : clrs (.sl a b c :: r) = (clrs r).map (.sl 0 b c :: ·) := by simp only [clrs, clrC]; cases clrs r <;> rfl
theorem clrs_sp (a b r) : clrs (.sp a b :: r) = (clrs r).map (.sp a b :: ·) := by simp only [clrs, clrC]; cases clrs r <;> rfl
theorem clrs_fn (a b r) : clrs (.fn a b :: r) = (clrs r).map (.fn a b :: ·) := by simp only [clrs, clrC]; cases clrs r <;> rfl
theorem clrAll_nil : clrAll [] = some [] := rfl
theorem clrAll_cons (x r) : clrAll (x :: r) = (clr x).bind fun y => (clrAll r).map (y :: ·) := by
  simp only [clrAll]
  cases clr x <;> cases clrAll r <;> rfl
theorem clr_v (x) : clr (.v x) = some (.v x) := rfl
theorem clr_sl (a b c) : clr (.sl a b c) = some (.sl 0 b c) := rfl
theorem clr_sp (a b) : clr (.sp a b) = some (.sp a b) := rfl
theorem clr_fn (a b) : clr (.fn a b) = some (.fn a b) := rfl
theorem clr_ag (a) : clr (.ag a) = (clrs a).map .ag := rfl
theorem resOf_t (regs s) : resOf regs (.t s) = clr ((regs.getD s .un).asSrc s) := rfl
theorem resOf_c (regs s n agg) : resOf regs (.c s n agg) = (match regs.getD s .un with
    | .bx _ cs => (match cut cs 0 n agg with | some x => clr x | none => none)
    | _ => none) := rfl
theorem resAll_nil (regs) : resAll regs [] = some [] := rfl
theorem resAll_cons (regs r l) : resAll regs (r :: l) = (resOf regs r).bind fun x => (resAll regs l).map (x :: ·) := by
  simp only [resAll]
  cases resOf regs r <;> cases resAll regs l <;> rfl
theorem resPV_1 (x) : resPV [x] = x := rfl
theorem resPV_0 : resPV [] = .tup [] := rfl
theorem resPV_2 (x y l) : resPV (x :: y :: l) = .tup (x :: y :: l) := rfl

theorem e_ldS (c n agg id off sh lv tk) : evalE c (.ldS n agg) [.sp id off] ⟨sh, lv, tk⟩ = (getB sh.boxes id).bind fun cs => (cut cs off n agg).map fun r => (r, ⟨sh, lv, tk⟩) := by
  simp only [evalE]
  cases h : getB sh.boxes id with
  | none => rfl
  | some cs => cases h2 : cut cs off n agg <;> simp [h2]
theorem e_stS (c n id off x sh lv tk) : evalE c (.stS n) [.sp id off, x] ⟨sh, lv, tk⟩ = (getB sh.boxes id).bind fun cs => (cells0 x).bind fun vs => if vs.length = n ∧ off + n ≤ cs.length then some (.un, ⟨⟨setB sh.boxes id (splice cs off vs), sh.nx⟩, lv, tk⟩) else none := by
  simp only [evalE]
  cases h : getB sh.boxes id with
  | none => rfl
  | some cs => cases h2 : cells0 x <;> simp
theorem e_allocS (c z sh lv tk) : evalE c (.allocS z) [] ⟨sh, lv, tk⟩ = (clrs z).map fun z => (.sp sh.nx 0, ⟨⟨(sh.nx, z) :: sh.boxes, sh.nx + 1⟩, lv, tk⟩) := by
  simp only [evalE]
  cases clrs z <;> rfl
theorem e_boxS (c x sh lv tk) : evalE c .boxS [x] ⟨sh, lv, tk⟩ = (cells0 x).map fun z => (.sp sh.nx 0, ⟨⟨(sh.nx, z) :: sh.boxes, sh.nx + 1⟩, lv, tk⟩) := by
  simp only [evalE]
  cases cells0 x <;> rfl

/-- May this token be appended to? -/
def Tok (lv : Nat → Bool) (tk t : Nat) : Prop := t = 1 ∨ (2 ≤ t ∧ t < tk ∧ lv t = true)
def lvApp (lv : Nat → Bool) (tk t : Nat) : Nat → Bool := fun x => if x = tk then true else if x = t then false else lv x
theorem e_app {c sz t rows t' z' rows' sh lv tk} (h : Tok lv tk t) (hl : rows.length + rows'.length ≤ appMax) (hz : z' = sz ∨ rows' = []) :
    evalE c (.app sz) [.sl t sz rows, .sl t' z' rows'] ⟨sh, lv, tk⟩ = some (.sl tk sz (rows ++ rows'), ⟨sh, lvApp lv tk t, tk + 1⟩) := by
  have h1 : appOk lv t sz sz rows z' rows' = true := by
    unfold appOk
    have hz' : (decide (z' = sz) || rows'.isEmpty) = true := by
      rcases hz with h | h <;> simp [h]
    simp only [hz', hl, decide_true, Bool.and_true]
    rcases h with rfl | ⟨h1, h2, h3⟩
    · simp
    · rw [if_neg (by omega)]
      simp [h1, h3]
  simp only [evalE, h1, if_true]
  rfl
/-- The first append to an empty list of another size. -/
theorem Tok.one {lv tk} : Tok lv tk 1 := .inl rfl
theorem Tok.app {lv tk t} (h : 2 ≤ tk) : Tok (lvApp lv tk t) (tk + 1) tk := .inr ⟨h, by omega, by simp [lvApp]⟩
theorem Tok.other {lv tk t t'} (h : Tok lv tk t') (hn : t' ≠ t) : Tok (lvApp lv tk t) (tk + 1) t' := by
  rcases h with rfl | ⟨h1, h2, h3⟩
  · exact .inl rfl
  · exact .inr ⟨h1, by omega, by simp [lvApp, h3, hn, show t' ≠ tk by omega]⟩

theorem wrap_i64 {x : Int} (h : -9223372036854775808 ≤ x ∧ x ≤ 9223372036854775807) : IntKind.i64.wrap x = x := by
  simp only [IntKind.wrap, IntKind.signed, IntKind.bits]
  first | omega | (simp; omega) | (split <;> omega)
end
end Go.Pi
