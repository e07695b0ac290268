/- Runs with what comes after as data: nothing is looked into before its turn. -/
import Derived.Test.YtckcklkbdbafbaaDoorPiW
set_option linter.unusedVariables false
set_option linter.unusedSimpArgs false
namespace Go.Pi
open Go
open PV (genOf asSrc clrC clrs clr clrAll cellsT cells0)

def PK.pureK (k : PK) : Bool := !k.eff && (match k with | .stL _ => false | _ => true)
def PK.effK (k : PK) : Bool := k.eff && (match k with | .callF _ | .callV | .stL _ => false | _ => true)
theorem bk_mv : (PK.mv).boxes = false := rfl
theorem bk_pick : (PK.pick).boxes = false := rfl
theorem bk_alloc {z} : (PK.alloc z).boxes = true := rfl
theorem bk_box : (PK.box).boxes = true := rfl
theorem bk_build {z p} : (PK.build z p).boxes = false := rfl
theorem bk_bslice {z a b p} : (PK.bslice z a b p).boxes = false := rfl
theorem bk_ldE {n a} : (PK.ldE n a).boxes = false := rfl
theorem bk_nilck : (PK.nilck).boxes = false := rfl
theorem bk_bin {o} : (PK.bin o).boxes = false := rfl
theorem bk_binB {o} : (PK.binB o).boxes = false := rfl
theorem bk_uno {o} : (PK.uno o).boxes = false := rfl
theorem bk_fld {a b c} : (PK.fld a b c).boxes = false := rfl
theorem bk_fa {a} : (PK.fa a).boxes = false := rfl
theorem bk_ia {a} : (PK.ia a).boxes = false := rfl
theorem bk_iaA {a b} : (PK.iaA a b).boxes = false := rfl
theorem bk_ext {a} : (PK.ext a).boxes = false := rfl
theorem bk_len : (PK.len).boxes = false := rfl
theorem bk_maxi {a} : (PK.maxi a).boxes = false := rfl
theorem bk_slc {a b c d} : (PK.slc a b c d).boxes = false := rfl
theorem bk_mkfn {f} : (PK.mkfn f).boxes = false := rfl
theorem bk_conv {k} : (PK.conv k).boxes = false := rfl
theorem bk_ldS {n a} : (PK.ldS n a).boxes = false := rfl
theorem bk_app {z} : (PK.app z).boxes = false := rfl
theorem bk_allocS {z} : (PK.allocS z).boxes = false := rfl
theorem bk_boxS : (PK.boxS).boxes = false := rfl
theorem bk_stS {n} : (PK.stS n).boxes = false := rfl
theorem bk_ldL {n a} : (PK.ldL n a).boxes = false := rfl
theorem bk_stL {n} : (PK.stL n).boxes = false := rfl
theorem bk_callF {f} : (PK.callF f).boxes = false := rfl
theorem bk_callV : (PK.callV).boxes = false := rfl

inductive Fr where
  | pc (p : PC)
  | blk (id : Nat)

section
variable (T : Nat → Option PF) (G : Glob)

def KP : List Fr → Out → (Out → Prop) → Prop
  | [], o, Q => Q o
  | .pc p :: k, .nrm s, Q => WP T G p s fun o => KP k o Q
  | .pc _ :: k, .ext i s, Q => KP k (.ext i s) Q
  | .pc _ :: k, .ret s, Q => KP k (.ret s) Q
  | .blk _ :: k, .nrm s, Q => KP k (.nrm s) Q
  | .blk id :: k, .ext i s, Q => if i = id then KP k (.nrm s) Q else KP k (.ext i s) Q
  | .blk _ :: k, .ret s, Q => KP k (.ret s) Q

/-- Operations, then what comes after. -/
def R (l : List PI) (k : List Fr) (s : St) (Q : Out → Prop) : Prop := WS T G l s fun s' => KP T G k (.nrm s') Q
def condR (x : PV) (a b : PC) (k : List Fr) (s : St) (Q : Out → Prop) : Prop := condP x (R T G [] (.pc a :: k) s Q) (R T G [] (.pc b :: k) s Q)
def exR (id : Nat) (k : List Fr) (s : St) (Q : Out → Prop) : Prop := KP T G k (.ext id s) Q
def opR (x : Option PV) (d : Nat) (l : List PI) (k : List Fr) (regs : List PV) (e : Eff) (Q : Out → Prop) : Prop := obind x fun y => R T G l k ⟨regs.set d y, e⟩ Q
def efR (x : Option (PV × Eff)) (d : Option Nat) (l : List PI) (k : List Fr) (regs : List PV) (Q : Out → Prop) : Prop := obind x fun y => R T G l k ⟨putD regs d y.1, y.2⟩ Q
def clR (x : Option (List PV)) (f : Nat) (d : Option Nat) (l : List PI) (k : List Fr) (regs : List PV) (sh : Sh) (lv : Nat → Bool) (tk : Nat) (Q : Out → Prop) : Prop :=
  obind x fun ys => Runs T G f ys sh fun r sh' => R T G l k ⟨putD regs d r, ⟨sh', lv, tk⟩⟩ Q
def gR (x : PV) (b : Bool) (i : PI) (l : List PI) (k : List Fr) (s : St) (Q : Out → Prop) : Prop := gP x b (R T G (i :: l) k s Q) (if i.k.boxes then False else R T G l k ⟨putD s.regs i.d .ud, s.ef⟩ Q)
def reR (x : Option (List PV)) (drop : Bool) (n : Nat) (sh : Sh) (Q : PV → Sh → Prop) : Prop := obind x fun l => Q (resPV l) (dropSh drop n sh)
def FQ (res : List RS) (drop : Bool) (n : Nat) (Q : PV → Sh → Prop) : Out → Prop
  | .nrm s => reR (resAll s.regs res) drop n s.ef.sh Q
  | .ret s => reR (resAll s.regs res) drop n s.ef.sh Q
  | .ext _ _ => False
end

section
variable {T : Nat → Option PF} {G : Glob} {l : List PI} {k : List Fr} {s : St} {Q : Out → Prop} {regs : List PV} {e : Eff} {sh : Sh} {lv : Nat → Bool} {tk : Nat}

theorem R.nil : R T G [] [] s Q = Q (.nrm s) := by simp only [R, WS.nil, KP]
theorem R.blk {id} : R T G [] (.blk id :: k) s Q = R T G [] k s Q := by simp only [R, WS.nil, KP]
theorem R.skip : R T G [] (.pc .skip :: k) s Q = R T G [] k s Q := by simp only [R, WS.nil, KP, WP.skip]
theorem R.ops : R T G [] (.pc (.ops l) :: k) s Q = R T G l k s Q := by simp only [R, WS.nil, KP, WP.ops]
theorem KP.on {p} : ∀ {o : Out}, o.on (fun s' => WP T G p s' fun o => KP T G k o Q) (fun o => KP T G k o Q) = KP T G (.pc p :: k) o Q
  | .nrm _ => rfl
  | .ext _ _ => rfl
  | .ret _ => rfl
theorem KP.blk {id} : ∀ {o : Out}, o.blk id (fun o => KP T G k o Q) = KP T G (.blk id :: k) o Q
  | .nrm _ => rfl
  | .ext _ _ => rfl
  | .ret _ => rfl
theorem R.seq {a b} : R T G [] (.pc (.seq a b) :: k) s Q = R T G [] (.pc a :: .pc b :: k) s Q := by
  unfold R
  rw [WS.nil, WS.nil]
  show WP T G (.seq a b) s (fun o => KP T G k o Q) = WP T G a s fun o => KP T G (.pc b :: k) o Q
  rw [WP.seq]
  congr 1
  funext o
  exact KP.on
theorem R.block {id b} : R T G [] (.pc (.block id b) :: k) s Q = R T G [] (.pc b :: .blk id :: k) s Q := by
  unfold R
  rw [WS.nil, WS.nil]
  show WP T G (.block id b) s (fun o => KP T G k o Q) = WP T G b s fun o => KP T G (.blk id :: k) o Q
  rw [WP.block]
  congr 1
  funext o
  exact KP.blk
theorem R.cond {c a b} : R T G [] (.pc (.cond c a b) :: k) ⟨regs, e⟩ Q = condR T G (src G (fun t => regs.getD t .un) c) a b k ⟨regs, e⟩ Q := by
  simp only [R, WS.nil, KP, WP.cond, condR]
theorem R.exit {id} : R T G [] (.pc (.exit id) :: k) s Q = exR T G id k s Q := by simp only [R, WS.nil, KP, WP.exit, exR]
theorem KP.ret : ∀ {k : List Fr}, KP T G k (.ret s) Q = Q (.ret s)
  | [] => rfl
  | .pc _ :: k => KP.ret (k := k)
  | .blk _ :: k => KP.ret (k := k)
theorem R.ret : R T G [] (.pc .ret :: k) s Q = Q (.ret s) := by simp only [R, WS.nil, KP, WP.ret, KP.ret]
theorem R.loop {b} (h : R T G [] (.pc b :: .pc (.loop b) :: k) s Q) : R T G [] (.pc (.loop b) :: k) s Q := by
  unfold R at h ⊢
  rw [WS.nil] at h ⊢
  refine WP.loop (h.mono fun o ho => ?_)
  rw [KP.on]
  exact ho
theorem R.loop_eq {b} : R T G [] (.pc (.loop b) :: k) s Q = R T G [] (.pc b :: .pc (.loop b) :: k) s Q := by
  apply propext
  refine ⟨fun h => ?_, R.loop⟩
  unfold R at h ⊢
  rw [WS.nil] at h ⊢
  obtain ⟨n, o, h, hq⟩ := h
  simp only [exec] at h
  cases n with
  | zero => simp [iter] at h
  | succ n =>
    simp only [iter] at h
    cases hb : exec (callN T G (n + 1)) G (n + 1) b s with
    | none => rw [hb] at h; cases h
    | some o1 =>
      rw [hb] at h
      refine ⟨n + 1, o1, hb, ?_⟩
      show KP T G (.pc (.loop b) :: k) o1 Q
      rw [← KP.on]
      cases o1 with
      | nrm s' =>
        refine ⟨n + 1, o, ?_, hq⟩
        simp only [exec]
        exact iter_mono (fun _ _ h => h) (Nat.le_succ n) h
      | ext i s' => cases h; exact hq
      | ret s' => cases h; exact hq
theorem exR.nil {id} : exR T G id [] s Q = Q (.ext id s) := rfl
theorem exR.pc {id p} : exR T G id (.pc p :: k) s Q = exR T G id k s Q := rfl
theorem exR.blk {id i} : exR T G id (.blk i :: k) s Q = if id = i then R T G [] k s Q else exR T G id k s Q := by
  simp only [exR, KP, R, WS.nil]
theorem condR.t {a b} : condR T G (.v (.bool true)) a b k s Q = R T G [] (.pc a :: k) s Q := by simp only [condR, condP_bool, if_true]
theorem condR.f {a b} : condR T G (.v (.bool false)) a b k s Q = R T G [] (.pc b :: k) s Q := by simp only [condR, condP_bool, Bool.false_eq_true, if_false]
theorem condR.ite {x : Bool} {a b} : condR T G (.v (.bool x)) a b k s Q = if x = true then R T G [] (.pc a :: k) s Q else R T G [] (.pc b :: k) s Q := by simp only [condR, condP_bool]

theorem R.pure {kk : PK} {rs : List Src} {d : Nat} (hh : kk.pureK = true) :
    R T G (⟨kk, rs, some d, none, none⟩ :: l) k ⟨regs, e⟩ Q = opR T G (evalP kk (regs.getD d .un) (rs.map (src G fun t => regs.getD t .un))) d l k regs e Q := by
  unfold R opR
  rw [WS.cons]
  cases kk <;> first | exact W1.p rfl rfl | cases hh
theorem R.ldL {n : Nat} {agg : Bool} {x : Src} {d r : Nat} :
    R T G (⟨.ldL n agg, [x], some d, some r, none⟩ :: l) k ⟨regs, e⟩ Q = opR T G (evalL (src G (fun t => regs.getD t .un) x) (regs.getD r .un) r n agg) d l k regs e Q := by
  simp only [R, WS.cons, W1.ldL, opR]
theorem R.stL {n : Nat} {p x : Src} {d : Option Nat} {r : Nat} :
    R T G (⟨.stL n, [p, x], d, some r, none⟩ :: l) k ⟨regs, e⟩ Q = opR T G (evalW (src G (fun t => regs.getD t .un) p) (src G (fun t => regs.getD t .un) x) (regs.getD r .un) r n) r l k regs e Q := by
  simp only [R, WS.cons, W1.stL, opR]
theorem R.call {f : Nat} {rs : List Src} {d : Option Nat} :
    R T G (⟨.callF f, rs, d, none, none⟩ :: l) k ⟨regs, ⟨sh, lv, tk⟩⟩ Q = clR T G (clrAll (rs.map (src G fun t => regs.getD t .un))) f d l k regs sh lv tk Q := by
  simp only [R, WS.cons, W1.call, clR]
theorem R.ef {kk : PK} {rs : List Src} {d : Option Nat} (hh : kk.effK = true) :
    R T G (⟨kk, rs, d, none, none⟩ :: l) k ⟨regs, e⟩ Q = efR T G (evalE noCall kk (rs.map (src G fun t => regs.getD t .un)) e) d l k regs Q := by
  unfold R efR
  rw [WS.cons]
  cases kk <;> first | exact W1.e rfl rfl | cases hh
theorem R.p_mv {rs : List Src} {d : Nat} : R T G (⟨.mv, rs, some d, none, none⟩ :: l) k ⟨regs, e⟩ Q = opR T G (evalP .mv (regs.getD d .un) (rs.map (src G fun t => regs.getD t .un))) d l k regs e Q := R.pure rfl
theorem R.p_pick {rs : List Src} {d : Nat} : R T G (⟨.pick, rs, some d, none, none⟩ :: l) k ⟨regs, e⟩ Q = opR T G (evalP .pick (regs.getD d .un) (rs.map (src G fun t => regs.getD t .un))) d l k regs e Q := R.pure rfl
theorem R.p_alloc {rs : List Src} {d : Nat} {z} : R T G (⟨(.alloc z), rs, some d, none, none⟩ :: l) k ⟨regs, e⟩ Q = opR T G (evalP (.alloc z) (regs.getD d .un) (rs.map (src G fun t => regs.getD t .un))) d l k regs e Q := R.pure rfl
theorem R.p_box {rs : List Src} {d : Nat} : R T G (⟨.box, rs, some d, none, none⟩ :: l) k ⟨regs, e⟩ Q = opR T G (evalP .box (regs.getD d .un) (rs.map (src G fun t => regs.getD t .un))) d l k regs e Q := R.pure rfl
theorem R.p_build {rs : List Src} {d : Nat} {z p} : R T G (⟨(.build z p), rs, some d, none, none⟩ :: l) k ⟨regs, e⟩ Q = opR T G (evalP (.build z p) (regs.getD d .un) (rs.map (src G fun t => regs.getD t .un))) d l k regs e Q := R.pure rfl
theorem R.p_bslice {rs : List Src} {d : Nat} {z a b p} : R T G (⟨(.bslice z a b p), rs, some d, none, none⟩ :: l) k ⟨regs, e⟩ Q = opR T G (evalP (.bslice z a b p) (regs.getD d .un) (rs.map (src G fun t => regs.getD t .un))) d l k regs e Q := R.pure rfl
theorem R.p_ldE {rs : List Src} {d : Nat} {n a} : R T G (⟨(.ldE n a), rs, some d, none, none⟩ :: l) k ⟨regs, e⟩ Q = opR T G (evalP (.ldE n a) (regs.getD d .un) (rs.map (src G fun t => regs.getD t .un))) d l k regs e Q := R.pure rfl
theorem R.p_nilck {rs : List Src} {d : Nat} : R T G (⟨.nilck, rs, some d, none, none⟩ :: l) k ⟨regs, e⟩ Q = opR T G (evalP .nilck (regs.getD d .un) (rs.map (src G fun t => regs.getD t .un))) d l k regs e Q := R.pure rfl
theorem R.p_bin {rs : List Src} {d : Nat} {o} : R T G (⟨(.bin o), rs, some d, none, none⟩ :: l) k ⟨regs, e⟩ Q = opR T G (evalP (.bin o) (regs.getD d .un) (rs.map (src G fun t => regs.getD t .un))) d l k regs e Q := R.pure rfl
theorem R.p_binB {rs : List Src} {d : Nat} {o} : R T G (⟨(.binB o), rs, some d, none, none⟩ :: l) k ⟨regs, e⟩ Q = opR T G (evalP (.binB o) (regs.getD d .un) (rs.map (src G fun t => regs.getD t .un))) d l k regs e Q := R.pure rfl
theorem R.p_uno {rs : List Src} {d : Nat} {o} : R T G (⟨(.uno o), rs, some d, none, none⟩ :: l) k ⟨regs, e⟩ Q = opR T G (evalP (.uno o) (regs.getD d .un) (rs.map (src G fun t => regs.getD t .un))) d l k regs e Q := R.pure rfl
theorem R.p_fld {rs : List Src} {d : Nat} {a b c} : R T G (⟨(.fld a b c), rs, some d, none, none⟩ :: l) k ⟨regs, e⟩ Q = opR T G (evalP (.fld a b c) (regs.getD d .un) (rs.map (src G fun t => regs.getD t .un))) d l k regs e Q := R.pure rfl
theorem R.p_fa {rs : List Src} {d : Nat} {a} : R T G (⟨(.fa a), rs, some d, none, none⟩ :: l) k ⟨regs, e⟩ Q = opR T G (evalP (.fa a) (regs.getD d .un) (rs.map (src G fun t => regs.getD t .un))) d l k regs e Q := R.pure rfl
theorem R.p_ia {rs : List Src} {d : Nat} {a} : R T G (⟨(.ia a), rs, some d, none, none⟩ :: l) k ⟨regs, e⟩ Q = opR T G (evalP (.ia a) (regs.getD d .un) (rs.map (src G fun t => regs.getD t .un))) d l k regs e Q := R.pure rfl
theorem R.p_iaA {rs : List Src} {d : Nat} {a b} : R T G (⟨(.iaA a b), rs, some d, none, none⟩ :: l) k ⟨regs, e⟩ Q = opR T G (evalP (.iaA a b) (regs.getD d .un) (rs.map (src G fun t => regs.getD t .un))) d l k regs e Q := R.pure rfl
theorem R.p_ext {rs : List Src} {d : Nat} {a} : R T G (⟨(.ext a), rs, some d, none, none⟩ :: l) k ⟨regs, e⟩ Q = opR T G (evalP (.ext a) (regs.getD d .un) (rs.map (src G fun t => regs.getD t .un))) d l k regs e Q := R.pure rfl
theorem R.p_len {rs : List Src} {d : Nat} : R T G (⟨.len, rs, some d, none, none⟩ :: l) k ⟨regs, e⟩ Q = opR T G (evalP .len (regs.getD d .un) (rs.map (src G fun t => regs.getD t .un))) d l k regs e Q := R.pure rfl
theorem R.p_maxi {rs : List Src} {d : Nat} {a} : R T G (⟨(.maxi a), rs, some d, none, none⟩ :: l) k ⟨regs, e⟩ Q = opR T G (evalP (.maxi a) (regs.getD d .un) (rs.map (src G fun t => regs.getD t .un))) d l k regs e Q := R.pure rfl
theorem R.p_slc {rs : List Src} {d : Nat} {a b c z} : R T G (⟨(.slc a b c z), rs, some d, none, none⟩ :: l) k ⟨regs, e⟩ Q = opR T G (evalP (.slc a b c z) (regs.getD d .un) (rs.map (src G fun t => regs.getD t .un))) d l k regs e Q := R.pure rfl
theorem R.p_mkfn {rs : List Src} {d : Nat} {f} : R T G (⟨(.mkfn f), rs, some d, none, none⟩ :: l) k ⟨regs, e⟩ Q = opR T G (evalP (.mkfn f) (regs.getD d .un) (rs.map (src G fun t => regs.getD t .un))) d l k regs e Q := R.pure rfl
theorem R.p_conv {rs : List Src} {d : Nat} {kk} : R T G (⟨(.conv kk), rs, some d, none, none⟩ :: l) k ⟨regs, e⟩ Q = opR T G (evalP (.conv kk) (regs.getD d .un) (rs.map (src G fun t => regs.getD t .un))) d l k regs e Q := R.pure rfl
theorem R.e_ldS {rs : List Src} {d : Option Nat} {n a} : R T G (⟨(.ldS n a), rs, d, none, none⟩ :: l) k ⟨regs, e⟩ Q = efR T G (evalE noCall (.ldS n a) (rs.map (src G fun t => regs.getD t .un)) e) d l k regs Q := R.ef rfl
theorem R.e_app {rs : List Src} {d : Option Nat} {z} : R T G (⟨(.app z), rs, d, none, none⟩ :: l) k ⟨regs, e⟩ Q = efR T G (evalE noCall (.app z) (rs.map (src G fun t => regs.getD t .un)) e) d l k regs Q := R.ef rfl
theorem R.e_allocS {rs : List Src} {d : Option Nat} {z} : R T G (⟨(.allocS z), rs, d, none, none⟩ :: l) k ⟨regs, e⟩ Q = efR T G (evalE noCall (.allocS z) (rs.map (src G fun t => regs.getD t .un)) e) d l k regs Q := R.ef rfl
theorem R.e_boxS {rs : List Src} {d : Option Nat} : R T G (⟨.boxS, rs, d, none, none⟩ :: l) k ⟨regs, e⟩ Q = efR T G (evalE noCall .boxS (rs.map (src G fun t => regs.getD t .un)) e) d l k regs Q := R.ef rfl
theorem R.e_stS {rs : List Src} {d : Option Nat} {n} : R T G (⟨(.stS n), rs, d, none, none⟩ :: l) k ⟨regs, e⟩ Q = efR T G (evalE noCall (.stS n) (rs.map (src G fun t => regs.getD t .un)) e) d l k regs Q := R.ef rfl
theorem R.g {kk : PK} {rs : List Src} {d r : Option Nat} {j : Nat} {b : Bool} :
    R T G (⟨kk, rs, d, r, some (j, b)⟩ :: l) k ⟨regs, e⟩ Q = gR T G (regs.getD j .un) b ⟨kk, rs, d, r, none⟩ l k ⟨regs, e⟩ Q := by
  simp only [R, WS.cons, W1.g, gR]
theorem gR.t {i : PI} {b : Bool} : gR T G (.v (.bool b)) b i l k s Q = R T G (i :: l) k s Q := by simp [gR, gP_bool]
theorem gR.tf {i : PI} : gR T G (.v (.bool true)) false i l k ⟨regs, e⟩ Q = if i.k.boxes then False else R T G l k ⟨putD regs i.d .ud, e⟩ Q := by simp [gR, gP_bool]
theorem gR.ft {i : PI} : gR T G (.v (.bool false)) true i l k ⟨regs, e⟩ Q = if i.k.boxes then False else R T G l k ⟨putD regs i.d .ud, e⟩ Q := by simp [gR, gP_bool]
theorem gR.ud {i : PI} {b : Bool} : gR T G .ud b i l k ⟨regs, e⟩ Q = if i.k.boxes then False else R T G l k ⟨putD regs i.d .ud, e⟩ Q := by simp [gR, gP_ud]
theorem gR.ite {i : PI} {x b : Bool} : gR T G (.v (.bool x)) b i l k ⟨regs, e⟩ Q = if x = b then R T G (i :: l) k ⟨regs, e⟩ Q else if i.k.boxes then False else R T G l k ⟨putD regs i.d .ud, e⟩ Q := by simp [gR, gP_bool]
theorem opR.sm {x d} : opR T G (some x) d l k regs e Q = R T G l k ⟨regs.set d x, e⟩ Q := rfl
theorem efR.sm {x e d} : efR T G (some (x, e)) d l k regs Q = R T G l k ⟨putD regs d x, e⟩ Q := rfl
theorem opR.no {d} : opR T G none d l k regs e Q = False := rfl
theorem efR.no {d} : efR T G none d l k regs Q = False := rfl
theorem clR.eq {f ys r sh' d} (h : ∃ n, callN T G n f ys sh = some (r, sh')) : clR T G (some ys) f d l k regs sh lv tk Q = R T G l k ⟨putD regs d r, ⟨sh', lv, tk⟩⟩ Q := by
  simp only [clR, obind]
  exact Runs.eq h _
theorem clR.use {f : Nat} {ys : List PV} {r : PV} {sh sh' : Sh} (h : ∃ n, callN T G n f ys sh = some (r, sh')) (l : List PI) (k : List Fr) (regs : List PV) (lv : Nat → Bool) (tk : Nat) (Q : Out → Prop) (d : Option Nat) :
    clR T G (some ys) f d l k regs sh lv tk Q = R T G l k ⟨putD regs d r, ⟨sh', lv, tk⟩⟩ Q := clR.eq h
theorem clR.of {f ys d} {P : PV → Sh → Prop} (h : Runs T G f ys sh P) (hp : ∀ r sh', P r sh' → R T G l k ⟨putD regs d r, ⟨sh', lv, tk⟩⟩ Q) : clR T G (some ys) f d l k regs sh lv tk Q :=
  h.mono hp
theorem FQ.nrm {res drop n} {Q : PV → Sh → Prop} : FQ res drop n Q (.nrm ⟨regs, ⟨sh, lv, tk⟩⟩) = reR (resAll regs res) drop n sh Q := rfl
theorem FQ.ret {res drop n} {Q : PV → Sh → Prop} : FQ res drop n Q (.ret ⟨regs, ⟨sh, lv, tk⟩⟩) = reR (resAll regs res) drop n sh Q := rfl
theorem reR.sm {l n} {Q : PV → Sh → Prop} : reR (some l) false n sh Q = Q (resPV l) sh := rfl
theorem reR.drop {l n} {Q : PV → Sh → Prop} : reR (some l) true n sh Q = Q (resPV l) ⟨sh.boxes.drop (sh.boxes.length - n), sh.nx⟩ := rfl

theorem e_appG {c sz z t t' z' rows rows' sh lv tk} (h : Tok lv tk t) (hs : t = 1 → z = sz ∨ rows = []) (h2 : t ≠ 1 → z = sz) :
    evalE c (.app sz) [.sl t z rows, .sl t' z' rows'] ⟨sh, lv, tk⟩ = if rows.length + rows'.length ≤ appMax ∧ (z' = sz ∨ rows' = []) then some (.sl tk sz (rows ++ rows'), ⟨sh, lvApp lv tk t, tk + 1⟩) else none := by
  have h1 : appOk lv t z sz rows z' rows' = decide (rows.length + rows'.length ≤ appMax ∧ (z' = sz ∨ rows' = [])) := by
    unfold appOk
    have e1 : (if t = 1 then decide (z = sz) || rows.isEmpty else decide (2 ≤ t) && lv t && decide (z = sz)) = true := by
      rcases h with rfl | ⟨h1, _, h3⟩
      · rcases hs rfl with h | h <;> simp [h]
      · rw [if_neg (by omega)]
        simp [h1, h3, h2 (by omega)]
    rw [e1, Bool.true_and, Bool.eq_iff_iff]
    simp [and_comm]
  simp only [evalE, h1]
  by_cases h3 : rows.length + rows'.length ≤ appMax ∧ (z' = sz ∨ rows' = [])
  · rw [if_pos h3, decide_eq_true h3]; rfl
  · rw [if_neg h3, decide_eq_false h3]; rfl
theorem e_app0 {c sz z t' z' rows' sh lv tk} :
    evalE c (.app sz) [.sl 1 z [], .sl t' z' rows'] ⟨sh, lv, tk⟩ = if rows'.length ≤ appMax ∧ (z' = sz ∨ rows' = []) then some (.sl tk sz rows', ⟨sh, lvApp lv tk 1, tk + 1⟩) else none := by
  rw [e_appG .one (fun _ => .inr rfl) (fun h => (h rfl).elim)]
  simp
theorem e_appT {c sz t rows t' z' rows' sh lv tk} (h : Tok lv tk t) :
    evalE c (.app sz) [.sl t sz rows, .sl t' z' rows'] ⟨sh, lv, tk⟩ = if rows.length + rows'.length ≤ appMax ∧ (z' = sz ∨ rows' = []) then some (.sl tk sz (rows ++ rows'), ⟨sh, lvApp lv tk t, tk + 1⟩) else none :=
  e_appG h (fun _ => .inl rfl) (fun _ => rfl)
theorem tok1 {lv tk} : Tok lv tk 1 = True := eq_true .one
theorem tokA {lv tk t} (h : 2 ≤ tk) : Tok (lvApp lv tk t) (tk + 1) tk = True := eq_true (.app h)
theorem sl_lo {t z k a} {rows : List (List PV)} : sliceOf (.sl t z rows) (some (.v (.int k a))) none none z = if 0 ≤ a ∧ a ≤ (rows.length : Int) then some (.sl 0 z (rows.drop a.toNat)) else none := by
  simp only [sliceOf, bnd, decide_true, Bool.true_or, if_true]
  by_cases h : 0 ≤ a ∧ a ≤ (rows.length : Int)
  · rw [if_pos ⟨h.1, h.2, Int.le_refl _⟩, if_pos h, List.take_of_length_le]
    rw [List.length_drop]
    omega
  · rw [if_neg (fun h' => h ⟨h'.1, h'.2.1⟩), if_neg h]
theorem sl_hi {t z k a} {rows : List (List PV)} : sliceOf (.sl t z rows) none (some (.v (.int k a))) none z = if 0 ≤ a ∧ a ≤ (rows.length : Int) then some (.sl 0 z (rows.take a.toNat)) else none := by
  simp only [sliceOf, bnd, decide_true, Bool.true_or, if_true]
  by_cases h : 0 ≤ a ∧ a ≤ (rows.length : Int)
  · rw [if_pos ⟨Int.le_refl _, h.1, h.2⟩, if_pos h]
    simp
  · rw [if_neg (fun h' => h ⟨h'.2.1, h'.2.2⟩), if_neg h]
theorem sl_full {t z z' k k' a} {rows : List (List PV)} (hz : z = z' ∨ rows = []) (ha : a = (rows.length : Int)) : sliceOf (.sl t z rows) none (some (.v (.int k a))) (some (.v (.int k' a))) z' = some (.sl 1 z' rows) := by
  have h1 : (decide (z = z') || rows.isEmpty) = true := by rcases hz with h | h <;> simp [h]
  subst ha
  simp only [sliceOf, bnd, h1, if_true]
  rw [if_pos ⟨Int.le_refl _, by omega, Int.le_refl _⟩]
  simp
theorem run_of {f : Nat} {pf : PF} (hT : T f = some pf) {args : List PV} {Q} (h : R T G [] [.pc pf.body] (startSt pf.nt args sh) (FQ pf.res pf.drop sh.boxes.length Q)) : Runs T G f args sh Q := by
  rw [runs_of hT]
  unfold R at h
  rw [WS.nil] at h
  refine WP.mono h fun o ho => ?_
  cases o with
  | nrm s => exact ho
  | ret s => exact ho
  | ext i s => exact ho.elim
theorem run_eq {f : Nat} {args : List PV} {r sh'} (h : Runs T G f args sh fun r' s' => r' = r ∧ s' = sh') : ∃ n, callN T G n f args sh = some (r, sh') := by
  obtain ⟨n, r', s', h, rfl, rfl⟩ := h
  exact ⟨n, h⟩
end
end Go.Pi
