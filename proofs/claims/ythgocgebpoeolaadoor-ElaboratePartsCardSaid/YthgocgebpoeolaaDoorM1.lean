/- Renaming, substitution and reduction of terms: plain laws, no program in sight. -/
import Derived.Test.YthgocgebpoeolaaDoorTQ
set_option linter.unusedSimpArgs false
set_option linter.unusedVariables false
namespace Go.Pi.Terms

def liftR (r : Nat → Nat) : Nat → Nat
  | 0 => 0
  | i + 1 => r i + 1
def Tm.ren (r : Nat → Nat) : Tm → Tm
  | .var i => .var (r i)
  | .lam s a => .lam s (a.ren (liftR r))
  | .app a b => .app (a.ren r) (b.ren r)
  | .zero => .zero
  | .succ a => .succ (a.ren r)
  | .recu s a b c => .recu s (a.ren r) (b.ren r) (c.ren r)
  | .nil => .nil
  | .cons a b => .cons (a.ren r) (b.ren r)
  | .fold s a b c => .fold s (a.ren r) (b.ren r) (c.ren r)
  | .pair a b => .pair (a.ren r) (b.ren r)
  | .fst a => .fst (a.ren r)
  | .snd a => .snd (a.ren r)
  | .unit => .unit
def liftS (σ : Nat → Tm) : Nat → Tm
  | 0 => .var 0
  | i + 1 => (σ i).ren Nat.succ
def Tm.sub (σ : Nat → Tm) : Tm → Tm
  | .var i => σ i
  | .lam s a => .lam s (a.sub (liftS σ))
  | .app a b => .app (a.sub σ) (b.sub σ)
  | .zero => .zero
  | .succ a => .succ (a.sub σ)
  | .recu s a b c => .recu s (a.sub σ) (b.sub σ) (c.sub σ)
  | .nil => .nil
  | .cons a b => .cons (a.sub σ) (b.sub σ)
  | .fold s a b c => .fold s (a.sub σ) (b.sub σ) (c.sub σ)
  | .pair a b => .pair (a.sub σ) (b.sub σ)
  | .fst a => .fst (a.sub σ)
  | .snd a => .snd (a.sub σ)
  | .unit => .unit

theorem liftR_comp (r r' : Nat → Nat) : (fun i => liftR r (liftR r' i)) = liftR fun i => r (r' i) := by
  funext i; cases i <;> rfl
theorem ren_ren (t : Tm) : ∀ (r r' : Nat → Nat), (t.ren r').ren r = t.ren fun i => r (r' i) := by
  induction t <;> intro r r' <;> simp only [Tm.ren, *] <;> simp only [liftR_comp]
theorem liftS_ren (σ : Nat → Tm) (r : Nat → Nat) : (fun i => liftS σ (liftR r i)) = liftS fun i => σ (r i) := by
  funext i; cases i <;> rfl
theorem sub_ren (t : Tm) : ∀ (σ : Nat → Tm) (r : Nat → Nat), (t.ren r).sub σ = t.sub fun i => σ (r i) := by
  induction t <;> intro σ r <;> simp only [Tm.ren, Tm.sub, *] <;> simp only [liftS_ren]
theorem ren_liftS (σ : Nat → Tm) (r : Nat → Nat) : (fun i => (liftS σ i).ren (liftR r)) = liftS fun i => (σ i).ren r := by
  funext i
  cases i with
  | zero => rfl
  | succ i => simp only [liftS, ren_ren]; rfl
theorem ren_sub (t : Tm) : ∀ (σ : Nat → Tm) (r : Nat → Nat), (t.sub σ).ren r = t.sub fun i => (σ i).ren r := by
  induction t <;> intro σ r <;> simp only [Tm.ren, Tm.sub, *] <;> simp only [ren_liftS]
theorem liftS_sub (σ τ : Nat → Tm) : (fun i => (liftS τ i).sub (liftS σ)) = liftS fun i => (τ i).sub σ := by
  funext i
  cases i with
  | zero => rfl
  | succ i => simp only [liftS, sub_ren, ren_sub]
theorem sub_sub (t : Tm) : ∀ (σ τ : Nat → Tm), (t.sub τ).sub σ = t.sub fun i => (τ i).sub σ := by
  induction t <;> intro σ τ <;> simp only [Tm.sub, *] <;> simp only [liftS_sub]
theorem liftS_var : liftS .var = .var := by
  funext i; cases i <;> rfl
theorem sub_var (t : Tm) : t.sub .var = t := by
  induction t <;> simp only [Tm.sub, liftS_var, *]
theorem ren_eq_sub (t : Tm) : ∀ r : Nat → Nat, t.ren r = t.sub fun i => .var (r i) := by
  have h : ∀ r : Nat → Nat, liftS (fun i => .var (r i)) = fun i => .var (liftR r i) := by
    intro r; funext i; cases i <;> rfl
  induction t <;> intro r <;> simp only [Tm.ren, Tm.sub, *]

/-- One term in place of the variable 0. -/
def inst (b : Tm) : Nat → Tm
  | 0 => b
  | i + 1 => .var i
theorem sub_inst (a b : Tm) (σ : Nat → Tm) : (a.sub (inst b)).sub σ = (a.sub (liftS σ)).sub (inst (b.sub σ)) := by
  rw [sub_sub, sub_sub]
  congr 1
  funext i
  cases i with
  | zero => rfl
  | succ i =>
    simp only [inst, liftS, Tm.sub, sub_ren]
    exact (sub_var _).symm
theorem ren_inst (a b : Tm) (r : Nat → Nat) : (a.sub (inst b)).ren r = (a.ren (liftR r)).sub (inst (b.ren r)) := by
  rw [ren_sub, sub_ren]
  congr 1
  funext i
  cases i <;> rfl

/-- As the program lifts: variables from k on are n greater. -/
def Tm.up (k n : Nat) (t : Tm) : Tm := t.ren fun i => if k ≤ i then i + n else i
/-- As the program puts: a term in place of the variable k. -/
def Tm.put (t : Tm) (k : Nat) (s : Tm) : Tm := t.sub fun i => if i = k then s.up 0 k else if k < i then .var (i - 1) else .var i
theorem up_zero (t : Tm) (k : Nat) : t.up k 0 = t := by
  unfold Tm.up
  have : (fun i => if k ≤ i then i + 0 else i) = fun i : Nat => i := by funext i; split <;> rfl
  rw [this, ren_eq_sub]
  exact sub_var t
theorem liftR_up (k n : Nat) : liftR (fun i => if k ≤ i then i + n else i) = fun i => if k + 1 ≤ i then i + n else i := by
  funext i
  cases i with
  | zero => rw [if_neg (by omega)]; rfl
  | succ i =>
    simp only [liftR]
    by_cases h : k ≤ i
    · rw [if_pos h, if_pos (by omega)]; omega
    · rw [if_neg h, if_neg (by omega)]
theorem up_lam (s : Ty) (a : Tm) (k n : Nat) : (Tm.lam s a).up k n = .lam s (a.up (k + 1) n) := by
  simp only [Tm.up, Tm.ren, liftR_up]
theorem liftS_put (k : Nat) (s : Tm) : liftS (fun i => if i = k then s.up 0 k else if k < i then .var (i - 1) else .var i) = fun i => if i = k + 1 then s.up 0 (k + 1) else if k + 1 < i then .var (i - 1) else .var i := by
  funext i
  cases i with
  | zero => rw [if_neg (by omega), if_neg (by omega)]; rfl
  | succ i =>
    simp only [liftS]
    by_cases h : i = k
    · subst h
      rw [if_pos rfl, if_pos rfl]
      simp only [Tm.up, ren_ren]
      congr 1
    · rw [if_neg h, if_neg (show ¬ i + 1 = k + 1 by omega)]
      by_cases h2 : k < i
      · rw [if_pos h2, if_pos (show k + 1 < i + 1 by omega)]
        simp only [Tm.ren]
        congr 1
        omega
      · rw [if_neg h2, if_neg (show ¬ k + 1 < i + 1 by omega)]
        rfl
theorem put_lam (s : Ty) (a b : Tm) (k : Nat) : (Tm.lam s a).put k b = .lam s (a.put (k + 1) b) := by
  simp only [Tm.put, Tm.sub, liftS_put]
theorem put_zero (a b : Tm) : a.put 0 b = a.sub (inst b) := by
  unfold Tm.put
  congr 1
  funext i
  cases i with
  | zero => simp only [if_true, inst]; exact up_zero b 0
  | succ i => rw [if_neg (by omega), if_pos (by omega)]; rfl

/-- One step of reduction, at any place. -/
inductive Red : Tm → Tm → Prop
  | beta (s : Ty) (a b : Tm) : Red (.app (.lam s a) b) (a.sub (inst b))
  | recZ (s : Ty) (a b : Tm) : Red (.recu s a b .zero) a
  | recS (s : Ty) (a b n : Tm) : Red (.recu s a b (.succ n)) (.app (.app b n) (.recu s a b n))
  | foldN (s : Ty) (a b : Tm) : Red (.fold s a b .nil) a
  | foldC (s : Ty) (a b h l : Tm) : Red (.fold s a b (.cons h l)) (.app (.app (.app b h) l) (.fold s a b l))
  | fstP (a b : Tm) : Red (.fst (.pair a b)) a
  | sndP (a b : Tm) : Red (.snd (.pair a b)) b
  | lam {s : Ty} {a a' : Tm} (h : Red a a') : Red (.lam s a) (.lam s a')
  | app1 {a a' b : Tm} (h : Red a a') : Red (.app a b) (.app a' b)
  | app2 {a b b' : Tm} (h : Red b b') : Red (.app a b) (.app a b')
  | succ {a a' : Tm} (h : Red a a') : Red (.succ a) (.succ a')
  | rec1 {s : Ty} {a a' b c : Tm} (h : Red a a') : Red (.recu s a b c) (.recu s a' b c)
  | rec2 {s : Ty} {a b b' c : Tm} (h : Red b b') : Red (.recu s a b c) (.recu s a b' c)
  | rec3 {s : Ty} {a b c c' : Tm} (h : Red c c') : Red (.recu s a b c) (.recu s a b c')
  | cons1 {a a' b : Tm} (h : Red a a') : Red (.cons a b) (.cons a' b)
  | cons2 {a b b' : Tm} (h : Red b b') : Red (.cons a b) (.cons a b')
  | fold1 {s : Ty} {a a' b c : Tm} (h : Red a a') : Red (.fold s a b c) (.fold s a' b c)
  | fold2 {s : Ty} {a b b' c : Tm} (h : Red b b') : Red (.fold s a b c) (.fold s a b' c)
  | fold3 {s : Ty} {a b c c' : Tm} (h : Red c c') : Red (.fold s a b c) (.fold s a b c')
  | pair1 {a a' b : Tm} (h : Red a a') : Red (.pair a b) (.pair a' b)
  | pair2 {a b b' : Tm} (h : Red b b') : Red (.pair a b) (.pair a b')
  | fst {a a' : Tm} (h : Red a a') : Red (.fst a) (.fst a')
  | snd {a a' : Tm} (h : Red a a') : Red (.snd a) (.snd a')

inductive Reds : Tm → Tm → Prop
  | refl (a : Tm) : Reds a a
  | step {a b c : Tm} (h : Red a b) (h' : Reds b c) : Reds a c
theorem Reds.trans {a b c : Tm} (h : Reds a b) (h' : Reds b c) : Reds a c := by
  induction h with
  | refl => exact h'
  | step h _ ih => exact .step h (ih h')
theorem Reds.one {a b : Tm} (h : Red a b) : Reds a b := .step h (.refl _)
theorem Reds.map {f : Tm → Tm} (hf : ∀ a b, Red a b → Red (f a) (f b)) {a b : Tm} (h : Reds a b) : Reds (f a) (f b) := by
  induction h with
  | refl => exact .refl _
  | step h _ ih => exact .step (hf _ _ h) ih

/-- Steps at places that are apart, all at once. -/
inductive Par : Tm → Tm → Prop
  | var (i : Nat) : Par (.var i) (.var i)
  | lam {s : Ty} {a a' : Tm} (h : Par a a') : Par (.lam s a) (.lam s a')
  | app {a a' b b' : Tm} (h : Par a a') (h2 : Par b b') : Par (.app a b) (.app a' b')
  | zero : Par .zero .zero
  | succ {a a' : Tm} (h : Par a a') : Par (.succ a) (.succ a')
  | recu {s : Ty} {a a' b b' c c' : Tm} (h : Par a a') (h2 : Par b b') (h3 : Par c c') : Par (.recu s a b c) (.recu s a' b' c')
  | nil : Par .nil .nil
  | cons {a a' b b' : Tm} (h : Par a a') (h2 : Par b b') : Par (.cons a b) (.cons a' b')
  | fold {s : Ty} {a a' b b' c c' : Tm} (h : Par a a') (h2 : Par b b') (h3 : Par c c') : Par (.fold s a b c) (.fold s a' b' c')
  | pair {a a' b b' : Tm} (h : Par a a') (h2 : Par b b') : Par (.pair a b) (.pair a' b')
  | fst {a a' : Tm} (h : Par a a') : Par (.fst a) (.fst a')
  | snd {a a' : Tm} (h : Par a a') : Par (.snd a) (.snd a')
  | unit : Par .unit .unit
  | beta {s : Ty} {a a' b b' : Tm} (h : Par a a') (h2 : Par b b') : Par (.app (.lam s a) b) (a'.sub (inst b'))
  | recZ {s : Ty} {a a' b : Tm} (h : Par a a') : Par (.recu s a b .zero) a'
  | recS {s : Ty} {a a' b b' n n' : Tm} (h : Par a a') (h2 : Par b b') (h3 : Par n n') : Par (.recu s a b (.succ n)) (.app (.app b' n') (.recu s a' b' n'))
  | foldN {s : Ty} {a a' b : Tm} (h : Par a a') : Par (.fold s a b .nil) a'
  | foldC {s : Ty} {a a' b b' x x' l l' : Tm} (h : Par a a') (h2 : Par b b') (h3 : Par x x') (h4 : Par l l') : Par (.fold s a b (.cons x l)) (.app (.app (.app b' x') l') (.fold s a' b' l'))
  | fstP {a a' b : Tm} (h : Par a a') : Par (.fst (.pair a b)) a'
  | sndP {a b b' : Tm} (h : Par b b') : Par (.snd (.pair a b)) b'

theorem Par.refl : ∀ a : Tm, Par a a
  | .var i => .var i
  | .lam _ a => .lam (refl a)
  | .app a b => .app (refl a) (refl b)
  | .zero => .zero
  | .succ a => .succ (refl a)
  | .recu _ a b c => .recu (refl a) (refl b) (refl c)
  | .nil => .nil
  | .cons a b => .cons (refl a) (refl b)
  | .fold _ a b c => .fold (refl a) (refl b) (refl c)
  | .pair a b => .pair (refl a) (refl b)
  | .fst a => .fst (refl a)
  | .snd a => .snd (refl a)
  | .unit => .unit

theorem Red.par {a b : Tm} (h : Red a b) : Par a b := by
  induction h with
  | beta s a b => exact .beta (.refl _) (.refl _)
  | recZ s a b => exact .recZ (.refl _)
  | recS s a b n => exact .recS (.refl _) (.refl _) (.refl _)
  | foldN s a b => exact .foldN (.refl _)
  | foldC s a b x l => exact .foldC (.refl _) (.refl _) (.refl _) (.refl _)
  | fstP a b => exact .fstP (.refl _)
  | sndP a b => exact .sndP (.refl _)
  | lam h ih => exact .lam ih
  | app1 h ih => exact .app ih (.refl _)
  | app2 h ih => exact .app (.refl _) ih
  | succ h ih => exact .succ ih
  | rec1 h ih => exact .recu ih (.refl _) (.refl _)
  | rec2 h ih => exact .recu (.refl _) ih (.refl _)
  | rec3 h ih => exact .recu (.refl _) (.refl _) ih
  | cons1 h ih => exact .cons ih (.refl _)
  | cons2 h ih => exact .cons (.refl _) ih
  | fold1 h ih => exact .fold ih (.refl _) (.refl _)
  | fold2 h ih => exact .fold (.refl _) ih (.refl _)
  | fold3 h ih => exact .fold (.refl _) (.refl _) ih
  | pair1 h ih => exact .pair ih (.refl _)
  | pair2 h ih => exact .pair (.refl _) ih
  | fst h ih => exact .fst ih
  | snd h ih => exact .snd ih

theorem Par.ren {a b : Tm} (h : Par a b) : ∀ r : Nat → Nat, Par (a.ren r) (b.ren r) := by
  induction h with
  | beta h h2 ih ih2 => intro r; rw [ren_inst]; exact .beta (ih _) (ih2 r)
  | recZ h ih => intro r; exact .recZ (ih r)
  | recS h h2 h3 ih ih2 ih3 => intro r; exact .recS (ih r) (ih2 r) (ih3 r)
  | foldN h ih => intro r; exact .foldN (ih r)
  | foldC h h2 h3 h4 ih ih2 ih3 ih4 => intro r; exact .foldC (ih r) (ih2 r) (ih3 r) (ih4 r)
  | fstP h ih => intro r; exact .fstP (ih r)
  | sndP h ih => intro r; exact .sndP (ih r)
  | var i => intro r; exact .var _
  | lam h ih => intro r; exact .lam (ih _)
  | app h h2 ih ih2 => intro r; exact .app (ih r) (ih2 r)
  | zero => intro r; exact .zero
  | succ h ih => intro r; exact .succ (ih r)
  | recu h h2 h3 ih ih2 ih3 => intro r; exact .recu (ih r) (ih2 r) (ih3 r)
  | nil => intro r; exact .nil
  | cons h h2 ih ih2 => intro r; exact .cons (ih r) (ih2 r)
  | fold h h2 h3 ih ih2 ih3 => intro r; exact .fold (ih r) (ih2 r) (ih3 r)
  | pair h h2 ih ih2 => intro r; exact .pair (ih r) (ih2 r)
  | fst h ih => intro r; exact .fst (ih r)
  | snd h ih => intro r; exact .snd (ih r)
  | unit => intro r; exact .unit

theorem Par.liftS {σ τ : Nat → Tm} (h : ∀ i, Par (σ i) (τ i)) : ∀ i, Par (Terms.liftS σ i) (Terms.liftS τ i)
  | 0 => .var 0
  | i + 1 => (h i).ren _

theorem Par.sub {a b : Tm} (h : Par a b) : ∀ (σ τ : Nat → Tm), (∀ i, Par (σ i) (τ i)) → Par (a.sub σ) (b.sub τ) := by
  induction h with
  | beta h h2 ih ih2 => intro σ τ hs; rw [sub_inst]; exact .beta (ih _ _ (Par.liftS hs)) (ih2 σ τ hs)
  | recZ h ih => intro σ τ hs; exact .recZ (ih σ τ hs)
  | recS h h2 h3 ih ih2 ih3 => intro σ τ hs; exact .recS (ih σ τ hs) (ih2 σ τ hs) (ih3 σ τ hs)
  | foldN h ih => intro σ τ hs; exact .foldN (ih σ τ hs)
  | foldC h h2 h3 h4 ih ih2 ih3 ih4 => intro σ τ hs; exact .foldC (ih σ τ hs) (ih2 σ τ hs) (ih3 σ τ hs) (ih4 σ τ hs)
  | fstP h ih => intro σ τ hs; exact .fstP (ih σ τ hs)
  | sndP h ih => intro σ τ hs; exact .sndP (ih σ τ hs)
  | var i => intro σ τ hs; exact hs i
  | lam h ih => intro σ τ hs; exact .lam (ih _ _ (Par.liftS hs))
  | app h h2 ih ih2 => intro σ τ hs; exact .app (ih σ τ hs) (ih2 σ τ hs)
  | zero => intro σ τ hs; exact .zero
  | succ h ih => intro σ τ hs; exact .succ (ih σ τ hs)
  | recu h h2 h3 ih ih2 ih3 => intro σ τ hs; exact .recu (ih σ τ hs) (ih2 σ τ hs) (ih3 σ τ hs)
  | nil => intro σ τ hs; exact .nil
  | cons h h2 ih ih2 => intro σ τ hs; exact .cons (ih σ τ hs) (ih2 σ τ hs)
  | fold h h2 h3 ih ih2 ih3 => intro σ τ hs; exact .fold (ih σ τ hs) (ih2 σ τ hs) (ih3 σ τ hs)
  | pair h h2 ih ih2 => intro σ τ hs; exact .pair (ih σ τ hs) (ih2 σ τ hs)
  | fst h ih => intro σ τ hs; exact .fst (ih σ τ hs)
  | snd h ih => intro σ τ hs; exact .snd (ih σ τ hs)
  | unit => intro σ τ hs; exact .unit

theorem Par.inst {a a' b b' : Tm} (h : Par a a') (h2 : Par b b') : Par (a.sub (Terms.inst b)) (a'.sub (Terms.inst b')) :=
  h.sub _ _ fun i => by
    cases i with
    | zero => exact h2
    | succ i => exact .var i

/-- All steps that a term has, at once. -/
def cdApp : Tm → Tm → Tm → Tm → Tm
  | .lam _ _, .lam _ a', _, b' => a'.sub (inst b')
  | _, f', _, b' => .app f' b'
def cdRec (s : Ty) (c a b c' : Tm) : Tm := match c, c' with
  | .zero, _ => a
  | .succ _, .succ n' => .app (.app b n') (.recu s a b n')
  | _, c' => .recu s a b c'
def cdFold (s : Ty) (c a b c' : Tm) : Tm := match c, c' with
  | .nil, _ => a
  | .cons _ _, .cons x' l' => .app (.app (.app b x') l') (.fold s a b l')
  | _, c' => .fold s a b c'
def cdFst (a a' : Tm) : Tm := match a, a' with
  | .pair _ _, .pair x _ => x
  | _, a' => .fst a'
def cdSnd (a a' : Tm) : Tm := match a, a' with
  | .pair _ _, .pair _ y => y
  | _, a' => .snd a'
def cd : Tm → Tm
  | .var i => .var i
  | .lam s a => .lam s (cd a)
  | .app a b => cdApp a (cd a) b (cd b)
  | .zero => .zero
  | .succ a => .succ (cd a)
  | .recu s a b c => cdRec s c (cd a) (cd b) (cd c)
  | .nil => .nil
  | .cons a b => .cons (cd a) (cd b)
  | .fold s a b c => cdFold s c (cd a) (cd b) (cd c)
  | .pair a b => .pair (cd a) (cd b)
  | .fst a => cdFst a (cd a)
  | .snd a => cdSnd a (cd a)
  | .unit => .unit

theorem Par.cd {a b : Tm} (h : Par a b) : Par b (Terms.cd a) := by
  induction h with
  | var i => exact .var i
  | lam h ih => exact .lam ih
  | @app a a' b b' h h2 ih ih2 =>
    simp only [Terms.cd]
    cases a with
    | lam s x =>
      cases h with
      | lam hx =>
        simp only [Terms.cd] at ih ⊢
        cases ih with
        | lam hy => exact .beta hy ih2
    | _ => exact .app ih ih2
  | zero => exact .zero
  | succ h ih => exact .succ ih
  | @recu s a a' b b' c c' h h2 h3 ih ih2 ih3 =>
    simp only [Terms.cd]
    cases c with
    | zero => cases h3; exact .recZ ih
    | succ n =>
      cases h3 with
      | succ hn =>
        simp only [Terms.cd] at ih3 ⊢
        cases ih3 with
        | succ hm => exact .recS ih ih2 hm
    | _ => exact .recu ih ih2 ih3
  | nil => exact .nil
  | cons h h2 ih ih2 => exact .cons ih ih2
  | @fold s a a' b b' c c' h h2 h3 ih ih2 ih3 =>
    simp only [Terms.cd]
    cases c with
    | nil => cases h3; exact .foldN ih
    | cons x l =>
      cases h3 with
      | cons hx hl =>
        simp only [Terms.cd] at ih3 ⊢
        cases ih3 with
        | cons hx' hl' => exact .foldC ih ih2 hx' hl'
    | _ => exact .fold ih ih2 ih3
  | pair h h2 ih ih2 => exact .pair ih ih2
  | @fst a a' h ih =>
    simp only [Terms.cd]
    cases a with
    | pair x y =>
      cases h with
      | pair hx hy =>
        simp only [Terms.cd] at ih ⊢
        cases ih with
        | pair hx' hy' => exact .fstP hx'
    | _ => exact .fst ih
  | @snd a a' h ih =>
    simp only [Terms.cd]
    cases a with
    | pair x y =>
      cases h with
      | pair hx hy =>
        simp only [Terms.cd] at ih ⊢
        cases ih with
        | pair hx' hy' => exact .sndP hy'
    | _ => exact .snd ih
  | unit => exact .unit
  | beta h h2 ih ih2 => exact Par.inst ih ih2
  | recZ h ih => exact ih
  | recS h h2 h3 ih ih2 ih3 => exact .app (.app ih2 ih3) (.recu ih ih2 ih3)
  | foldN h ih => exact ih
  | foldC h h2 h3 h4 ih ih2 ih3 ih4 => exact .app (.app (.app ih2 ih3) ih4) (.fold ih ih2 ih4)
  | fstP h ih => exact ih
  | sndP h ih => exact ih

/-- Some steps of the second kind. -/
inductive Pars : Tm → Tm → Prop
  | refl (a : Tm) : Pars a a
  | step {a b c : Tm} (h : Par a b) (h' : Pars b c) : Pars a c
theorem Reds.pars {a b : Tm} (h : Reds a b) : Pars a b := by
  induction h with
  | refl => exact .refl _
  | step h _ ih => exact .step h.par ih
theorem strip {a b c : Tm} (h : Par a b) (h' : Pars a c) : ∃ d, Pars b d ∧ Par c d := by
  induction h' generalizing b with
  | refl a => exact ⟨b, .refl _, h⟩
  | step h1 _ ih =>
    obtain ⟨d, hd, hc⟩ := ih h1.cd
    exact ⟨d, .step h.cd hd, hc⟩
theorem diamond {a b c : Tm} (h : Pars a b) (h' : Pars a c) : ∃ d, Pars b d ∧ Pars c d := by
  induction h generalizing c with
  | refl a => exact ⟨c, h', .refl _⟩
  | step h1 _ ih =>
    obtain ⟨d, hd, hc⟩ := strip h1 h'
    obtain ⟨e, he, hf⟩ := ih hd
    exact ⟨e, he, .step hc hf⟩

/-- No step is left. -/
def Nf (a : Tm) : Prop := ∀ b, ¬ Red a b
theorem Par.nf {a b : Tm} (h : Par a b) : Nf a → a = b := by
  induction h with
  | var i => intro _; rfl
  | lam h ih => intro n; rw [ih fun b hb => n _ (.lam hb)]
  | app h h2 ih ih2 => intro n; rw [ih fun b hb => n _ (.app1 hb), ih2 fun b hb => n _ (.app2 hb)]
  | zero => intro _; rfl
  | succ h ih => intro n; rw [ih fun b hb => n _ (.succ hb)]
  | recu h h2 h3 ih ih2 ih3 => intro n; rw [ih fun b hb => n _ (.rec1 hb), ih2 fun b hb => n _ (.rec2 hb), ih3 fun b hb => n _ (.rec3 hb)]
  | nil => intro _; rfl
  | cons h h2 ih ih2 => intro n; rw [ih fun b hb => n _ (.cons1 hb), ih2 fun b hb => n _ (.cons2 hb)]
  | fold h h2 h3 ih ih2 ih3 => intro n; rw [ih fun b hb => n _ (.fold1 hb), ih2 fun b hb => n _ (.fold2 hb), ih3 fun b hb => n _ (.fold3 hb)]
  | pair h h2 ih ih2 => intro n; rw [ih fun b hb => n _ (.pair1 hb), ih2 fun b hb => n _ (.pair2 hb)]
  | fst h ih => intro n; rw [ih fun b hb => n _ (.fst hb)]
  | snd h ih => intro n; rw [ih fun b hb => n _ (.snd hb)]
  | unit => intro _; rfl
  | beta h h2 ih ih2 => intro n; exact (n _ (.beta _ _ _)).elim
  | recZ h ih => intro n; exact (n _ (.recZ _ _ _)).elim
  | recS h h2 h3 ih ih2 ih3 => intro n; exact (n _ (.recS _ _ _ _)).elim
  | foldN h ih => intro n; exact (n _ (.foldN _ _ _)).elim
  | foldC h h2 h3 h4 ih ih2 ih3 ih4 => intro n; exact (n _ (.foldC _ _ _ _ _)).elim
  | fstP h ih => intro n; exact (n _ (.fstP _ _)).elim
  | sndP h ih => intro n; exact (n _ (.sndP _ _)).elim
theorem Pars.nf {a b : Tm} (h : Pars a b) (n : Nf a) : a = b := by
  induction h with
  | refl => rfl
  | step h _ ih => have e := h.nf n; subst e; exact ih n
/-- Normal forms are one. -/
theorem nf_unique {a b c : Tm} (h : Reds a b) (h' : Reds a c) (hb : Nf b) (hc : Nf c) : b = c := by
  obtain ⟨d, h1, h2⟩ := diamond h.pars h'.pars
  rw [h1.nf hb, h2.nf hc]

/-- Two terms with a common reduct. -/
def Conv (a b : Tm) : Prop := ∃ c, Pars a c ∧ Pars b c
theorem Pars.trans {a b c : Tm} (h : Pars a b) (h' : Pars b c) : Pars a c := by
  induction h with
  | refl => exact h'
  | step h _ ih => exact .step h (ih h')
theorem Conv.refl (a : Tm) : Conv a a := ⟨a, .refl _, .refl _⟩
theorem Conv.symm {a b : Tm} (h : Conv a b) : Conv b a := by obtain ⟨c, h1, h2⟩ := h; exact ⟨c, h2, h1⟩
theorem Conv.trans {a b c : Tm} (h : Conv a b) (h' : Conv b c) : Conv a c := by
  obtain ⟨d, h1, h2⟩ := h
  obtain ⟨e, h3, h4⟩ := h'
  obtain ⟨f, h5, h6⟩ := diamond h2 h3
  exact ⟨f, h1.trans h5, h4.trans h6⟩
theorem Reds.conv {a b : Tm} (h : Reds a b) : Conv a b := ⟨b, h.pars, .refl _⟩
theorem Conv.nf {a b x y : Tm} (h : Conv a b) (ha : Reds a x) (hb : Reds b y) (hx : Nf x) (hy : Nf y) : x = y := by
  obtain ⟨c, h1, h2⟩ := (ha.conv.symm.trans h).trans hb.conv
  rw [h1.nf hx, h2.nf hy]
end Go.Pi.Terms
