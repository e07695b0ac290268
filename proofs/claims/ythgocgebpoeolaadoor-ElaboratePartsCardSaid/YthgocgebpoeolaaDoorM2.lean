/- Types and sizes under renaming, substitution and reduction: plain laws. -/
import Derived.Test.YthgocgebpoeolaaDoorM1
set_option linter.unusedSimpArgs false
set_option linter.unusedVariables false
namespace Go.Pi.Terms

/-- The variable i has a type in a context. -/
def At (g : List Ty) (i : Nat) (t : Ty) : Prop := i < g.length ∧ g.getD (g.length - 1 - i) .nat = t
theorem HasTy.at {g : List Ty} {i : Nat} {t : Ty} (h : At g i t) : HasTy g (.var i) t := h.2 ▸ HasTy.var h.1
theorem At.zero {g : List Ty} {s t : Ty} : At (g ++ [s]) 0 t ↔ t = s := by
  unfold At
  simp [List.getD_eq_getElem?_getD]
  exact ⟨fun h => h.symm, fun h => h.symm⟩
theorem At.succ {g : List Ty} {s t : Ty} {i : Nat} : At (g ++ [s]) (i + 1) t ↔ At g i t := by
  unfold At
  have e : (g ++ [s]).length - 1 - (i + 1) = g.length - 1 - i := by simp; omega
  rw [e]
  simp only [List.length_append, List.length_cons, List.length_nil, List.getD_eq_getElem?_getD]
  constructor
  · rintro ⟨h1, h2⟩
    rw [List.getElem?_append_left (by omega)] at h2
    exact ⟨by omega, h2⟩
  · rintro ⟨h1, h2⟩
    rw [List.getElem?_append_left (by omega)]
    exact ⟨by omega, h2⟩
theorem At.lift {g g' : List Ty} {s : Ty} {r : Nat → Nat} (h : ∀ i u, At g i u → At g' (r i) u) : ∀ i u, At (g ++ [s]) i u → At (g' ++ [s]) (liftR r i) u
  | 0, u, hu => At.zero.2 (At.zero.1 hu)
  | i + 1, u, hu => At.succ.2 (h i u (At.succ.1 hu))

theorem HasTy.ren {g : List Ty} {x : Tm} {t : Ty} (h : HasTy g x t) : ∀ (g' : List Ty) (r : Nat → Nat), (∀ i u, At g i u → At g' (r i) u) → HasTy g' (x.ren r) t := by
  induction h with
  | @var g i hi => intro g' r hr; exact .at (hr i _ ⟨hi, rfl⟩)
  | lam h hn ih => intro g' r hr; exact .lam (ih _ _ (At.lift hr)) hn
  | app ha hb hn iha ihb => intro g' r hr; exact .app (iha g' r hr) (ihb g' r hr) hn
  | zero => intro g' r hr; exact .zero
  | succ ha iha => intro g' r hr; exact .succ (iha g' r hr)
  | recu ha hb hc hn iha ihb ihc => intro g' r hr; exact .recu (iha g' r hr) (ihb g' r hr) (ihc g' r hr) hn
  | nil => intro g' r hr; exact .nil
  | cons ha hb iha ihb => intro g' r hr; exact .cons (iha g' r hr) (ihb g' r hr)
  | fold ha hb hc hn iha ihb ihc => intro g' r hr; exact .fold (iha g' r hr) (ihb g' r hr) (ihc g' r hr) hn
  | pair ha hb hn iha ihb => intro g' r hr; exact .pair (iha g' r hr) (ihb g' r hr) hn
  | fst ha hn iha => intro g' r hr; exact .fst (iha g' r hr) hn
  | snd ha hn iha => intro g' r hr; exact .snd (iha g' r hr) hn
  | unit => intro g' r hr; exact .unit

theorem HasTy.liftS {g g' : List Ty} {s : Ty} {σ : Nat → Tm} (h : ∀ i u, At g i u → HasTy g' (σ i) u) : ∀ i u, At (g ++ [s]) i u → HasTy (g' ++ [s]) (Terms.liftS σ i) u
  | 0, u, hu => .at (At.zero.2 (At.zero.1 hu))
  | i + 1, u, hu => (h i u (At.succ.1 hu)).ren _ _ fun j v hv => At.succ.2 hv

theorem HasTy.sub {g : List Ty} {x : Tm} {t : Ty} (h : HasTy g x t) : ∀ (g' : List Ty) (σ : Nat → Tm), (∀ i u, At g i u → HasTy g' (σ i) u) → HasTy g' (x.sub σ) t := by
  induction h with
  | @var g i hi => intro g' r hr; exact hr i _ ⟨hi, rfl⟩
  | lam h hn ih => intro g' r hr; exact .lam (ih _ _ (HasTy.liftS hr)) hn
  | app ha hb hn iha ihb => intro g' r hr; exact .app (iha g' r hr) (ihb g' r hr) hn
  | zero => intro g' r hr; exact .zero
  | succ ha iha => intro g' r hr; exact .succ (iha g' r hr)
  | recu ha hb hc hn iha ihb ihc => intro g' r hr; exact .recu (iha g' r hr) (ihb g' r hr) (ihc g' r hr) hn
  | nil => intro g' r hr; exact .nil
  | cons ha hb iha ihb => intro g' r hr; exact .cons (iha g' r hr) (ihb g' r hr)
  | fold ha hb hc hn iha ihb ihc => intro g' r hr; exact .fold (iha g' r hr) (ihb g' r hr) (ihc g' r hr) hn
  | pair ha hb hn iha ihb => intro g' r hr; exact .pair (iha g' r hr) (ihb g' r hr) hn
  | fst ha hn iha => intro g' r hr; exact .fst (iha g' r hr) hn
  | snd ha hn iha => intro g' r hr; exact .snd (iha g' r hr) hn
  | unit => intro g' r hr; exact .unit

theorem HasTy.inst {g : List Ty} {a b : Tm} {s t : Ty} (ha : HasTy (g ++ [s]) a t) (hb : HasTy g b s) : HasTy g (a.sub (Terms.inst b)) t :=
  ha.sub g _ fun i u hu => by
    cases i with
    | zero => obtain rfl := At.zero.1 hu; exact hb
    | succ i => exact .at (At.succ.1 hu)

/-- All types are small. -/
theorem HasTy.fits {g : List Ty} {x : Tm} {t : Ty} (h : HasTy g x t) : (∀ u ∈ g, u.nodes ≤ 64) → t.nodes ≤ 64 := by
  induction h with
  | @var g i hi =>
    intro hg
    refine hg _ ?_
    rw [List.getD_eq_getElem?_getD, List.getElem?_eq_getElem (by omega)]
    exact List.getElem_mem _
  | lam h hn ih => intro _; exact hn
  | app ha hb hn iha ihb => intro _; simp only [Ty.nodes] at hn; omega
  | zero => intro _; decide
  | succ ha iha => intro _; decide
  | recu ha hb hc hn iha ihb ihc => intro _; exact hn
  | nil => intro _; decide
  | cons ha hb iha ihb => intro _; decide
  | fold ha hb hc hn iha ihb ihc => intro _; exact hn
  | pair ha hb hn iha ihb => intro _; exact hn
  | fst ha hn iha => intro _; simp only [Ty.nodes] at hn; omega
  | snd ha hn iha => intro _; simp only [Ty.nodes] at hn; omega
  | unit => intro _; decide

theorem HasTy.red {g : List Ty} {x : Tm} {t : Ty} (h : HasTy g x t) : (∀ u ∈ g, u.nodes ≤ 64) → ∀ y, Red x y → HasTy g y t := by
  induction h with
  | var hi => intro _ y hr; cases hr
  | @lam g s t a h hn ih =>
    intro hg y hr
    cases hr with
    | lam hr =>
      refine .lam (ih (fun u hu => ?_) _ hr) hn
      rcases List.mem_append.1 hu with hu | hu
      · exact hg u hu
      · obtain rfl := List.mem_singleton.1 hu
        simp only [Ty.nodes] at hn
        omega
  | @app g s t a b ha hb hn iha ihb =>
    intro hg y hr
    cases hr with
    | beta s' x _ => cases ha with | lam hx _ => exact hx.inst hb
    | app1 hr => exact .app (iha hg _ hr) hb hn
    | app2 hr => exact .app ha (ihb hg _ hr) hn
  | zero => intro _ y hr; cases hr
  | succ ha iha => intro hg y hr; cases hr with | succ hr => exact .succ (iha hg _ hr)
  | @recu g s a b c ha hb hc hn iha ihb ihc =>
    intro hg y hr
    have hbn := hb.fits hg
    have hbn2 : (Ty.fn s s).nodes ≤ 64 := by simp only [Ty.nodes] at hbn ⊢; omega
    cases hr with
    | recZ => exact ha
    | recS _ _ _ n => cases hc with | succ hn' => exact .app (.app hb hn' hbn) (.recu ha hb hn' hn) hbn2
    | rec1 hr => exact .recu (iha hg _ hr) hb hc hn
    | rec2 hr => exact .recu ha (ihb hg _ hr) hc hn
    | rec3 hr => exact .recu ha hb (ihc hg _ hr) hn
  | nil => intro _ y hr; cases hr
  | cons ha hb iha ihb =>
    intro hg y hr
    cases hr with
    | cons1 hr => exact .cons (iha hg _ hr) hb
    | cons2 hr => exact .cons ha (ihb hg _ hr)
  | @fold g s a b c ha hb hc hn iha ihb ihc =>
    intro hg y hr
    have hbn := hb.fits hg
    have hbn2 : (Ty.fn .list (Ty.fn s s)).nodes ≤ 64 := by simp only [Ty.nodes] at hbn ⊢; omega
    have hbn3 : (Ty.fn s s).nodes ≤ 64 := by simp only [Ty.nodes] at hbn ⊢; omega
    cases hr with
    | foldN => exact ha
    | foldC _ _ _ x l => cases hc with | cons hx hl => exact .app (.app (.app hb hx hbn) hl hbn2) (.fold ha hb hl hn) hbn3
    | fold1 hr => exact .fold (iha hg _ hr) hb hc hn
    | fold2 hr => exact .fold ha (ihb hg _ hr) hc hn
    | fold3 hr => exact .fold ha hb (ihc hg _ hr) hn
  | pair ha hb hn iha ihb =>
    intro hg y hr
    cases hr with
    | pair1 hr => exact .pair (iha hg _ hr) hb hn
    | pair2 hr => exact .pair ha (ihb hg _ hr) hn
  | fst ha hn iha =>
    intro hg y hr
    cases hr with
    | fstP => cases ha with | pair hx hy _ => exact hx
    | fst hr => exact .fst (iha hg _ hr) hn
  | snd ha hn iha =>
    intro hg y hr
    cases hr with
    | sndP => cases ha with | pair hx hy _ => exact hy
    | snd hr => exact .snd (iha hg _ hr) hn
  | unit => intro _ y hr; cases hr
theorem HasTy.reds {g : List Ty} {x y : Tm} {t : Ty} (hr : Reds x y) (hg : ∀ u ∈ g, u.nodes ≤ 64) : HasTy g x t → HasTy g y t := by
  induction hr with
  | refl => exact id
  | step h _ ih => exact fun hx => ih (hx.red hg _ h)

theorem size_ren (t : Tm) : ∀ r : Nat → Nat, (t.ren r).size = t.size := by
  induction t <;> intro r <;> simp only [Tm.ren, Tm.size, *]
theorem size_up (t : Tm) (k n : Nat) : (t.up k n).size = t.size := size_ren t _
end Go.Pi.Terms
