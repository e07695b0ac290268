import Derived.Test.YthgocgebpoeolaaDoorTQ
import Derived.Test.YthgocgebpoeolaaDoorM3
set_option maxRecDepth 100000
set_option maxHeartbeats 1000000
set_option linter.unusedSimpArgs false
set_option linter.unusedVariables false
namespace Go.Pi.Terms
open Go Go.Pi Go.Proofs.YthgocgebpoeolaaDoor
/-- The quantifiers. -/
inductive QK where
  | all | ex | allU | exU
  deriving DecidableEq
def QK.num : QK → Int
  | .all => 4 | .ex => 5 | .allU => 6 | .exU => 7
theorem QK.num_all : QK.num .all = 4 := rfl
theorem QK.num_ex : QK.num .ex = 5 := rfl
theorem QK.num_allU : QK.num .allU = 6 := rfl
theorem QK.num_exU : QK.num .exU = 7 := rfl
/-- The formulas of the right form; bin true is an implication. -/
inductive Fm where
  | eq (a b : Tm)
  | bin (c : Bool) (f g : Fm)
  | qu (k : QK) (s : Ty) (f : Fm)
def Fm.kind : Fm → Int
  | .eq a b => 1
  | .bin c f g => if c then 3 else 2
  | .qu k s f => k.num
def Fm.tkind : Fm → Int
  | .eq a b => 0
  | .bin c f g => 0
  | .qu k s f => s.kind
def Fm.tz : Fm → Nat
  | .eq a b => 0
  | .bin c f g => 0
  | .qu k s f => s.asz
def Fm.trows : Fm → List (List PV)
  | .eq a b => []
  | .bin c f g => []
  | .qu k s f => s.arows
def Fm.ez : Fm → Nat
  | .eq a b => 5
  | .bin c f g => 0
  | .qu k s f => 0
def Fm.erows : Fm → List (List PV)
  | .eq a b => [a.row, b.row]
  | .bin c f g => []
  | .qu k s f => []
def Fm.az : Fm → Nat
  | .eq a b => 0
  | .bin c f g => 5
  | .qu k s f => 5
def Fm.arows : Fm → List (List PV)
  | .eq a b => []
  | .bin c f g => [[i64 f.kind, i64 f.tkind, .sl 0 f.tz f.trows, .sl 0 f.ez f.erows, .sl 0 f.az f.arows], [i64 g.kind, i64 g.tkind, .sl 0 g.tz g.trows, .sl 0 g.ez g.erows, .sl 0 g.az g.arows]]
  | .qu k s f => [[i64 f.kind, i64 f.tkind, .sl 0 f.tz f.trows, .sl 0 f.ez f.erows, .sl 0 f.az f.arows]]
def Fm.size : Fm → Nat
  | .eq a b => 1 + a.size + b.size
  | .bin c f g => 1 + f.size + g.size
  | .qu k s f => 1 + f.size
/-- A formula, as its cells. -/
def Fm.row (f : Fm) : List PV := [i64 f.kind, i64 f.tkind, .sl 0 f.tz f.trows, .sl 0 f.ez f.erows, .sl 0 f.az f.arows]
theorem Fm.kind_eq (a b : Tm) : (Fm.eq a b).kind = 1 := rfl
theorem Fm.kind_bin_false (f g : Fm) : (Fm.bin false f g).kind = 2 := rfl
theorem Fm.kind_bin_true (f g : Fm) : (Fm.bin true f g).kind = 3 := rfl
theorem Fm.kind_qu (k : QK) (s : Ty) (f : Fm) : (Fm.qu k s f).kind = k.num := rfl
theorem Fm.tkind_eq (a b : Tm) : (Fm.eq a b).tkind = 0 := rfl
theorem Fm.tkind_bin (c : Bool) (f g : Fm) : (Fm.bin c f g).tkind = 0 := rfl
theorem Fm.tkind_qu (k : QK) (s : Ty) (f : Fm) : (Fm.qu k s f).tkind = s.kind := rfl
theorem Fm.tz_eq (a b : Tm) : (Fm.eq a b).tz = 0 := rfl
theorem Fm.tz_bin (c : Bool) (f g : Fm) : (Fm.bin c f g).tz = 0 := rfl
theorem Fm.tz_qu (k : QK) (s : Ty) (f : Fm) : (Fm.qu k s f).tz = s.asz := rfl
theorem Fm.trows_eq (a b : Tm) : (Fm.eq a b).trows = [] := rfl
theorem Fm.trows_bin (c : Bool) (f g : Fm) : (Fm.bin c f g).trows = [] := rfl
theorem Fm.trows_qu (k : QK) (s : Ty) (f : Fm) : (Fm.qu k s f).trows = s.arows := rfl
theorem Fm.ez_eq (a b : Tm) : (Fm.eq a b).ez = 5 := rfl
theorem Fm.ez_bin (c : Bool) (f g : Fm) : (Fm.bin c f g).ez = 0 := rfl
theorem Fm.ez_qu (k : QK) (s : Ty) (f : Fm) : (Fm.qu k s f).ez = 0 := rfl
theorem Fm.erows_eq (a b : Tm) : (Fm.eq a b).erows = [[i64 a.kind, i64 a.idx, i64 a.tkind, .sl 0 a.tz a.trows, .sl 0 a.az a.arows], [i64 b.kind, i64 b.idx, i64 b.tkind, .sl 0 b.tz b.trows, .sl 0 b.az b.arows]] := rfl
theorem Fm.erows_bin (c : Bool) (f g : Fm) : (Fm.bin c f g).erows = [] := rfl
theorem Fm.erows_qu (k : QK) (s : Ty) (f : Fm) : (Fm.qu k s f).erows = [] := rfl
theorem Fm.az_eq (a b : Tm) : (Fm.eq a b).az = 0 := rfl
theorem Fm.az_bin (c : Bool) (f g : Fm) : (Fm.bin c f g).az = 5 := rfl
theorem Fm.az_qu (k : QK) (s : Ty) (f : Fm) : (Fm.qu k s f).az = 5 := rfl
theorem Fm.arows_eq (a b : Tm) : (Fm.eq a b).arows = [] := rfl
theorem Fm.arows_bin (c : Bool) (f g : Fm) : (Fm.bin c f g).arows = [[i64 f.kind, i64 f.tkind, .sl 0 f.tz f.trows, .sl 0 f.ez f.erows, .sl 0 f.az f.arows], [i64 g.kind, i64 g.tkind, .sl 0 g.tz g.trows, .sl 0 g.ez g.erows, .sl 0 g.az g.arows]] := rfl
theorem Fm.arows_qu (k : QK) (s : Ty) (f : Fm) : (Fm.qu k s f).arows = [[i64 f.kind, i64 f.tkind, .sl 0 f.tz f.trows, .sl 0 f.ez f.erows, .sl 0 f.az f.arows]] := rfl
theorem fmAll : type_of% (And.intro @QK.num_all (And.intro @QK.num_ex (And.intro @QK.num_allU (And.intro @QK.num_exU (And.intro @Fm.kind_eq (And.intro @Fm.kind_bin_false (And.intro @Fm.kind_bin_true (And.intro @Fm.kind_qu (And.intro @Fm.tkind_eq (And.intro @Fm.tkind_bin (And.intro @Fm.tkind_qu (And.intro @Fm.tz_eq (And.intro @Fm.tz_bin (And.intro @Fm.tz_qu (And.intro @Fm.trows_eq (And.intro @Fm.trows_bin (And.intro @Fm.trows_qu (And.intro @Fm.ez_eq (And.intro @Fm.ez_bin (And.intro @Fm.ez_qu (And.intro @Fm.erows_eq (And.intro @Fm.erows_bin (And.intro @Fm.erows_qu (And.intro @Fm.az_eq (And.intro @Fm.az_bin (And.intro @Fm.az_qu (And.intro @Fm.arows_eq (And.intro @Fm.arows_bin (@Fm.arows_qu))))))))))))))))))))))))))))) := And.intro @QK.num_all (And.intro @QK.num_ex (And.intro @QK.num_allU (And.intro @QK.num_exU (And.intro @Fm.kind_eq (And.intro @Fm.kind_bin_false (And.intro @Fm.kind_bin_true (And.intro @Fm.kind_qu (And.intro @Fm.tkind_eq (And.intro @Fm.tkind_bin (And.intro @Fm.tkind_qu (And.intro @Fm.tz_eq (And.intro @Fm.tz_bin (And.intro @Fm.tz_qu (And.intro @Fm.trows_eq (And.intro @Fm.trows_bin (And.intro @Fm.trows_qu (And.intro @Fm.ez_eq (And.intro @Fm.ez_bin (And.intro @Fm.ez_qu (And.intro @Fm.erows_eq (And.intro @Fm.erows_bin (And.intro @Fm.erows_qu (And.intro @Fm.az_eq (And.intro @Fm.az_bin (And.intro @Fm.az_qu (And.intro @Fm.arows_eq (And.intro @Fm.arows_bin (@Fm.arows_qu))))))))))))))))))))))))))))
/-- A type that is none. -/
abbrev noTy : List PV := [i64 0, .sl 0 0 []]
def Fm.ok : Fm → Prop
  | .eq a b => a.ok ∧ b.ok
  | .bin _ f g => f.ok ∧ g.ok
  | .qu _ s f => s.nodes ≤ 64 ∧ f.ok
def Fm.low (B : Nat) : Fm → Prop
  | .eq a b => a.low B ∧ b.low B
  | .bin _ f g => f.low B ∧ g.low B
  | .qu _ _ f => f.low B
def Fm.up (n : Nat) : Nat → Fm → Fm
  | k, .eq a b => .eq (a.up k n) (b.up k n)
  | k, .bin c f g => .bin c (f.up n k) (g.up n k)
  | k, .qu q s f => .qu q s (f.up n (k + 1))
def Fm.put (x : Tm) : Nat → Fm → Fm
  | k, .eq a b => .eq (a.put k x) (b.put k x)
  | k, .bin c f g => .bin c (f.put x k) (g.put x k)
  | k, .qu q s f => .qu q s (f.put x (k + 1))
def Fm.cnt : Nat → Fm → Nat
  | k, .eq a b => a.cnt k + b.cnt k
  | k, .bin _ f g => f.cnt k + g.cnt k
  | k, .qu _ _ f => f.cnt (k + 1)
theorem Fm.cnt_le : ∀ (f : Fm) (k : Nat), f.cnt k ≤ f.size
  | .eq a b, k => by have := Terms.cnt_le a k; have := Terms.cnt_le b k; simp only [Fm.cnt, Fm.size]; omega
  | .bin _ f g, k => by have := f.cnt_le k; have := g.cnt_le k; simp only [Fm.cnt, Fm.size]; omega
  | .qu _ _ f, k => by have := f.cnt_le (k + 1); simp only [Fm.cnt, Fm.size]; omega
theorem Fm.size_up : ∀ (f : Fm) (k n : Nat), (f.up n k).size = f.size
  | .eq a b, k, n => by simp only [Fm.up, Fm.size, Terms.size_up]
  | .bin _ f g, k, n => by simp only [Fm.up, Fm.size, f.size_up, g.size_up]
  | .qu _ _ f, k, n => by simp only [Fm.up, Fm.size, f.size_up]
theorem Tm.size_pos (t : Tm) : 1 ≤ t.size := by cases t <;> simp only [Tm.size] <;> omega
theorem Fm.size_pos : ∀ f : Fm, 1 ≤ f.size
  | .eq _ _ => by simp only [Fm.size]; omega
  | .bin _ _ _ => by simp only [Fm.size]; omega
  | .qu _ _ _ => by simp only [Fm.size]; omega
/-- The equations of a formula are typed, and the types are small. -/
inductive HasF : List Ty → Fm → Prop where
  | eq {g : List Ty} {a b : Tm} (ha : HasTy g a .nat) (hb : HasTy g b .nat) : HasF g (.eq a b)
  | bin {g : List Ty} {c : Bool} {f h : Fm} (hf : HasF g f) (hg : HasF g h) : HasF g (.bin c f h)
  | qu {g : List Ty} {k : QK} {s : Ty} {f : Fm} (hs : s.nodes ≤ 64) (hf : HasF (g ++ [s]) f) : HasF g (.qu k s f)
theorem HasF.ok {g : List Ty} {f : Fm} (h : HasF g f) : f.ok := by
  induction h with
  | eq ha hb => exact ⟨ha.ok, hb.ok⟩
  | bin _ _ h1 h2 => exact ⟨h1, h2⟩
  | qu hs _ h => exact ⟨hs, h⟩
theorem HasF.low {g : List Ty} {f : Fm} (h : HasF g f) : ∀ B, g.length + f.size ≤ B → f.low B := by
  induction h with
  | eq ha hb => intro B hB; simp only [Fm.size] at hB; exact ⟨ha.low B (by omega), hb.low B (by omega)⟩
  | bin _ _ h1 h2 => intro B hB; simp only [Fm.size] at hB; exact ⟨h1 B (by omega), h2 B (by omega)⟩
  | qu hs _ h => intro B hB; simp only [Fm.size] at hB; exact h B (by simp only [List.length_append, List.length_cons, List.length_nil]; omega)
end Go.Pi.Terms
