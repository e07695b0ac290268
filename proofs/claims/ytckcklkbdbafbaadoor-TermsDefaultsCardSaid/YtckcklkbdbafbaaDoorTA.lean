import Derived.Test.YtckcklkbdbafbaaDoorPiY
import Derived.Test.YtckcklkbdbafbaaDoorTab
set_option maxRecDepth 100000
set_option linter.unusedSimpArgs false
set_option linter.unusedVariables false
namespace Go.Pi.Terms
open Go Go.Pi Go.Proofs.YtckcklkbdbafbaaDoor

def arT : List Int := [0,0,1,2,0,1,3,0,2,3,2,1,1,0]
def G : Glob := fun g => if g = 0 then some (arT.map fun z => PV.v (.int .i64 z)) else none

/-- The types that are made. -/
inductive Ty where
  | nat | list | unit
  | pair (a b : Ty)
  | fn (a b : Ty)
  deriving DecidableEq

def Ty.kind : Ty → Int
  | .nat => 1 | .list => 2 | .pair _ _ => 3 | .fn _ _ => 4 | .unit => 5
def Ty.nodes : Ty → Nat
  | .nat | .list | .unit => 1
  | .pair a b => 1 + a.nodes + b.nodes
  | .fn a b => 1 + a.nodes + b.nodes
def Ty.asz : Ty → Nat
  | .nat | .list | .unit => 0
  | .pair _ _ | .fn _ _ => 2
def Ty.arows : Ty → List (List PV)
  | .nat | .list | .unit => []
  | .pair a b => [[i64 a.kind, .sl 0 a.asz a.arows], [i64 b.kind, .sl 0 b.asz b.arows]]
  | .fn a b => [[i64 a.kind, .sl 0 a.asz a.arows], [i64 b.kind, .sl 0 b.asz b.arows]]
/-- A type, as its cells. -/
def Ty.row (t : Ty) : List PV := [i64 t.kind, .sl 0 t.asz t.arows]
theorem Ty.nodes_pos : ∀ t : Ty, 1 ≤ t.nodes
  | .nat | .list | .unit => Nat.le_refl _
  | .pair a b | .fn a b => by simp only [Ty.nodes]; omega
theorem Ty.kind_nat : Ty.nat.kind = 1 := rfl
theorem Ty.kind_list : Ty.list.kind = 2 := rfl
theorem Ty.kind_unit : Ty.unit.kind = 5 := rfl
theorem Ty.kind_pair (a b : Ty) : (Ty.pair a b).kind = 3 := rfl
theorem Ty.kind_fn (a b : Ty) : (Ty.fn a b).kind = 4 := rfl
theorem Ty.asz_nat : Ty.nat.asz = 0 := rfl
theorem Ty.asz_list : Ty.list.asz = 0 := rfl
theorem Ty.asz_unit : Ty.unit.asz = 0 := rfl
theorem Ty.asz_pair (a b : Ty) : (Ty.pair a b).asz = 2 := rfl
theorem Ty.asz_fn (a b : Ty) : (Ty.fn a b).asz = 2 := rfl
theorem Ty.arows_nat : Ty.nat.arows = [] := rfl
theorem Ty.arows_list : Ty.list.arows = [] := rfl
theorem Ty.arows_unit : Ty.unit.arows = [] := rfl
theorem Ty.arows_pair (a b : Ty) : (Ty.pair a b).arows = [[i64 a.kind, .sl 0 a.asz a.arows], [i64 b.kind, .sl 0 b.asz b.arows]] := rfl
theorem Ty.arows_fn (a b : Ty) : (Ty.fn a b).arows = [[i64 a.kind, .sl 0 a.asz a.arows], [i64 b.kind, .sl 0 b.asz b.arows]] := rfl
theorem tyAll : type_of% (And.intro @Ty.kind_nat (And.intro @Ty.kind_list (And.intro @Ty.kind_unit (And.intro @Ty.kind_pair (And.intro @Ty.kind_fn (And.intro @Ty.asz_nat (And.intro @Ty.asz_list (And.intro @Ty.asz_unit (And.intro @Ty.asz_pair (And.intro @Ty.asz_fn (And.intro @Ty.arows_nat (And.intro @Ty.arows_list (And.intro @Ty.arows_unit (And.intro @Ty.arows_pair (@Ty.arows_fn))))))))))))))) := And.intro @Ty.kind_nat (And.intro @Ty.kind_list (And.intro @Ty.kind_unit (And.intro @Ty.kind_pair (And.intro @Ty.kind_fn (And.intro @Ty.asz_nat (And.intro @Ty.asz_list (And.intro @Ty.asz_unit (And.intro @Ty.asz_pair (And.intro @Ty.asz_fn (And.intro @Ty.arows_nat (And.intro @Ty.arows_list (And.intro @Ty.arows_unit (And.intro @Ty.arows_pair (@Ty.arows_fn))))))))))))))
end Go.Pi.Terms
