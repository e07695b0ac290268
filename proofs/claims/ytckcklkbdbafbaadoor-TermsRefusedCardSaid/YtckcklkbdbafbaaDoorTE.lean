import Derived.Test.YtckcklkbdbafbaaDoorTD
set_option maxRecDepth 100000
set_option maxHeartbeats 1000000
set_option linter.unusedSimpArgs false
set_option linter.unusedVariables false
namespace Go.Pi.Terms
open Go Go.Pi Go.Proofs.YtckcklkbdbafbaaDoor
/-- The terms that are made. -/
inductive Tm where
  | var (i : Nat)
  | lam (s : Ty) (a : Tm)
  | app (a : Tm) (b : Tm)
  | zero
  | succ (a : Tm)
  | recu (s : Ty) (a : Tm) (b : Tm) (c : Tm)
  | nil
  | cons (a : Tm) (b : Tm)
  | fold (s : Ty) (a : Tm) (b : Tm) (c : Tm)
  | pair (a : Tm) (b : Tm)
  | fst (a : Tm)
  | snd (a : Tm)
  | unit
def Tm.kind : Tm → Int
  | .var i => 1
  | .lam s a => 2
  | .app a b => 3
  | .zero => 4
  | .succ a => 5
  | .recu s a b c => 6
  | .nil => 7
  | .cons a b => 8
  | .fold s a b c => 9
  | .pair a b => 10
  | .fst a => 11
  | .snd a => 12
  | .unit => 13
def Tm.idx : Tm → Int
  | .var i => (i : Int)
  | .lam s a => 0
  | .app a b => 0
  | .zero => 0
  | .succ a => 0
  | .recu s a b c => 0
  | .nil => 0
  | .cons a b => 0
  | .fold s a b c => 0
  | .pair a b => 0
  | .fst a => 0
  | .snd a => 0
  | .unit => 0
def Tm.tkind : Tm → Int
  | .var i => 0
  | .lam s a => s.kind
  | .app a b => 0
  | .zero => 0
  | .succ a => 0
  | .recu s a b c => s.kind
  | .nil => 0
  | .cons a b => 0
  | .fold s a b c => s.kind
  | .pair a b => 0
  | .fst a => 0
  | .snd a => 0
  | .unit => 0
def Tm.tz : Tm → Nat
  | .var i => 0
  | .lam s a => s.asz
  | .app a b => 0
  | .zero => 0
  | .succ a => 0
  | .recu s a b c => s.asz
  | .nil => 0
  | .cons a b => 0
  | .fold s a b c => s.asz
  | .pair a b => 0
  | .fst a => 0
  | .snd a => 0
  | .unit => 0
def Tm.trows : Tm → List (List PV)
  | .var i => []
  | .lam s a => s.arows
  | .app a b => []
  | .zero => []
  | .succ a => []
  | .recu s a b c => s.arows
  | .nil => []
  | .cons a b => []
  | .fold s a b c => s.arows
  | .pair a b => []
  | .fst a => []
  | .snd a => []
  | .unit => []
def Tm.az : Tm → Nat
  | .var i => 0
  | .lam s a => 5
  | .app a b => 5
  | .zero => 0
  | .succ a => 5
  | .recu s a b c => 5
  | .nil => 0
  | .cons a b => 5
  | .fold s a b c => 5
  | .pair a b => 5
  | .fst a => 5
  | .snd a => 5
  | .unit => 0
def Tm.arows : Tm → List (List PV)
  | .var i => []
  | .lam s a => [[i64 a.kind, i64 a.idx, i64 a.tkind, .sl 0 a.tz a.trows, .sl 0 a.az a.arows]]
  | .app a b => [[i64 a.kind, i64 a.idx, i64 a.tkind, .sl 0 a.tz a.trows, .sl 0 a.az a.arows], [i64 b.kind, i64 b.idx, i64 b.tkind, .sl 0 b.tz b.trows, .sl 0 b.az b.arows]]
  | .zero => []
  | .succ a => [[i64 a.kind, i64 a.idx, i64 a.tkind, .sl 0 a.tz a.trows, .sl 0 a.az a.arows]]
  | .recu s a b c => [[i64 a.kind, i64 a.idx, i64 a.tkind, .sl 0 a.tz a.trows, .sl 0 a.az a.arows], [i64 b.kind, i64 b.idx, i64 b.tkind, .sl 0 b.tz b.trows, .sl 0 b.az b.arows], [i64 c.kind, i64 c.idx, i64 c.tkind, .sl 0 c.tz c.trows, .sl 0 c.az c.arows]]
  | .nil => []
  | .cons a b => [[i64 a.kind, i64 a.idx, i64 a.tkind, .sl 0 a.tz a.trows, .sl 0 a.az a.arows], [i64 b.kind, i64 b.idx, i64 b.tkind, .sl 0 b.tz b.trows, .sl 0 b.az b.arows]]
  | .fold s a b c => [[i64 a.kind, i64 a.idx, i64 a.tkind, .sl 0 a.tz a.trows, .sl 0 a.az a.arows], [i64 b.kind, i64 b.idx, i64 b.tkind, .sl 0 b.tz b.trows, .sl 0 b.az b.arows], [i64 c.kind, i64 c.idx, i64 c.tkind, .sl 0 c.tz c.trows, .sl 0 c.az c.arows]]
  | .pair a b => [[i64 a.kind, i64 a.idx, i64 a.tkind, .sl 0 a.tz a.trows, .sl 0 a.az a.arows], [i64 b.kind, i64 b.idx, i64 b.tkind, .sl 0 b.tz b.trows, .sl 0 b.az b.arows]]
  | .fst a => [[i64 a.kind, i64 a.idx, i64 a.tkind, .sl 0 a.tz a.trows, .sl 0 a.az a.arows]]
  | .snd a => [[i64 a.kind, i64 a.idx, i64 a.tkind, .sl 0 a.tz a.trows, .sl 0 a.az a.arows]]
  | .unit => []
def Tm.size : Tm → Nat
  | .var i => 1
  | .lam s a => 1 + a.size
  | .app a b => 1 + a.size + b.size
  | .zero => 1
  | .succ a => 1 + a.size
  | .recu s a b c => 1 + a.size + b.size + c.size
  | .nil => 1
  | .cons a b => 1 + a.size + b.size
  | .fold s a b c => 1 + a.size + b.size + c.size
  | .pair a b => 1 + a.size + b.size
  | .fst a => 1 + a.size
  | .snd a => 1 + a.size
  | .unit => 1
/-- A term, as its cells. -/
def Tm.row (t : Tm) : List PV := [i64 t.kind, i64 t.idx, i64 t.tkind, .sl 0 t.tz t.trows, .sl 0 t.az t.arows]
theorem Tm.kind_var (i : Nat) : (Tm.var i).kind = 1 := rfl
theorem Tm.kind_lam (s : Ty) (a : Tm) : (Tm.lam s a).kind = 2 := rfl
theorem Tm.kind_app (a : Tm) (b : Tm) : (Tm.app a b).kind = 3 := rfl
theorem Tm.kind_zero : (Tm.zero).kind = 4 := rfl
theorem Tm.kind_succ (a : Tm) : (Tm.succ a).kind = 5 := rfl
theorem Tm.kind_recu (s : Ty) (a : Tm) (b : Tm) (c : Tm) : (Tm.recu s a b c).kind = 6 := rfl
theorem Tm.kind_nil : (Tm.nil).kind = 7 := rfl
theorem Tm.kind_cons (a : Tm) (b : Tm) : (Tm.cons a b).kind = 8 := rfl
theorem Tm.kind_fold (s : Ty) (a : Tm) (b : Tm) (c : Tm) : (Tm.fold s a b c).kind = 9 := rfl
theorem Tm.kind_pair (a : Tm) (b : Tm) : (Tm.pair a b).kind = 10 := rfl
theorem Tm.kind_fst (a : Tm) : (Tm.fst a).kind = 11 := rfl
theorem Tm.kind_snd (a : Tm) : (Tm.snd a).kind = 12 := rfl
theorem Tm.kind_unit : (Tm.unit).kind = 13 := rfl
theorem Tm.idx_var (i : Nat) : (Tm.var i).idx = (i : Int) := rfl
theorem Tm.idx_lam (s : Ty) (a : Tm) : (Tm.lam s a).idx = 0 := rfl
theorem Tm.idx_app (a : Tm) (b : Tm) : (Tm.app a b).idx = 0 := rfl
theorem Tm.idx_zero : (Tm.zero).idx = 0 := rfl
theorem Tm.idx_succ (a : Tm) : (Tm.succ a).idx = 0 := rfl
theorem Tm.idx_recu (s : Ty) (a : Tm) (b : Tm) (c : Tm) : (Tm.recu s a b c).idx = 0 := rfl
theorem Tm.idx_nil : (Tm.nil).idx = 0 := rfl
theorem Tm.idx_cons (a : Tm) (b : Tm) : (Tm.cons a b).idx = 0 := rfl
theorem Tm.idx_fold (s : Ty) (a : Tm) (b : Tm) (c : Tm) : (Tm.fold s a b c).idx = 0 := rfl
theorem Tm.idx_pair (a : Tm) (b : Tm) : (Tm.pair a b).idx = 0 := rfl
theorem Tm.idx_fst (a : Tm) : (Tm.fst a).idx = 0 := rfl
theorem Tm.idx_snd (a : Tm) : (Tm.snd a).idx = 0 := rfl
theorem Tm.idx_unit : (Tm.unit).idx = 0 := rfl
theorem Tm.tkind_var (i : Nat) : (Tm.var i).tkind = 0 := rfl
theorem Tm.tkind_lam (s : Ty) (a : Tm) : (Tm.lam s a).tkind = s.kind := rfl
theorem Tm.tkind_app (a : Tm) (b : Tm) : (Tm.app a b).tkind = 0 := rfl
theorem Tm.tkind_zero : (Tm.zero).tkind = 0 := rfl
theorem Tm.tkind_succ (a : Tm) : (Tm.succ a).tkind = 0 := rfl
theorem Tm.tkind_recu (s : Ty) (a : Tm) (b : Tm) (c : Tm) : (Tm.recu s a b c).tkind = s.kind := rfl
theorem Tm.tkind_nil : (Tm.nil).tkind = 0 := rfl
theorem Tm.tkind_cons (a : Tm) (b : Tm) : (Tm.cons a b).tkind = 0 := rfl
theorem Tm.tkind_fold (s : Ty) (a : Tm) (b : Tm) (c : Tm) : (Tm.fold s a b c).tkind = s.kind := rfl
theorem Tm.tkind_pair (a : Tm) (b : Tm) : (Tm.pair a b).tkind = 0 := rfl
theorem Tm.tkind_fst (a : Tm) : (Tm.fst a).tkind = 0 := rfl
theorem Tm.tkind_snd (a : Tm) : (Tm.snd a).tkind = 0 := rfl
theorem Tm.tkind_unit : (Tm.unit).tkind = 0 := rfl
theorem Tm.tz_var (i : Nat) : (Tm.var i).tz = 0 := rfl
theorem Tm.tz_lam (s : Ty) (a : Tm) : (Tm.lam s a).tz = s.asz := rfl
theorem Tm.tz_app (a : Tm) (b : Tm) : (Tm.app a b).tz = 0 := rfl
theorem Tm.tz_zero : (Tm.zero).tz = 0 := rfl
theorem Tm.tz_succ (a : Tm) : (Tm.succ a).tz = 0 := rfl
theorem Tm.tz_recu (s : Ty) (a : Tm) (b : Tm) (c : Tm) : (Tm.recu s a b c).tz = s.asz := rfl
theorem Tm.tz_nil : (Tm.nil).tz = 0 := rfl
theorem Tm.tz_cons (a : Tm) (b : Tm) : (Tm.cons a b).tz = 0 := rfl
theorem Tm.tz_fold (s : Ty) (a : Tm) (b : Tm) (c : Tm) : (Tm.fold s a b c).tz = s.asz := rfl
theorem Tm.tz_pair (a : Tm) (b : Tm) : (Tm.pair a b).tz = 0 := rfl
theorem Tm.tz_fst (a : Tm) : (Tm.fst a).tz = 0 := rfl
theorem Tm.tz_snd (a : Tm) : (Tm.snd a).tz = 0 := rfl
theorem Tm.tz_unit : (Tm.unit).tz = 0 := rfl
theorem Tm.trows_var (i : Nat) : (Tm.var i).trows = [] := rfl
theorem Tm.trows_lam (s : Ty) (a : Tm) : (Tm.lam s a).trows = s.arows := rfl
theorem Tm.trows_app (a : Tm) (b : Tm) : (Tm.app a b).trows = [] := rfl
theorem Tm.trows_zero : (Tm.zero).trows = [] := rfl
theorem Tm.trows_succ (a : Tm) : (Tm.succ a).trows = [] := rfl
theorem Tm.trows_recu (s : Ty) (a : Tm) (b : Tm) (c : Tm) : (Tm.recu s a b c).trows = s.arows := rfl
theorem Tm.trows_nil : (Tm.nil).trows = [] := rfl
theorem Tm.trows_cons (a : Tm) (b : Tm) : (Tm.cons a b).trows = [] := rfl
theorem Tm.trows_fold (s : Ty) (a : Tm) (b : Tm) (c : Tm) : (Tm.fold s a b c).trows = s.arows := rfl
theorem Tm.trows_pair (a : Tm) (b : Tm) : (Tm.pair a b).trows = [] := rfl
theorem Tm.trows_fst (a : Tm) : (Tm.fst a).trows = [] := rfl
theorem Tm.trows_snd (a : Tm) : (Tm.snd a).trows = [] := rfl
theorem Tm.trows_unit : (Tm.unit).trows = [] := rfl
theorem Tm.az_var (i : Nat) : (Tm.var i).az = 0 := rfl
theorem Tm.az_lam (s : Ty) (a : Tm) : (Tm.lam s a).az = 5 := rfl
theorem Tm.az_app (a : Tm) (b : Tm) : (Tm.app a b).az = 5 := rfl
theorem Tm.az_zero : (Tm.zero).az = 0 := rfl
theorem Tm.az_succ (a : Tm) : (Tm.succ a).az = 5 := rfl
theorem Tm.az_recu (s : Ty) (a : Tm) (b : Tm) (c : Tm) : (Tm.recu s a b c).az = 5 := rfl
theorem Tm.az_nil : (Tm.nil).az = 0 := rfl
theorem Tm.az_cons (a : Tm) (b : Tm) : (Tm.cons a b).az = 5 := rfl
theorem Tm.az_fold (s : Ty) (a : Tm) (b : Tm) (c : Tm) : (Tm.fold s a b c).az = 5 := rfl
theorem Tm.az_pair (a : Tm) (b : Tm) : (Tm.pair a b).az = 5 := rfl
theorem Tm.az_fst (a : Tm) : (Tm.fst a).az = 5 := rfl
theorem Tm.az_snd (a : Tm) : (Tm.snd a).az = 5 := rfl
theorem Tm.az_unit : (Tm.unit).az = 0 := rfl
theorem Tm.arows_var (i : Nat) : (Tm.var i).arows = [] := rfl
theorem Tm.arows_lam (s : Ty) (a : Tm) : (Tm.lam s a).arows = [[i64 a.kind, i64 a.idx, i64 a.tkind, .sl 0 a.tz a.trows, .sl 0 a.az a.arows]] := rfl
theorem Tm.arows_app (a : Tm) (b : Tm) : (Tm.app a b).arows = [[i64 a.kind, i64 a.idx, i64 a.tkind, .sl 0 a.tz a.trows, .sl 0 a.az a.arows], [i64 b.kind, i64 b.idx, i64 b.tkind, .sl 0 b.tz b.trows, .sl 0 b.az b.arows]] := rfl
theorem Tm.arows_zero : (Tm.zero).arows = [] := rfl
theorem Tm.arows_succ (a : Tm) : (Tm.succ a).arows = [[i64 a.kind, i64 a.idx, i64 a.tkind, .sl 0 a.tz a.trows, .sl 0 a.az a.arows]] := rfl
theorem Tm.arows_recu (s : Ty) (a : Tm) (b : Tm) (c : Tm) : (Tm.recu s a b c).arows = [[i64 a.kind, i64 a.idx, i64 a.tkind, .sl 0 a.tz a.trows, .sl 0 a.az a.arows], [i64 b.kind, i64 b.idx, i64 b.tkind, .sl 0 b.tz b.trows, .sl 0 b.az b.arows], [i64 c.kind, i64 c.idx, i64 c.tkind, .sl 0 c.tz c.trows, .sl 0 c.az c.arows]] := rfl
theorem Tm.arows_nil : (Tm.nil).arows = [] := rfl
theorem Tm.arows_cons (a : Tm) (b : Tm) : (Tm.cons a b).arows = [[i64 a.kind, i64 a.idx, i64 a.tkind, .sl 0 a.tz a.trows, .sl 0 a.az a.arows], [i64 b.kind, i64 b.idx, i64 b.tkind, .sl 0 b.tz b.trows, .sl 0 b.az b.arows]] := rfl
theorem Tm.arows_fold (s : Ty) (a : Tm) (b : Tm) (c : Tm) : (Tm.fold s a b c).arows = [[i64 a.kind, i64 a.idx, i64 a.tkind, .sl 0 a.tz a.trows, .sl 0 a.az a.arows], [i64 b.kind, i64 b.idx, i64 b.tkind, .sl 0 b.tz b.trows, .sl 0 b.az b.arows], [i64 c.kind, i64 c.idx, i64 c.tkind, .sl 0 c.tz c.trows, .sl 0 c.az c.arows]] := rfl
theorem Tm.arows_pair (a : Tm) (b : Tm) : (Tm.pair a b).arows = [[i64 a.kind, i64 a.idx, i64 a.tkind, .sl 0 a.tz a.trows, .sl 0 a.az a.arows], [i64 b.kind, i64 b.idx, i64 b.tkind, .sl 0 b.tz b.trows, .sl 0 b.az b.arows]] := rfl
theorem Tm.arows_fst (a : Tm) : (Tm.fst a).arows = [[i64 a.kind, i64 a.idx, i64 a.tkind, .sl 0 a.tz a.trows, .sl 0 a.az a.arows]] := rfl
theorem Tm.arows_snd (a : Tm) : (Tm.snd a).arows = [[i64 a.kind, i64 a.idx, i64 a.tkind, .sl 0 a.tz a.trows, .sl 0 a.az a.arows]] := rfl
theorem Tm.arows_unit : (Tm.unit).arows = [] := rfl
theorem Tm.size_var (i : Nat) : (Tm.var i).size = 1 := rfl
theorem Tm.size_lam (s : Ty) (a : Tm) : (Tm.lam s a).size = 1 + a.size := rfl
theorem Tm.size_app (a : Tm) (b : Tm) : (Tm.app a b).size = 1 + a.size + b.size := rfl
theorem Tm.size_zero : (Tm.zero).size = 1 := rfl
theorem Tm.size_succ (a : Tm) : (Tm.succ a).size = 1 + a.size := rfl
theorem Tm.size_recu (s : Ty) (a : Tm) (b : Tm) (c : Tm) : (Tm.recu s a b c).size = 1 + a.size + b.size + c.size := rfl
theorem Tm.size_nil : (Tm.nil).size = 1 := rfl
theorem Tm.size_cons (a : Tm) (b : Tm) : (Tm.cons a b).size = 1 + a.size + b.size := rfl
theorem Tm.size_fold (s : Ty) (a : Tm) (b : Tm) (c : Tm) : (Tm.fold s a b c).size = 1 + a.size + b.size + c.size := rfl
theorem Tm.size_pair (a : Tm) (b : Tm) : (Tm.pair a b).size = 1 + a.size + b.size := rfl
theorem Tm.size_fst (a : Tm) : (Tm.fst a).size = 1 + a.size := rfl
theorem Tm.size_snd (a : Tm) : (Tm.snd a).size = 1 + a.size := rfl
theorem Tm.size_unit : (Tm.unit).size = 1 := rfl
theorem tmAll : type_of% (And.intro @Tm.kind_var (And.intro @Tm.kind_lam (And.intro @Tm.kind_app (And.intro @Tm.kind_zero (And.intro @Tm.kind_succ (And.intro @Tm.kind_recu (And.intro @Tm.kind_nil (And.intro @Tm.kind_cons (And.intro @Tm.kind_fold (And.intro @Tm.kind_pair (And.intro @Tm.kind_fst (And.intro @Tm.kind_snd (And.intro @Tm.kind_unit (And.intro @Tm.idx_var (And.intro @Tm.idx_lam (And.intro @Tm.idx_app (And.intro @Tm.idx_zero (And.intro @Tm.idx_succ (And.intro @Tm.idx_recu (And.intro @Tm.idx_nil (And.intro @Tm.idx_cons (And.intro @Tm.idx_fold (And.intro @Tm.idx_pair (And.intro @Tm.idx_fst (And.intro @Tm.idx_snd (And.intro @Tm.idx_unit (And.intro @Tm.tkind_var (And.intro @Tm.tkind_lam (And.intro @Tm.tkind_app (And.intro @Tm.tkind_zero (And.intro @Tm.tkind_succ (And.intro @Tm.tkind_recu (And.intro @Tm.tkind_nil (And.intro @Tm.tkind_cons (And.intro @Tm.tkind_fold (And.intro @Tm.tkind_pair (And.intro @Tm.tkind_fst (And.intro @Tm.tkind_snd (And.intro @Tm.tkind_unit (And.intro @Tm.tz_var (And.intro @Tm.tz_lam (And.intro @Tm.tz_app (And.intro @Tm.tz_zero (And.intro @Tm.tz_succ (And.intro @Tm.tz_recu (And.intro @Tm.tz_nil (And.intro @Tm.tz_cons (And.intro @Tm.tz_fold (And.intro @Tm.tz_pair (And.intro @Tm.tz_fst (And.intro @Tm.tz_snd (And.intro @Tm.tz_unit (And.intro @Tm.trows_var (And.intro @Tm.trows_lam (And.intro @Tm.trows_app (And.intro @Tm.trows_zero (And.intro @Tm.trows_succ (And.intro @Tm.trows_recu (And.intro @Tm.trows_nil (And.intro @Tm.trows_cons (And.intro @Tm.trows_fold (And.intro @Tm.trows_pair (And.intro @Tm.trows_fst (And.intro @Tm.trows_snd (And.intro @Tm.trows_unit (And.intro @Tm.az_var (And.intro @Tm.az_lam (And.intro @Tm.az_app (And.intro @Tm.az_zero (And.intro @Tm.az_succ (And.intro @Tm.az_recu (And.intro @Tm.az_nil (And.intro @Tm.az_cons (And.intro @Tm.az_fold (And.intro @Tm.az_pair (And.intro @Tm.az_fst (And.intro @Tm.az_snd (And.intro @Tm.az_unit (And.intro @Tm.arows_var (And.intro @Tm.arows_lam (And.intro @Tm.arows_app (And.intro @Tm.arows_zero (And.intro @Tm.arows_succ (And.intro @Tm.arows_recu (And.intro @Tm.arows_nil (And.intro @Tm.arows_cons (And.intro @Tm.arows_fold (And.intro @Tm.arows_pair (And.intro @Tm.arows_fst (And.intro @Tm.arows_snd (@Tm.arows_unit))))))))))))))))))))))))))))))))))))))))))))))))))))))))))))))))))))))))))))))))))))))))))) := And.intro @Tm.kind_var (And.intro @Tm.kind_lam (And.intro @Tm.kind_app (And.intro @Tm.kind_zero (And.intro @Tm.kind_succ (And.intro @Tm.kind_recu (And.intro @Tm.kind_nil (And.intro @Tm.kind_cons (And.intro @Tm.kind_fold (And.intro @Tm.kind_pair (And.intro @Tm.kind_fst (And.intro @Tm.kind_snd (And.intro @Tm.kind_unit (And.intro @Tm.idx_var (And.intro @Tm.idx_lam (And.intro @Tm.idx_app (And.intro @Tm.idx_zero (And.intro @Tm.idx_succ (And.intro @Tm.idx_recu (And.intro @Tm.idx_nil (And.intro @Tm.idx_cons (And.intro @Tm.idx_fold (And.intro @Tm.idx_pair (And.intro @Tm.idx_fst (And.intro @Tm.idx_snd (And.intro @Tm.idx_unit (And.intro @Tm.tkind_var (And.intro @Tm.tkind_lam (And.intro @Tm.tkind_app (And.intro @Tm.tkind_zero (And.intro @Tm.tkind_succ (And.intro @Tm.tkind_recu (And.intro @Tm.tkind_nil (And.intro @Tm.tkind_cons (And.intro @Tm.tkind_fold (And.intro @Tm.tkind_pair (And.intro @Tm.tkind_fst (And.intro @Tm.tkind_snd (And.intro @Tm.tkind_unit (And.intro @Tm.tz_var (And.intro @Tm.tz_lam (And.intro @Tm.tz_app (And.intro @Tm.tz_zero (And.intro @Tm.tz_succ (And.intro @Tm.tz_recu (And.intro @Tm.tz_nil (And.intro @Tm.tz_cons (And.intro @Tm.tz_fold (And.intro @Tm.tz_pair (And.intro @Tm.tz_fst (And.intro @Tm.tz_snd (And.intro @Tm.tz_unit (And.intro @Tm.trows_var (And.intro @Tm.trows_lam (And.intro @Tm.trows_app (And.intro @Tm.trows_zero (And.intro @Tm.trows_succ (And.intro @Tm.trows_recu (And.intro @Tm.trows_nil (And.intro @Tm.trows_cons (And.intro @Tm.trows_fold (And.intro @Tm.trows_pair (And.intro @Tm.trows_fst (And.intro @Tm.trows_snd (And.intro @Tm.trows_unit (And.intro @Tm.az_var (And.intro @Tm.az_lam (And.intro @Tm.az_app (And.intro @Tm.az_zero (And.intro @Tm.az_succ (And.intro @Tm.az_recu (And.intro @Tm.az_nil (And.intro @Tm.az_cons (And.intro @Tm.az_fold (And.intro @Tm.az_pair (And.intro @Tm.az_fst (And.intro @Tm.az_snd (And.intro @Tm.az_unit (And.intro @Tm.arows_var (And.intro @Tm.arows_lam (And.intro @Tm.arows_app (And.intro @Tm.arows_zero (And.intro @Tm.arows_succ (And.intro @Tm.arows_recu (And.intro @Tm.arows_nil (And.intro @Tm.arows_cons (And.intro @Tm.arows_fold (And.intro @Tm.arows_pair (And.intro @Tm.arows_fst (And.intro @Tm.arows_snd (@Tm.arows_unit))))))))))))))))))))))))))))))))))))))))))))))))))))))))))))))))))))))))))))))))))))))))))
end Go.Pi.Terms
