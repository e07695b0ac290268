import Derived.Orders
import Derived.LoopN
import Derived.KernelRfl
import Derived.Laws.Sem
import Derived.Laws.World
import Derived.Laws.Cells
import Derived.Laws.Entries
import Derived.Laws.Build
import Derived.Laws.Append
import Derived.ChangeKeysEq
/- The plain interpreter: values are trees, slices are lists, boxes are registers. Definitions only. -/
namespace Go.Pi
open Go

/-- Plain values. -/
inductive PV where
  | un
  | ud
  | v (x : Value)
  | sl (tok sz : Nat) (rows : List (List PV))
  | ag (cells : List PV)
  | tup (vs : List PV)
  | bx (gen : Nat) (cells : List PV)
  | lp (slot gen off : Nat)
  | ep (row : List PV) (off : Nat)
  | sp (id off : Nat)
  | fn (f : FuncId) (caps : List PV)
  | bs (gen sz : Nat) (rows : List (List PV))
  | ls (slot gen n sz : Nat)
  | mp (id : Nat)
  | md (ks : List Int) (vs : List PV)
  | ifc (t : Nat) (cs : List PV)
  deriving Inhabited

namespace PV
def genOf : PV → Nat
  | .bx g _ => g
  | .bs g _ _ => g
  | _ => 0
/-- A register as an operand: a box is read as its address. -/
def asSrc (t : Nat) : PV → PV
  | .bx g _ => .lp t g 0
  | .bs g z rows => .ls t g rows.length z
  | x => x
/-- One cell without its token; none for what may not leave. -/
def clrC : PV → Option PV
  | .v x => some (.v x)
  | .sl _ z r => some (.sl 0 z r)
  | .sp i o => some (.sp i o)
  | .fn f c => some (.fn f c)
  | .mp i => some (.mp i)
  | .ifc t c => some (.ifc t c)
  | _ => none
def clrs : List PV → Option (List PV)
  | [] => some []
  | x :: r => match clrC x, clrs r with
    | some y, some l => some (y :: l)
    | _, _ => none
/-- A value of one cell or many, without tokens. -/
def clr : PV → Option PV
  | .ag cs => (clrs cs).map .ag
  | x => clrC x
def clrAll : List PV → Option (List PV)
  | [] => some []
  | x :: r => match clr x, clrAll r with
    | some y, some l => some (y :: l)
    | _, _ => none
/-- The cells of a value, tokens kept. -/
def cellsT : PV → Option (List PV)
  | .ag cs => some cs
  | .v x => some [.v x]
  | .sl t z r => some [.sl t z r]
  | .sp i o => some [.sp i o]
  | .fn f c => some [.fn f c]
  | .ls s g n z => some [.ls s g n z]
  | .mp i => some [.mp i]
  | .ifc t c => some [.ifc t c]
  | _ => none
/-- The cells of a value, without tokens. -/
def cells0 (x : PV) : Option (List PV) := match cellsT x with
  | some l => clrs l
  | none => none
end PV
open PV (genOf asSrc clrC clrs clr clrAll cellsT cells0)

/- Values from which no shared box is reached. -/
mutual
def np : PV → Bool
  | .v _ => true
  | .sl _ _ rows => npRR rows
  | .ag cs => npR cs
  | .tup vs => npR vs
  | _ => false
def npR : List PV → Bool
  | [] => true
  | x :: r => np x && npR r
def npRR : List (List PV) → Bool
  | [] => true
  | x :: r => npR x && npRR r
end
/-- What a literal of the program is. -/
def ofCell : Value → PV
  | .slice none 0 0 => .sl 1 0 []
  | x => .v x
def ofCells (cs : List Value) : Option (List PV) := if cs.all (·.oneCell') then some (cs.map ofCell) else none
def ofVal : Value → PV
  | .agg cs => (match ofCells cs.toList with | some l => .ag l | none => .un)
  | x => if x.oneCell' then ofCell x else .un

inductive Src where
  | s (t : Nat)
  | c (x : PV)
  | g (gid : Nat)
  deriving Inhabited

inductive PK where
  | mv
  | pick
  | alloc (zero : List PV)
  | box
  | build (zero : List PV) (parts : List (Nat × Nat))
  | bslice (zero : List PV) (len sz : Nat) (parts : List Nat)
  | ldL (n : Nat) (agg : Bool)
  | ldE (n : Nat) (agg : Bool)
  | ldS (n : Nat) (agg : Bool)
  | stL (n : Nat)
  | stS (n : Nat)
  | nilck
  | bin (op : BinOp)
  | binB (op : BinOp)
  | uno (op : UnOp)
  | fld (off n : Nat) (agg : Bool)
  | fa (off : Nat)
  | ia (sz : Nat)
  | iaA (len sz : Nat)
  | ext (i : Nat)
  | len
  | maxi (mx : Bool)
  | slc (lo hi mx : Bool) (sz : Nat)
  | mkfn (f : FuncId)
  | conv (k : IntKind)
  | callF (f : FuncId)
  | callV
  | app (sz : Nat)
  | appB (sz : Nat)
  | allocS (zero : List PV)
  | boxS
  | mkmap
  | mset
  | mget (zero : PV) (ok : Bool)
  | mlen
  | mkifc (t : Nat)
  | tass (t : Nat) (zero : PV)
  | fnil (neq : Bool)
  | callI (f : FuncId)
  deriving Inhabited

structure PI where
  k : PK
  rs : List Src
  d : Option Nat
  r : Option Nat := none
  g : Option (Nat × Bool) := none
  deriving Inhabited

/-- The memory that calls share: boxes by their names, and the next name. -/
structure Sh where
  boxes : List (Nat × List PV)
  nx : Nat

def getB : List (Nat × List PV) → Nat → Option (List PV)
  | [], _ => none
  | (i, c) :: r, j => if i = j then some c else getB r j
def setB : List (Nat × List PV) → Nat → List PV → List (Nat × List PV)
  | [], _, _ => []
  | (i, c) :: r, j, d => if i = j then (i, d) :: r else (i, c) :: setB r j d

structure Eff where
  sh : Sh
  live : Nat → Bool
  tk : Nat

structure St where
  regs : List PV
  ef : Eff

/-- The content of a map's box is no row of cells. -/
def isMd : List PV → Bool
  | [.md _ _] => true
  | _ => false
def kIdx : List Int → Int → Option Nat
  | [], _ => none
  | a :: r, k => if k = a then some 0 else (kIdx r k).map (· + 1)
def mIns (ks : List Int) (vs : List PV) (k : Int) (x : PV) : PV := match kIdx ks k with
  | some i => .md ks (vs.set i x)
  | none => .md (ks ++ [k]) (vs ++ [x])
def mGet (ks : List Int) (vs : List PV) (k : Int) (z : PV) : PV × Bool := match kIdx ks k with
  | some i => (vs.getD i .un, true)
  | none => (z, false)
/-- A number among ascending ones. -/
def insInt (n : Int) : List Int → List Int
  | [] => [n]
  | a :: r => if n < a then n :: a :: r else a :: insInt n r
def sortInts : List Int → List Int
  | [] => []
  | a :: r => insInt a (sortInts r)
/-- Functions that the code of the program is not compiled for: what they do is shown of them one by one. -/
def primEval : Nat → List PV → Sh → Option (PV × Sh)
  | 0, [.mp id], sh => (match getB sh.boxes id with
    | some [.md ks _] => some (.sl 0 1 ((sortInts ks).map fun k => [.v (.int .i64 k)]), sh)
    | _ => none)
  | _, _, _ => none
def splice (cs : List PV) (off : Nat) (vs : List PV) : List PV := cs.take off ++ vs ++ cs.drop (off + vs.length)
def cut (cs : List PV) (off n : Nat) (agg : Bool) : Option PV :=
  if off + n ≤ cs.length then (if agg then some (.ag ((cs.drop off).take n)) else if n = 1 then some (cs.getD off .un) else none) else none

/-- Operations on numbers. -/
def intBin (op : BinOp) (k : IntKind) (a b : Int) : Option Value :=
  match op with
  | .add => some (.int k (k.wrap (a + b)))
  | .sub => some (.int k (k.wrap (a - b)))
  | .mul => some (.int k (k.wrap (a * b)))
  | .quo => if b = 0 then none else some (.int k (k.wrap (a.tdiv b)))
  | .rem => if b = 0 then none else some (.int k (a.tmod b))
  | .eql => some (.bool (a == b))
  | .neq => some (.bool (a != b))
  | .lss => some (.bool (decide (a < b)))
  | .leq => some (.bool (decide (a ≤ b)))
  | .gtr => some (.bool (decide (a > b)))
  | .geq => some (.bool (decide (a ≥ b)))
  | _ => none

def sameKind (k k' : IntKind) : Bool := decide (k = k')

def binV (op : BinOp) (x y : Value) : Option Value :=
  match x, y with
  | .int k a, .int k' b => if sameKind k k' then intBin op k a b else none
  | _, _ => none
def binBV (op : BinOp) (x y : Value) : Option Value :=
  match op, x, y with
  | .eql, .bool a, .bool b => some (.bool (a == b))
  | .neq, .bool a, .bool b => some (.bool (a != b))
  | _, _, _ => none
def unoV (op : UnOp) (x : Value) : Option Value :=
  match op, x with
  | .not, .bool b => some (.bool (!b))
  | .neg, .int k n => some (.int k (k.wrap (0 - n)))
  | _, _ => none

def fillB : List PV → List (Nat × Nat) → List PV → Option (List PV)
  | z, [], [] => some z
  | z, (off, n) :: ps, x :: xs => match cellsT x with
    | some cs => if cs.length = n ∧ off + n ≤ z.length then fillB (splice z off cs) ps xs else none
    | none => none
  | _, _, _ => none

def fillS (sz : Nat) : List (List PV) → List Nat → List PV → Option (List (List PV))
  | z, [], [] => some z
  | z, i :: ps, x :: xs => match cells0 x with
    | some cs => if cs.length = sz ∧ i < z.length then fillS sz (z.set i cs) ps xs else none
    | none => none
  | _, _, _ => none

def offBy (x : PV) (n : Nat) : Option PV :=
  match x with
  | .lp s g o => some (.lp s g (o + n))
  | .ep r o => some (.ep r (o + n))
  | .sp i o => some (.sp i (o + n))
  | _ => none

def bnd : Option PV → Int → Option Int
  | none, d => some d
  | some (.v (.int _ a)), _ => some a
  | some _, _ => none
def pull : Bool → List PV → Option PV × List PV
  | true, x :: r => (some x, r)
  | _, r => (none, r)
def sliceOf (x : PV) (lo hi mx : Option PV) (z : Nat) : Option PV :=
  match x with
  | .sl _ sz rows =>
    if sz = z || rows.isEmpty then
      match bnd lo 0, bnd hi rows.length with
      | some l, some h =>
        if 0 ≤ l ∧ l ≤ h ∧ h ≤ rows.length then
          match mx with
          | none => some (.sl 0 z ((rows.drop l.toNat).take (h.toNat - l.toNat)))
          | some (.v (.int _ m)) => if m = h ∧ hi.isSome = true then some (.sl 1 z ((rows.drop l.toNat).take (h.toNat - l.toNat))) else none
          | some _ => none
        else none
      | _, _ => none
    else none
  | _ => none

def appMax : Nat := 4294967296

/-- Operations without an effect: 'old' is the register that is written. -/
def evalP (k : PK) (old : PV) (xs : List PV) : Option PV :=
  match k, xs with
  | .mv, [x] => (match x with | .un => none | .ud => none | x => some x)
  | .pick, [.v (.bool c), a, b] => some (if c then a else b)
  | .alloc zero, [] => some (.bx (old.genOf + 1) zero)
  | .box, [x] => (match cellsT x with | some cs => some (.bx (old.genOf + 1) cs) | none => none)
  | .build zero parts, xs => (match fillB zero parts xs with | some cs => some (.ag cs) | none => none)
  | .bslice zero len sz parts, xs => (match fillS sz (List.replicate len zero) parts xs with | some rows => some (.sl 1 sz rows) | none => none)
  | .ldE n agg, [.ep row off] => cut row off n agg
  | .nilck, [x] => (match x with | .lp s g o => some (.lp s g o) | .ep r o => some (.ep r o) | .sp i o => some (.sp i o) | .fn f c => some (.fn f c) | _ => none)
  | .bin op, [.v a, .v b] => (match binV op a b with | some r => some (.v r) | none => none)
  | .binB op, [.v a, .v b] => (match binBV op a b with | some r => some (.v r) | none => none)
  | .uno op, [.v a] => (match unoV op a with | some r => some (.v r) | none => none)
  | .fld off n agg, [.ag cs] => cut cs off n agg
  | .fa off, [x] => offBy x off
  | .ia sz, [.sl _ z rows, .v (.int _ i)] => if 0 ≤ i ∧ i < rows.length ∧ z = sz then some (.ep (rows.getD i.toNat []) 0) else none
  | .ia sz, [.ls s g n z, .v (.int _ i)] => if 0 ≤ i ∧ i < n ∧ z = sz then some (.lp s g (i.toNat * sz)) else none
  | .iaA len sz, [x, .v (.int _ i)] => if 0 ≤ i ∧ i < len then offBy x (i.toNat * sz) else none
  | .ext i, [.tup vs] => vs[i]?
  | .len, [.sl _ _ rows] => some (.v (.int .i64 rows.length))
  | .len, [.ls _ _ n _] => some (.v (.int .i64 n))
  | .appB sz, [.sl 1 _ [], .sl _ z rows] => if z = sz ∧ rows ≠ [] ∧ rows.length ≤ appMax then some (.bs (old.genOf + 1) sz rows) else none
  | .maxi mx, [.v (.int .i64 a), .v (.int .i64 b)] => some (.v (.int .i64 (if mx then (if a < b then b else a) else (if b < a then b else a))))
  | .slc lo hi mx z, x :: r => sliceOf x (pull lo r).1 (pull hi (pull lo r).2).1 (pull mx (pull hi (pull lo r).2).2).1 z
  | .mkfn f, xs => (match clrs xs with | some cs => some (.fn f cs) | none => none)
  | .conv k, [.v (.int _ n)] => some (.v (.int k (k.wrap n)))
  | .mkifc t, [.ag cs] => (match clrs cs with | some c => some (.ifc t c) | none => none)
  | .fnil neq, [.v .nilFunc, .v .nilFunc] => some (.v (.bool (!neq)))
  | .fnil neq, [.fn _ _, .v .nilFunc] => some (.v (.bool neq))
  | .tass t z, [.ifc u cs] => some (if u = t then .tup [.ag cs, .v (.bool true)] else .tup [z, .v (.bool false)])
  | _, _ => none

/-- A load from, a store to a box in a register. -/
def evalL (p old : PV) (slot n : Nat) (agg : Bool) : Option PV :=
  match p, old with
  | .lp s g off, .bx g' cs => if s = slot ∧ g = g' then cut cs off n agg else none
  | .lp s g off, .bs g' z rows => if s = slot ∧ g = g' ∧ off / z < rows.length then cut (rows.getD (off / z) []) (off % z) n agg else none
  | _, _ => none
def evalW (p x old : PV) (slot n : Nat) : Option PV :=
  match p, old, cellsT x with
  | .lp s g off, .bx g' cs, some vs => if s = slot ∧ g = g' ∧ vs.length = n ∧ off + n ≤ cs.length then some (.bx g (splice cs off vs)) else none
  | .lp s g off, .bs g' z rows, some vs => (match clrs vs with
    | some ws => if s = slot ∧ g = g' ∧ ws.length = n ∧ off / z < rows.length ∧ off % z + n ≤ z then some (.bs g z (rows.set (off / z) (splice (rows.getD (off / z) []) (off % z) ws))) else none
    | none => none)
  | _, _, _ => none

abbrev CallF := FuncId → List PV → Sh → Option (PV × Sh)

/-- May rows be appended? A token of 1: no room; of 2 and more: the last of its kind. -/
def appOk (live : Nat → Bool) (t z sz : Nat) (rows : List (List PV)) (z' : Nat) (rows' : List (List PV)) : Bool :=
  (if t = 1 then decide (z = sz) || rows.isEmpty else decide (2 ≤ t) && live t && decide (z = sz)) && (decide (z' = sz) || rows'.isEmpty) && decide (rows.length + rows'.length ≤ appMax)

/-- Operations with an effect. -/
def evalE (call : CallF) (k : PK) (xs : List PV) (e : Eff) : Option (PV × Eff) :=
  match k, xs with
  | .callF f, xs => (match clrAll xs with
    | some ys => (match call f ys e.sh with | some (r, sh) => some (r, { e with sh := sh }) | none => none)
    | none => none)
  | .callI f, xs => (match clrAll xs with
    | some ys => if npR ys then (match call f ys ⟨[], e.sh.nx⟩ with
      | some (r, ⟨[], nx⟩) => if np r && decide (e.sh.nx ≤ nx) then some (r, { e with sh := ⟨e.sh.boxes, nx⟩ }) else none
      | _ => none) else none
    | none => none)
  | .callV, .fn f caps :: xs => (match clrAll xs with
    | some ys => (match call f (ys ++ caps) e.sh with | some (r, sh) => some (r, { e with sh := sh }) | none => none)
    | none => none)
  | .app sz, [.sl t z rows, .sl _ z' rows'] =>
    if appOk e.live t z sz rows z' rows' then
      some (.sl e.tk sz (rows ++ rows'), { e with tk := e.tk + 1, live := fun x => if x = e.tk then true else if x = t then false else e.live x })
    else none
  | .ldS n agg, [.sp id off] => (match getB e.sh.boxes id with
    | some cs => if isMd cs then none else (match cut cs off n agg with | some r => some (r, e) | none => none)
    | none => none)
  | .stS n, [.sp id off, x] => (match getB e.sh.boxes id, cells0 x with
    | some cs, some vs => if isMd cs then none else if vs.length = n ∧ off + n ≤ cs.length then some (.un, { e with sh := { e.sh with boxes := setB e.sh.boxes id (splice cs off vs) } }) else none
    | _, _ => none)
  | .allocS zero, [] => (match clrs zero with
    | some z => some (.sp e.sh.nx 0, { e with sh := ⟨(e.sh.nx, z) :: e.sh.boxes, e.sh.nx + 1⟩ })
    | none => none)
  | .boxS, [x] => (match cells0 x with
    | some z => some (.sp e.sh.nx 0, { e with sh := ⟨(e.sh.nx, z) :: e.sh.boxes, e.sh.nx + 1⟩ })
    | none => none)
  | .mkmap, [] => some (.mp e.sh.nx, { e with sh := ⟨(e.sh.nx, [.md [] []]) :: e.sh.boxes, e.sh.nx + 1⟩ })
  | .mset, [.mp id, .v (.int .i64 k), x] => (match getB e.sh.boxes id, clr x with
    | some [.md ks vs], some y => some (.un, { e with sh := { e.sh with boxes := setB e.sh.boxes id [mIns ks vs k y] } })
    | _, _ => none)
  | .mget z ok, [.mp id, .v (.int .i64 k)] => (match getB e.sh.boxes id with
    | some [.md ks vs] => some (if ok then .tup [(mGet ks vs k z).1, .v (.bool (mGet ks vs k z).2)] else (mGet ks vs k z).1, e)
    | _ => none)
  | .mlen, [.mp id] => (match getB e.sh.boxes id with
    | some [.md ks _] => some (.v (.int .i64 ks.length), e)
    | _ => none)
  | _, _ => none

def PK.eff : PK → Bool
  | .callF _ | .callI _ | .callV | .app _ | .ldS _ _ | .stS _ | .allocS _ | .boxS | .mkmap | .mset | .mget _ _ | .mlen => true
  | _ => false

abbrev Glob := Nat → Option (List PV)

def src (G : Glob) (get : Nat → PV) : Src → PV
  | .s t => (get t).asSrc t
  | .c x => x
  | .g i => match G i with | some cs => .ep cs 0 | none => .un

def undefPV : PV := .ud

/-- Is a guarded operation wanted? none: not known. -/
def wantedP (get : Nat → PV) : Option (Nat × Bool) → Option Bool
  | none => some true
  | some (j, b) => match get j with
    | .v (.bool x) => some (x == b)
    | .ud => some false
    | _ => none

def putD (regs : List PV) : Option Nat → PV → List PV
  | none, _ => regs
  | some d, x => regs.set d x

/-- The register that an operation writes. -/
def PI.target (i : PI) : Option Nat := match i.k with
  | .stL _ => i.r
  | _ => i.d

/-- What an operation that is wanted makes: the value for its register, and the effect. -/
def act (call : CallF) (G : Glob) (i : PI) (get : Nat → PV) (e : Eff) : Option (PV × Eff) :=
  let xs := i.rs.map (src G get)
  if i.k.eff then evalE call i.k xs e
  else match i.k, i.r, xs with
    | .ldL n agg, some r, [p] => (match evalL p (get r) r n agg with | some x => some (x, e) | none => none)
    | .stL n, some r, [p, x] => (match evalW p x (get r) r n with | some y => some (y, e) | none => none)
    | k, none, xs => (match i.d with
      | some d => (match evalP k (get d) xs with | some x => some (x, e) | none => none)
      | none => none)
    | _, _, _ => none

def PK.boxes : PK → Bool
  | .alloc _ | .box | .appB _ => true
  | _ => false

def step (call : CallF) (G : Glob) (i : PI) (st : St) : Option St :=
  let get := fun t => st.regs.getD t .un
  match wantedP get i.g with
  | some true => (match act call G i get st.ef with
    | some (x, e) => some ⟨putD st.regs i.target x, e⟩
    | none => none)
  | some false => if i.k.boxes then none else some ⟨putD st.regs i.d undefPV, st.ef⟩
  | none => none

def steps (call : CallF) (G : Glob) : List PI → St → Option St
  | [], st => some st
  | i :: r, st => match step call G i st with
    | some st' => steps call G r st'
    | none => none

inductive PC where
  | skip
  | ops (l : List PI)
  | seq (a b : PC)
  | cond (c : Src) (a b : PC)
  | block (id : Nat) (b : PC)
  | loop (b : PC)
  | exit (id : Nat)
  | ret
  | prim (k : Nat)
  deriving Inhabited

inductive Out where
  | nrm (s : St)
  | ext (id : Nat) (s : St)
  | ret (s : St)

def iter (f : St → Option Out) : Nat → St → Option Out
  | 0, _ => none
  | n + 1, s => match f s with
    | some (.nrm s') => iter f n s'
    | o => o

def exec (call : CallF) (G : Glob) (fuel : Nat) : PC → St → Option Out
  | .skip, s => some (.nrm s)
  | .ops l, s => (match steps call G l s with | some s' => some (.nrm s') | none => none)
  | .seq a b, s => (match exec call G fuel a s with | some (.nrm s') => exec call G fuel b s' | o => o)
  | .cond c a b, s => (match src G (fun t => s.regs.getD t .un) c with
    | .v (.bool t) => if t then exec call G fuel a s else exec call G fuel b s
    | _ => none)
  | .block id b, s => (match exec call G fuel b s with
    | some (.ext j s') => if j = id then some (.nrm s') else some (.ext j s')
    | o => o)
  | .loop b, s => iter (exec call G fuel b) fuel s
  | .exit id, s => some (.ext id s)
  | .ret, s => some (.ret s)
  | .prim k, s => (match primEval k s.regs s.ef.sh with
    | some (r, sh) => some (.ret ⟨[r], { s.ef with sh := sh }⟩)
    | none => none)

inductive RS where
  | t (slot : Nat)
  | c (slot n : Nat) (agg : Bool)
  deriving Inhabited

structure PF where
  nt : Nat
  body : PC
  res : List RS
  drop : Bool := false
  deriving Inhabited

/-- What leaves the function: rows of its own are handed over. -/
def frzC (regs : List PV) : PV → Option PV
  | .ls s g n _ => (match regs.getD s .un with
    | .bs g' z rows => if g = g' ∧ n = rows.length then some (.sl 0 z rows) else none
    | _ => none)
  | x => clrC x
def frzs (regs : List PV) : List PV → Option (List PV)
  | [] => some []
  | x :: r => match frzC regs x, frzs regs r with
    | some y, some l => some (y :: l)
    | _, _ => none
def frz (regs : List PV) : PV → Option PV
  | .ag cs => (frzs regs cs).map .ag
  | x => frzC regs x
def resOf (regs : List PV) : RS → Option PV
  | .t s => frz regs ((regs.getD s .un).asSrc s)
  | .c s n agg => match regs.getD s .un with
    | .bx _ cs => (match cut cs 0 n agg with | some x => frz regs x | none => none)
    | _ => none
def resAll (regs : List PV) : List RS → Option (List PV)
  | [] => some []
  | r :: l => match resOf regs r, resAll regs l with
    | some x, some y => some (x :: y)
    | _, _ => none
def resPV : List PV → PV
  | [x] => x
  | l => .tup l

def startSt (nt : Nat) (args : List PV) (sh : Sh) : St := ⟨args ++ List.replicate (nt - args.length) .un, ⟨sh, fun _ => false, 2⟩⟩

def dropSh (drop : Bool) (n : Nat) (sh : Sh) : Sh := if drop then ⟨sh.boxes.drop (sh.boxes.length - n), sh.nx⟩ else sh

def finish (pf : PF) (n : Nat) : Option Out → Option (PV × Sh)
  | some (.nrm s) | some (.ret s) => (match resAll s.regs pf.res with
    | some l => some (resPV l, dropSh pf.drop n s.ef.sh)
    | none => none)
  | _ => none

def callN (T : Nat → Option PF) (G : Glob) : Nat → CallF
  | 0 => fun _ _ _ => none
  | n + 1 => fun f args sh => match T f with
    | none => none
    | some pf => finish pf sh.boxes.length (exec (callN T G n) G n pf.body (startSt pf.nt args sh))


/-- The slots that are boxes of the function's own, and which of them the addresses in some slots point into. -/
structure Lst where
  b : List Nat
  m : List (Nat × Nat) := []
  pu : List Nat := []
  iso : List Nat := []
def Lst.contains (L : Lst) (s : Nat) : Bool := L.b.contains s
def Lst.holds (L : Lst) : Option Nat → Bool
  | some d => L.contains d
  | none => false
def Lst.all (L : Lst) (p : Nat → Bool) : Bool := L.b.all p

/- FROM THE LOADED CODE. -/
section compile
variable (P : Program) (L : Lst)

def aggT (t : TypeId) : Bool := match P.underlying t with
  | some (.struct _) | some (.array _ _) => true
  | _ => false
def zeroC (t : TypeId) : Option (List PV) := match P.info? t with
  | some i => (match i.zero with | some v => ofCells v.cells.toList | none => none)
  | none => none
def toSrc : Operand → Src
  | .tmp t => .s t
  | .const v => .c (ofVal v)
  | .global g => .g g
  | .func f => .c (.fn f [])

inductive Root where
  | l (s : Nat) | e | s

def defOf (prev : List Oper) (t : Nat) : Option Op := match prev with
  | [] => none
  | o :: r => match defOf r t with
    | some x => some x
    | none => match o.dst with
      | some d => if d = t then some o.op else none
      | none => none

def root (prev : List Oper) : Nat → Operand → Root
  | 0, _ => .s
  | n + 1, .tmp t => if L.contains t then .l t else match L.m.lookup t with
    | some s => .l s
    | none => match defOf prev t with
    | some (.fieldAddr _ x _) => root prev n x
    | some (.indexAddr T x _) => (match P.underlying T with | some (.slice _) => .e | _ => root prev n x)
    | some (.nilCheck x) => root prev n x
    | some (.move x) => root prev n x
    | some (.assign x) => root prev n x
    | _ => .s
  | _, .global _ => .e
  | _, _ => .s

def fieldSpan (t : TypeId) (f : Nat) : Option (Nat × Nat × Bool) := match P.underlying t with
  | some (.struct fs) => (match fs[f]? with
    | some fl => (match P.info? fl.type with | some i => some (fl.offset, i.size, aggT P fl.type) | none => none)
    | none => none)
  | _ => none

def fieldKnown (t : TypeId) (f : Nat) : Bool := match P.underlying t with
  | some (.struct fs) => (match fs[f]? with | some fl => (P.underlying fl.type).isSome | none => false)
  | _ => false

def partsOf (t : TypeId) : List (Nat × Operand) → Option (List (Nat × Nat))
  | [] => some []
  | (i, _) :: r => match fieldSpan P t i, partsOf t r with
    | some (o, n, _), some l => some ((o, n) :: l)
    | _, _ => none

def optSrc : Option Operand → List Src
  | some x => [toSrc x]
  | none => []

/-- The operation, its operands, and the box that it reads or writes. -/
def compOp (prev : List Oper) (dst : Option Nat) : Op → Option (PK × List Src × Option Nat)
  | .move x => some (.mv, [toSrc x], none)
  | .assign x => some (.mv, [toSrc x], none)
  | .pick c a b => some (.pick, [toSrc c, toSrc a, toSrc b], none)
  | .alloc T => (match zeroC P T, dst with
    | some z, some d => some (if L.contains d then .alloc z else .allocS z, [], none)
    | _, _ => none)
  | .box _ x => (match dst with
    | some d => some (if L.contains d then .box else .boxS, [toSrc x], none)
    | none => none)
  | .build T ps => (match zeroC P T, partsOf P T ps.toList, P.underlying T with
    | some z, some l, some (.struct fs) => if !(fs.toList.all fun f => (P.info? f.type).isSome) then none else some (.build z l, ps.toList.map fun p => toSrc p.2, none)
    | _, _, _ => none)
  | .buildSlice T len ps => (match P.underlying T with
    | some (.slice E) => (match zeroC P E with
      | some z1 => match clrs z1 with
        | none => none
        | some z => if decide (z.length = P.cellsOf E) && decide (len * P.cellsOf E ≤ 2 ^ 24) && decide (0 < P.cellsOf E) then some (.bslice z len (P.cellsOf E) (ps.toList.map (·.1)), ps.toList.map fun p => toSrc p.2, none) else none
      | none => none)
    | _ => none)
  | .load T a => (match P.info? T with
    | some i => if (P.underlying T).isNone then none else
      let n := if aggT P T then i.size else 1
      (match root P L prev 20 a with
      | .l s => some (.ldL n (aggT P T), [toSrc a], some s)
      | .e => some (.ldE n (aggT P T), [toSrc a], none)
      | .s => some (.ldS n (aggT P T), [toSrc a], none))
    | none => none)
  | .store T a x => (match P.info? T with
    | some i => (match root P L prev 20 a with
      | .l s => some (.stL i.size, [toSrc a, toSrc x], some s)
      | .e => none
      | .s => some (.stS i.size, [toSrc a, toSrc x], none))
    | none => none)
  | .nilCheck x => some (.nilck, [toSrc x], none)
  | .binOp op T x y _ => (match P.underlying T with
    | some (.int _) => some (.bin op, [toSrc x, toSrc y], none)
    | some .bool => some (.binB op, [toSrc x, toSrc y], none)
    | some (.func _ _ _) => (match op with
      | .eql => some (.fnil false, [toSrc x, toSrc y], none)
      | .neq => some (.fnil true, [toSrc x, toSrc y], none)
      | _ => none)
    | _ => none)
  | .unOp op _ x => some (.uno op, [toSrc x], none)
  | .convert S D x => (match P.underlying S, P.underlying D with
    | some (.int _), some (.int k) => some (.conv k, [toSrc x], none)
    | _, _ => none)
  | .fieldAddr T x f => (match fieldSpan P T f with
    | some (o, n, _) => if n = 0 then none else some (.fa o, [toSrc x], none)
    | none => none)
  | .field T x f => (match fieldSpan P T f with
    | some (o, n, agg) => if fieldKnown P T f then some (.fld o (if agg then n else 1) agg, [toSrc x], none) else none
    | none => none)
  | .indexAddr T x i => (match P.underlying T with
    | some (.slice E) => (match P.info? E with | some j => some (.ia j.size, [toSrc x, toSrc i], none) | none => none)
    | some (.array n E) => (match P.info? E with | some j => some (.iaA n j.size, [toSrc x, toSrc i], none) | none => none)
    | _ => none)
  | .extract x i => some (.ext i, [toSrc x], none)
  | .slice T x lo hi mx => (match P.underlying T with
    | some (.slice E) => (match P.info? E with
      | some j => some (.slc lo.isSome hi.isSome mx.isSome j.size, toSrc x :: (optSrc lo ++ optSrc hi ++ optSrc mx), none)
      | none => none)
    | _ => none)
  | .makeFunc (.func f) first caps => if first.size = 0 then some (.mkfn f, caps.toList.map toSrc, none) else none
  | .makeInterface T x => (match P.underlying T with
    | some (.struct _) => some (.mkifc T, [toSrc x], none)
    | _ => none)
  | .typeAssert x _ A true => (match P.underlying A, P.info? A with
    | some (.struct _), some i => (match i.zero with
      | some v => (match clr (ofVal v) with
        | some z => some (.tass A z, [toSrc x], none)
        | none => none)
      | none => none)
    | _, _ => none)
  | .makeMap T none => (match P.underlying T with
    | some (.map _ _) => some (.mkmap, [], none)
    | _ => none)
  | .mapUpdate T m k x => (match P.underlying T, dst with
    | some (.map K _), none => (match P.underlying K with
      | some (.int .i64) => some (.mset, [toSrc m, toSrc k, toSrc x], none)
      | _ => none)
    | _, _ => none)
  | .lookup T m k ok => (match P.underlying T with
    | some (.map K E) => (match P.underlying K, P.info? E with
      | some (.int .i64), some i => (match i.zero with
        | some v => (match clr (ofVal v) with
          | some z => some (.mget z ok, [toSrc m, toSrc k], none)
          | none => none)
        | none => none)
      | _, _ => none)
    | _ => none)
  | .call ⟨.value (.func f), args, _⟩ => some (if L.iso.contains f then .callI f else .callF f, args.toList.map toSrc, none)
  | .call ⟨.value (.tmp t), args, _⟩ => some (.callV, .s t :: args.toList.map toSrc, none)
  | .call ⟨.builtin .len, args, ts⟩ => (match ts[0]? with
    | some T => (match P.underlying T with
      | some (.slice _) => if args.size = 1 then some (.len, args.toList.map toSrc, none) else none
      | some (.map _ _) => if args.size = 1 then some (.mlen, args.toList.map toSrc, none) else none
      | _ => none)
    | none => none)
  | .call ⟨.builtin .max, args, _⟩ => if args.size = 2 then some (.maxi true, args.toList.map toSrc, none) else none
  | .call ⟨.builtin .min, args, _⟩ => if args.size = 2 then some (.maxi false, args.toList.map toSrc, none) else none
  | .call ⟨.builtin .append, args, ts⟩ => (match ts[0]?, ts[1]? with
    | some T, some T' => (match P.underlying T, P.underlying T' with
      | some (.slice E), some (.slice _) => (match P.info? E, zeroC P E with
        | some j, some z => if decide (args.size = 2) && decide (0 < j.size) && decide (z.length = j.size) && decide (0 < j.bytes) && decide (j.bytes ≤ 4096) then some (if L.holds dst = true then .appB j.size else .app j.size, args.toList.map toSrc, none) else none
        | _, _ => none)
      | _, _ => none)
    | _, _ => none)
  | _ => none

def guardOf (ops : List Oper) : Option (Nat × Bool) → Option (Option (Nat × Bool))
  | none => some none
  | some (j, b) => match ops[j]? with
    | some o => (match o.dst with | some d => some (some (d, b)) | none => none)
    | none => none

def dstOk (L : Lst) (dst : Option Nat) (k : PK) : Bool := match dst with
  | some d => L.contains d == k.boxes
  | none => !k.boxes
def boxOk (L : Lst) (dst : Option Nat) : PK → Option Nat → Bool
  | .stL _, some s => L.contains s && dst.isNone
  | .ldL _ _, some _ => true
  | .stL _, none => false
  | .ldL _ _, none => false
  | _, some _ => false
  | .stS _, none => dst.isNone
  | _, none => true
def compOk (L : Lst) (dst : Option Nat) (k : PK) (r : Option Nat) : Bool := dstOk L dst k && boxOk L dst k r

def compI (ops prev : List Oper) (o : Oper) : Option PI :=
  match compOp P L prev o.dst o.op, guardOf ops o.guard with
  | some (k, rs, r), some g =>
    if compOk L o.dst k r then some ⟨k, rs, o.dst, r, g⟩ else none
  | _, _ => none

def compL (ops prev : List Oper) : List Oper → Option (List PI)
  | [] => some []
  | o :: r => match compI P L ops prev o, compL ops (prev ++ [o]) r with
    | some i, some l => some (i :: l)
    | _, _ => none

/- Any order. -/
def PI.reads (i : PI) : List Nat :=
  (i.rs.filterMap fun | .s t => some t | _ => none) ++ i.r.toList ++ (match i.g with | some (j, _) => [j] | none => []) ++ (if i.k.boxes then i.d.toList else [])
def PI.writes (i : PI) : List Nat := i.d.toList ++ (match i.k with | .stL _ => i.r.toList | _ => [])
def PK.quiet : PK → Bool
  | .ldS _ _ => true
  | .mget _ _ => true
  | .mlen => true
  | k => !k.eff
/-- Operations that leave the shared memory as it is. -/
def calm (pu : List Nat) : PK → Bool
  | .callF f => pu.contains f
  | k => k.quiet
def PK.alone : PK → Bool
  | .callI _ => true
  | _ => false
def apart (pu : List Nat) (i j : PI) : Bool :=
  i.writes.all (fun t => !j.reads.contains t && !j.writes.contains t) && j.writes.all (fun t => !i.reads.contains t) && (!(i.k.eff && j.k.eff) || (calm pu i.k && calm pu j.k) || (i.k.quiet && j.k.alone) || (i.k.alone && j.k.quiet))

/-- The operations that an operation comes behind, at once or through others. -/
def behind1 (acc : List (List Nat)) (o : Oper) : List Nat :=
  let ds := (o.after.toList.filter fun e => Region.binds .any e).map (·.on)
  ds ++ ds.flatMap fun d => acc.getD d []
def behinds : List (List Nat) → List Oper → List (List Nat)
  | acc, [] => acc
  | acc, o :: r => behinds (acc ++ [behind1 acc o]) r

def pairsOk (pu : List Nat) (is : List PI) (bs : List (List Nat)) : Bool :=
  (List.range is.length).all fun j => (List.range j).all fun i =>
    (bs.getD j []).contains i || (match is[i]?, is[j]? with | some x, some y => apart pu x y | _, _ => false)
def edgesOk (ops : List Oper) : Bool :=
  ops.zipIdx.all fun (o, i) => o.after.toList.all fun e => !Region.binds .any e || decide (e.on < i)

def compR (ops : Array Oper) (draw : Bool) : Option (List PI) :=
  match compL P L ops.toList [] ops.toList with
  | some is => if !draw || (edgesOk ops.toList && pairsOk L.pu is (behinds [] ops.toList)) then some is else none
  | none => none

/-- Blocks that stand for what the program's code has in another form: a jump to a label, the end of a scope, a label. -/
def gid (l : Nat) : Nat := 1000000 + l
def xid (l : Nat) : Nat := 2000000 + l
def lid (l : Nat) : Nat := 3000000 + l
/-- What stands behind a label. -/
def restP : PC → Nat → Option PC
  | .seq a b, l => (match restP a l with | some r => some (.seq r b) | none => restP b l)
  | .block id .skip, l => if id = lid l then some .skip else none
  | _, _ => none
def labelsOf : PC → List Nat
  | .seq a b => labelsOf a ++ labelsOf b
  | .block id .skip => [id]
  | _ => []
/-- A scope: what jumps to its label goes on behind the label. -/
def scopeP (l : Nat) (c r : PC) : PC := .block (xid l) (.seq (.block (gid l) (.seq c (.exit (xid l)))) (.loop (.block (gid l) (.seq r (.exit (xid l))))))

def compC : Code → Option PC
  | .skip => some .skip
  | .region _ ops draw => (match compR P L ops draw with | some l => some (.ops l) | none => none)
  | .seq a b => (match compC a, compC b with | some x, some y => some (.seq x y) | _, _ => none)
  | .cond c a b => (match compC a, compC b with | some x, some y => some (.cond (toSrc c) x y) | _, _ => none)
  | .block id b => (match compC b with | some x => if id < 1000000 then some (.block id x) else none | none => none)
  | .loop b => (match compC b with | some x => some (.loop x) | none => none)
  | .exit id => if id < 1000000 then some (.exit id) else none
  | .ret => some .ret
  | .label l => if l < 1000000 then some (.block (lid l) .skip) else none
  | .goto l => if l < 1000000 then some (.exit (gid l)) else none
  | .scope c => (match compC c with
    | some x => (match (labelsOf x).filter (3000000 ≤ ·) with
      | [k] => (match restP x (k - 3000000) with
        | some r => some (scopeP (k - 3000000) x r)
        | none => none)
      | _ => none)
    | none => none)
  | _ => none

def compRes : List ResultVar → Option (List RS)
  | [] => some []
  | .tmp t :: r => (match compRes r with | some l => some (.t t :: l) | none => none)
  | .cell a T :: r => (match P.info? T, compRes r with
    | some i, some l => if (P.underlying T).isNone then none else some (.c a (if aggT P T then i.size else 1) (aggT P T) :: l)
    | _, _ => none)

def compF (drop : Bool) (fn : Func) : Option PF :=
  match fn.body with
  | some c => (match compC P L c, compRes P fn.results.toList with
    | some b, some r => if fn.name == "runtime.NumGoroutine" || !(L.all fun s => decide (s < fn.ntmps)) then none else some ⟨fn.ntmps, b, r, drop⟩
    | _, _ => none)
  | none => none
end compile

end Go.Pi

/- The relation between plain values and memory, and how it is kept. -/
namespace Go.Pi
open Go
open PV (genOf asSrc clrC clrs clr clrAll cellsT cells0)

inductive Kind where
  | none | imm | frz (h : Nat) | lb (slot gen : Nat) | sb (id : Nat) | arr (tok hwm : Nat)

abbrev KM := Nat → Kind

/-- The first h cells of block b stay as they are. -/
def foot (κ : KM) (b h : Nat) : Prop :=
  match κ b with
  | .imm => True
  | .frz n => h ≤ n
  | .arr _ n => h ≤ n
  | _ => False

inductive RepC (κ : KM) (w : World) : PV → Value → Prop
  | v (x : Value) (h : x.oneCell' = true) : RepC κ w (.v x) x
  | nil (z : Nat) (a : Option Addr) (c : Nat) : RepC κ w (.sl 0 z []) (.slice a 0 c)
  | sl (z : Nat) (rows : List (List PV)) (b o c : Nat) (vs : Nat → Nat → Value) (hne : rows ≠ []) (hlen : ∀ r ∈ rows, r.length = z)
      (hf : foot κ b (o + rows.length * z))
      (hc : ∀ i j, i < rows.length → j < z → w.cell? ⟨b, o + i * z + j, Option.none⟩ = some (vs i j))
      (hr : ∀ i j, i < rows.length → j < z → RepC κ w ((rows.getD i []).getD j .un) (vs i j))
      (hcap : rows.length ≤ c) : RepC κ w (.sl 0 z rows) (.slice (some ⟨b, o, Option.none⟩) rows.length c)
  | sp (id off b : Nat) (h : κ b = .sb id) : RepC κ w (.sp id off) (.pointer (some ⟨b, off, Option.none⟩))
  | fn (f : FuncId) (caps : List PV) (arr : Array Value) (hl : arr.size = caps.length)
      (h : ∀ i, i < caps.length → RepC κ w (caps.getD i .un) (arr.getD i undef)) : RepC κ w (.fn f caps) (.func (.func f) #[] arr)
  | mp (id b : Nat) (h : κ b = .sb id) : RepC κ w (.mp id) (.map (some b))
  | ifc (t : TypeId) (cs : List PV) (arr : Array Value) (hl : arr.size = cs.length)
      (h : ∀ i, i < cs.length → RepC κ w (cs.getD i .un) (arr.getD i undef)) : RepC κ w (.ifc t cs) (.iface t (.agg arr))

theorem RepC.oneCell {κ : KM} {w : World} {p : PV} {x : Value} (h : RepC κ w p x) : x.oneCell' = true := by
  cases h <;> first | assumption | rfl

/-- What is kept from one state of memory to a later one. -/
structure Mono (κ : KM) (w : World) (κ' : KM) (w' : World) : Prop where
  foot : ∀ b n, foot κ b n → foot κ' b n
  sb : ∀ b id, κ b = .sb id → κ' b = .sb id
  cell : ∀ b o n, Pi.foot κ b n → o < n → w'.cell? ⟨b, o, Option.none⟩ = w.cell? ⟨b, o, Option.none⟩

theorem at_lt {i j z n : Nat} (hi : i < n) (hj : j < z) (o : Nat) : o + i * z + j < o + n * z := by
  have h := Nat.mul_le_mul_right z (Nat.succ_le_of_lt hi)
  rw [Nat.succ_mul] at h
  omega

theorem RepC.mono {κ κ' : KM} {w w' : World} (m : Mono κ w κ' w') {p : PV} {x : Value} (h : RepC κ w p x) : RepC κ' w' p x := by
  induction h with
  | v x h => exact .v x h
  | nil z a c => exact .nil z a c
  | sl z rows b o c vs hne hlen hf hc hr hcap ih =>
    refine .sl z rows b o c vs hne hlen (m.foot _ _ hf) ?_ ih hcap
    intro i j hi hj
    rw [m.cell b _ _ hf (at_lt hi hj o)]
    exact hc i j hi hj
  | sp id off b h => exact .sp id off b (m.sb _ _ h)
  | mp id b h => exact .mp id b (m.sb _ _ h)
  | fn f caps arr hl h ih => exact .fn f caps arr hl ih
  | ifc t cs arr hl h ih => exact .ifc t cs arr hl ih

def CellsRep (κ : KM) (w : World) (cs : List PV) (arr : Array Value) : Prop :=
  arr.size = cs.length ∧ ∀ i, i < cs.length → RepC κ w (cs.getD i .un) (arr.getD i undef)

theorem CellsRep.mono {κ κ' : KM} {w w' : World} (m : Mono κ w κ' w') {cs : List PV} {arr : Array Value} (h : CellsRep κ w cs arr) : CellsRep κ' w' cs arr :=
  ⟨h.1, fun i hi => (h.2 i hi).mono m⟩

def z0 : PV → PV
  | .sl _ z r => .sl 0 z r
  | x => x

def FullV (x : Value) : Prop := ∃ a n, x = .slice a n n
def OwnV (κ : KM) (w : World) (t z n : Nat) (x : Value) : Prop :=
  ∃ b o c T arr, x = .slice (some ⟨b, o, Option.none⟩) n c ∧ κ b = .arr t (o + n * z) ∧ w.heap[b]? = some (.cells arr T (0, 0)) ∧ o + c * z ≤ arr.size ∧ n ≤ c

def TokOK (κ : KM) (w : World) (live : Nat → Bool) (tk : Nat) : PV → Value → Prop
  | .sl t z rows, x => t = 0 ∨ (t = 1 ∧ FullV x) ∨ (2 ≤ t ∧ t < tk ∧ (live t = true → FullV x ∨ OwnV κ w t z rows.length x))
  | _, _ => True

/-- A slice over rows of the function's own. -/
def LsRep (κ : KM) (p : PV) (x : Value) : Prop := ∃ s g n z b c, p = .ls s g n z ∧ x = .slice (some ⟨b, 0, Option.none⟩) n c ∧ κ b = .lb s g ∧ n ≤ c

def CRep (κ : KM) (w : World) (live : Nat → Bool) (tk : Nat) (p : PV) (x : Value) : Prop := (RepC κ w (z0 p) x ∧ TokOK κ w live tk p x) ∨ LsRep κ p x

theorem CRep.old {κ : KM} {w : World} {live : Nat → Bool} {tk : Nat} {p : PV} {x : Value} (h : CRep κ w live tk p x) (hp : ∀ s g n z, p ≠ .ls s g n z) : RepC κ w (z0 p) x ∧ TokOK κ w live tk p x := by
  rcases h with h | ⟨s, g, n, z, _, _, e, _⟩
  · exact h
  · exact absurd e (hp s g n z)

theorem CRep.oneCell {κ : KM} {w : World} {live : Nat → Bool} {tk : Nat} {p : PV} {x : Value} (h : CRep κ w live tk p x) : x.oneCell' = true := by
  rcases h with h | ⟨s, g, n, z, b, c, _, e, _⟩
  · exact h.1.oneCell
  · subst e; rfl

theorem CRep.ls {κ : KM} {w : World} {live : Nat → Bool} {tk : Nat} {s g n z : Nat} {x : Value} (h : CRep κ w live tk (.ls s g n z) x) : ∃ b c, x = .slice (some ⟨b, 0, Option.none⟩) n c ∧ κ b = .lb s g ∧ n ≤ c := by
  rcases h with h | ⟨s', g', n', z', b, c, e, hx, hk⟩
  · cases h.1
  · cases e; exact ⟨b, c, hx, hk⟩

def CellsT (κ : KM) (w : World) (live : Nat → Bool) (tk : Nat) (cs : List PV) (arr : Array Value) : Prop :=
  arr.size = cs.length ∧ ∀ i, i < cs.length → CRep κ w live tk (cs.getD i .un) (arr.getD i undef)

/-- A value that is handed over: no tokens. -/
def ValRep (κ : KM) (w : World) : PV → Value → Prop
  | .ag cs, x => ∃ arr, x = .agg arr ∧ CellsRep κ w cs arr
  | p, x => RepC κ w p x

def TupRep (κ : KM) (w : World) (vs : List PV) (x : Value) : Prop :=
  ∃ arr, x = .tuple arr ∧ arr.size = vs.length ∧ ∀ i, i < vs.length → ValRep κ w (vs.getD i .un) (arr.getD i undef)

def ResRep (κ : KM) (w : World) : PV → Value → Prop
  | .tup vs, x => TupRep κ w vs x
  | p, x => ValRep κ w p x

def EpRep (κ : KM) (w : World) (row : List PV) (off : Nat) (x : Value) : Prop :=
  ∃ (b o : Nat) (vs : Nat → Value), x = .pointer (some ⟨b, o + off, Option.none⟩) ∧ foot κ b (o + row.length) ∧
    ∀ j, j < row.length → w.cell? ⟨b, o + j, Option.none⟩ = some (vs j) ∧ RepC κ w (row.getD j .un) (vs j)

/-- Rows, one behind the other, in the cells of a block. -/
def RowsRep (κ : KM) (w : World) (z c : Nat) (rows : List (List PV)) (arr : Array Value) : Prop :=
  (∀ r ∈ rows, r.length = z) ∧ rows.length ≤ c ∧ rows.length * z ≤ arr.size ∧
    ∀ i j, i < rows.length → j < z → RepC κ w ((rows.getD i []).getD j .un) (arr.getD (i * z + j) undef)

def RegRep (κ : KM) (w : World) (live : Nat → Bool) (tk slot : Nat) : PV → Value → Prop
  | .un, _ => True
  | .ud, x => x = undef
  | .ag cs, x => ∃ arr, x = .agg arr ∧ CellsT κ w live tk cs arr
  | .tup vs, x => TupRep κ w vs x
  | .bx g cs, x => ∃ b T arr, x = .pointer (some ⟨b, 0, Option.none⟩) ∧ κ b = .lb slot g ∧ w.heap[b]? = some (.cells arr T (0, 0)) ∧ CellsT κ w live tk cs arr
  | .bs g z rows, x => ∃ b c T arr, x = .slice (some ⟨b, 0, Option.none⟩) rows.length c ∧ κ b = .lb slot g ∧ w.heap[b]? = some (.cells arr T (0, 0)) ∧ RowsRep κ w z c rows arr
  | .lp s g off, x => ∃ b, x = .pointer (some ⟨b, off, Option.none⟩) ∧ κ b = .lb s g
  | .ep row off, x => EpRep κ w row off x
  | p, x => CRep κ w live tk p x

def notBx : PV → Prop
  | .bx _ _ => False
  | .bs _ _ _ => False
  | _ => True

theorem RegRep.slot {κ : KM} {w : World} {live : Nat → Bool} {tk s : Nat} {p : PV} {x : Value} (hb : notBx p) (h : RegRep κ w live tk s p x) (s' : Nat) :
    RegRep κ w live tk s' p x := by
  cases p <;> first | exact h | exact hb.elim

/-- How tokens and boxes are kept. -/
structure Keep (κ : KM) (w : World) (live : Nat → Bool) (tk : Nat) (κ' : KM) (w' : World) (live' : Nat → Bool) (tk' : Nat) : Prop where
  mono : Mono κ w κ' w'
  lb : ∀ b s g, κ b = .lb s g → κ' b = .lb s g
  arr : ∀ b t h, live' t = true → t < tk → κ b = .arr t h → κ' b = .arr t h ∧ w'.heap[b]? = w.heap[b]?
  live : ∀ t, t < tk → live' t = true → live t = true
  tk : tk ≤ tk'

theorem CRep.keep {κ κ' : KM} {w w' : World} {live live' : Nat → Bool} {tk tk' : Nat} (k : Keep κ w live tk κ' w' live' tk') {p : PV} {x : Value}
    (h : CRep κ w live tk p x) : CRep κ' w' live' tk' p x := by
  rcases h with h | ⟨s, g, n, z, b, c, e, hx, hk, hnc⟩
  case inr => exact .inr ⟨s, g, n, z, b, c, e, hx, k.lb _ _ _ hk, hnc⟩
  refine .inl ⟨h.1.mono k.mono, ?_⟩
  have ht := h.2
  cases p <;> first | trivial | skip
  rename_i t z rows
  rcases ht with h0 | h1 | ⟨h2, h3, h4⟩
  · exact .inl h0
  · exact .inr (.inl h1)
  · refine .inr (.inr ⟨h2, Nat.lt_of_lt_of_le h3 k.tk, fun hl => ?_⟩)
    rcases h4 (k.live t h3 hl) with hf | ⟨b, o, c, T, arr, hx, hk, hh, hs, hc⟩
    · exact .inl hf
    · obtain ⟨hk', hh'⟩ := k.arr b t _ hl h3 hk
      exact .inr ⟨b, o, c, T, arr, hx, hk', hh'.trans hh, hs, hc⟩

theorem CellsT.keep {κ κ' : KM} {w w' : World} {live live' : Nat → Bool} {tk tk' : Nat} (k : Keep κ w live tk κ' w' live' tk') {cs : List PV} {arr : Array Value}
    (h : CellsT κ w live tk cs arr) : CellsT κ' w' live' tk' cs arr := ⟨h.1, fun i hi => (h.2 i hi).keep k⟩

theorem ValRep.mono {κ κ' : KM} {w w' : World} (m : Mono κ w κ' w') {p : PV} {x : Value} (h : ValRep κ w p x) : ValRep κ' w' p x := by
  cases p <;> first
    | exact RepC.mono m h
    | (obtain ⟨arr, hx, hc⟩ := h; exact ⟨arr, hx, hc.mono m⟩)

theorem TupRep.mono {κ κ' : KM} {w w' : World} (m : Mono κ w κ' w') {vs : List PV} {x : Value} (h : TupRep κ w vs x) : TupRep κ' w' vs x := by
  obtain ⟨arr, hx, hs, hv⟩ := h
  exact ⟨arr, hx, hs, fun i hi => (hv i hi).mono m⟩

theorem ResRep.mono {κ κ' : KM} {w w' : World} (m : Mono κ w κ' w') {p : PV} {x : Value} (h : ResRep κ w p x) : ResRep κ' w' p x := by
  cases p with
  | tup vs => exact TupRep.mono m h
  | ag cs => obtain ⟨arr, hx, hc⟩ := h; exact ⟨arr, hx, hc.mono m⟩
  | un => exact RepC.mono m h
  | ud => exact RepC.mono m h
  | v y => exact RepC.mono m h
  | sl t z rows => exact RepC.mono m h
  | sp i o => exact RepC.mono m h
  | fn f c => exact RepC.mono m h
  | bx g c => exact RepC.mono m h
  | lp s g o => exact RepC.mono m h
  | ep r o => exact RepC.mono m h
  | bs g z r => exact RepC.mono m h
  | ls s g n z => exact RepC.mono m h
  | mp i => exact RepC.mono m h
  | md k v => exact RepC.mono m h
  | ifc t c => exact RepC.mono m h

theorem RowsRep.mono {κ κ' : KM} {w w' : World} (m : Mono κ w κ' w') {z c : Nat} {rows : List (List PV)} {arr : Array Value} (h : RowsRep κ w z c rows arr) : RowsRep κ' w' z c rows arr :=
  ⟨h.1, h.2.1, h.2.2.1, fun i j hi hj => (h.2.2.2 i j hi hj).mono m⟩

theorem EpRep.mono {κ κ' : KM} {w w' : World} (m : Mono κ w κ' w') {row : List PV} {off : Nat} {x : Value} (h : EpRep κ w row off x) : EpRep κ' w' row off x := by
  obtain ⟨b, o, vs, hx, hf, hv⟩ := h
  refine ⟨b, o, vs, hx, m.foot _ _ hf, fun j hj => ?_⟩
  obtain ⟨h1, h2⟩ := hv j hj
  exact ⟨(m.cell b _ _ hf (by omega)).trans h1, h2.mono m⟩

theorem RegRep.keep {κ κ' : KM} {w w' : World} {live live' : Nat → Bool} {tk tk' slot : Nat} (k : Keep κ w live tk κ' w' live' tk')
    (hb : ∀ b g, κ b = .lb slot g → w'.heap[b]? = w.heap[b]?) {p : PV} {x : Value} (h : RegRep κ w live tk slot p x) : RegRep κ' w' live' tk' slot p x := by
  cases p with
  | un => trivial
  | ud => exact h
  | ag cs => obtain ⟨arr, hx, hc⟩ := h; exact ⟨arr, hx, hc.keep k⟩
  | tup vs => exact TupRep.mono k.mono h
  | bx g cs =>
    obtain ⟨b, T, arr, hx, hk, hh, hc⟩ := h
    exact ⟨b, T, arr, hx, k.lb _ _ _ hk, (hb b g hk).trans hh, hc.keep k⟩
  | bs g z rows =>
    obtain ⟨b, c, T, arr, hx, hk, hh, hc⟩ := h
    exact ⟨b, c, T, arr, hx, k.lb _ _ _ hk, (hb b g hk).trans hh, hc.mono k.mono⟩
  | ls s g n z => exact CRep.keep k h
  | lp s g off => obtain ⟨b, hx, hk⟩ := h; exact ⟨b, hx, k.lb _ _ _ hk⟩
  | ep row off => exact EpRep.mono k.mono h
  | v y => exact CRep.keep k h
  | sl t z rows => exact CRep.keep k h
  | sp i o => exact CRep.keep k h
  | fn f c => exact CRep.keep k h
  | mp i => exact CRep.keep k h
  | md a b => exact CRep.keep k h
  | ifc t c => exact CRep.keep k h

/-- A map's entries: none is ever taken out. -/
def MapRep (κ : KM) (w : World) (ks : List Int) (vs : List PV) (es : Array MapEntry) (clk : Nat) : Prop :=
  es.size = ks.length ∧ vs.length = ks.length ∧ clk = ks.length ∧ ks.Nodup ∧ ∀ i, i < ks.length → ∃ v, es[i]? = some ⟨.int .i64 (ks.getD i 0), v, i⟩ ∧ ValRep κ w (vs.getD i .un) v
theorem MapRep.mono {κ κ' : KM} {w w' : World} (m : Mono κ w κ' w') {ks : List Int} {vs : List PV} {es : Array MapEntry} {clk : Nat} (h : MapRep κ w ks vs es clk) : MapRep κ' w' ks vs es clk :=
  ⟨h.1, h.2.1, h.2.2.1, h.2.2.2.1, fun i hi => by obtain ⟨v, h1, h2⟩ := h.2.2.2.2 i hi; exact ⟨v, h1, h2.mono m⟩⟩
/-- What stands in a box. -/
def BoxObj (κ : KM) (w : World) (cs : List PV) (o : Obj) : Prop :=
  (∃ T arr, o = .cells arr T (0, 0) ∧ CellsRep κ w cs arr) ∨ (∃ ks vs es clk, cs = [.md ks vs] ∧ o = .map es clk ∧ MapRep κ w ks vs es clk)
theorem BoxObj.mono {κ κ' : KM} {w w' : World} (m : Mono κ w κ' w') {cs : List PV} {o : Obj} (h : BoxObj κ w cs o) : BoxObj κ' w' cs o := by
  rcases h with ⟨T, arr, h1, h2⟩ | ⟨ks, vs, es, clk, h1, h2, h3⟩
  · exact .inl ⟨T, arr, h1, h2.mono m⟩
  · exact .inr ⟨ks, vs, es, clk, h1, h2, h3.mono m⟩
theorem BoxObj.cells {κ : KM} {w : World} {cs : List PV} {o : Obj} (h : BoxObj κ w cs o) (hm : isMd cs = false) : ∃ T arr, o = .cells arr T (0, 0) ∧ CellsRep κ w cs arr := by
  rcases h with h | ⟨ks, vs, es, clk, h1, h2, h3⟩
  · exact h
  · subst h1; cases hm
theorem BoxObj.map {κ : KM} {w : World} {ks : List Int} {vs : List PV} {o : Obj} (h : BoxObj κ w [.md ks vs] o) : ∃ es clk, o = .map es clk ∧ MapRep κ w ks vs es clk := by
  rcases h with ⟨T, arr, h1, h2⟩ | ⟨ks, vs, es, clk, h1, h2, h3⟩
  · cases h2.2 0 (by simp)
  · cases h1; exact ⟨es, clk, h2, h3⟩

/-- Shared boxes. -/
structure Mem (κ : KM) (sh : Sh) (w : World) : Prop where
  box : ∀ id cs, getB sh.boxes id = some cs → ∃ b o, κ b = .sb id ∧ w.heap[b]? = some o ∧ BoxObj κ w cs o
  inj : ∀ b b' id, κ b = .sb id → κ b' = .sb id → b = b'
  lt : ∀ b id, κ b = .sb id → id < sh.nx
  nd : (sh.boxes.map (·.1)).Nodup

def GlobOK (G : Glob) (κ : KM) (w : World) : Prop :=
  ∀ g cs, G g = some cs → κ g = .imm ∧ ∀ j, j < cs.length → ∃ x, w.cell? ⟨g, j, Option.none⟩ = some x ∧ RepC κ w (cs.getD j .un) x ∧ np (cs.getD j .un) = true

theorem GlobOK.mono {G : Glob} {κ κ' : KM} {w w' : World} (m : Mono κ w κ' w') (hi : ∀ b, κ b = .imm → κ' b = .imm) (h : GlobOK G κ w) : GlobOK G κ' w' := by
  intro g cs hg
  obtain ⟨h1, h2⟩ := h g cs hg
  refine ⟨hi _ h1, fun j hj => ?_⟩
  obtain ⟨x, hx, hr⟩ := h2 j hj
  refine ⟨x, ?_, hr.1.mono m, hr.2⟩
  rw [m.cell g j (j + 1) (by simp [foot, h1]) (by omega)]
  exact hx

/-- Kinds at a function's border. -/
def plainK : Kind → Prop
  | .lb _ _ => False
  | .arr _ _ => False
  | _ => True

/-- What no operation here touches. -/
def Env (w w' : World) : Prop := w'.os = w.os ∧ w'.tape = w.tape ∧ w'.output = w.output

theorem Env.trans {w w' w2 : World} (h : Env w w') (h' : Env w' w2) : Env w w2 := ⟨h'.1.trans h.1, h'.2.1.trans h.2.1, h'.2.2.trans h.2.2⟩

/-- A frame: the plain state, the registers, the memory. -/
structure Rel (G : Glob) (L : Lst) (κ0 : KM) (w0 : World) (κ : KM) (st : St) (a : Act) (w : World) : Prop where
  size : a.tmps.size = st.regs.length
  defers : a.defers = []
  reg : ∀ i, i < st.regs.length → RegRep κ w st.ef.live st.ef.tk i (st.regs.getD i .un) (a.tmps.getD i undef)
  mem : Mem κ st.ef.sh w
  glob : GlobOK G κ w
  lbi : ∀ b b' s g, κ b = .lb s g → κ b' = .lb s g → b = b'
  lbg : ∀ b s g, κ b = .lb s g → L.contains s = true ∧ g ≤ (st.regs.getD s .un).genOf
  tok : ∀ b t h, κ b = .arr t h → 2 ≤ t ∧ t < st.ef.tk
  tki : 2 ≤ st.ef.tk
  new : ∀ b, w.heap.size ≤ b → κ b = .none
  base : w0.heap.size ≤ w.heap.size
  keep : ∀ b, b < w0.heap.size → κ b = κ0 b
  old : ∀ b, b < w0.heap.size → (∀ id, κ0 b ≠ .sb id) → w.heap[b]? = w0.heap[b]?
  pl : ∀ b, plainK (κ0 b)
  lbd : ∀ s, L.contains s = true → s < st.regs.length
  env : Env w0 w

end Go.Pi

/- Operands and operations that leave memory alone. -/
namespace Go.Pi
open Go
open PV (genOf asSrc clrC clrs clr clrAll cellsT cells0)

section
variable {P : Program} {G : Glob} {L : Lst} {κ0 : KM} {w0 : World} {κ : KM} {st : St} {a : Act} {w : World} {live : Nat → Bool} {tk : Nat}

def OpRep (κ : KM) (w : World) (live : Nat → Bool) (tk : Nat) (p : PV) (x : Value) : Prop := notBx p ∧ RegRep κ w live tk 0 p x

theorem OpRep.reg {p : PV} {x : Value} (h : OpRep κ w live tk p x) (s : Nat) : RegRep κ w live tk s p x := h.2.slot h.1 s

theorem ofCell_rep {x : Value} (h : x.oneCell' = true) : CRep κ w live tk (ofCell x) x ∧ notBx (ofCell x) := by
  unfold ofCell
  split
  · exact ⟨.inl ⟨.nil _ _ _, .inr (.inl ⟨rfl, Option.none, 0, rfl⟩)⟩, trivial⟩
  · exact ⟨.inl ⟨.v _ h, trivial⟩, trivial⟩

theorem ofCells_rep {arr : Array Value} {l : List PV} (h : ofCells arr.toList = some l) : CellsT κ w live tk l arr := by
  unfold ofCells at h
  split at h
  · rename_i ha
    cases h
    refine ⟨by simp, fun i hi => ?_⟩
    have hi' : i < arr.size := by simpa using hi
    have h1 : (List.map ofCell arr.toList).getD i .un = ofCell arr[i] := by simp [List.getD_eq_getElem?_getD, hi']
    have h2 : arr.getD i undef = arr[i] := by simp [hi']
    rw [h1, h2]
    exact (ofCell_rep (by
      have := List.all_eq_true.1 ha arr[i] (by simp)
      exact this)).1
  · cases h

theorem ofVal_rep (x : Value) : OpRep κ w live tk (ofVal x) x := by
  unfold ofVal
  split
  · rename_i cs
    split
    · rename_i l hl; exact ⟨trivial, cs, rfl, ofCells_rep hl⟩
    · exact ⟨trivial, trivial⟩
  · split
    · rename_i h
      obtain ⟨h1, h2⟩ := ofCell_rep (κ := κ) (w := w) (live := live) (tk := tk) h
      refine ⟨h2, ?_⟩
      unfold ofCell at *
      split
      · exact .inl ⟨.nil _ _ _, .inr (.inl ⟨rfl, Option.none, 0, rfl⟩)⟩
      · exact .inl ⟨.v _ h, trivial⟩
    · exact ⟨trivial, trivial⟩

theorem src_rep (hR : Rel G L κ0 w0 κ st a w) (x : Operand) :
    OpRep κ w st.ef.live st.ef.tk (src G (fun t => st.regs.getD t .un) (toSrc x)) (a.eval x) := by
  cases x with
  | tmp t =>
    show OpRep κ w _ _ (asSrc t (st.regs.getD t .un)) (a.tmps.getD t undef)
    by_cases ht : t < st.regs.length
    · have h := hR.reg t ht
      generalize st.regs.getD t .un = p at h
      generalize a.tmps.getD t undef = x at h
      cases p with
      | bx g cs => obtain ⟨b, T, arr, hx, hk, _, _⟩ := h; exact ⟨trivial, b, hx, hk⟩
      | bs g z rows => obtain ⟨b, c, T, arr, hx, hk, _, hc⟩ := h; exact ⟨trivial, .inr ⟨t, g, rows.length, z, b, c, rfl, hx, hk, hc.2.1⟩⟩
      | ls s g n z => exact ⟨trivial, h⟩
      | un => exact ⟨trivial, trivial⟩
      | ud => exact ⟨trivial, h⟩
      | v y => exact ⟨trivial, h⟩
      | sl t z rows => exact ⟨trivial, h⟩
      | ag cs => exact ⟨trivial, h⟩
      | tup vs => exact ⟨trivial, h⟩
      | lp s g o => exact ⟨trivial, h⟩
      | ep r o => exact ⟨trivial, h⟩
      | sp i o => exact ⟨trivial, h⟩
      | fn f c => exact ⟨trivial, h⟩
      | mp i => exact ⟨trivial, h⟩
      | md a b => exact ⟨trivial, h⟩
      | ifc t c => exact ⟨trivial, h⟩
    · have hn : st.regs[t]? = Option.none := List.getElem?_eq_none (Nat.le_of_not_lt ht)
      rw [List.getD_eq_getElem?_getD, hn]
      exact ⟨trivial, trivial⟩
  | const v => exact ofVal_rep v
  | global g =>
    show OpRep κ w _ _ (match G g with | some cs => .ep cs 0 | none => .un) _
    cases hg : G g with
    | none => exact ⟨trivial, trivial⟩
    | some cs =>
      obtain ⟨h1, h2⟩ := hR.glob g cs hg
      refine ⟨trivial, g, 0, fun j => (w.cell? ⟨g, j, Option.none⟩).getD undef, rfl, by simp [foot, h1], fun j hj => ?_⟩
      obtain ⟨x, hx, hr⟩ := h2 j hj
      simp only [Nat.zero_add, hx, Option.getD_some]
      exact ⟨trivial, hr.1⟩
  | func f => exact ⟨trivial, .inl ⟨.fn f [] #[] rfl (fun i hi => by simp at hi), trivial⟩⟩

/- What an operand is. -/
theorem OpRep.v_inv {y x : Value} (h : OpRep κ w live tk (.v y) x) : x = y ∧ y.oneCell' = true := by
  obtain ⟨hr, _⟩ := CRep.old h.2 (by simp)
  cases hr with
  | v _ ho => exact ⟨rfl, ho⟩

theorem OpRep.c {p : PV} {x : Value} (h : OpRep κ w live tk p x) (hc : (cellsT p).isSome = true) (ha : ∀ cs, p ≠ .ag cs) : CRep κ w live tk p x := by
  cases p <;> first | exact h.2 | (simp [cellsT] at hc; done) | exact absurd rfl (ha _)

theorem cellsT_rep {p : PV} {x : Value} {cs : List PV} (h : OpRep κ w live tk p x) (hc : cellsT p = some cs) : CellsT κ w live tk cs x.cells := by
  have one : ∀ (p : PV), (∀ l, p ≠ .ag l) → cellsT p = some [p] → CRep κ w live tk p x → [p] = cs → CellsT κ w live tk cs x.cells := by
    intro p _ _ hr he
    subst he
    have hx : x.cells = #[x] := by
      have := hr.oneCell
      cases x <;> first | rfl | (simp [Value.oneCell'] at this; done)
    rw [hx]
    refine ⟨rfl, fun i hi => ?_⟩
    have : i = 0 := by simpa using hi
    subst this
    exact hr
  cases p with
  | ag l => obtain ⟨_, arr, hx, hr⟩ := h; cases hc; subst hx; exact hr
  | v y => exact one _ (by simp) rfl h.2 (by simpa [cellsT] using hc)
  | sl t z rows => exact one _ (by simp) rfl h.2 (by simpa [cellsT] using hc)
  | sp i o => exact one _ (by simp) rfl h.2 (by simpa [cellsT] using hc)
  | fn f c => exact one _ (by simp) rfl h.2 (by simpa [cellsT] using hc)
  | mp i => exact one _ (by simp) rfl h.2 (by simpa [cellsT] using hc)
  | ifc t c => exact one _ (by simp) rfl h.2 (by simpa [cellsT] using hc)
  | md a b => simp [cellsT] at hc
  | ls s g n z => exact one _ (by simp) rfl h.2 (by simpa [cellsT] using hc)
  | bs g z r => simp [cellsT] at hc
  | un => simp [cellsT] at hc
  | ud => simp [cellsT] at hc
  | tup vs => simp [cellsT] at hc
  | bx g c => simp [cellsT] at hc
  | lp s g o => simp [cellsT] at hc
  | ep r o => simp [cellsT] at hc

theorem CRep.clr {p q : PV} {x : Value} (h : CRep κ w live tk p x) (hc : clrC p = some q) : RepC κ w q x := by
  cases p with
  | sl t z rows => cases hc; exact (h.old (by simp)).1
  | v y => cases hc; exact (h.old (by simp)).1
  | sp i o => cases hc; exact (h.old (by simp)).1
  | fn f c => cases hc; exact (h.old (by simp)).1
  | mp i => cases hc; exact (h.old (by simp)).1
  | ifc t c => cases hc; exact (h.old (by simp)).1
  | _ => simp [clrC] at hc

theorem RepC.tok {p : PV} {x : Value} (h : RepC κ w p x) : CRep κ w live tk p x ∧ z0 p = p := by
  cases h with
  | v _ ho => exact ⟨.inl ⟨.v _ ho, trivial⟩, rfl⟩
  | nil z a c => exact ⟨.inl ⟨.nil z a c, .inl rfl⟩, rfl⟩
  | sl z rows b o c vs h1 h2 h3 h4 h5 h6 => exact ⟨.inl ⟨.sl z rows b o c vs h1 h2 h3 h4 h5 h6, .inl rfl⟩, rfl⟩
  | sp i o b hk => exact ⟨.inl ⟨.sp i o b hk, trivial⟩, rfl⟩
  | fn f c arr hl hh => exact ⟨.inl ⟨.fn f c arr hl hh, trivial⟩, rfl⟩
  | mp i b hk => exact ⟨.inl ⟨.mp i b hk, trivial⟩, rfl⟩
  | ifc t c arr hl hh => exact ⟨.inl ⟨.ifc t c arr hl hh, trivial⟩, rfl⟩

theorem CellsRep.tok {cs : List PV} {arr : Array Value} (h : CellsRep κ w cs arr) : CellsT κ w live tk cs arr :=
  ⟨h.1, fun i hi => (h.2 i hi).tok.1⟩

theorem clrs_len {l m : List PV} (h : clrs l = some m) : m.length = l.length := by
  induction l generalizing m with
  | nil => simp [clrs] at h; subst h; rfl
  | cons x r ih =>
    simp only [clrs] at h
    split at h
    · rename_i y l' hy hl; cases h; simp [ih hl]
    · cases h

theorem clrs_get {l m : List PV} (h : clrs l = some m) : ∀ i, i < l.length → clrC (l.getD i .un) = some (m.getD i .un) := by
  induction l generalizing m with
  | nil => intro i hi; simp at hi
  | cons x r ih =>
    simp only [clrs] at h
    split at h
    · rename_i y l' hy hl
      cases h
      intro i hi
      cases i with
      | zero => simpa using hy
      | succ i => simpa using ih hl i (by simpa using hi)
    · cases h

theorem CellsT.clr {cs ds : List PV} {arr : Array Value} (h : CellsT κ w live tk cs arr) (hc : clrs cs = some ds) : CellsRep κ w ds arr := by
  refine ⟨h.1.trans (clrs_len hc).symm, fun i hi => ?_⟩
  have hi' : i < cs.length := by rw [← clrs_len hc]; exact hi
  exact (h.2 i hi').clr (clrs_get hc i hi')

theorem cells0_rep {p : PV} {x : Value} {cs : List PV} (h : OpRep κ w live tk p x) (hc : cells0 p = some cs) : CellsRep κ w cs x.cells := by
  unfold cells0 at hc
  split at hc
  · rename_i l hl; exact (cellsT_rep h hl).clr hc
  · cases hc

theorem clr_rep {p q : PV} {x : Value} (h : OpRep κ w live tk p x) (hc : clr p = some q) : ValRep κ w q x := by
  cases p with
  | ag l =>
    obtain ⟨_, arr, hx, hr⟩ := h
    simp only [clr, Option.map_eq_some_iff] at hc
    obtain ⟨m, hm, rfl⟩ := hc
    exact ⟨arr, hx, hr.clr hm⟩
  | v y => cases hc; exact (CRep.old h.2 (by simp)).1
  | sl t z rows => cases hc; exact (CRep.old h.2 (by simp)).1
  | sp i o => cases hc; exact (CRep.old h.2 (by simp)).1
  | fn f c => cases hc; exact (CRep.old h.2 (by simp)).1
  | mp i => cases hc; exact (CRep.old h.2 (by simp)).1
  | ifc t c => cases hc; exact (CRep.old h.2 (by simp)).1
  | _ => simp [clr, clrC] at hc

theorem ValRep.op {p : PV} {x : Value} (h : ValRep κ w p x) : OpRep κ w live tk p x := by
  cases p with
  | ag l => obtain ⟨arr, hx, hr⟩ := h; exact ⟨trivial, arr, hx, hr.tok⟩
  | v y => exact ⟨trivial, RepC.tok (show RepC κ w _ _ from h) |>.1⟩
  | sl t z rows => exact ⟨trivial, RepC.tok (show RepC κ w _ _ from h) |>.1⟩
  | sp i o => exact ⟨trivial, RepC.tok (show RepC κ w _ _ from h) |>.1⟩
  | fn f c => exact ⟨trivial, RepC.tok (show RepC κ w _ _ from h) |>.1⟩
  | mp i => exact ⟨trivial, RepC.tok (show RepC κ w _ _ from h) |>.1⟩
  | ifc t c => exact ⟨trivial, RepC.tok (show RepC κ w _ _ from h) |>.1⟩
  | md a b => cases (show RepC κ w _ _ from h)
  | un => cases (show RepC κ w _ _ from h)
  | ud => cases (show RepC κ w _ _ from h)
  | tup vs => cases (show RepC κ w _ _ from h)
  | bx g c => cases (show RepC κ w _ _ from h)
  | lp s g o => cases (show RepC κ w _ _ from h)
  | ep r o => cases (show RepC κ w _ _ from h)
  | bs g z r => cases (show RepC κ w _ _ from h)
  | ls s g n z => cases (show RepC κ w _ _ from h)

theorem ResRep.op {p : PV} {x : Value} (h : ResRep κ w p x) : OpRep κ w live tk p x := by
  cases p with
  | tup vs => exact ⟨trivial, h⟩
  | ag l => exact ValRep.op (show ValRep κ w _ _ from h)
  | v y => exact ValRep.op (show ValRep κ w _ _ from h)
  | sl t z rows => exact ValRep.op (show ValRep κ w _ _ from h)
  | sp i o => exact ValRep.op (show ValRep κ w _ _ from h)
  | fn f c => exact ValRep.op (show ValRep κ w _ _ from h)
  | mp i => exact ValRep.op (show ValRep κ w _ _ from h)
  | ifc t c => exact ValRep.op (show ValRep κ w _ _ from h)
  | md a b => exact ValRep.op (show ValRep κ w _ _ from h)
  | un => exact ValRep.op (show ValRep κ w _ _ from h)
  | ud => exact ValRep.op (show ValRep κ w _ _ from h)
  | bx g c => exact ValRep.op (show ValRep κ w _ _ from h)
  | lp s g o => exact ValRep.op (show ValRep κ w _ _ from h)
  | ep r o => exact ValRep.op (show ValRep κ w _ _ from h)
  | bs g z r => exact ValRep.op (show ValRep κ w _ _ from h)
  | ls s g n z => exact ValRep.op (show ValRep κ w _ _ from h)

/-- A part of cells. -/
theorem cut_rep {cs : List PV} {arr : Array Value} {off n : Nat} {agg : Bool} {p : PV} (h : CellsT κ w live tk cs arr) (hc : cut cs off n agg = some p) :
    off + n ≤ cs.length ∧ (agg = true → OpRep κ w live tk p (.agg (arr.extract off (off + n)))) ∧ (agg = false → n = 1 ∧ OpRep κ w live tk p (arr.getD off undef)) := by
  unfold cut at hc
  split at hc
  · rename_i hle
    refine ⟨hle, ?_, ?_⟩
    · intro ha
      subst ha
      simp only [if_true, Option.some.injEq] at hc
      subst hc
      refine ⟨trivial, _, rfl, ?_, fun i hi => ?_⟩
      · have := h.1; simp; omega
      · have hi' : i < n := by simp at hi; omega
        have h1 : ((cs.drop off).take n).getD i .un = cs.getD (off + i) .un := by simp [List.getD_eq_getElem?_getD, hi']
        have h2 : (arr.extract off (off + n)).getD i undef = arr.getD (off + i) undef := by
          have := h.1
          simp only [Array.getD_eq_getD_getElem?, Array.getElem?_extract]
          rw [if_pos (by omega)]
        rw [h1, h2]
        exact h.2 (off + i) (by omega)
    · intro ha
      subst ha
      simp only [Bool.false_eq_true, if_false] at hc
      split at hc
      · rename_i hn
        cases hc
        have hr := h.2 off (by omega)
        refine ⟨hn, ?_, ?_⟩
        · generalize cs.getD off .un = q at hr
          cases q <;> first | trivial | (obtain ⟨h1, _⟩ := hr.old (by simp); cases h1)
        · generalize cs.getD off .un = q at hr
          cases q <;> first | exact hr | (obtain ⟨h1, _⟩ := hr.old (by simp); cases h1)
      · cases hc
  · cases hc
end
end Go.Pi

/- Operations that leave memory alone: what the machine does is what the interpreter says. -/
namespace Go.Pi
open Go
open PV (genOf asSrc clrC clrs clr clrAll cellsT cells0)

section
variable {P : Program} {κ : KM} {w : World} {live : Nat → Bool} {tk : Nat}

/-- A run that yields a value and leaves the world alone. -/
def Yields1 (P : Program) (κ : KM) (w : World) (live : Nat → Bool) (tk : Nat) (s : Sem Next) (p : PV) : Prop :=
  ∃ v, s.run P w = .ok (.value v) w ∧ OpRep κ w live tk p v

theorem addr_add (b o j : Nat) : (⟨b, o, none⟩ : Addr).add j = ⟨b, o + j, none⟩ := by
  unfold Addr.add
  split
  · rename_i h; subst h; rfl
  · rfl

theorem run_isAgg (t : TypeId) {d : TypeDesc} (h : P.underlying t = some d) : (isAgg t).run P w = .ok (aggT P t) w := by
  cases d <;> simp [isAgg, run_underlying h, aggT, h]

theorem under_of_info {t : TypeId} (hg : aggT P t = true) : ∃ d, P.underlying t = some d := by
  unfold aggT at hg
  cases hd : P.underlying t with
  | none => simp [hd] at hg
  | some d => exact ⟨d, rfl⟩

/-- A load of a variable all of whose cells are known. -/
theorem run_loadVar_known (t : TypeId) {i : TypeInfo} {d : TypeDesc} (hi : P.info? t = some i) (hd : P.underlying t = some d) (b o : Nat) (f : Nat → Value)
    (hc : ∀ j, j < (if aggT P t then i.size else 1) → w.cell? ⟨b, o + j, none⟩ = some (f j)) :
    (loadVar t ⟨b, o, none⟩).run P w = .ok (if aggT P t then .agg ((List.range i.size).map f).toArray else f 0) w := by
  unfold loadVar
  simp only [Sem.run_bind, run_isAgg t hd, Result.andThen_ok]
  cases hg : aggT P t with
  | true =>
    simp only [hg, if_true] at hc ⊢
    have := run_loadCells (P := P) w ⟨b, o, none⟩ i.size f (fun j hj => by rw [addr_add]; exact hc j hj)
    simp [sizeOf, run_typeInfo w hi, this]
  | false =>
    simp only [hg] at hc ⊢
    have h0 := hc 0 (by simp)
    simp only [Nat.add_zero] at h0
    simp [run_load, h0]

theorem bin_runs (op : BinOp) (T : TypeId) (X Y : Operand) {a b r : Value} (h : binV op a b = some r) :
    (do eqGuard op T X Y a b; binOp op T a b : Sem Value).run P w = .ok r w := by
  unfold binV at h
  split at h
  · rename_i k x k' y
    split at h
    · rename_i hk
      have hk' : k = k' := by simpa [sameKind] using hk
      subst hk'
      have hg : (eqGuard op T X Y (.int k x) (.int k y)).run P w = .ok () w := by
        unfold eqGuard
        cases op <;> simp
      simp only [Sem.run_bind, hg, Result.andThen_ok]
      unfold intBin at h
      cases op <;> simp only [Option.some.injEq, reduceCtorEq] at h <;>
        first
          | (subst h; simp [binOp, Op.intArith, Op.intCmp]; done)
          | (split at h
             · cases h
             · rename_i hb; cases h; simp [binOp, Op.intDiv, hb])
    · cases h
  · cases h

theorem run_equal_bool (T : TypeId) (hT : P.underlying T = some .bool) (a b : Bool) : (Op.equal T (.bool a) (.bool b)).run P w = .ok (a == b) w := by
  have h : ∀ d, (Op.equalIn (d + 1) T (.bool a) (.bool b)).run P w = .ok (a == b) w := fun d => by
    simp [Op.equalIn, run_underlying hT]
  exact h 9999

theorem binB_runs (op : BinOp) (T : TypeId) (X Y : Operand) (hT : P.underlying T = some .bool) {a b r : Value} (h : binBV op a b = some r) :
    (do eqGuard op T X Y a b; binOp op T a b : Sem Value).run P w = .ok r w := by
  unfold binBV at h
  split at h
  · cases h
    simp [eqGuard, binOp, run_equal_bool T hT]
  · cases h
    rename_i p q
    simp [eqGuard, binOp, run_equal_bool T hT]
    cases p <;> cases q <;> rfl
  · cases h

theorem uno_runs (op : UnOp) {a r : Value} (h : unoV op a = some r) : (Op.unary op a).run P w = .ok r w := by
  unfold unoV at h
  split at h
  · cases h; simp [Op.unary]
  · cases h; simp [Op.unary, Op.intArith]
  · cases h


theorem splice_len (cs vs : List PV) (off : Nat) (h : off + vs.length ≤ cs.length) : (splice cs off vs).length = cs.length := by
  simp [splice]; omega

theorem splice_get (cs vs : List PV) (off i : Nat) (h : off + vs.length ≤ cs.length) :
    (splice cs off vs).getD i .un = if off ≤ i ∧ i < off + vs.length then vs.getD (i - off) .un else cs.getD i .un := by
  unfold splice
  simp only [List.getD_eq_getElem?_getD, List.append_assoc]
  by_cases h1 : i < off
  · rw [if_neg (by omega), List.getElem?_append_left (by simp; omega)]
    simp [h1]
  · by_cases h2 : i < off + vs.length
    · rw [if_pos (by omega), List.getElem?_append_right (by simp; omega), List.getElem?_append_left (by simp; omega)]
      simp only [List.length_take]
      rw [Nat.min_eq_left (by omega)]
    · rw [if_neg (by omega), List.getElem?_append_right (by simp; omega), List.getElem?_append_right (by simp; omega)]
      simp only [List.length_take, List.getElem?_drop]
      rw [Nat.min_eq_left (by omega)]
      congr 2
      omega

theorem foldl_set (l : List Value) : ∀ (k off : Nat) (arr : Array Value), off + k + l.length ≤ arr.size →
    ((l.zipIdx k).foldl (fun cs (x : Value × Nat) => cs.setIfInBounds (off + x.2) x.1) arr).size = arr.size ∧
    ∀ i, ((l.zipIdx k).foldl (fun cs (x : Value × Nat) => cs.setIfInBounds (off + x.2) x.1) arr).getD i undef =
      if off + k ≤ i ∧ i < off + k + l.length then l.getD (i - off - k) undef else arr.getD i undef := by
  induction l with
  | nil => intro k off arr _; exact ⟨rfl, fun i => by simp; omega⟩
  | cons x r ih =>
    intro k off arr h
    simp only [List.length_cons] at h
    obtain ⟨h1, h2⟩ := ih (k + 1) off (arr.setIfInBounds (off + k) x) (by simp; omega)
    simp only [List.zipIdx_cons, List.foldl_cons]
    refine ⟨by rw [h1]; simp, fun i => ?_⟩
    rw [h2 i]
    by_cases hi : i = off + k
    · subst hi
      rw [if_neg (by omega), if_pos (by simp)]
      have hs : off + k < arr.size := by omega
      simp [hs]
    · by_cases hr : off + (k + 1) ≤ i ∧ i < off + (k + 1) + r.length
      · rw [if_pos hr, if_pos (by simp; omega)]
        have : i - off - k = (i - off - (k + 1)) + 1 := by omega
        rw [this]
        simp
      · rw [if_neg hr, if_neg (by simp; omega)]
        simp only [Array.getD_eq_getD_getElem?]
        rw [Array.getElem?_setIfInBounds_ne (by omega)]

theorem CellsT.splice {cs vs : List PV} {arr xs : Array Value} {off : Nat} (h : CellsT κ w live tk cs arr) (hv : CellsT κ w live tk vs xs) (hle : off + vs.length ≤ cs.length) :
    CellsT κ w live tk (Pi.splice cs off vs) (xs.zipIdx.foldl (fun cs (x : Value × Nat) => cs.setIfInBounds (off + x.2) x.1) arr) := by
  have hx : xs.zipIdx.foldl (fun cs (x : Value × Nat) => cs.setIfInBounds (off + x.2) x.1) arr = (xs.toList.zipIdx 0).foldl (fun cs (x : Value × Nat) => cs.setIfInBounds (off + x.2) x.1) arr := by
    rw [← Array.foldl_toList, Array.toList_zipIdx]
  rw [hx]
  have hsz := h.1
  have hvs := hv.1
  obtain ⟨h1, h2⟩ := foldl_set xs.toList 0 off arr (by simp; omega)
  refine ⟨by rw [h1, splice_len _ _ _ hle, hsz], fun i hi => ?_⟩
  rw [splice_len _ _ _ hle] at hi
  rw [h2 i, splice_get _ _ _ _ hle]
  by_cases hc : off ≤ i ∧ i < off + vs.length
  · rw [if_pos hc, if_pos (by simp; omega)]
    have := hv.2 (i - off) (by omega)
    have e : xs.toList.getD (i - off - 0) undef = xs.getD (i - off) undef := by simp [List.getD_eq_getElem?_getD]
    rw [e]
    exact this
  · rw [if_neg hc, if_neg (by simp; omega)]
    exact h.2 i hi

/-- The parts of a struct, filled in. -/
theorem fill_runs (place : Nat → Option (Nat × Nat)) : ∀ (ps : List (Nat × Nat)) (qs : List (Nat × Value)) (xs : List PV) (z : List PV) (arr : Array Value) (cs : List PV),
    ps.length = qs.length → (∀ j, j < ps.length → place (qs.getD j (0, undef)).1 = some (ps.getD j (0, 0))) →
    (∀ j, j < xs.length → OpRep κ w live tk (xs.getD j .un) (qs.getD j (0, undef)).2) → CellsT κ w live tk z arr → fillB z ps xs = some cs →
    ∃ arr', Instr.fill place arr qs = some arr' ∧ CellsT κ w live tk cs arr'
  | [], [], xs, z, arr, cs, _, _, _, hz, hf => by
    cases xs with
    | nil => simp [fillB] at hf; subst hf; exact ⟨arr, rfl, hz⟩
    | cons x xs => simp [fillB] at hf
  | [], _ :: _, _, _, _, _, hl, _, _, _, _ => by simp at hl
  | _ :: _, [], _, _, _, _, hl, _, _, _, _ => by simp at hl
  | p :: ps, q :: qs, xs, z, arr, cs, hl, hp, hx, hz, hf => by
    cases xs with
    | nil => simp [fillB] at hf
    | cons x xs =>
      obtain ⟨off, n⟩ := p
      simp only [fillB] at hf
      split at hf
      · rename_i vs hvs
        split at hf
        · rename_i hc
          have hq : OpRep κ w live tk x q.2 := by simpa using hx 0 (by simp)
          have hcr := cellsT_rep hq hvs
          have hpl : place q.1 = some (off, n) := by simpa using hp 0 (by simp)
          have hs := CellsT.splice hz hcr (off := off) (by rw [hc.1]; exact hc.2)
          obtain ⟨arr', h1, h2⟩ := fill_runs place ps qs xs _ _ cs (by simpa using hl) (fun j hj => by simpa using hp (j + 1) (by simpa using hj))
            (fun j hj => by simpa using hx (j + 1) (by simpa using hj)) hs hf
          refine ⟨arr', ?_, h2⟩
          obtain ⟨qi, qv⟩ := q
          simp only [Instr.fill, hpl]
          have hsz := hcr.1
          have hzz := hz.1
          simp only at hsz
          rw [if_neg (by simp; omega)]
          exact h1
        · cases hf
      · cases hf
end
end Go.Pi

/- The operations that leave memory alone, one by one. -/
namespace Go.Pi
open Go
open PV (genOf asSrc clrC clrs clr clrAll cellsT cells0)

section
variable {P : Program} {κ : KM} {w : World} {live : Nat → Bool} {tk : Nat} {S : Operand → PV} {ρ : Operand → Value}

theorem getD_map' {α β : Type} (f : α → β) (l : List α) (j : Nat) (d : β) (d' : α) (h : j < l.length) : (l.map f).getD j d = f (l.getD j d') := by
  simp [List.getD_eq_getElem?_getD, h]

theorem mapM_places (fs : Array Field) (h : fs.toList.all (fun f => (P.info? f.type).isSome) = true) :
    (fs.mapM fun f => do pure (f.offset, ← sizeOf f.type) : Sem (Array (Nat × Nat))).run P w = .ok (fs.map fun f => (f.offset, P.cellsOf f.type)) w := by
  rw [Array.mapM_eq_mapM_toList]
  have key : ∀ l : List Field, l.all (fun f => (P.info? f.type).isSome) = true →
      (l.mapM fun f => do pure (f.offset, ← sizeOf f.type) : Sem (List (Nat × Nat))).run P w = .ok (l.map fun f => (f.offset, P.cellsOf f.type)) w := by
    intro l
    induction l with
    | nil => intro _; simp
    | cons f r ih =>
      intro h
      simp only [List.all_cons, Bool.and_eq_true] at h
      obtain ⟨i, hi⟩ := Option.isSome_iff_exists.1 h.1
      simp only [List.mapM_cons, Sem.run_bind, run_sizeOf w hi, Result.andThen_ok, Sem.run_pure, ih h.2, List.map_cons]
  rw [Sem.run_map, key _ h]
  simp only [Result.andThen_ok, Result.ok.injEq, and_true]
  apply Array.ext'
  simp

theorem fieldSpan_inv {T : TypeId} {f : Nat} {o n : Nat} {g : Bool} (h : fieldSpan P T f = some (o, n, g)) :
    ∃ fs fl i, P.underlying T = some (.struct fs) ∧ fs[f]? = some fl ∧ P.info? fl.type = some i ∧ o = fl.offset ∧ n = i.size ∧ g = aggT P fl.type := by
  unfold fieldSpan at h
  split at h
  · rename_i fs hu
    split at h
    · rename_i fl hf
      split at h
      · rename_i i hi
        cases h
        exact ⟨fs, fl, i, hu, hf, hi, rfl, rfl, rfl⟩
      · cases h
    · cases h
  · cases h

theorem partsOf_spec {T : TypeId} : ∀ {ps : List (Nat × Operand)} {l : List (Nat × Nat)}, partsOf P T ps = some l →
    l.length = ps.length ∧ ∀ j, j < ps.length → ∃ g, fieldSpan P T (ps.getD j (0, .func 0)).1 = some ((l.getD j (0, 0)).1, (l.getD j (0, 0)).2, g)
  | [], l, h => by simp [partsOf] at h; subst h; exact ⟨rfl, fun j hj => by simp at hj⟩
  | (i, x) :: r, l, h => by
    simp only [partsOf] at h
    split at h
    · rename_i o n g l' hs hp
      cases h
      obtain ⟨h1, h2⟩ := partsOf_spec hp
      refine ⟨by simp [h1], fun j hj => ?_⟩
      cases j with
      | zero => exact ⟨g, by simpa using hs⟩
      | succ j => simpa using h2 j (by simpa using hj)
    · cases h

theorem zeroC_inv {T : TypeId} {z : List PV} (h : zeroC P T = some z) : ∃ i v, P.info? T = some i ∧ i.zero = some v ∧ ofCells v.cells.toList = some z := by
  unfold zeroC at h
  split at h
  · rename_i i hi
    split at h
    · rename_i v hv; exact ⟨i, v, hi, hv, h⟩
    · cases h
  · cases h

theorem run_zeroValue' {T : TypeId} {i : TypeInfo} {v : Value} (h : P.info? T = some i) (hv : i.zero = some v) : (zeroValue T).run P w = .ok v w := by
  simp [zeroValue, run_typeInfo w h, hv]

theorem build_runs (hS : ∀ x, OpRep κ w live tk (S x) (ρ x)) {T : TypeId} {ps : Array (Nat × Operand)} {z cs : List PV} {l : List (Nat × Nat)} {fs : Array Field}
    (hz : zeroC P T = some z) (hl : partsOf P T ps.toList = some l) (hu : P.underlying T = some (.struct fs)) (ha : fs.toList.all (fun f => (P.info? f.type).isSome) = true)
    (hf : fillB z l (ps.toList.map fun p => S p.2) = some cs) :
    ∃ v, (Instr.build T (ps.map fun (i, x) => (i, ρ x))).run P w = .ok v w ∧ OpRep κ w live tk (.ag cs) v := by
  obtain ⟨i, v, hi, hv, hc⟩ := zeroC_inv hz
  obtain ⟨hl1, hl2⟩ := partsOf_spec hl
  obtain ⟨arr, h1, h2⟩ := fill_runs (κ := κ) (w := w) (live := live) (tk := tk) ((fs.map fun f => (f.offset, P.cellsOf f.type))[·]?) l (ps.toList.map fun x => (x.1, ρ x.2)) _ z v.cells cs
    (by simp [hl1]) (fun j hj => by
      have hj' : j < ps.toList.length := by omega
      obtain ⟨g, hg⟩ := hl2 j hj'
      obtain ⟨fs', fl, i', hu', hfl, hi', ho, hn, _⟩ := fieldSpan_inv hg
      rw [hu] at hu'
      cases hu'
      rw [getD_map' _ _ j (0, undef) (0, .func 0) hj', Array.getElem?_map, hfl]
      have hc2 : P.cellsOf fl.type = i'.size := by simp [Program.cellsOf, hi']
      rw [Option.map_some, hc2, ← ho, ← hn])
    (fun j hj => by
      have hj' : j < ps.toList.length := by simpa using hj
      rw [getD_map' _ _ j (0, undef) (0, .func 0) hj', getD_map' (fun p => S p.2) _ j PV.un (0, .func 0) hj']
      exact hS _)
    (ofCells_rep hc) hf
  refine ⟨.agg arr, ?_, trivial, arr, rfl, h2⟩
  have hm := mapM_places (P := P) (w := w) fs ha
  simp only [Instr.build, Sem.run_bind, run_zeroValue' hi hv, Result.andThen_ok, run_underlying hu, hm]
  have hq' : (ps.map fun (x : Nat × Operand) => match x with | (i, x) => (i, ρ x)).toList = ps.toList.map fun x => (x.1, ρ x.2) := by simp
  rw [hq', h1]
  simp


theorem mv_yields (hS : ∀ x, OpRep κ w live tk (S x) (ρ x)) (x : Operand) {old p : PV} (h : evalP .mv old [S x] = some p) :
    ∃ v, (pure (.value (ρ x)) : Sem Next).run P w = .ok (.value v) w ∧ OpRep κ w live tk p v := by
  refine ⟨ρ x, rfl, ?_⟩
  have hx := hS x
  simp only [evalP] at h
  split at h <;> first | (cases h; done) | (cases h; exact hx)

theorem OpRep.ite {c : Bool} {p q : PV} {x y : Value} (h : OpRep κ w live tk p x) (h' : OpRep κ w live tk q y) : OpRep κ w live tk (if c then p else q) (if c then x else y) := by
  cases c <;> assumption

theorem pick_yields (hS : ∀ x, OpRep κ w live tk (S x) (ρ x)) (c x y : Operand) {old p : PV} (h : evalP .pick old [S c, S x, S y] = some p) :
    ∃ v, (do pure (.value (if ← asBool (ρ c) then ρ x else ρ y)) : Sem Next).run P w = .ok (.value v) w ∧ OpRep κ w live tk p v := by
  have hc := hS c
  have hx := hS x
  have hy := hS y
  generalize S c = pc at *
  generalize S x = px at *
  generalize S y = py at *
  cases pc with
  | v u =>
    cases u with
    | bool b =>
      simp only [evalP, Option.some.injEq] at h
      subst h
      obtain ⟨e, _⟩ := hc.v_inv
      refine ⟨if b then ρ x else ρ y, ?_, hx.ite hy⟩
      simp [e, asBool]
    | _ => simp [evalP] at h
  | _ => simp [evalP] at h

theorem offBy_rep {p q : PV} {x : Value} {n : Nat} (h : OpRep κ w live tk p x) (ho : offBy p n = some q) :
    ∃ b o, x = .pointer (some ⟨b, o, none⟩) ∧ OpRep κ w live tk q (.pointer (some ⟨b, o + n, none⟩)) := by
  cases p with
  | lp s g o => cases ho; obtain ⟨_, b, hx, hk⟩ := h; exact ⟨b, o, hx, trivial, b, rfl, hk⟩
  | ep r o => cases ho; obtain ⟨_, b, o', vs, hx, hf, hv⟩ := h; exact ⟨b, o' + o, hx, trivial, b, o', vs, by rw [Nat.add_assoc], hf, hv⟩
  | sp i o =>
    cases ho
    obtain ⟨hr, _⟩ := CRep.old h.2 (by simp)
    cases hr with
    | sp _ _ b hk => exact ⟨b, o, rfl, trivial, .inl ⟨.sp i _ b hk, trivial⟩⟩
  | _ => simp [offBy] at ho

theorem fa_yields (hS : ∀ x, OpRep κ w live tk (S x) (ρ x)) (T : TypeId) (x : Operand) (f : Nat) {o n : Nat} {g : Bool} (hs : fieldSpan P T f = some (o, n, g)) (hn : n ≠ 0)
    {p : PV} (h : offBy (S x) o = some p) : ∃ v, (Instr.fieldAt T (ρ x) f).run P w = .ok v w ∧ OpRep κ w live tk p v := by
  obtain ⟨fs, fl, i, hu, hf, hi, ho, hn', _⟩ := fieldSpan_inv hs
  obtain ⟨b, o', hx, hr⟩ := offBy_rep (hS x) h
  refine ⟨_, ?_, hr⟩
  have hc : P.cellsOf fl.type = n := by simp [Program.cellsOf, hi, hn']
  have hc0 : ¬ (P.cellsOf fl.type = 0) := by omega
  simp [Instr.fieldAt, run_underlying hu, hf, hx, Instr.sureAddr, fieldPlace, run_sizeOf w hi, hc0, addr_add, ho]

theorem fld_yields (hS : ∀ x, OpRep κ w live tk (S x) (ρ x)) (T : TypeId) (x : Operand) (f : Nat) {o n : Nat} {g : Bool} (hs : fieldSpan P T f = some (o, n, g))
    {cs : List PV} (hx : S x = .ag cs) {p : PV} (h : cut cs o (if g then n else 1) g = some p) (hdd : fieldKnown P T f = true) :
    ∃ v, (Instr.field T (ρ x) f).run P w = .ok v w ∧ OpRep κ w live tk p v := by
  obtain ⟨fs, fl, i, hu, hf, hi, ho, hn', hg⟩ := fieldSpan_inv hs
  simp only [fieldKnown, hu, hf] at hdd
  obtain ⟨d, hd⟩ := Option.isSome_iff_exists.1 hdd
  have hr := hS x
  rw [hx] at hr
  obtain ⟨_, arr, hxv, hc⟩ := hr
  obtain ⟨h0, h1, h2⟩ := cut_rep hc h
  have hsz := hc.1
  cases hgg : g with
  | true =>
    simp only [hgg, if_true] at h0
    have := h1 hgg
    simp only [hgg, if_true] at this
    refine ⟨_, ?_, this⟩
    have hag : aggT P fl.type = true := by rw [← hg, hgg]
    have hc : P.cellsOf fl.type = n := by simp [Program.cellsOf, hi, hn']
    simp [Instr.field, run_underlying hu, hf, hxv, asAgg, part, run_isAgg _ hd, hag, run_sizeOf w hi, hc, ho]
  | false =>
    simp only [hgg] at h0
    have := (h2 hgg).2
    refine ⟨_, ?_, this⟩
    have hag : aggT P fl.type = false := by rw [← hg, hgg]
    have hlt : o < arr.size := by simp at h0; omega
    have hgt : arr[fl.offset]? = some (arr.getD o undef) := by rw [← ho]; simp [hlt]
    simp [Instr.field, run_underlying hu, hf, hxv, asAgg, part, run_isAgg _ hd, hag, hgt]

end
end Go.Pi

/- More operations that leave memory alone. -/
namespace Go.Pi
open Go
open PV (genOf asSrc clrC clrs clr clrAll cellsT cells0)

section
variable {P : Program} {κ : KM} {w : World} {live : Nat → Bool} {tk : Nat} {S : Operand → PV} {ρ : Operand → Value}

theorem ldE_runs {T : TypeId} {i : TypeInfo} (hi : P.info? T = some i) (hd : (P.underlying T).isSome = true) {row : List PV} {off : Nat} {x : Value} (hx : EpRep κ w row off x)
    {p : PV} (h : cut row off (if aggT P T then i.size else 1) (aggT P T) = some p) : ∃ v, (Instr.loadAt T x).run P w = .ok v w ∧ OpRep κ w live tk p v := by
  obtain ⟨d, hd⟩ := Option.isSome_iff_exists.1 hd
  obtain ⟨b, o, vs, hx, hf, hv⟩ := hx
  have hct : CellsT κ w live tk row ((List.range row.length).map vs).toArray := by
    refine CellsRep.tok ⟨by simp, fun j hj => ?_⟩
    have e : (((List.range row.length).map vs).toArray).getD j undef = vs j := by simp [hj]
    rw [e]
    exact (hv j hj).2
  obtain ⟨h0, h1, h2⟩ := cut_rep hct h
  have hrun := run_loadVar_known (P := P) (w := w) T hi hd b (o + off) (fun j => vs (off + j)) (fun j hj => by
    have := (hv (off + j) (by omega)).1
    rw [← Nat.add_assoc] at this
    exact this)
  refine ⟨if aggT P T then .agg ((List.range i.size).map fun j => vs (off + j)).toArray else vs (off + 0), ?_, ?_⟩
  · rw [hx]
    simp [Instr.loadAt, Instr.sureAddr]
    simpa using hrun
  · cases hg : aggT P T with
    | true =>
      simp only [hg, if_true] at h0 h1 ⊢
      have e : (((List.range row.length).map vs).toArray).extract off (off + i.size) = ((List.range i.size).map fun j => vs (off + j)).toArray := by
        apply Array.ext
        · simp; omega
        · intro j hj hj'
          simp
      rw [← e]
      exact h1 trivial
    | false =>
      simp only [hg, Bool.false_eq_true, if_false] at h0 h2 ⊢
      have e : (((List.range row.length).map vs).toArray).getD off undef = vs (off + 0) := by
        have : off < row.length := by omega
        simp [this]
      rw [← e]
      exact (h2 trivial).2

theorem OpRep.sp_inv {i off : Nat} {x : Value} (h : OpRep κ w live tk (.sp i off) x) : ∃ b, x = .pointer (some ⟨b, off, none⟩) ∧ κ b = .sb i := by
  obtain ⟨hr, _⟩ := CRep.old h.2 (by simp)
  cases hr with
  | sp _ _ b hk => exact ⟨b, rfl, hk⟩

theorem OpRep.fn_inv {f : FuncId} {cs : List PV} {x : Value} (h : OpRep κ w live tk (.fn f cs) x) :
    ∃ arr : Array Value, x = .func (.func f) #[] arr ∧ arr.size = cs.length ∧ ∀ i, i < cs.length → RepC κ w (cs.getD i .un) (arr.getD i undef) := by
  obtain ⟨hr, _⟩ := CRep.old h.2 (by simp)
  cases hr with
  | fn _ _ arr h1 h2 => exact ⟨arr, rfl, h1, h2⟩

theorem nilck_yields (hS : ∀ x, OpRep κ w live tk (S x) (ρ x)) (x : Operand) {old p : PV} (h : evalP .nilck old [S x] = some p) (o : Oper) (ho : o.op = .nilCheck x) :
    ∃ v, (execOp ρ o).run P w = .ok (.value v) w ∧ OpRep κ w live tk p v := by
  have hx := hS x
  generalize S x = px at *
  cases px with
  | lp s g off => simp only [evalP, Option.some.injEq] at h; subst h; refine ⟨ρ x, ?_, hx⟩; obtain ⟨_, b, e, _⟩ := hx; simp [execOp, ho, e]
  | ep r off => simp only [evalP, Option.some.injEq] at h; subst h; refine ⟨ρ x, ?_, hx⟩; obtain ⟨_, b, q, vs, e, _⟩ := hx; simp [execOp, ho, e]
  | sp i off => simp only [evalP, Option.some.injEq] at h; subst h; refine ⟨ρ x, ?_, hx⟩; obtain ⟨b, e, _⟩ := hx.sp_inv; simp [execOp, ho, e]
  | fn f c => simp only [evalP, Option.some.injEq] at h; subst h; refine ⟨ρ x, ?_, hx⟩; obtain ⟨arr, e, _⟩ := hx.fn_inv; simp [execOp, ho, e]
  | _ => simp [evalP] at h

theorem OpRep.sl_inv {t z : Nat} {rows : List (List PV)} {x : Value} (h : OpRep κ w live tk (.sl t z rows) x) :
    RepC κ w (.sl 0 z rows) x ∧ ∃ a c, x = .slice a rows.length c := by
  obtain ⟨hr, _⟩ := CRep.old h.2 (by simp)
  have hr' : RepC κ w (.sl 0 z rows) x := hr
  refine ⟨hr', ?_⟩
  cases hr' with
  | nil _ a c => exact ⟨a, c, rfl⟩
  | sl _ _ b o c vs h1 h2 h3 h4 h5 h6 => exact ⟨_, _, rfl⟩

theorem row_ep {z b o c : Nat} {rows : List (List PV)} {x : Value} (h : RepC κ w (.sl 0 z rows) x) (hx : x = .slice (some ⟨b, o, none⟩) rows.length c) {i : Nat} (hi : i < rows.length) :
    EpRep κ w (rows.getD i []) 0 (.pointer (some ⟨b, o + i * z, none⟩)) ∧ (rows.getD i []).length = z := by
  cases h with
  | nil _ a c => simp at hi
  | sl _ _ b' o' c' vs h1 h2 h3 h4 h5 h6 =>
    cases hx
    have hl : (rows.getD i []).length = z := by
      apply h2
      simp [List.getD_eq_getElem?_getD, hi]
    refine ⟨⟨b, o + i * z, fun j => vs i j, rfl, ?_, fun j hj => ?_⟩, hl⟩
    · rw [hl]
      unfold foot at *
      have hle : o + i * z + z ≤ o + rows.length * z := by
        have := Nat.mul_le_mul_right z (Nat.succ_le_of_lt hi)
        rw [Nat.succ_mul] at this
        omega
      split at h3 <;> first | trivial | omega | exact h3.elim
    · rw [hl] at hj
      exact ⟨h4 i j hi hj, h5 i j hi hj⟩

theorem ia_yields (hS : ∀ x, OpRep κ w live tk (S x) (ρ x)) {T E : TypeId} (hT : P.underlying T = some (.slice E)) {j : TypeInfo} (hj : P.info? E = some j) (x y : Operand)
    {old p : PV} (h : evalP (.ia j.size) old [S x, S y] = some p) : ∃ v, (Instr.indexAt T (ρ x) (ρ y)).run P w = .ok v w ∧ OpRep κ w live tk p v := by
  have hx := hS x
  have hy := hS y
  generalize S x = px at *
  generalize S y = py at *
  cases px with
  | sl t z rows =>
    cases py with
    | v u =>
      cases u with
      | int k i =>
        simp only [evalP] at h
        split at h
        · rename_i hc
          cases h
          obtain ⟨h0, hlt, hz⟩ := hc
          obtain ⟨hr, a, c, hxv⟩ := hx.sl_inv
          obtain ⟨e, _⟩ := hy.v_inv
          have hlt' : i.toNat < rows.length := by omega
          cases a with
          | none =>
            rw [hxv] at hr
            cases hr with
            | nil => simp at hlt'
          | some ad =>
            obtain ⟨b, o, sp⟩ := ad
            have hsp : sp = none := by
              rw [hxv] at hr
              cases hr with
              | nil => simp at hlt'
              | sl => rfl
            subst hsp
            obtain ⟨he, hl⟩ := row_ep hr hxv hlt'
            refine ⟨_, ?_, trivial, he⟩
            have hlt2 : i < rows.length := hlt
            have hcz : P.cellsOf E = z := by simp [Program.cellsOf, hj, hz]
            simp [Instr.indexAt, e, hxv, asIntOf, run_underlying hT, h0, hlt2, run_sizeOf w hj, addr_add, hcz]
        · cases h
      | _ => simp [evalP] at h
    | _ => simp [evalP] at h
  | ls s g n z =>
    cases py with
    | v u =>
      cases u with
      | int k i =>
        simp only [evalP] at h
        split at h
        · rename_i hc
          cases h
          obtain ⟨h0, hlt, hz⟩ := hc
          obtain ⟨b, c, hxv, hk, _⟩ := CRep.ls hx.2
          obtain ⟨e, _⟩ := hy.v_inv
          refine ⟨_, ?_, trivial, b, rfl, hk⟩
          have hcz : P.cellsOf E = j.size := by simp [Program.cellsOf, hj]
          simp [Instr.indexAt, e, hxv, asIntOf, run_underlying hT, h0, hlt, run_sizeOf w hj, addr_add, hcz]
        · cases h
      | _ => simp [evalP] at h
    | _ => simp [evalP] at h
  | _ => cases py <;> simp [evalP] at h

theorem iaA_yields (hS : ∀ x, OpRep κ w live tk (S x) (ρ x)) {T E : TypeId} {n : Nat} (hT : P.underlying T = some (.array n E)) {j : TypeInfo} (hj : P.info? E = some j) (x y : Operand)
    {old p : PV} (h : evalP (.iaA n j.size) old [S x, S y] = some p) : ∃ v, (Instr.indexAt T (ρ x) (ρ y)).run P w = .ok v w ∧ OpRep κ w live tk p v := by
  have hx := hS x
  have hy := hS y
  generalize S x = px at *
  generalize S y = py at *
  cases py with
  | v u =>
    cases u with
    | int k i =>
      simp only [evalP] at h
      split at h
      · rename_i hc
        obtain ⟨h0, hlt⟩ := hc
        obtain ⟨e, _⟩ := hy.v_inv
        obtain ⟨b, o, hxv, hr⟩ := offBy_rep hx h
        refine ⟨_, ?_, hr⟩
        have hcz : P.cellsOf E = j.size := by simp [Program.cellsOf, hj]
        simp [Instr.indexAt, e, hxv, asIntOf, run_underlying hT, h0, hlt, run_sizeOf w hj, addr_add, hcz, Instr.sureAddr]
      · cases h
    | _ => simp [evalP] at h
  | _ => simp [evalP] at h

theorem ext_yields (hS : ∀ x, OpRep κ w live tk (S x) (ρ x)) (x : Operand) (i : Nat) {old p : PV} (h : evalP (.ext i) old [S x] = some p) :
    ∃ v, (Instr.extract (ρ x) i).run P w = .ok v w ∧ OpRep κ w live tk p v := by
  have hx := hS x
  generalize S x = px at *
  cases px with
  | tup vs =>
    simp only [evalP] at h
    obtain ⟨_, arr, hxv, hs, hv⟩ := hx
    have hi : i < vs.length := by
      rcases Nat.lt_or_ge i vs.length with h' | h'
      · exact h'
      · rw [List.getElem?_eq_none h'] at h; cases h
    have := hv i hi
    have e1 : vs.getD i .un = p := by simp [List.getD_eq_getElem?_getD, h]
    rw [e1] at this
    refine ⟨_, ?_, this.op⟩
    have hi' : i < arr.size := by omega
    simp [Instr.extract, hxv, hi']
  | _ => simp [evalP] at h

theorem len_yields (hS : ∀ x, OpRep κ w live tk (S x) (ρ x)) (x : Operand) {T E : TypeId} {ts : Array TypeId} (ht : ts[0]? = some T) (hT : P.underlying T = some (.slice E)) (ty : TypeId)
    {old p : PV} (h : evalP .len old [S x] = some p) : ∃ v, (Builtin.len_ ts ty #[ρ x]).run P w = .ok v w ∧ OpRep κ w live tk p v := by
  have hx := hS x
  generalize S x = px at *
  cases px with
  | sl t z rows =>
    simp only [evalP, Option.some.injEq] at h
    subst h
    obtain ⟨hr, a, c, hxv⟩ := hx.sl_inv
    refine ⟨_, ?_, trivial, .inl ⟨RepC.v _ rfl, trivial⟩⟩
    simp [Builtin.len_, ht, run_underlying hT, hxv, goInt]
  | ls s g n z =>
    simp only [evalP, Option.some.injEq] at h
    subst h
    obtain ⟨b, c, hxv, hk, _⟩ := CRep.ls hx.2
    refine ⟨_, ?_, trivial, .inl ⟨RepC.v _ rfl, trivial⟩⟩
    simp [Builtin.len_, ht, run_underlying hT, hxv, goInt]
  | _ => simp [evalP] at h

theorem max_yields (hS : ∀ x, OpRep κ w live tk (S x) (ρ x)) (x y : Operand) (mx : Bool) (ts : Array TypeId) (ty : TypeId) {old p : PV} (h : evalP (.maxi mx) old [S x, S y] = some p) :
    ∃ v, (if mx then Builtin.max_ ts ty #[ρ x, ρ y] else Builtin.min_ ts ty #[ρ x, ρ y]).run P w = .ok v w ∧ OpRep κ w live tk p v := by
  have hx := hS x
  have hy := hS y
  generalize S x = px at *
  generalize S y = py at *
  cases px with
  | v u =>
    cases py with
    | v u' =>
      obtain ⟨e, _⟩ := hx.v_inv
      obtain ⟨e', _⟩ := hy.v_inv
      cases u with
      | int k m =>
        cases u' with
        | int k' n =>
          cases k <;> first | (simp [evalP] at h; done) | skip
          cases k' <;> first | (simp [evalP] at h; done) | skip
          simp only [evalP, Option.some.injEq] at h
          subst h
          refine ⟨_, ?_, trivial, .inl ⟨RepC.v _ rfl, trivial⟩⟩
          cases mx <;> simp [Builtin.max_, Builtin.min_, Builtin.max2, Builtin.min2, e, e']
        | _ => simp [evalP] at h
      | _ => simp [evalP] at h
    | _ => simp [evalP] at h
  | _ => cases py <;> simp [evalP] at h

theorem mkfn_yields (hS : ∀ x, OpRep κ w live tk (S x) (ρ x)) (f : FuncId) (caps : Array Operand) {old p : PV} (h : evalP (.mkfn f) old (caps.toList.map S) = some p) :
    OpRep κ w live tk p (.func (.func f) #[] (caps.map ρ)) := by
  simp only [evalP] at h
  split at h
  · rename_i cs hcs
    cases h
    refine ⟨trivial, .inl ⟨.fn f cs _ ?_ fun i hi => ?_, trivial⟩⟩
    · rw [clrs_len hcs]; simp
    · have hl := clrs_len hcs
      have hi' : i < caps.toList.length := by simpa [hl] using hi
      have := clrs_get hcs i (by simpa using hi')
      rw [getD_map' S _ i PV.un (.func 0) hi'] at this
      have e : (caps.map ρ).getD i undef = ρ (caps.toList.getD i (.func 0)) := by
        have hi2 : i < caps.size := by simpa using hi'
        simp [hi2, List.getD_eq_getElem?_getD]
      rw [e]
      have ho := hS (caps.toList.getD i (.func 0))
      generalize S (caps.toList.getD i (.func 0)) = q at *
      have hv := clr_rep ho (show clr q = some _ by cases q <;> first | exact this | (simp [clrC] at this; done))
      generalize cs.getD i .un = r at *
      cases q <;> (simp only [clrC, Option.some.injEq, reduceCtorEq] at this; try (subst this; exact hv))
  · cases h

theorem OpRep.ifc_inv {t : Nat} {cs : List PV} {x : Value} (h : OpRep κ w live tk (.ifc t cs) x) :
    ∃ arr : Array Value, x = .iface t (.agg arr) ∧ CellsRep κ w cs arr := by
  obtain ⟨hr, _⟩ := CRep.old h.2 (by simp)
  cases hr with
  | ifc _ _ arr h1 h2 => exact ⟨arr, rfl, h1, h2⟩

theorem mkifc_yields (hS : ∀ x, OpRep κ w live tk (S x) (ρ x)) {T : TypeId} {fs : Array Field} (hT : P.underlying T = some (.struct fs)) (x : Operand) {old p : PV} (h : evalP (.mkifc T) old [S x] = some p) :
    ∃ v, (Instr.makeInterface T (ρ x)).run P w = .ok v w ∧ OpRep κ w live tk p v := by
  have hx := hS x
  generalize S x = px at *
  cases px with
  | ag cs =>
    simp only [evalP] at h
    split at h
    · rename_i c hc
      cases h
      obtain ⟨_, arr, hv, hr⟩ := hx
      have hr' := hr.clr hc
      exact ⟨_, by rw [run_makeInterface w T _ (by simp [Program.concrete, hT])], trivial, .inl ⟨by rw [hv]; exact .ifc T c arr hr'.1 hr'.2, trivial⟩⟩
    · cases h
  | _ => simp [evalP] at h

theorem tass_yields (hS : ∀ x, OpRep κ w live tk (S x) (ρ x)) {A X : TypeId} {fs : Array Field} (hA : P.underlying A = some (.struct fs)) {ti : TypeInfo} (hti : P.info? A = some ti) {zv : Value} (hzv : ti.zero = some zv) {z : PV} (hz : clr (ofVal zv) = some z) (x : Operand) {old p : PV} (h : evalP (.tass A z) old [S x] = some p) :
    ∃ v, (Instr.typeAssert (ρ x) X A true).run P w = .ok v w ∧ OpRep κ w live tk p v := by
  have hx := hS x
  generalize S x = px at *
  cases px with
  | ifc u cs =>
    simp only [evalP, Option.some.injEq] at h
    obtain ⟨arr, hv, hr⟩ := hx.ifc_inv
    have hzr : ValRep κ w z zv := clr_rep (ofVal_rep (κ := κ) (w := w) (live := live) (tk := tk) zv) hz
    have hrun := run_zeroValue' (P := P) (w := w) hti hzv
    by_cases e : u = A
    · rw [if_pos e] at h
      subst h
      refine ⟨.tuple #[.agg arr, .bool true], by rw [hv]; simp [Instr.typeAssert, run_underlying hA, e], trivial, #[.agg arr, .bool true], rfl, rfl, fun i hi => ?_⟩
      match i, hi with
      | 0, _ => exact ⟨arr, rfl, hr⟩
      | 1, _ => exact (RepC.v _ rfl : RepC κ w (.v (.bool true)) (.bool true))
    · rw [if_neg e] at h
      subst h
      refine ⟨.tuple #[zv, .bool false], by rw [hv]; simp [Instr.typeAssert, run_underlying hA, e, hrun], trivial, #[zv, .bool false], rfl, rfl, fun i hi => ?_⟩
      match i, hi with
      | 0, _ => exact hzr
      | 1, _ => exact (RepC.v _ rfl : RepC κ w (.v (.bool false)) (.bool false))
  | _ => simp [evalP] at h

theorem fnil_yields (hS : ∀ x, OpRep κ w live tk (S x) (ρ x)) {op : BinOp} {neq : Bool} (hop : (op = .eql ∧ neq = false) ∨ (op = .neq ∧ neq = true)) {T : TypeId} {ps rs : Array TypeId} {v : Bool} (hT : P.underlying T = some (.func ps rs v)) (x y X Y : Operand) {old p : PV} (h : evalP (.fnil neq) old [S x, S y] = some p) :
    ∃ v, (do eqGuard op T X Y (ρ x) (ρ y); binOp op T (ρ x) (ρ y) : Sem Value).run P w = .ok v w ∧ OpRep κ w live tk p v := by
  have hx := hS x
  have hy := hS y
  generalize S x = px at *
  generalize S y = py at *
  have key : ∃ b : Bool, (Op.equal T (ρ x) (ρ y)).run P w = .ok b w ∧ p = .v (.bool (xor neq b)) ∧ (ρ y = .nilFunc) ∧ (ρ x = .nilFunc ∨ ∃ f l r, ρ x = .func f l r) := by
    cases py <;> first | (cases px <;> simp [evalP] at h; done) | skip
    rename_i yv
    cases yv <;> first | (cases px <;> simp [evalP] at h; done) | skip
    obtain ⟨ey, _⟩ := hy.v_inv
    cases px <;> first | (simp [evalP] at h; done) | skip
    · rename_i xv
      cases xv <;> first | (simp [evalP] at h; done) | skip
      obtain ⟨ex, _⟩ := hx.v_inv
      simp only [evalP, Option.some.injEq] at h
      have hh : ∀ d, (Op.equalIn (d + 1) T .nilFunc .nilFunc).run P w = .ok true w := fun d => by simp [Op.equalIn, run_underlying hT]
      exact ⟨true, by rw [ex, ey]; exact hh 9999, by rw [← h]; cases neq <;> rfl, ey, .inl ex⟩
    · rename_i f c
      obtain ⟨arr, ex, _⟩ := hx.fn_inv
      simp only [evalP, Option.some.injEq] at h
      have hh : ∀ d, (Op.equalIn (d + 1) T (.func (.func f) #[] arr) .nilFunc).run P w = .ok false w := fun d => by simp [Op.equalIn, run_underlying hT]
      exact ⟨false, by rw [ex, ey]; exact hh 9999, by rw [← h]; cases neq <;> rfl, ey, .inr ⟨_, _, _, ex⟩⟩
  obtain ⟨b, h1, rfl, ey, ex⟩ := key
  refine ⟨.bool (xor neq b), ?_, trivial, .inl ⟨RepC.v _ rfl, trivial⟩⟩
  rw [ey] at h1 ⊢
  rcases hop with ⟨rfl, rfl⟩ | ⟨rfl, rfl⟩ <;> rcases ex with ex | ⟨f, l, r, ex⟩ <;> rw [ex] at h1 ⊢ <;> simp [eqGuard, binOp, h1]

theorem conv_yields (hS : ∀ x, OpRep κ w live tk (S x) (ρ x)) {s d : TypeId} {k k' : IntKind} (hs : P.underlying s = some (.int k')) (hd : P.underlying d = some (.int k)) (x : Operand)
    {old p : PV} (h : evalP (.conv k) old [S x] = some p) : ∃ v, (convert s d (ρ x)).run P w = .ok v w ∧ OpRep κ w live tk p v := by
  have hx := hS x
  generalize S x = px at *
  cases px with
  | v u =>
    cases u with
    | int k0 n =>
      simp only [evalP, Option.some.injEq] at h
      subst h
      obtain ⟨e, _⟩ := hx.v_inv
      refine ⟨_, ?_, trivial, .inl ⟨RepC.v _ rfl, trivial⟩⟩
      simp [convert, run_underlying hs, run_underlying hd, e, Conv.intToInt]
    | _ => simp [evalP] at h
  | _ => simp [evalP] at h

end
end Go.Pi

/- Slicing; the dispatch of the operations that leave memory alone. -/
namespace Go.Pi
open Go
open PV (genOf asSrc clrC clrs clr clrAll cellsT cells0)

section
variable {P : Program} {κ : KM} {w : World} {live : Nat → Bool} {tk : Nat} {S : Operand → PV} {ρ : Operand → Value}

theorem sub_rep {z c l h m : Nat} {rows : List (List PV)} {a : Option Addr} (hr : RepC κ w (.sl 0 z rows) (.slice a rows.length c)) (h1 : l ≤ h) (h2 : h ≤ rows.length) (h3 : h ≤ m) :
    RepC κ w (.sl 0 z ((rows.drop l).take (h - l))) (.slice (if m = l then a else a.map (·.add (l * z))) (h - l) (m - l)) := by
  have hlen : ((rows.drop l).take (h - l)).length = h - l := by simp; omega
  by_cases he : h = l
  · subst he
    simp only [Nat.sub_self, List.take_zero]
    exact .nil z _ _
  · rw [if_neg (by omega)]
    generalize hx : Value.slice a rows.length c = x at hr
    cases hr with
    | nil => simp at h2; omega
    | sl _ _ b o c' vs g1 g2 g3 g4 g5 g6 =>
      cases hx
      simp only [Option.map_some, addr_add]
      have key := RepC.sl (κ := κ) (w := w) z ((rows.drop l).take (h - l)) b (o + l * z) (m - l) (fun i j => vs (l + i) j) (by
          intro e; rw [e] at hlen; simp at hlen; omega)
        (fun r hr => g2 r (List.mem_of_mem_drop (List.mem_of_mem_take hr)))
        (by
          rw [hlen]
          have hle : o + l * z + (h - l) * z ≤ o + rows.length * z := by
            have e : l * z + (h - l) * z = h * z := by rw [← Nat.add_mul]; congr 1; omega
            have := Nat.mul_le_mul_right z h2
            omega
          unfold foot at *
          split at g3 <;> first | trivial | omega | exact g3.elim)
        (fun i j hi hj => by
          rw [hlen] at hi
          have := g4 (l + i) j (by omega) hj
          rw [Nat.add_mul] at this
          rw [show o + l * z + i * z + j = o + (l * z + i * z) + j by omega]
          exact this)
        (fun i j hi hj => by
          rw [hlen] at hi
          have := g5 (l + i) j (by omega) hj
          have e : ((rows.drop l).take (h - l)).getD i [] = rows.getD (l + i) [] := by simp [List.getD_eq_getElem?_getD, hi]
          rw [e]
          exact this)
        (by rw [hlen]; omega)
      rw [hlen] at key
      exact key

theorem int_op {k : IntKind} {n : Int} {x : Value} (h : OpRep κ w live tk (.v (.int k n)) x) : x = .int k n := h.v_inv.1

/-- The bound of a slice expression. -/
theorem bound_runs {k : IntKind} {i : Int} {y : Nat} (code : BoundsCode) (h0 : 0 ≤ i) (h1 : i ≤ y) : (Instr.sliceBound (.int k i) y code).run P w = .ok i.toNat w := by
  simp [Instr.sliceBound, asIntOf, h0, h1]

theorem pull_some (o : Option Operand) (r : List PV) : pull o.isSome (o.toList.map S ++ r) = (o.map S, r) := by
  cases o with
  | none => rfl
  | some x => rfl

theorem bnd_op (hS : ∀ x, OpRep κ w live tk (S x) (ρ x)) {u : Operand} {d i : Int} (h : bnd (some (S u)) d = some i) : ∃ k, ρ u = .int k i := by
  have hu := hS u
  generalize S u = pu at *
  cases pu with
  | v y =>
    cases y with
    | int k a => simp only [bnd, Option.some.injEq] at h; subst h; exact ⟨k, int_op hu⟩
    | _ => simp [bnd] at h
  | _ => simp [bnd] at h

theorem slc_yields (hS : ∀ x, OpRep κ w live tk (S x) (ρ x)) {T E : TypeId} (hT : P.underlying T = some (.slice E)) {j : TypeInfo} (hj : P.info? E = some j) (x : Operand)
    (lo hi mx : Option Operand) {p : PV} (h : sliceOf (S x) (lo.map S) (hi.map S) (mx.map S) j.size = some p) :
    ∃ v, (Instr.sliceAt T (ρ x) (lo.map ρ) (hi.map ρ) (mx.map ρ)).run P w = .ok v w ∧ OpRep κ w live tk p v := by
  have hx := hS x
  generalize S x = px at *
  cases px with
  | sl t sz rows =>
    simp only [sliceOf] at h
    split at h
    · rename_i hz
      obtain ⟨hr, a, c, hxv⟩ := hx.sl_inv
      have hr' : RepC κ w (.sl 0 j.size rows) (.slice a rows.length c) := by
        rw [← hxv]
        by_cases e : sz = j.size
        · rw [← e]; exact hr
        · have : rows = [] := by simpa [e] using hz
          subst this
          rw [hxv]; exact .nil _ _ _
      have hcap : rows.length ≤ c := by
        generalize hq : Value.slice a rows.length c = q at hr'
        cases hr' with
        | nil => simp
        | sl _ _ b o c' vs g1 g2 g3 g4 g5 g6 => cases hq; exact g6
      have hcz : P.cellsOf E = j.size := by simp [Program.cellsOf, hj]
      have main : ∀ (l hh m : Nat), (Instr.sliceBounds true rows.length c (lo.map ρ) (hi.map ρ) (mx.map ρ)).run P w = .ok (l, hh, m) w →
          (Instr.sliceAt T (ρ x) (lo.map ρ) (hi.map ρ) (mx.map ρ)).run P w = .ok (.slice (if m = l then a else a.map (·.add (l * j.size))) (hh - l) (m - l)) w := by
        intro l hh m hb
        simp only [Instr.sliceAt, Sem.run_bind, run_underlying hT, Result.andThen_ok, Instr.slice, hxv, hb, run_sizeOf w hj, hcz]
        rfl
      split at h
      · rename_i l hh hl hhh
        split at h
        · rename_i hb
          obtain ⟨b0, b1, b2⟩ := hb
          have low : ∀ (y : Nat) (code : BoundsCode) (K : Nat → Sem (Nat × Nat × Nat)), (y : Int) = hh →
              (match lo.map ρ with | some v => (do let l ← Instr.sliceBound v y code; K l) | none => (do let l ← pure 0; K l) : Sem (Nat × Nat × Nat)).run P w = (K l.toNat).run P w := by
            intro y code K hy
            cases lo with
            | none => simp only [Option.map_none, bnd, Option.some.injEq] at hl; subst hl; rfl
            | some u =>
              obtain ⟨k, e⟩ := bnd_op hS hl
              simp only [Option.map_some, e, Sem.run_bind, bound_runs code b0 (show l ≤ (y : Int) by omega), Result.andThen_ok]
          have ht : (hh.toNat : Int) = hh := by omega
          cases mx with
          | none =>
            simp only [Option.map_none, Option.some.injEq] at h
            subst h
            refine ⟨_, main l.toNat hh.toNat c ?_, trivial, .inl ⟨sub_rep hr' (by omega) (by omega) (by omega), .inl rfl⟩⟩
            have lw := fun K => low hh.toNat .sliceB K ht
            cases hi with
            | none =>
              simp only [Option.map_none, bnd, Option.some.injEq] at hhh
              have hn : hh.toNat = rows.length := by omega
              rw [hn] at lw ⊢
              simp only [Instr.sliceBounds, Option.map_none, Sem.run_bind, Sem.run_pure, Result.andThen_ok, Option.isSome_none, Bool.false_eq_true, if_false]
              exact lw fun l => pure (l, rows.length, c)
            | some u =>
              obtain ⟨k, e⟩ := bnd_op hS hhh
              have hb2 : hh ≤ (c : Int) := by omega
              simp only [Instr.sliceBounds, Option.map_none, Option.map_some, e, Sem.run_bind, Sem.run_pure, Result.andThen_ok, Option.isSome_none, Bool.false_eq_true, if_false, if_true, bound_runs .sliceAcap (show (0 : Int) ≤ hh by omega) hb2]
              exact lw fun l => pure (l, hh.toNat, c)
          | some v =>
            have hv := hS v
            simp only [Option.map_some] at h
            generalize S v = pv at *
            cases pv <;> first | (simp at h; done) | skip
            rename_i yv
            cases yv <;> first | (simp at h; done) | skip
            rename_i k0 m
            simp only at h
            split at h
            · rename_i hm
              cases h
              obtain ⟨hm, hs⟩ := hm
              subst hm
              have ev := int_op hv
              cases hi with
              | none => simp at hs
              | some u =>
                obtain ⟨k, e⟩ := bnd_op hS hhh
                have lw := fun K => low m.toNat .slice3C K ht
                refine ⟨_, main l.toNat m.toNat m.toNat ?_, trivial, .inl ⟨sub_rep hr' (by omega) (by omega) (by omega), .inr (.inl ⟨rfl, _, _, rfl⟩)⟩⟩
                have hb2 : m ≤ (c : Int) := by omega
                have hb3 : m ≤ (m.toNat : Int) := by omega
                simp only [Instr.sliceBounds, Option.map_some, e, ev, Sem.run_bind, Result.andThen_ok, Option.isSome_some, if_true, bound_runs .slice3Acap (show (0 : Int) ≤ m by omega) hb2, bound_runs .slice3B (show (0 : Int) ≤ m by omega) hb3]
                exact lw fun l => pure (l, m.toNat, m.toNat)
            · cases h
        · cases h
      · cases h
    · cases h
  | _ => simp [sliceOf] at h

end
end Go.Pi
