/- The plain interpreter: values are trees, slices are lists, boxes are registers. Definitions only. -/
import Derived.Orders
import Derived.LoopN
import Derived.KernelRfl
import Derived.Laws.Sem
namespace Go.Pi
open Go

/-- Plain values. -/
inductive PV where
  | un
  | ud
  | v (x : Value)
  | sl (tok sz : Nat) (rows : List (List PV))
  | ag (cells : List PV)
  | tup (vs : List PV)
  | bx (gen : Nat) (cells : List PV)
  | lp (slot gen off : Nat)
  | ep (row : List PV) (off : Nat)
  | sp (id off : Nat)
  | fn (f : FuncId) (caps : List PV)
  deriving Inhabited

namespace PV
def genOf : PV → Nat
  | .bx g _ => g
  | _ => 0
/-- A register as an operand: a box is read as its address. -/
def asSrc (t : Nat) : PV → PV
  | .bx g _ => .lp t g 0
  | x => x
/-- One cell without its token; none for what may not leave. -/
def clrC : PV → Option PV
  | .v x => some (.v x)
  | .sl _ z r => some (.sl 0 z r)
  | .sp i o => some (.sp i o)
  | .fn f c => some (.fn f c)
  | _ => none
def clrs : List PV → Option (List PV)
  | [] => some []
  | x :: r => match clrC x, clrs r with
    | some y, some l => some (y :: l)
    | _, _ => none
/-- A value of one cell or many, without tokens. -/
def clr : PV → Option PV
  | .ag cs => (clrs cs).map .ag
  | x => clrC x
def clrAll : List PV → Option (List PV)
  | [] => some []
  | x :: r => match clr x, clrAll r with
    | some y, some l => some (y :: l)
    | _, _ => none
/-- The cells of a value, tokens kept. -/
def cellsT : PV → Option (List PV)
  | .ag cs => some cs
  | .v x => some [.v x]
  | .sl t z r => some [.sl t z r]
  | .sp i o => some [.sp i o]
  | .fn f c => some [.fn f c]
  | _ => none
/-- The cells of a value, without tokens. -/
def cells0 (x : PV) : Option (List PV) := match cellsT x with
  | some l => clrs l
  | none => none
end PV
open PV (genOf asSrc clrC clrs clr clrAll cellsT cells0)

/-- What a literal of the program is. -/
def ofCell : Value → PV
  | .slice none 0 0 => .sl 1 0 []
  | x => .v x
def ofCells (cs : List Value) : Option (List PV) := if cs.all (·.oneCell') then some (cs.map ofCell) else none
def ofVal : Value → PV
  | .agg cs => (match ofCells cs.toList with | some l => .ag l | none => .un)
  | x => if x.oneCell' then ofCell x else .un

inductive Src where
  | s (t : Nat)
  | c (x : PV)
  | g (gid : Nat)
  deriving Inhabited

inductive PK where
  | mv
  | pick
  | alloc (zero : List PV)
  | box
  | build (zero : List PV) (parts : List (Nat × Nat))
  | bslice (zero : List PV) (len sz : Nat) (parts : List Nat)
  | ldL (n : Nat) (agg : Bool)
  | ldE (n : Nat) (agg : Bool)
  | ldS (n : Nat) (agg : Bool)
  | stL (n : Nat)
  | stS (n : Nat)
  | nilck
  | bin (op : BinOp)
  | binB (op : BinOp)
  | uno (op : UnOp)
  | fld (off n : Nat) (agg : Bool)
  | fa (off : Nat)
  | ia (sz : Nat)
  | iaA (len sz : Nat)
  | ext (i : Nat)
  | len
  | maxi (mx : Bool)
  | slc (lo hi mx : Bool) (sz : Nat)
  | mkfn (f : FuncId)
  | conv (k : IntKind)
  | callF (f : FuncId)
  | callV
  | app (sz : Nat)
  | allocS (zero : List PV)
  | boxS
  deriving Inhabited

structure PI where
  k : PK
  rs : List Src
  d : Option Nat
  r : Option Nat := none
  g : Option (Nat × Bool) := none
  deriving Inhabited

/-- The memory that calls share: boxes by their names, and the next name. -/
structure Sh where
  boxes : List (Nat × List PV)
  nx : Nat

def getB : List (Nat × List PV) → Nat → Option (List PV)
  | [], _ => none
  | (i, c) :: r, j => if i = j then some c else getB r j
def setB : List (Nat × List PV) → Nat → List PV → List (Nat × List PV)
  | [], _, _ => []
  | (i, c) :: r, j, d => if i = j then (i, d) :: r else (i, c) :: setB r j d

structure Eff where
  sh : Sh
  live : Nat → Bool
  tk : Nat

structure St where
  regs : List PV
  ef : Eff

def splice (cs : List PV) (off : Nat) (vs : List PV) : List PV := cs.take off ++ vs ++ cs.drop (off + vs.length)
def cut (cs : List PV) (off n : Nat) (agg : Bool) : Option PV :=
  if off + n ≤ cs.length then (if agg then some (.ag ((cs.drop off).take n)) else if n = 1 then some (cs.getD off .un) else none) else none

/-- Operations on numbers. -/
def intBin (op : BinOp) (k : IntKind) (a b : Int) : Option Value :=
  match op with
  | .add => some (.int k (k.wrap (a + b)))
  | .sub => some (.int k (k.wrap (a - b)))
  | .mul => some (.int k (k.wrap (a * b)))
  | .quo => if b = 0 then none else some (.int k (k.wrap (a.tdiv b)))
  | .rem => if b = 0 then none else some (.int k (a.tmod b))
  | .eql => some (.bool (a == b))
  | .neq => some (.bool (a != b))
  | .lss => some (.bool (decide (a < b)))
  | .leq => some (.bool (decide (a ≤ b)))
  | .gtr => some (.bool (decide (a > b)))
  | .geq => some (.bool (decide (a ≥ b)))
  | _ => none

def sameKind (k k' : IntKind) : Bool := decide (k = k')

def binV (op : BinOp) (x y : Value) : Option Value :=
  match x, y with
  | .int k a, .int k' b => if sameKind k k' then intBin op k a b else none
  | _, _ => none
def binBV (op : BinOp) (x y : Value) : Option Value :=
  match op, x, y with
  | .eql, .bool a, .bool b => some (.bool (a == b))
  | .neq, .bool a, .bool b => some (.bool (a != b))
  | _, _, _ => none
def unoV (op : UnOp) (x : Value) : Option Value :=
  match op, x with
  | .not, .bool b => some (.bool (!b))
  | .neg, .int k n => some (.int k (k.wrap (0 - n)))
  | _, _ => none

def fillB : List PV → List (Nat × Nat) → List PV → Option (List PV)
  | z, [], [] => some z
  | z, (off, n) :: ps, x :: xs => match cellsT x with
    | some cs => if cs.length = n ∧ off + n ≤ z.length then fillB (splice z off cs) ps xs else none
    | none => none
  | _, _, _ => none

def fillS (sz : Nat) : List (List PV) → List Nat → List PV → Option (List (List PV))
  | z, [], [] => some z
  | z, i :: ps, x :: xs => match cells0 x with
    | some cs => if cs.length = sz ∧ i < z.length then fillS sz (z.set i cs) ps xs else none
    | none => none
  | _, _, _ => none

def offBy (x : PV) (n : Nat) : Option PV :=
  match x with
  | .lp s g o => some (.lp s g (o + n))
  | .ep r o => some (.ep r (o + n))
  | .sp i o => some (.sp i (o + n))
  | _ => none

def bnd : Option PV → Int → Option Int
  | none, d => some d
  | some (.v (.int _ a)), _ => some a
  | some _, _ => none
def pull : Bool → List PV → Option PV × List PV
  | true, x :: r => (some x, r)
  | _, r => (none, r)
def sliceOf (x : PV) (lo hi mx : Option PV) (z : Nat) : Option PV :=
  match x with
  | .sl _ sz rows =>
    if sz = z || rows.isEmpty then
      match bnd lo 0, bnd hi rows.length with
      | some l, some h =>
        if 0 ≤ l ∧ l ≤ h ∧ h ≤ rows.length then
          match mx with
          | none => some (.sl 0 z ((rows.drop l.toNat).take (h.toNat - l.toNat)))
          | some (.v (.int _ m)) => if m = h ∧ hi.isSome = true then some (.sl 1 z ((rows.drop l.toNat).take (h.toNat - l.toNat))) else none
          | some _ => none
        else none
      | _, _ => none
    else none
  | _ => none

/-- Operations without an effect: 'old' is the register that is written. -/
def evalP (k : PK) (old : PV) (xs : List PV) : Option PV :=
  match k, xs with
  | .mv, [x] => (match x with | .un => none | .ud => none | x => some x)
  | .pick, [.v (.bool c), a, b] => some (if c then a else b)
  | .alloc zero, [] => some (.bx (old.genOf + 1) zero)
  | .box, [x] => (match cellsT x with | some cs => some (.bx (old.genOf + 1) cs) | none => none)
  | .build zero parts, xs => (match fillB zero parts xs with | some cs => some (.ag cs) | none => none)
  | .bslice zero len sz parts, xs => (match fillS sz (List.replicate len zero) parts xs with | some rows => some (.sl 1 sz rows) | none => none)
  | .ldE n agg, [.ep row off] => cut row off n agg
  | .nilck, [x] => (match x with | .lp s g o => some (.lp s g o) | .ep r o => some (.ep r o) | .sp i o => some (.sp i o) | .fn f c => some (.fn f c) | _ => none)
  | .bin op, [.v a, .v b] => (match binV op a b with | some r => some (.v r) | none => none)
  | .binB op, [.v a, .v b] => (match binBV op a b with | some r => some (.v r) | none => none)
  | .uno op, [.v a] => (match unoV op a with | some r => some (.v r) | none => none)
  | .fld off n agg, [.ag cs] => cut cs off n agg
  | .fa off, [x] => offBy x off
  | .ia sz, [.sl _ z rows, .v (.int _ i)] => if 0 ≤ i ∧ i < rows.length ∧ z = sz then some (.ep (rows.getD i.toNat []) 0) else none
  | .iaA len sz, [x, .v (.int _ i)] => if 0 ≤ i ∧ i < len then offBy x (i.toNat * sz) else none
  | .ext i, [.tup vs] => vs[i]?
  | .len, [.sl _ _ rows] => some (.v (.int .i64 rows.length))
  | .maxi mx, [.v (.int .i64 a), .v (.int .i64 b)] => some (.v (.int .i64 (if mx then (if a < b then b else a) else (if b < a then b else a))))
  | .slc lo hi mx z, x :: r => sliceOf x (pull lo r).1 (pull hi (pull lo r).2).1 (pull mx (pull hi (pull lo r).2).2).1 z
  | .mkfn f, xs => (match clrs xs with | some cs => some (.fn f cs) | none => none)
  | .conv k, [.v (.int _ n)] => some (.v (.int k (k.wrap n)))
  | _, _ => none

/-- A load from, a store to a box in a register. -/
def evalL (p old : PV) (slot n : Nat) (agg : Bool) : Option PV :=
  match p, old with
  | .lp s g off, .bx g' cs => if s = slot ∧ g = g' then cut cs off n agg else none
  | _, _ => none
def evalW (p x old : PV) (slot n : Nat) : Option PV :=
  match p, old, cellsT x with
  | .lp s g off, .bx g' cs, some vs => if s = slot ∧ g = g' ∧ vs.length = n ∧ off + n ≤ cs.length then some (.bx g (splice cs off vs)) else none
  | _, _, _ => none

abbrev CallF := FuncId → List PV → Sh → Option (PV × Sh)

def appMax : Nat := 4294967296

/-- May rows be appended? A token of 1: no room; of 2 and more: the last of its kind. -/
def appOk (live : Nat → Bool) (t z sz : Nat) (rows : List (List PV)) (z' : Nat) (rows' : List (List PV)) : Bool :=
  (if t = 1 then decide (z = sz) || rows.isEmpty else decide (2 ≤ t) && live t && decide (z = sz)) && (decide (z' = sz) || rows'.isEmpty) && decide (rows.length + rows'.length ≤ appMax)

/-- Operations with an effect. -/
def evalE (call : CallF) (k : PK) (xs : List PV) (e : Eff) : Option (PV × Eff) :=
  match k, xs with
  | .callF f, xs => (match clrAll xs with
    | some ys => (match call f ys e.sh with | some (r, sh) => some (r, { e with sh := sh }) | none => none)
    | none => none)
  | .callV, .fn f caps :: xs => (match clrAll xs with
    | some ys => (match call f (ys ++ caps) e.sh with | some (r, sh) => some (r, { e with sh := sh }) | none => none)
    | none => none)
  | .app sz, [.sl t z rows, .sl _ z' rows'] =>
    if appOk e.live t z sz rows z' rows' then
      some (.sl e.tk sz (rows ++ rows'), { e with tk := e.tk + 1, live := fun x => if x = e.tk then true else if x = t then false else e.live x })
    else none
  | .ldS n agg, [.sp id off] => (match getB e.sh.boxes id with
    | some cs => (match cut cs off n agg with | some r => some (r, e) | none => none)
    | none => none)
  | .stS n, [.sp id off, x] => (match getB e.sh.boxes id, cells0 x with
    | some cs, some vs => if vs.length = n ∧ off + n ≤ cs.length then some (.un, { e with sh := { e.sh with boxes := setB e.sh.boxes id (splice cs off vs) } }) else none
    | _, _ => none)
  | .allocS zero, [] => (match clrs zero with
    | some z => some (.sp e.sh.nx 0, { e with sh := ⟨(e.sh.nx, z) :: e.sh.boxes, e.sh.nx + 1⟩ })
    | none => none)
  | .boxS, [x] => (match cells0 x with
    | some z => some (.sp e.sh.nx 0, { e with sh := ⟨(e.sh.nx, z) :: e.sh.boxes, e.sh.nx + 1⟩ })
    | none => none)
  | _, _ => none

def PK.eff : PK → Bool
  | .callF _ | .callV | .app _ | .ldS _ _ | .stS _ | .allocS _ | .boxS => true
  | _ => false

abbrev Glob := Nat → Option (List PV)

def src (G : Glob) (get : Nat → PV) : Src → PV
  | .s t => (get t).asSrc t
  | .c x => x
  | .g i => match G i with | some cs => .ep cs 0 | none => .un

def undefPV : PV := .ud

/-- Is a guarded operation wanted? none: not known. -/
def wantedP (get : Nat → PV) : Option (Nat × Bool) → Option Bool
  | none => some true
  | some (j, b) => match get j with
    | .v (.bool x) => some (x == b)
    | .ud => some false
    | _ => none

def putD (regs : List PV) : Option Nat → PV → List PV
  | none, _ => regs
  | some d, x => regs.set d x

/-- The register that an operation writes. -/
def PI.target (i : PI) : Option Nat := match i.k with
  | .stL _ => i.r
  | _ => i.d

/-- What an operation that is wanted makes: the value for its register, and the effect. -/
def act (call : CallF) (G : Glob) (i : PI) (get : Nat → PV) (e : Eff) : Option (PV × Eff) :=
  let xs := i.rs.map (src G get)
  if i.k.eff then evalE call i.k xs e
  else match i.k, i.r, xs with
    | .ldL n agg, some r, [p] => (match evalL p (get r) r n agg with | some x => some (x, e) | none => none)
    | .stL n, some r, [p, x] => (match evalW p x (get r) r n with | some y => some (y, e) | none => none)
    | k, none, xs => (match i.d with
      | some d => (match evalP k (get d) xs with | some x => some (x, e) | none => none)
      | none => none)
    | _, _, _ => none

def PK.boxes : PK → Bool
  | .alloc _ | .box => true
  | _ => false

def step (call : CallF) (G : Glob) (i : PI) (st : St) : Option St :=
  let get := fun t => st.regs.getD t .un
  match wantedP get i.g with
  | some true => (match act call G i get st.ef with
    | some (x, e) => some ⟨putD st.regs i.target x, e⟩
    | none => none)
  | some false => if i.k.boxes then none else some ⟨putD st.regs i.d undefPV, st.ef⟩
  | none => none

def steps (call : CallF) (G : Glob) : List PI → St → Option St
  | [], st => some st
  | i :: r, st => match step call G i st with
    | some st' => steps call G r st'
    | none => none

inductive PC where
  | skip
  | ops (l : List PI)
  | seq (a b : PC)
  | cond (c : Src) (a b : PC)
  | block (id : Nat) (b : PC)
  | loop (b : PC)
  | exit (id : Nat)
  | ret
  deriving Inhabited

inductive Out where
  | nrm (s : St)
  | ext (id : Nat) (s : St)
  | ret (s : St)

def iter (f : St → Option Out) : Nat → St → Option Out
  | 0, _ => none
  | n + 1, s => match f s with
    | some (.nrm s') => iter f n s'
    | o => o

def exec (call : CallF) (G : Glob) (fuel : Nat) : PC → St → Option Out
  | .skip, s => some (.nrm s)
  | .ops l, s => (match steps call G l s with | some s' => some (.nrm s') | none => none)
  | .seq a b, s => (match exec call G fuel a s with | some (.nrm s') => exec call G fuel b s' | o => o)
  | .cond c a b, s => (match src G (fun t => s.regs.getD t .un) c with
    | .v (.bool t) => if t then exec call G fuel a s else exec call G fuel b s
    | _ => none)
  | .block id b, s => (match exec call G fuel b s with
    | some (.ext j s') => if j = id then some (.nrm s') else some (.ext j s')
    | o => o)
  | .loop b, s => iter (exec call G fuel b) fuel s
  | .exit id, s => some (.ext id s)
  | .ret, s => some (.ret s)

inductive RS where
  | t (slot : Nat)
  | c (slot n : Nat) (agg : Bool)
  deriving Inhabited

structure PF where
  nt : Nat
  body : PC
  res : List RS
  drop : Bool := false
  deriving Inhabited

def resOf (regs : List PV) : RS → Option PV
  | .t s => clr ((regs.getD s .un).asSrc s)
  | .c s n agg => match regs.getD s .un with
    | .bx _ cs => (match cut cs 0 n agg with | some x => clr x | none => none)
    | _ => none
def resAll (regs : List PV) : List RS → Option (List PV)
  | [] => some []
  | r :: l => match resOf regs r, resAll regs l with
    | some x, some y => some (x :: y)
    | _, _ => none
def resPV : List PV → PV
  | [x] => x
  | l => .tup l

def startSt (nt : Nat) (args : List PV) (sh : Sh) : St := ⟨args ++ List.replicate (nt - args.length) .un, ⟨sh, fun _ => false, 2⟩⟩

def dropSh (drop : Bool) (n : Nat) (sh : Sh) : Sh := if drop then ⟨sh.boxes.drop (sh.boxes.length - n), sh.nx⟩ else sh

def finish (pf : PF) (n : Nat) : Option Out → Option (PV × Sh)
  | some (.nrm s) | some (.ret s) => (match resAll s.regs pf.res with
    | some l => some (resPV l, dropSh pf.drop n s.ef.sh)
    | none => none)
  | _ => none

def callN (T : Nat → Option PF) (G : Glob) : Nat → CallF
  | 0 => fun _ _ _ => none
  | n + 1 => fun f args sh => match T f with
    | none => none
    | some pf => finish pf sh.boxes.length (exec (callN T G n) G n pf.body (startSt pf.nt args sh))


/- FROM THE LOADED CODE. -/
section compile
variable (P : Program) (L : List Nat)

def aggT (t : TypeId) : Bool := match P.underlying t with
  | some (.struct _) | some (.array _ _) => true
  | _ => false
def zeroC (t : TypeId) : Option (List PV) := match P.info? t with
  | some i => (match i.zero with | some v => ofCells v.cells.toList | none => none)
  | none => none
def toSrc : Operand → Src
  | .tmp t => .s t
  | .const v => .c (ofVal v)
  | .global g => .g g
  | .func f => .c (.fn f [])

inductive Root where
  | l (s : Nat) | e | s

def defOf (prev : List Oper) (t : Nat) : Option Op := match prev with
  | [] => none
  | o :: r => match defOf r t with
    | some x => some x
    | none => match o.dst with
      | some d => if d = t then some o.op else none
      | none => none

def root (prev : List Oper) : Nat → Operand → Root
  | 0, _ => .s
  | n + 1, .tmp t => if L.contains t then .l t else match defOf prev t with
    | some (.fieldAddr _ x _) => root prev n x
    | some (.indexAddr T x _) => (match P.underlying T with | some (.slice _) => .e | _ => root prev n x)
    | some (.nilCheck x) => root prev n x
    | some (.move x) => root prev n x
    | some (.assign x) => root prev n x
    | _ => .s
  | _, .global _ => .e
  | _, _ => .s

def fieldSpan (t : TypeId) (f : Nat) : Option (Nat × Nat × Bool) := match P.underlying t with
  | some (.struct fs) => (match fs[f]? with
    | some fl => (match P.info? fl.type with | some i => some (fl.offset, i.size, aggT P fl.type) | none => none)
    | none => none)
  | _ => none

def fieldKnown (t : TypeId) (f : Nat) : Bool := match P.underlying t with
  | some (.struct fs) => (match fs[f]? with | some fl => (P.underlying fl.type).isSome | none => false)
  | _ => false

def partsOf (t : TypeId) : List (Nat × Operand) → Option (List (Nat × Nat))
  | [] => some []
  | (i, _) :: r => match fieldSpan P t i, partsOf t r with
    | some (o, n, _), some l => some ((o, n) :: l)
    | _, _ => none

def optSrc : Option Operand → List Src
  | some x => [toSrc x]
  | none => []

/-- The operation, its operands, and the box that it reads or writes. -/
def compOp (prev : List Oper) (dst : Option Nat) : Op → Option (PK × List Src × Option Nat)
  | .move x => some (.mv, [toSrc x], none)
  | .assign x => some (.mv, [toSrc x], none)
  | .pick c a b => some (.pick, [toSrc c, toSrc a, toSrc b], none)
  | .alloc T => (match zeroC P T, dst with
    | some z, some d => some (if L.contains d then .alloc z else .allocS z, [], none)
    | _, _ => none)
  | .box _ x => (match dst with
    | some d => some (if L.contains d then .box else .boxS, [toSrc x], none)
    | none => none)
  | .build T ps => (match zeroC P T, partsOf P T ps.toList, P.underlying T with
    | some z, some l, some (.struct fs) => if !(fs.toList.all fun f => (P.info? f.type).isSome) then none else some (.build z l, ps.toList.map fun p => toSrc p.2, none)
    | _, _, _ => none)
  | .buildSlice T len ps => (match P.underlying T with
    | some (.slice E) => (match zeroC P E with
      | some z1 => match clrs z1 with
        | none => none
        | some z => if decide (z.length = P.cellsOf E) && decide (len * P.cellsOf E ≤ 2 ^ 24) && decide (0 < P.cellsOf E) then some (.bslice z len (P.cellsOf E) (ps.toList.map (·.1)), ps.toList.map fun p => toSrc p.2, none) else none
      | none => none)
    | _ => none)
  | .load T a => (match P.info? T with
    | some i => if (P.underlying T).isNone then none else
      let n := if aggT P T then i.size else 1
      (match root P L prev 20 a with
      | .l s => some (.ldL n (aggT P T), [toSrc a], some s)
      | .e => some (.ldE n (aggT P T), [toSrc a], none)
      | .s => some (.ldS n (aggT P T), [toSrc a], none))
    | none => none)
  | .store T a x => (match P.info? T with
    | some i => (match root P L prev 20 a with
      | .l s => some (.stL i.size, [toSrc a, toSrc x], some s)
      | .e => none
      | .s => some (.stS i.size, [toSrc a, toSrc x], none))
    | none => none)
  | .nilCheck x => some (.nilck, [toSrc x], none)
  | .binOp op T x y _ => (match P.underlying T with
    | some (.int _) => some (.bin op, [toSrc x, toSrc y], none)
    | some .bool => some (.binB op, [toSrc x, toSrc y], none)
    | _ => none)
  | .unOp op _ x => some (.uno op, [toSrc x], none)
  | .convert S D x => (match P.underlying S, P.underlying D with
    | some (.int _), some (.int k) => some (.conv k, [toSrc x], none)
    | _, _ => none)
  | .fieldAddr T x f => (match fieldSpan P T f with
    | some (o, n, _) => if n = 0 then none else some (.fa o, [toSrc x], none)
    | none => none)
  | .field T x f => (match fieldSpan P T f with
    | some (o, n, agg) => if fieldKnown P T f then some (.fld o (if agg then n else 1) agg, [toSrc x], none) else none
    | none => none)
  | .indexAddr T x i => (match P.underlying T with
    | some (.slice E) => (match P.info? E with | some j => some (.ia j.size, [toSrc x, toSrc i], none) | none => none)
    | some (.array n E) => (match P.info? E with | some j => some (.iaA n j.size, [toSrc x, toSrc i], none) | none => none)
    | _ => none)
  | .extract x i => some (.ext i, [toSrc x], none)
  | .slice T x lo hi mx => (match P.underlying T with
    | some (.slice E) => (match P.info? E with
      | some j => some (.slc lo.isSome hi.isSome mx.isSome j.size, toSrc x :: (optSrc lo ++ optSrc hi ++ optSrc mx), none)
      | none => none)
    | _ => none)
  | .makeFunc (.func f) first caps => if first.size = 0 then some (.mkfn f, caps.toList.map toSrc, none) else none
  | .call ⟨.value (.func f), args, _⟩ => some (.callF f, args.toList.map toSrc, none)
  | .call ⟨.value (.tmp t), args, _⟩ => some (.callV, .s t :: args.toList.map toSrc, none)
  | .call ⟨.builtin .len, args, ts⟩ => (match ts[0]? with
    | some T => (match P.underlying T with
      | some (.slice _) => if args.size = 1 then some (.len, args.toList.map toSrc, none) else none
      | _ => none)
    | none => none)
  | .call ⟨.builtin .max, args, _⟩ => if args.size = 2 then some (.maxi true, args.toList.map toSrc, none) else none
  | .call ⟨.builtin .min, args, _⟩ => if args.size = 2 then some (.maxi false, args.toList.map toSrc, none) else none
  | .call ⟨.builtin .append, args, ts⟩ => (match ts[0]?, ts[1]? with
    | some T, some T' => (match P.underlying T, P.underlying T' with
      | some (.slice E), some (.slice _) => (match P.info? E, zeroC P E with
        | some j, some z => if decide (args.size = 2) && decide (0 < j.size) && decide (z.length = j.size) && decide (0 < j.bytes) && decide (j.bytes ≤ 4096) then some (.app j.size, args.toList.map toSrc, none) else none
        | _, _ => none)
      | _, _ => none)
    | _, _ => none)
  | _ => none

def guardOf (ops : List Oper) : Option (Nat × Bool) → Option (Option (Nat × Bool))
  | none => some none
  | some (j, b) => match ops[j]? with
    | some o => (match o.dst with | some d => some (some (d, b)) | none => none)
    | none => none

def dstOk (L : List Nat) (dst : Option Nat) (k : PK) : Bool := match dst with
  | some d => L.contains d == k.boxes
  | none => !k.boxes
def boxOk (L : List Nat) (dst : Option Nat) : PK → Option Nat → Bool
  | .stL _, some s => L.contains s && dst.isNone
  | .ldL _ _, some _ => true
  | .stL _, none => false
  | .ldL _ _, none => false
  | _, some _ => false
  | .stS _, none => dst.isNone
  | _, none => true
def compOk (L : List Nat) (dst : Option Nat) (k : PK) (r : Option Nat) : Bool := dstOk L dst k && boxOk L dst k r

def compI (ops prev : List Oper) (o : Oper) : Option PI :=
  match compOp P L prev o.dst o.op, guardOf ops o.guard with
  | some (k, rs, r), some g =>
    if compOk L o.dst k r then some ⟨k, rs, o.dst, r, g⟩ else none
  | _, _ => none

def compL (ops prev : List Oper) : List Oper → Option (List PI)
  | [] => some []
  | o :: r => match compI P L ops prev o, compL ops (prev ++ [o]) r with
    | some i, some l => some (i :: l)
    | _, _ => none

/- Any order. -/
def PI.reads (i : PI) : List Nat :=
  (i.rs.filterMap fun | .s t => some t | _ => none) ++ i.r.toList ++ (match i.g with | some (j, _) => [j] | none => []) ++ (if i.k.boxes then i.d.toList else [])
def PI.writes (i : PI) : List Nat := i.d.toList ++ (match i.k with | .stL _ => i.r.toList | _ => [])
def PK.quiet : PK → Bool
  | .ldS _ _ => true
  | k => !k.eff
def apart (i j : PI) : Bool :=
  i.writes.all (fun t => !j.reads.contains t && !j.writes.contains t) && j.writes.all (fun t => !i.reads.contains t) && (!(i.k.eff && j.k.eff) || (i.k.quiet && j.k.quiet))

/-- The operations that an operation comes behind, at once or through others. -/
def behind1 (acc : List (List Nat)) (o : Oper) : List Nat :=
  let ds := (o.after.toList.filter fun e => Region.binds .any e).map (·.on)
  ds ++ ds.flatMap fun d => acc.getD d []
def behinds : List (List Nat) → List Oper → List (List Nat)
  | acc, [] => acc
  | acc, o :: r => behinds (acc ++ [behind1 acc o]) r

def pairsOk (is : List PI) (bs : List (List Nat)) : Bool :=
  (List.range is.length).all fun j => (List.range j).all fun i =>
    (bs.getD j []).contains i || (match is[i]?, is[j]? with | some x, some y => apart x y | _, _ => false)
def edgesOk (ops : List Oper) : Bool :=
  ops.zipIdx.all fun (o, i) => o.after.toList.all fun e => !Region.binds .any e || decide (e.on < i)

def compR (ops : Array Oper) (draw : Bool) : Option (List PI) :=
  match compL P L ops.toList [] ops.toList with
  | some is => if !draw || (edgesOk ops.toList && pairsOk is (behinds [] ops.toList)) then some is else none
  | none => none

def compC : Code → Option PC
  | .skip => some .skip
  | .region _ ops draw => (match compR P L ops draw with | some l => some (.ops l) | none => none)
  | .seq a b => (match compC a, compC b with | some x, some y => some (.seq x y) | _, _ => none)
  | .cond c a b => (match compC a, compC b with | some x, some y => some (.cond (toSrc c) x y) | _, _ => none)
  | .block id b => (match compC b with | some x => some (.block id x) | none => none)
  | .loop b => (match compC b with | some x => some (.loop x) | none => none)
  | .exit id => some (.exit id)
  | .ret => some .ret
  | _ => none

def compRes : List ResultVar → Option (List RS)
  | [] => some []
  | .tmp t :: r => (match compRes r with | some l => some (.t t :: l) | none => none)
  | .cell a T :: r => (match P.info? T, compRes r with
    | some i, some l => if (P.underlying T).isNone then none else some (.c a (if aggT P T then i.size else 1) (aggT P T) :: l)
    | _, _ => none)

def compF (drop : Bool) (fn : Func) : Option PF :=
  match fn.body with
  | some c => (match compC P L c, compRes P fn.results.toList with
    | some b, some r => if fn.name == "runtime.NumGoroutine" || !(L.all fun s => decide (s < fn.ntmps)) then none else some ⟨fn.ntmps, b, r, drop⟩
    | _, _ => none)
  | none => none
end compile

end Go.Pi
