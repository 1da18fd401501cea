/- A small evaluator of the program's code over memory that is known by name: what it computes. -/
import Derived.Test.YtkjfhkhcoenanaaMem
import Derived.Test.YtkjfhkhcoenanaaTail
import Derived.Great.BuildSlice
import Derived.Laws.AppendOwn
namespace Go.Proofs.Ytkjfhkhcoenanaa.Sy
open Go.RowKit

/-- a number that is written out, or one that is not -/
inductive DN where
  | s (n : Int)
  | d (n : Int)
def DN.val : DN → Int
  | .s n => n
  | .d n => n
inductive DB where
  | s (b : Bool)
  | d (b : Bool)
def DB.val : DB → Bool
  | .s b => b
  | .d b => b
/-- a capacity: a number, or that of a row less so many -/
inductive Cp where
  | s (n : Nat)
  | row (k : Nat)
inductive V where
  | bool (b : DB)
  | int (k : IntKind) (n : DN)
  | str (s : ByteArray)
  | nilp
  | ptr (b o : Nat)
  | nils
  | slice (b o l : Nat) (c : Cp)
  | nilm
  | map (b : Nat)
  | nilf
  | func (f : Fn) (fst cap : List V)
  | nili
  | iface (t : TypeId) (v : V)
  | agg (cs : List V)
  | tup (vs : List V)

def V.undef : V := .tup []

/-- what may come: a result; one of two, by a test that is not written out; nothing is said -/
inductive T (α : Type) where
  | ret (a : α)
  | br (b : Bool) (t e : T α)
  | bad

def T.bind {α β : Type} : T α → (α → T β) → T β
  | .ret a, f => f a
  | .br b t e, f => .br b (t.bind f) (e.bind f)
  | .bad, _ => .bad
def T.all {α : Type} (Q : α → Prop) : T α → Prop
  | .ret a => Q a
  | .br b t e => (b = true → t.all Q) ∧ (b = false → e.all Q)
  | .bad => False
def T.allB {α : Type} (q : α → Bool) : T α → Bool
  | .ret a => q a
  | .br _ t e => t.allB q && e.allB q
  | .bad => false
def T.of {α : Type} : Option α → T α
  | some a => .ret a
  | none => .bad

/-- a table by numbers -/
inductive PT (α : Type) where
  | e
  | n (v : Option α) (l r : PT α)
def PT.full {α : Type} (v : Option α) : Nat → PT α
  | 0 => .e
  | d + 1 => .n v (PT.full v d) (PT.full v d)
def PT.get {α : Type} : PT α → Nat → Option α
  | .e, _ => none
  | .n v l r, k => match Nat.beq k 0 with
    | true => v
    | false => match Nat.beq (k % 2) 1 with
      | true => l.get (k / 2)
      | false => r.get (k / 2 - 1)
def PT.set {α : Type} : PT α → Nat → α → PT α
  | .e, _, _ => .e
  | .n v l r, k, x => match Nat.beq k 0 with
    | true => .n (some x) l r
    | false => match Nat.beq (k % 2) 1 with
      | true => .n v (l.set (k / 2) x) r
      | false => .n v l (r.set (k / 2 - 1) x)

/-- a block: just these cells; or cells of which the first ones are known; or a map -/
inductive Blk where
  | cells (t : TypeId) (cs : List V)
  | row (t : TypeId) (z : Nat) (xs : List V)
  | gone
structure Mem where
  blks : PT Blk
  next : Nat
  lim : Nat
structure St where
  n : Nat
  tm : PT V
  mem : Mem

def Mem.new (m : Mem) (b : Blk) : Nat × Mem := (m.next, { m with blks := m.blks.set m.next b, next := m.next + 1 })

inductive R where
  | val (v : V)
  | enter (f : FuncId) (args : List V)
  | pan (v : V)
inductive Ex where
  | nor
  | exit (n : Nat)
  | ret
  | pan (v : V)

/-- a constant -/
def ofValue : Value → Option V
  | .bool b => some (.bool (.s b))
  | .int k n => some (.int k (.s n))
  | .string s => some (.str s)
  | .pointer none => some .nilp
  | .slice none 0 0 => some .nils
  | .map none => some .nilm
  | .nilFunc => some .nilf
  | .nilIface => some .nili
  | .func (.func f) ⟨[]⟩ ⟨[]⟩ => some (.func (.func f) [] [])
  | _ => none
def ofValues : List Value → Option (List V)
  | [] => some []
  | v :: r => match ofValue v with
    | some x => match ofValues r with
      | some y => some (x :: y)
      | none => none
    | none => none
/-- a zero value's cells -/
def zeroCells : Value → Option (List V)
  | .agg cs => ofValues cs.toList
  | v => match ofValue v with
    | some x => some [x]
    | none => none

def ev (tm : PT V) : Operand → Option V
  | .tmp t => tm.get t
  | .const v => ofValue v
  | .func f => some (.func (.func f) [] [])
  | .global _ => none
def evs (tm : PT V) : List Operand → Option (List V)
  | [] => some []
  | x :: r => match ev tm x with
    | some v => match evs tm r with
      | some l => some (v :: l)
      | none => none
    | none => none
def put (n : Nat) (tm : PT V) (dst : Option Tmp) (v : V) : PT V := match dst with
  | some d => match Nat.blt d n with
    | true => tm.set d v
    | false => tm
  | none => tm

def cellsOf : V → List V
  | .agg cs => cs
  | v => [v]

def isRow (P : Program) (t : TypeId) : Option Bool := match P.underlying t with
  | some (.struct _) => some true
  | some (.array _ _) => some true
  | some _ => some false
  | none => none
def size? (P : Program) (t : TypeId) : Option Nat := match P.info? t with
  | some i => some i.size
  | none => none
def zero? (P : Program) (t : TypeId) : Option (List V) := match P.info? t with
  | some i => match i.zero with
    | some z => zeroCells z
    | none => none
  | none => none

def nth {α : Type} : List α → Nat → Option α
  | [], _ => none
  | a :: l, k => match Nat.beq k 0 with
    | true => some a
    | false => nth l (k - 1)
/-- so many, from one on; none where there are not so many -/
def cut : List V → Nat → Option (List V)
  | l, k => match Nat.ble k l.length with
    | true => some (l.take k)
    | false => none
/-- some cells for others -/
def splice (cs : List V) (o : Nat) (vs : List V) : Option (List V) :=
  match Nat.ble (o + vs.length) cs.length with
  | true => some (cs.take o ++ vs ++ cs.drop (o + vs.length))
  | false => none

def sub (P : Program) (t : TypeId) (cs : List V) (o : Nat) : Option V :=
  match isRow P t with
  | some true => match size? P t with
    | some z => match cut (cs.drop o) z with
      | some l => some (.agg l)
      | none => none
    | none => none
  | some false => nth cs o
  | none => none

def Blk.live : Blk → Bool
  | .gone => false
  | _ => true
def blkCells : Blk → List V
  | .cells _ cs => cs
  | .row _ _ xs => xs
  | .gone => []
def Blk.with : Blk → List V → Blk
  | .cells t _, l => .cells t l
  | .row t z _, l => .row t z l
  | .gone, _ => .gone

def load (P : Program) (m : Mem) (t : TypeId) (b o : Nat) : Option V := match m.blks.get b with
  | some k => sub P t (blkCells k) o
  | none => none
def oneCell : V → Bool
  | .agg _ => false
  | .tup _ => false
  | _ => true
def allOne : List V → Bool
  | [] => true
  | v :: l => oneCell v && allOne l
def store (P : Program) (m : Mem) (t : TypeId) (b o : Nat) (v : V) : Option Mem :=
  match Nat.ble m.lim b with
  | false => none
  | true => match m.blks.get b with
    | none => none
    | some k => match size? P t with
      | none => none
      | some z => match Nat.beq z (cellsOf v).length && allOne (cellsOf v) && k.live with
        | false => none
        | true => match splice (blkCells k) o (cellsOf v) with
          | none => none
          | some l => some { m with blks := m.blks.set b (k.with l) }

/-- arithmetic -/
def bAnd (k : IntKind) (x y : Int) : Int := k.wrap (BitVec.ofInt k.bits x &&& BitVec.ofInt k.bits y).toNat
def bOr (k : IntKind) (x y : Int) : Int := k.wrap (BitVec.ofInt k.bits x ||| BitVec.ofInt k.bits y).toNat
def bXor (k : IntKind) (x y : Int) : Int := k.wrap (BitVec.ofInt k.bits x ^^^ BitVec.ofInt k.bits y).toNat
def bClr (k : IntKind) (x y : Int) : Int := k.wrap (BitVec.ofInt k.bits x &&& ~~~BitVec.ofInt k.bits y).toNat
def bShl (k : IntKind) (x y : Int) : Int := k.wrap (x * 2 ^ (min y.toNat k.bits))
def bShr (k : IntKind) (x y : Int) : Int := x.fdiv (2 ^ (min y.toNat k.bits))
def arith (op : BinOp) (k : IntKind) (x y : Int) : Option Int := match op with
  | .add => some (k.wrap (x + y))
  | .sub => some (k.wrap (x - y))
  | .mul => some (k.wrap (x * y))
  | .and => some (bAnd k x y)
  | .or => some (bOr k x y)
  | .xor => some (bXor k x y)
  | .andNot => some (bClr k x y)
  | _ => none
def isArith : BinOp → Bool
  | .add | .sub | .mul | .and | .or | .xor | .andNot => true
  | _ => false
def isCmp : BinOp → Bool
  | .eql | .neq | .lss | .leq | .gtr | .geq => true
  | _ => false
def ltI : Int → Int → Bool
  | .ofNat a, .ofNat b => Nat.blt a b
  | .ofNat _, .negSucc _ => false
  | .negSucc _, .ofNat _ => true
  | .negSucc a, .negSucc b => Nat.blt b a
def eqI : Int → Int → Bool
  | .ofNat a, .ofNat b => Nat.beq a b
  | .negSucc a, .negSucc b => Nat.beq a b
  | _, _ => false
def cmpS (op : BinOp) (x y : Int) : Bool := match op with
  | .eql => eqI x y
  | .neq => !eqI x y
  | .lss => ltI x y
  | .leq => !ltI y x
  | .gtr => ltI y x
  | .geq => !ltI x y
  | _ => false
def cmpD (op : BinOp) (x y : Int) : Bool := match op with
  | .eql => decide (x = y)
  | .neq => !decide (x = y)
  | .lss => decide (x < y)
  | .leq => decide (x ≤ y)
  | .gtr => decide (y < x)
  | .geq => decide (y ≤ x)
  | _ => false
def forceN (n : Int) : Int := match n with
  | .ofNat m => .ofNat m
  | .negSucc m => .negSucc m

def DB.and : DB → DB → DB
  | .s true, b => b
  | .s false, _ => .s false
  | .d a, b => .d (a && b.val)
def eqN : DN → DN → DB
  | .s a, .s b => .s (eqI a b)
  | a, b => .d (decide (a.val = b.val))
def eqBo : DB → DB → DB
  | .s true, b => b
  | .s false, .s b => .s (!b)
  | a, b => .d (a.val == b.val)
/-- the fields of two structs -/
def eqFs (P : Program) (g : TypeId → V → V → Option DB) (cs ds : List V) : List Field → Option DB
  | [] => some (.s true)
  | f :: fs => match f.name != "_" with
    | false => none
    | true => match sub P f.type cs f.offset, sub P f.type ds f.offset with
      | some x, some y => match g f.type x y with
        | some (.s false) => some (.s false)
        | some r => match eqFs P g cs ds fs with
          | some q => some (r.and q)
          | none => none
        | none => none
      | _, _ => none
/-- the elements of two arrays -/
def eqIs (P : Program) (g : TypeId → V → V → Option DB) (e : TypeId) (z : Nat) (cs ds : List V) : List Nat → Option DB
  | [] => some (.s true)
  | i :: is => match sub P e cs (i * z), sub P e ds (i * z) with
    | some x, some y => match g e x y with
      | some (.s false) => some (.s false)
      | some r => match eqIs P g e z cs ds is with
        | some q => some (r.and q)
        | none => none
      | none => none
    | _, _ => none
def upto : Nat → Nat → List Nat
  | 0, _ => []
  | k + 1, i => i :: upto k (i + 1)
/-- two values of numbers, bools, structs and arrays of such -/
def eqV (P : Program) : Nat → TypeId → V → V → Option DB
  | 0, _, _, _ => none
  | d + 1, t, x, y => match P.underlying t with
    | some .bool => match x, y with
      | .bool a, .bool b => some (eqBo a b)
      | _, _ => none
    | some (.int _) => match x, y with
      | .int j a, .int k b => match decide (j = k) with
        | true => some (eqN a b)
        | false => none
      | _, _ => none
    | some (.array n e) => match x, y with
      | .agg cs, .agg ds => match size? P e with
        | some z => eqIs P (eqV P d) e z cs ds (upto n 0)
        | none => none
      | _, _ => none
    | some (.struct fs) => match x, y with
      | .agg cs, .agg ds => match P.stoodInHeld t with
        | false => eqFs P (eqV P d) cs ds fs.toList
        | true => none
      | _, _ => none
    | _ => none

/-- two values, are they one? (of kinds that ask no memory) -/
def same (P : Program) (t : TypeId) (cst : Bool) (x y : V) : Option DB := match P.underlying t with
  | some .bool => match x, y with
    | .bool (.s true), .bool b => some b
    | .bool a, .bool (.s true) => some a
    | .bool a, .bool b => some (.d (a.val == b.val))
    | _, _ => none
  | some (.pointer e) => match x, y with
    | .nilp, .nilp => some (.s true)
    | .nilp, .ptr _ _ => some (.s false)
    | .ptr _ _, .nilp => some (.s false)
    | .ptr b o, .ptr b' o' => match size? P e with
      | some z => match Nat.beq b b' && Nat.blt 0 z with
        | true => some (.s (Nat.beq o o'))
        | false => none
      | none => none
    | _, _ => none
  | some (.interface _) => match x, y with
    | .nili, .nili => match cst with
      | true => some (.s true)
      | false => none
    | .nili, .iface _ _ => some (.s false)
    | .iface _ _, .nili => some (.s false)
    | _, _ => none
  | some (.slice _) => match x, y with
    | .nils, .nils => some (.s true)
    | .nils, .slice _ _ _ _ => some (.s false)
    | .slice _ _ _ _, .nils => some (.s false)
    | _, _ => none
  | some (.func _ _ _) => match x, y with
    | .nilf, .nilf => some (.s true)
    | .nilf, .func _ _ _ => some (.s false)
    | .func _ _ _, .nilf => some (.s false)
    | _, _ => none
  | some (.struct _) => match P.eqGuardType P.depth t with
    | false => eqV P 12 t x y
    | true => none
  | some (.array _ _) => match P.eqGuardType P.depth t with
    | false => eqV P 12 t x y
    | true => none
  | _ => none
def isConstO : Operand → Bool
  | .const _ => true
  | _ => false
def DB.not : DB → DB
  | .s b => .s (!b)
  | .d b => .d (!b)

def shiftI (op : BinOp) (k : IntKind) (x y : Int) : Option Int := match op with
  | .shl => some (bShl k x y)
  | .shr => some (bShr k x y)
  | _ => none
def divI (op : BinOp) (k : IntKind) (x y : Int) : Option Int := match op with
  | .quo => some (k.wrap (x.tdiv y))
  | .rem => some (x.tmod y)
  | _ => none
def isDiv : BinOp → Bool
  | .quo | .rem => true
  | _ => false
def isShift : BinOp → Bool
  | .shl | .shr => true
  | _ => false

def unsignedK : IntKind → Bool
  | .u8 | .u16 | .u32 | .u64 => true
  | _ => false

def mkN (st : Bool) (n : Int) : DN := match st with
  | true => .s n
  | false => .d n
def DN.isS : DN → Bool
  | .s _ => true
  | .d _ => false

def bin (P : Program) (ty : TypeId) (cst : Bool) (op : BinOp) (x y : V) : T V := match isShift op with
  | true => match x, y with
    | .int k a, .int _ b => match b with
      | .s b => match ltI b 0 with
        | true => .bad
        | false => match shiftI op k a.val b with
          | some r => .ret (.int k (mkN a.isS r))
          | none => .bad
      | .d b => .br (decide (b < 0)) .bad (match shiftI op k a.val b with
          | some r => .ret (.int k (.d r))
          | none => .bad)
    | _, _ => .bad
  | false => match isCmp op with
    | true => match x, y with
      | .int j a, .int k b => match decide (j = k) with
        | true => match a, b with
          | .s a, .s b => .ret (.bool (.s (cmpS op a b)))
          | a, b => .ret (.bool (.d (cmpD op a.val b.val)))
        | false => .bad
      | x, y => match op with
        | .eql => match same P ty cst x y with
          | some b => .ret (.bool b)
          | none => .bad
        | .neq => match same P ty cst x y with
          | some b => .ret (.bool b.not)
          | none => .bad
        | _ => .bad
    | false => match x, y with
      | .int j a, .int k b => match decide (j = k) with
        | false => .bad
        | true => match isArith op with
          | true => match arith op j a.val b.val with
            | some r => .ret (.int j (mkN (a.isS && b.isS) r))
            | none => .bad
          | false => match b with
            | .s b => match eqI b 0 with
              | true => .bad
              | false => match divI op j a.val b with
                | some r => .ret (.int j (mkN a.isS r))
                | none => .bad
            | .d b => .br (decide (b = 0)) .bad (match divI op j a.val b with
                | some r => .ret (.int j (.d r))
                | none => .bad)
      | _, _ => .bad

def un (op : UnOp) (x : V) : Option V := match op, x with
  | .neg, .int k n => some (.int k (mkN n.isS (k.wrap (0 - n.val))))
  | .xor, .int k n => some (.int k (mkN n.isS (k.wrap (BitVec.ofInt k.bits (if k.signed then -1 else k.max) ^^^ BitVec.ofInt k.bits n.val).toNat)))
  | .not, .bool b => some (.bool b.not)
  | _, _ => none

def conv (P : Program) (src dst : TypeId) (x : V) : Option V := match P.underlying src, P.underlying dst, x with
  | some _, some (.int k), .int _ n => some (.int k (mkN n.isS (k.wrap n.val)))
  | some _, some .string, .str s => some (.str s)
  | _, _, _ => none

/-- an index: in, or not -/
def ixT {α : Type} (i : DN) (n : Nat) (f : Nat → T α) : T α := match i with
  | .s i => match i with
    | .ofNat i => match Nat.blt i n with
      | true => f i
      | false => .bad
    | .negSucc _ => .bad
  | .d _ => .bad

def fieldOf (P : Program) (t : TypeId) (f : Nat) : Option Field := match P.underlying t with
  | some (.struct fs) => nth fs.toList f
  | _ => none

/-- parts of a struct, or an array -/
def fillV (place : Nat → Option (Nat × Nat)) (cells : List V) : List (Nat × V) → Option (List V)
  | [] => some cells
  | (i, v) :: rest => match place i with
    | none => none
    | some (o, z) => match Nat.beq (cellsOf v).length z with
      | false => none
      | true => match splice cells o (cellsOf v) with
        | none => none
        | some l => fillV place l rest
def placesOf (P : Program) : List Field → Option (List (Nat × Nat))
  | [] => some []
  | f :: r => match size? P f.type with
    | none => none
    | some z => match placesOf P r with
      | none => none
      | some l => some ((f.offset, z) :: l)
def evParts (tm : PT V) : List (Nat × Operand) → Option (List (Nat × V))
  | [] => some []
  | (i, x) :: r => match ev tm x with
    | some v => match evParts tm r with
      | some l => some ((i, v) :: l)
      | none => none
    | none => none
def rep (z : List V) : Nat → List V
  | 0 => []
  | n + 1 => z ++ rep z n
def buildV (P : Program) (t : TypeId) (ps : List (Nat × V)) : Option V := match zero? P t with
  | none => none
  | some z => match P.underlying t with
    | some (.struct fs) => match placesOf P fs.toList with
      | some pl => match fillV (nth pl) z ps with
        | some l => some (.agg l)
        | none => none
      | none => none
    | some (.array _ e) => match size? P e with
      | some s => match fillV (fun i => some (i * s, s)) z ps with
        | some l => some (.agg l)
        | none => none
      | none => none
    | _ => none
def buildSliceV (P : Program) (m : Mem) (t : TypeId) (n : Nat) (ps : List (Nat × V)) : Option (V × Mem) := match P.underlying t with
  | some (.slice e) => match size? P e with
    | some s => match Nat.blt 0 s && Nat.ble (n * s) 16777216 && Nat.blt 0 n with
      | true => match zero? P e with
        | some z => match Nat.beq z.length s with
          | true => match fillV (fun i => some (i * s, s)) (rep z n) ps with
            | some l => let (b, m') := m.new (.cells e l); some (.slice b 0 n (.s n), m')
            | none => none
          | false => none
        | none => none
      | false => none
    | none => none
  | _ => none
def makeSliceV (P : Program) (m : Mem) (t : TypeId) (l c : V) : Option (V × Mem) := match l, c with
  | .int .i64 (.s (.ofNat l)), .int .i64 (.s (.ofNat c)) => match P.underlying t with
    | some (.slice e) => match P.info? e with
      | some i => match Nat.beq l c && Nat.ble (c * i.bytes) 1000000 && Nat.ble c 1000000 && Nat.blt 0 i.size with
        | true => match zero? P e with
          | some z => match Nat.beq z.length i.size with
            | true => let (b, m') := m.new (.cells e (rep z c)); some (.slice b 0 l (.s c), m')
            | false => none
          | none => none
        | false => none
      | none => none
    | _ => none
  | _, _ => none

def elems (P : Program) (m : Mem) (e : TypeId) (x : V) : Option (List V × Nat) := match size? P e with
  | none => none
  | some z => match x with
    | .slice b o l _ => match m.blks.get b with
      | some k => match cut ((blkCells k).drop o) (l * z) with
        | some cs => some (cs, l)
        | none => none
      | none => none
    | _ => none
/-- append: what is told of the block that was is forgotten, the new one's first cells are known -/
def appendV (P : Program) (m : Mem) (t : TypeId) (s x : V) : Option (V × Mem) := match P.underlying t with
  | some (.slice e) => match P.info? e with
    | some i => match Nat.blt 0 i.size && Nat.ble i.bytes 1000 with
      | false => none
      | true => match zero? P e with
        | none => none
        | some z => match Nat.beq z.length i.size with
          | false => none
          | true => match elems P m e x with
            | none => none
            | some (ns, n) => match allOne ns && Nat.ble n 100000 with
              | false => none
              | true => match s with
                | .nils => match Nat.beq n 0 with
                  | true => some (.nils, m)
                  | false => let (b, m') := m.new (.row e i.size ns); some (.slice b 0 n (.row 0), m')
                | .slice b 0 l (.row 0) => match m.blks.get b with
                  | some (.row e' z xs) => match Nat.beq e e' && Nat.beq z i.size && Nat.beq xs.length (l * z) && Nat.ble m.lim b && Nat.ble l 1000000 with
                    | true => let (b', m') := m.new (.row e z (xs ++ ns)); some (.slice b' 0 (l + n) (.row 0), { m' with blks := m'.blks.set b .gone })
                    | false => none
                  | _ => none
                | .slice _ _ l (.s c) => match Nat.blt c (l + n) && Nat.ble l 1000000 with
                  | true => match elems P m e s with
                    | some (xs, _) => match allOne xs with
                      | true => let (b', m') := m.new (.row e i.size (xs ++ ns)); some (.slice b' 0 (l + n) (.row 0), m')
                      | false => none
                    | none => none
                  | false => none
                | _ => none
    | none => none
  | _ => none

def lenOfV (P : Program) (t : TypeId) (x : V) : Option Int := match P.underlying t, x with
  | some .string, .str s => some s.size
  | some (.array n _), _ => some n
  | some (.slice _), .nils => some 0
  | some (.slice _), .slice _ _ l _ => some l
  | some (.pointer a), _ => match P.underlying a with
    | some (.array n _) => some n
    | _ => none
  | _, _ => none

def minmax (mx : Bool) (x y : V) : Option V := match x, y with
  | .int j a, .int k b => match decide (j = k) with
    | true => some (.int j (mkN (a.isS && b.isS) (match mx with
      | true => if b.val > a.val then b.val else a.val
      | false => if b.val < a.val then b.val else a.val)))
    | false => none
  | _, _ => none

def ovl (v : Option V) : T R := match v with
  | some v => .ret (.val v)
  | none => .bad

/-- the function behind a method of a type -/
def methodOf (P : Program) (t : TypeId) (name : String) : Option FuncId := match P.info? t with
  | none => none
  | some i => match i.methods.find? (·.name == name) with
    | none => none
    | some mt => match mt.path.toList, mt.func with
      | [], some (f, true) => match P.underlying t with
        | some (.pointer _) => some f
        | _ => none
      | [], some (f, false) => match P.underlying t with
        | some (.pointer _) => none
        | some _ => some f
        | none => none
      | _, _ => none

def callV (P : Program) (f : FuncId) (args : List V) : T R := match P.funcs[f]? with
  | none => .bad
  | some fn => match fn.body with
    | none => .bad
    | some _ => match fn.name == "runtime.NumGoroutine" with
      | true => .bad
      | false => .ret (.enter f args)

/-- a bound of a slice: none where it does not stand -/
def boundV (x : Option V) (d top : Nat) (f : Nat → T R) : T R := match x with
  | none => f d
  | some (.int _ (.s (.ofNat i))) => match Nat.ble i top with
    | true => f i
    | false => .bad
  | some _ => .bad

def sliceV (P : Program) (t : TypeId) (x : V) (lo hi : Option V) : T R := match P.underlying t with
  | some (.slice e) => match size? P e with
    | none => .bad
    | some z => match x with
      | .slice b o l (.s c) => boundV hi l c fun h => boundV lo 0 h fun i => .ret (.val (.slice b (match Nat.beq c i with | true => o | false => o + i * z) (h - i) (.s (c - i))))
      | .nils => boundV hi 0 0 fun _ => boundV lo 0 0 fun _ => .ret (.val .nils)
      | _ => .bad
  | some (.array n e) => match size? P e, x with
    | some z, .ptr b o => boundV hi n n fun h => boundV lo 0 h fun i => .ret (.val (.slice b (match Nat.beq n i with | true => o | false => o + i * z) (h - i) (.s (n - i))))
    | _, _ => .bad
  | _ => .bad

def assertV (P : Program) (x : V) (as : TypeId) (ok : Bool) : Option V := match P.underlying as with
  | some (.interface _) => none
  | some _ => match x with
    | .iface t v => match Nat.beq t as with
      | true => match ok with
        | true => some (.tup [v, .bool (.s true)])
        | false => some v
      | false => none
    | _ => none
  | none => none

/-- operations that leave memory alone -/
def xpure (P : Program) (tm : PT V) (m : Mem) (o : Op) : T R := match o with
  | .move x => ovl (ev tm x)
  | .assign x => ovl (ev tm x)
  | .pick c a b => match ev tm c, ev tm a, ev tm b with
    | some (.bool (.s true)), some a, some _ => .ret (.val a)
    | some (.bool (.s false)), some _, some b => .ret (.val b)
    | some (.bool (.d p)), some a, some b => .br p (.ret (.val a)) (.ret (.val b))
    | _, _, _ => .bad
  | .build t ps => match evParts tm ps.toList with
    | some l => ovl (buildV P t l)
    | none => .bad
  | .load t x => match ev tm x with
    | some (.ptr b o) => ovl (load P m t b o)
    | _ => .bad
  | .nilCheck x => match ev tm x with
    | some (.ptr b o) => .ret (.val (.ptr b o))
    | some (.iface t v) => .ret (.val (.iface t v))
    | some (.func (.func f) a c) => .ret (.val (.func (.func f) a c))
    | _ => .bad
  | .binOp op t x y _ => match ev tm x, ev tm y with
    | some a, some b => (bin P t (isConstO x || isConstO y) op a b).bind fun v => .ret (.val v)
    | _, _ => .bad
  | .unOp op _ x => match ev tm x with
    | some a => ovl (un op a)
    | none => .bad
  | .convert s d x => match ev tm x with
    | some a => ovl (conv P s d a)
    | none => .bad
  | .makeInterface t x => match P.underlying t with
    | some (.interface _) => .bad
    | none => .bad
    | some _ => match ev tm x with
      | some a => .ret (.val (.iface t a))
      | none => .bad
  | .makeFunc f a c => match evs tm a.toList, evs tm c.toList with
    | some a, some c => .ret (.val (.func f a c))
    | _, _ => .bad
  | .slice t x lo hi none => match ev tm x with
    | some v => match lo, hi with
      | none, none => sliceV P t v none none
      | some lo, none => match ev tm lo with
        | some l => sliceV P t v (some l) none
        | none => .bad
      | none, some hi => match ev tm hi with
        | some h => sliceV P t v none (some h)
        | none => .bad
      | some lo, some hi => match ev tm lo, ev tm hi with
        | some l, some h => sliceV P t v (some l) (some h)
        | _, _ => .bad
    | none => .bad
  | .fieldAddr t x f => match ev tm x, fieldOf P t f with
    | some (.ptr b o), some fd => match size? P fd.type with
      | some z => match Nat.blt 0 z with
        | true => .ret (.val (.ptr b (o + fd.offset)))
        | false => .bad
      | none => .bad
    | _, _ => .bad
  | .field t x f => match ev tm x, fieldOf P t f with
    | some (.agg cs), some fd => ovl (sub P fd.type cs fd.offset)
    | _, _ => .bad
  | .indexAddr t x i => match ev tm x, ev tm i with
    | some x, some (.int _ i) => match P.underlying t with
      | some (.array n e) => match x, size? P e with
        | .ptr b o, some z => ixT i n fun j => .ret (.val (.ptr b (o + j * z)))
        | _, _ => .bad
      | some (.slice e) => match x, size? P e with
        | .slice b o l _, some z => ixT i l fun j => .ret (.val (.ptr b (o + j * z)))
        | _, _ => .bad
      | _ => .bad
    | _, _ => .bad
  | .index t x i => match ev tm x, ev tm i with
    | some x, some (.int _ i) => match P.underlying t with
      | some (.array n e) => match x, size? P e with
        | .agg cs, some z => ixT i n fun j => ovl (sub P e cs (j * z))
        | _, _ => .bad
      | some .string => match x with
        | .str s => ixT i s.size fun j => match nth s.data.toList j with
          | some c => .ret (.val (.int .u8 (.s c.toNat)))
          | none => .bad
        | _ => .bad
      | _ => .bad
    | _, _ => .bad
  | .extract x i => match ev tm x with
    | some (.tup vs) => ovl (nth vs i)
    | _ => .bad
  | .typeAssert x _ as ok => match ev tm x with
    | some v => ovl (assertV P v as ok)
    | none => .bad
  | .panic x => match ev tm x with
    | some (.iface t v) => .ret (.pan (.iface t v))
    | _ => .bad
  | .call c => match evs tm c.args.toList with
    | none => .bad
    | some args => match c.callee with
      | .value f => match ev tm f with
        | some (.func (.func g) fst cap) => callV P g (fst ++ args ++ cap)
        | _ => .bad
      | .invoke r name => match ev tm r with
        | some (.iface t v) => match methodOf P t name with
          | some g => callV P g (v :: args)
          | none => .bad
        | _ => .bad
      | .builtin b => match b, c.argTypes.toList, args with
        | .len, [t], [x] => match lenOfV P t x with
          | some n => .ret (.val (.int .i64 (.s n)))
          | none => .bad
        | .min, _, [x, y] => ovl (minmax false x y)
        | .max, _, [x, y] => ovl (minmax true x y)
        | _, _, _ => .bad
  | _ => .bad

/-- operations that make memory, or write it -/
def xmem (P : Program) (tm : PT V) (m : Mem) (o : Op) : Option (V × Mem) := match o with
  | .alloc e => match zero? P e with
    | some z => let (b, m') := m.new (.cells e z); some (.ptr b 0, m')
    | none => none
  | .box e x => match ev tm x with
    | some v => let (b, m') := m.new (.cells e (cellsOf v)); some (.ptr b 0, m')
    | none => none
  | .buildSlice t n ps => match evParts tm ps.toList with
    | some l => buildSliceV P m t n l
    | none => none
  | .store t x y => match ev tm x, ev tm y with
    | some (.ptr b o), some v => match store P m t b o v with
      | some m' => some (.undef, m')
      | none => none
    | _, _ => none
  | .makeSlice t l c => match ev tm l, ev tm c with
    | some l, some c => makeSliceV P m t l c
    | _, _ => none
  | .call c => match c.callee with
    | .builtin .append => match evs tm c.args.toList, c.argTypes.toList with
      | some [s, x], [t, t'] => match Nat.beq t t' with
        | true => appendV P m t s x
        | false => none
      | _, _ => none
    | _ => none
  | _ => none
def isMem : Op → Bool
  | .alloc _ | .box _ _ | .buildSlice _ _ _ | .store _ _ _ | .makeSlice _ _ _ => true
  | .call c => match c.callee with
    | .builtin .append => true
    | _ => false
  | _ => false

/-- is an operation wanted? ask: its test is not written out -/
inductive Wn where
  | yes
  | no
  | ask (j : Nat) (b : Bool)
  | bad
def wantedV (n : Nat) (ops : List Oper) (tm : PT V) (o : Oper) : Wn := match o.guard with
  | none => .yes
  | some (j, want) => match nth ops j with
    | none => .bad
    | some p => match p.dst with
      | none => .bad
      | some d => match Nat.blt d n with
        | false => .bad
        | true => match tm.get d with
          | some (.bool (.s true)) => match want with
            | true => .yes
            | false => .no
          | some (.bool (.s false)) => match want with
            | true => .no
            | false => .yes
          | some (.bool (.d b)) => .ask d b
          | some (.tup []) => .no
          | _ => .bad

/-- the results of a function -/
def resV (P : Program) (tm : PT V) (m : Mem) : List ResultVar → Option (List V)
  | [] => some []
  | .tmp t :: r => match tm.get t with
    | some v => match resV P tm m r with
      | some l => some (v :: l)
      | none => none
    | none => none
  | .cell a t :: r => match tm.get a with
    | some (.ptr b o) => match load P m t b o with
      | some v => match resV P tm m r with
        | some l => some (v :: l)
        | none => none
      | none => none
    | _ => none
def resultV (P : Program) (fn : Func) (tm : PT V) (m : Mem) : Option V := match resV P tm m fn.results.toList with
  | some [v] => some v
  | some l => some (.tup l)
  | none => none

mutual
/-- are all names below n? -/
def vbel (n : Nat) : V → Bool
  | .ptr b _ => Nat.blt b n
  | .slice b _ _ _ => Nat.blt b n
  | .map b => Nat.blt b n
  | .func _ a c => vbels n a && vbels n c
  | .iface _ v => vbel n v
  | .agg cs => vbels n cs
  | .tup cs => vbels n cs
  | _ => true
def vbels (n : Nat) : List V → Bool
  | [] => true
  | v :: l => vbel n v && vbels n l
end

def initTm (n : Nat) (t : PT V) (i : Nat) : List V → PT V
  | [] => t
  | v :: l => initTm n (put n t (some i) v) (i + 1) l

inductive Fin where
  | ret (v : V)
  | pan (v : V)

/-- does it always come back, with a value of the names below n? -/
def quietB (n : Nat) : Fin × Mem → Bool
  | (.ret v, _) => vbel n v
  | (.pan _, _) => false
def Mem.quiet (m : Mem) : Mem := { m with lim := m.next }

mutual
/-- a function, called -/
def xcall (P : Program) : Nat → FuncId → List V → Mem → T (Fin × Mem)
  | 0, _, _, _ => .bad
  | k + 1, f, args, m => match P.funcs[f]? with
    | none => .bad
    | some fn => match fn.body with
      | none => .bad
      | some c => (xcode P k c ⟨max args.length fn.ntmps, initTm (max args.length fn.ntmps) (PT.full (some .undef) 10) 0 args, m⟩).bind fun (e, st) => match e with
        | .nor => match resultV P fn st.tm st.mem with
          | some v => .ret (.ret v, st.mem)
          | none => .bad
        | .ret => match resultV P fn st.tm st.mem with
          | some v => .ret (.ret v, st.mem)
          | none => .bad
        | .pan v => .ret (.pan v, st.mem)
        | .exit _ => .bad
def xcode (P : Program) : Nat → Code → St → T (Ex × St)
  | 0, _, _ => .bad
  | k + 1, c, st => match c with
    | .skip => .ret (.nor, st)
    | .ret => .ret (.ret, st)
    | .exit n => .ret (.exit n, st)
    | .seq a b => (xcode P k a st).bind fun (e, st') => match e with
      | .nor => xcode P k b st'
      | e => .ret (e, st')
    | .cond x a b => match ev st.tm x with
      | some (.bool (.s true)) => xcode P k a st
      | some (.bool (.s false)) => xcode P k b st
      | some (.bool (.d p)) => match x with
        | .tmp t => .br p (xcode P k a { st with tm := put st.n st.tm (some t) (.bool (.s true)) }) (xcode P k b { st with tm := put st.n st.tm (some t) (.bool (.s false)) })
        | _ => .bad
      | _ => .bad
    | .block n c => (xcode P k c st).bind fun (e, st') => match e with
      | .exit n' => match Nat.beq n' n with
        | true => .ret (.nor, st')
        | false => .ret (.exit n', st')
      | e => .ret (e, st')
    | .loop c => (xcode P k c st).bind fun (e, st') => match e with
      | .nor => xcode P k (.loop c) st'
      | e => .ret (e, st')
    | .region _ ops false => xlist P k ops.toList ops.toList st
    | .region _ ops true => xdraw P k ops 0 ops.toList st
    | _ => .bad
/-- operations, one behind the other -/
def xlist (P : Program) : Nat → List Oper → List Oper → St → T (Ex × St)
  | 0, _, _, _ => .bad
  | _ + 1, _, [], st => .ret (.nor, st)
  | k + 1, ops, o :: rest, st => match wantedV st.n ops st.tm o with
    | .bad => .bad
    | .no => xlist P k ops rest { st with tm := put st.n st.tm o.dst .undef }
    | .ask j b => .br b (xlist P k ops (o :: rest) { st with tm := put st.n st.tm (some j) (.bool (.s true)) }) (xlist P k ops (o :: rest) { st with tm := put st.n st.tm (some j) (.bool (.s false)) })
    | .yes => match isMem o.op with
      | true => match xmem P st.tm st.mem o.op with
        | some (v, m) => xlist P k ops rest { st with tm := put st.n st.tm o.dst v, mem := m }
        | none => .bad
      | false => (xpure P st.tm st.mem o.op).bind fun r => match r with
        | .val v => xlist P k ops rest { st with tm := put st.n st.tm o.dst v }
        | .pan v => .ret (.pan v, st)
        | .enter f args => (xcall P k f args st.mem).bind fun (e, m) => match e with
          | .ret v => xlist P k ops rest { st with tm := put st.n st.tm o.dst v, mem := m }
          | .pan v => .ret (.pan v, { st with mem := m })
/-- operations in whatever order: the first ones leave memory alone, or only add to it; the others come one behind the other -/
def xdraw (P : Program) : Nat → Array Oper → Nat → List Oper → St → T (Ex × St)
  | 0, _, _, _, _ => .bad
  | _ + 1, ops, _, [], st => match Region.lexB .any ops with
    | true => .ret (.nor, st)
    | false => .bad
  | k + 1, ops, i, o :: rest, st => match wantedV st.n ops.toList st.tm o with
    | .bad => .bad
    | .no => xdraw P k ops (i + 1) rest { st with tm := put st.n st.tm o.dst .undef }
    | .ask j b => .br b (xdraw P k ops i (o :: rest) { st with tm := put st.n st.tm (some j) (.bool (.s true)) }) (xdraw P k ops i (o :: rest) { st with tm := put st.n st.tm (some j) (.bool (.s false)) })
    | .yes => match isMem o.op with
      | true => match Region.lexTailB .any ops i with
        | true => xlist P k ops.toList (o :: rest) st
        | false => .bad
      | false => (xpure P st.tm st.mem o.op).bind fun r => match r with
        | .val v => xdraw P k ops (i + 1) rest { st with tm := put st.n st.tm o.dst v }
        | .pan _ => .bad
        | .enter f args => match (xcall P k f args st.mem.quiet).allB (quietB st.mem.next) with
          | true => (xcall P k f args st.mem.quiet).bind fun (e, _) => match e with
            | .ret v => xdraw P k ops (i + 1) rest { st with tm := put st.n st.tm o.dst v }
            | .pan _ => .bad
          | false => match Region.lexTailB .any ops i with
            | true => xlist P k ops.toList (o :: rest) st
            | false => .bad
end

/-- what a law comes to: true; no; a test that is not written out; one of two -/
inductive Sk where
  | ok
  | no
  | dyn (b : Bool)
  | br (b : Bool) (t e : Sk)
def Sk.holds : Sk → Prop
  | .ok => True
  | .no => False
  | .dyn b => b = true
  | .br b t e => (b = true → t.holds) ∧ (b = false → e.holds)
def Sk.mk (b : Bool) (t e : Sk) : Sk := match t, e with
  | .ok, .ok => .ok
  | t, e => .br b t e
def skel : T (Fin × Mem) → Sk
  | .ret (.ret (.bool (.s true)), _) => .ok
  | .ret (.ret (.bool (.d b)), _) => .dyn b
  | .ret _ => .no
  | .br b t e => Sk.mk b (skel t) (skel e)
  | .bad => .no

def mem0 : Mem := ⟨PT.full none 14, 0, 0⟩
def isTrue : Fin × Mem → Bool
  | (.ret (.bool (.s b)), _) => b
  | _ => false
end Go.Proofs.Ytkjfhkhcoenanaa.Sy
