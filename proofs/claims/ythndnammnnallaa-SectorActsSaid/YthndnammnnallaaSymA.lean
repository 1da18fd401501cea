/- A small evaluator of the program's code over memory that is known by name: what it computes. -/
import Derived.Test.YthndnammnnallaaMem
import Derived.Test.YthndnammnnallaaTail
import Derived.Great.BuildSlice
import Derived.Laws.AppendOwn
import Derived.OrdersHeld
namespace Go.Proofs.Ythndnammnnallaa.Sy
noncomputable section
open Go.RowKit

def bAnd (k : IntKind) (x y : Int) : Int := k.wrap (BitVec.ofInt k.bits x &&& BitVec.ofInt k.bits y).toNat
def bOr (k : IntKind) (x y : Int) : Int := k.wrap (BitVec.ofInt k.bits x ||| BitVec.ofInt k.bits y).toNat
def bXor (k : IntKind) (x y : Int) : Int := k.wrap (BitVec.ofInt k.bits x ^^^ BitVec.ofInt k.bits y).toNat
def bClr (k : IntKind) (x y : Int) : Int := k.wrap (BitVec.ofInt k.bits x &&& ~~~BitVec.ofInt k.bits y).toNat
def bShl (k : IntKind) (x y : Int) : Int := k.wrap (x * 2 ^ (min y.toNat k.bits))
def bShr (k : IntKind) (x y : Int) : Int := x.fdiv (2 ^ (min y.toNat k.bits))

def ltI : Int → Int → Bool
  | .ofNat a, .ofNat b => Nat.blt a b
  | .ofNat _, .negSucc _ => false
  | .negSucc _, .ofNat _ => true
  | .negSucc a, .negSucc b => Nat.blt b a
def leI (a b : Int) : Bool := !ltI b a
def eqI : Int → Int → Bool
  | .ofNat a, .ofNat b => Nat.beq a b
  | .negSucc a, .negSucc b => Nat.beq a b
  | _, _ => false

/-- numbers that are not written out: of variables -/
inductive EO where
  | add | sub | mul | and | or | xor | clr | shl | shr | quo | rem
inductive E where
  | v (i : Nat)
  | c (n : Int)
  | bin (o : EO) (k : IntKind) (a b : E)
  | wrap (k : IntKind) (a : E)
  | ld (k : IntKind) (a : Nat) (i : E)
/-- where the numbers of a row of numbers stand among the variables -/
def arrIdx (a i : Nat) : Nat := 1000 + a + 64 * i
def EO.val : EO → IntKind → Int → Int → Int
  | .add, _, x, y => x + y
  | .sub, _, x, y => x - y
  | .mul, _, x, y => x * y
  | .and, k, x, y => bAnd k x y
  | .or, k, x, y => bOr k x y
  | .xor, k, x, y => bXor k x y
  | .clr, k, x, y => bClr k x y
  | .shl, k, x, y => bShl k x y
  | .shr, k, x, y => bShr k x y
  | .quo, _, x, y => x.tdiv y
  | .rem, _, x, y => x.tmod y
def E.val (ρ : Nat → Int) : E → Int
  | .v i => ρ i
  | .c n => n
  | .bin o k a b => o.val k (a.val ρ) (b.val ρ)
  | .wrap k a => k.wrap (a.val ρ)
  | .ld k a i => k.wrap (ρ (arrIdx a (i.val ρ).toNat))
/-- tests that are not written out -/
inductive B where
  | lt (a b : E)
  | eq (a b : E)
  | not (b : B)
  | and (a b : B)
def B.val (ρ : Nat → Int) : B → Bool
  | .lt a b => decide (a.val ρ < b.val ρ)
  | .eq a b => decide (a.val ρ = b.val ρ)
  | .not b => !b.val ρ
  | .and a b => a.val ρ && b.val ρ
def kindNo : IntKind → Nat
  | .i8 => 0 | .i16 => 1 | .i32 => 2 | .i64 => 3 | .u8 => 4 | .u16 => 5 | .u32 => 6 | .u64 => 7
def EO.no : EO → Nat
  | .add => 0 | .sub => 1 | .mul => 2 | .and => 3 | .or => 4 | .xor => 5 | .clr => 6 | .shl => 7 | .shr => 8 | .quo => 9 | .rem => 10
def E.beq : E → E → Bool
  | .v i, .v j => Nat.beq i j
  | .c m, .c n => eqI m n
  | .bin o k a b, .bin o' k' a' b' => Nat.beq o.no o'.no && Nat.beq (kindNo k) (kindNo k') && a.beq a' && b.beq b'
  | .wrap k a, .wrap k' a' => Nat.beq (kindNo k) (kindNo k') && a.beq a'
  | .ld k a i, .ld k' a' i' => Nat.beq (kindNo k) (kindNo k') && Nat.beq a a' && i.beq i'
  | _, _ => false
def B.beq : B → B → Bool
  | .lt a b, .lt a' b' => a.beq a' && b.beq b'
  | .eq a b, .eq a' b' => a.beq a' && b.beq b'
  | .not b, .not b' => b.beq b'
  | .and a b, .and a' b' => a.beq a' && b.beq b'
  | _, _ => false

/-- the same, with what is given written out -/
def forceN {α : Type} (n : Nat) (f : Nat → α) : α := Nat.rec (motive := fun _ => α) (f 0) (fun m _ => f (Nat.succ m)) n
def forceI {α : Type} (n : Int) (f : Int → α) : α := Int.rec (motive := fun _ => α) (fun m => forceN m fun m => f (.ofNat m)) (fun m => forceN m fun m => f (.negSucc m)) n
/-- what is known of the variables: between what each lies; tests that were made; functions whose memory is of no account -/
structure G where
  vs : List (Int × Int)
  pc : List (B × Bool)
  hq : List FuncId
  ng : Nat
def nthI : List (Int × Int) → Nat → Option (Int × Int)
  | [], _ => none
  | a :: l, k => match Nat.beq k 0 with
    | true => some a
    | false => nthI l (k - 1)
def maxI (a b : Int) : Int := match ltI a b with
  | true => b
  | false => a
def minI (a b : Int) : Int := match ltI a b with
  | true => a
  | false => b
/-- what a test that was made says of one number -/
def narrow1 (e : E) (b : B) (t : Bool) (r : Int × Int) : Int × Int := match b with
  | .lt a (.c n) => match a.beq e with
    | true => match t with
      | true => (r.1, minI r.2 (n - 1))
      | false => (maxI r.1 n, r.2)
    | false => r
  | .lt (.c n) b => match b.beq e with
    | true => match t with
      | true => (maxI r.1 (n + 1), r.2)
      | false => (r.1, minI r.2 n)
    | false => r
  | .eq a (.c n) => match a.beq e with
    | true => match t with
      | true => (maxI r.1 n, minI r.2 n)
      | false => match eqI r.1 n with
        | true => (r.1 + 1, r.2)
        | false => match eqI r.2 n with
          | true => (r.1, r.2 - 1)
          | false => r
    | false => r
  | _ => r
def narrow (e : E) : List (B × Bool) → Int × Int → Int × Int
  | [], r => r
  | x :: l, r => narrow1 e x.1 x.2 (narrow e l r)
def kmin : IntKind → Int
  | .i8 => -128 | .i16 => -32768 | .i32 => -2147483648 | .i64 => -9223372036854775808
  | .u8 => 0 | .u16 => 0 | .u32 => 0 | .u64 => 0
def kmax : IntKind → Int
  | .i8 => 127 | .i16 => 32767 | .i32 => 2147483647 | .i64 => 9223372036854775807
  | .u8 => 255 | .u16 => 65535 | .u32 => 4294967295 | .u64 => 18446744073709551615
def wrapI (k : IntKind) (n : Int) : Int := match leI (kmin k) n && leI n (kmax k) with
  | true => n
  | false => k.wrap n
def unsignedK : IntKind → Bool
  | .u8 | .u16 | .u32 | .u64 => true
  | _ => false
def wrapR (k : IntKind) : Option (Int × Int) → Option (Int × Int)
  | some (lo, hi) => match leI (kmin k) lo && leI hi (kmax k) with
    | true => some (lo, hi)
    | false => some (kmin k, kmax k)
  | none => some (kmin k, kmax k)
def binR0 (o : EO) (k : IntKind) (b : E) (ra rb : Option (Int × Int)) : Option (Int × Int) := match o with
  | .add => match ra, rb with
    | some (l1, h1), some (l2, h2) => some (l1 + l2, h1 + h2)
    | _, _ => none
  | .sub => match ra, rb with
    | some (l1, h1), some (l2, h2) => some (l1 - h2, h1 - l2)
    | _, _ => none
  | .mul => match ra, rb with
    | some (l1, h1), some (l2, h2) => match leI 0 l1 && leI 0 l2 with
      | true => some (l1 * l2, h1 * h2)
      | false => none
    | _, _ => none
  | .and => match unsignedK k with
    | true => match ra, rb with
      | some (l1, h1), some (l2, h2) => match leI 0 l1 && leI 0 l2 && leI h1 (kmax k) && leI h2 (kmax k) with
        | true => some (0, minI h1 h2)
        | false => some (kmin k, kmax k)
      | _, _ => some (kmin k, kmax k)
    | false => some (kmin k, kmax k)
  | .or => match unsignedK k with
    | true => match ra, rb with
      | some (l1, h1), some (l2, h2) => match leI 0 l1 && leI 0 l2 && leI h1 (kmax k) && leI h2 (kmax k) with
        | true => some (maxI l1 l2, kmax k)
        | false => some (kmin k, kmax k)
      | _, _ => some (kmin k, kmax k)
    | false => some (kmin k, kmax k)
  | .xor => some (kmin k, kmax k)
  | .clr => some (kmin k, kmax k)
  | .shl => some (kmin k, kmax k)
  | .shr => match ra, b with
    | some (l, h), .c n => match leI 0 l with
      | true => some (bShr k l n, bShr k h n)
      | false => none
    | some (l, h), _ => match leI 0 l with
      | true => some (0, h)
      | false => none
    | _, _ => none
  | .quo => match ra, b with
    | some (l, h), .c n => match leI 0 l && ltI 0 n with
      | true => some (l.tdiv n, h.tdiv n)
      | false => none
    | _, _ => none
  | .rem => match ra, b with
    | some (l, h), .c n => match leI 0 l && ltI 0 n with
      | true => match ltI h n with
        | true => some (l, h)
        | false => some (0, n - 1)
      | false => none
    | _, _ => none
/-- a range of one number -/
def ptR : Option (Int × Int) → Option Int
  | some (a, b) => match eqI a b with
    | true => some a
    | false => none
  | none => none
def binR (o : EO) (k : IntKind) (b : E) (ra rb : Option (Int × Int)) : Option (Int × Int) := match ptR ra with
  | none => binR0 o k b ra rb
  | some x => match ptR rb with
    | none => binR0 o k b ra rb
    | some y => forceI (o.val k x y) fun z => some (z, z)
def nar (e : E) (l : List (B × Bool)) : Option (Int × Int) → Option (Int × Int)
  | some r => some (narrow e l r)
  | none => none
/-- between what a number lies, roughly; none: nothing is known -/
def rng0 (g : G) : E → Option (Int × Int)
  | .v i => nar (.v i) g.pc (nthI g.vs i)
  | .c n => some (n, n)
  | .wrap k a => nar (.wrap k a) g.pc (wrapR k (rng0 g a))
  | .ld k a i => nar (.ld k a i) g.pc (some (kmin k, kmax k))
  | .bin o k a b => nar (.bin o k a b) g.pc (binR o k b (rng0 g a) (rng0 g b))
/-- what a sum's test says of a part of it -/
def partLe (g : G) (y : E) (n : Int) (r : Int × Int) : Int × Int := match rng0 g y with
  | some (lo, _) => (r.1, minI r.2 (n - lo))
  | none => r
def partGe (g : G) (y : E) (n : Int) (r : Int × Int) : Int × Int := match rng0 g y with
  | some (_, hi) => (maxI r.1 (n - hi), r.2)
  | none => r
def narS1 (g : G) (e : E) (b : B) (t : Bool) (r : Int × Int) : Int × Int := match b with
  | .lt (.c n) (.bin .add _ x y) => match x.beq e with
    | true => match t with
      | true => partGe g y (n + 1) r
      | false => partLe g y n r
    | false => match y.beq e with
      | true => match t with
        | true => partGe g x (n + 1) r
        | false => partLe g x n r
      | false => r
  | .lt (.bin .add _ x y) (.c n) => match x.beq e with
    | true => match t with
      | true => partLe g y (n - 1) r
      | false => partGe g y n r
    | false => match y.beq e with
      | true => match t with
        | true => partLe g x (n - 1) r
        | false => partGe g x n r
      | false => r
  | _ => r
def narS (g : G) (e : E) : List (B × Bool) → Int × Int → Int × Int
  | [], r => r
  | x :: l, r => narS1 g e x.1 x.2 (narS g e l r)
def narSo (g : G) (e : E) : Option (Int × Int) → Option (Int × Int)
  | some r => some (narS g e g.pc r)
  | none => none
/-- between what a number lies; none: nothing is known -/
def rng (g : G) : E → Option (Int × Int)
  | .v i => narSo g (.v i) (nar (.v i) g.pc (nthI g.vs i))
  | .c n => some (n, n)
  | .wrap k a => narSo g (.wrap k a) (nar (.wrap k a) g.pc (wrapR k (rng g a)))
  | .ld k a i => narSo g (.ld k a i) (nar (.ld k a i) g.pc (some (kmin k, kmax k)))
  | .bin o k a b => narSo g (.bin o k a b) (nar (.bin o k a b) g.pc (binR o k b (rng g a) (rng g b)))
def look : List (B × Bool) → B → Option Bool
  | [], _ => none
  | (b, t) :: l, x => match b.beq x with
    | true => some t
    | false => look l x
/-- one bit: known; or that of a variable -/
inductive Bt where
  | k (b : Bool)
  | v (i j : Nat)
def Bt.beq : Bt → Bt → Bool
  | .k a, .k b => Bool.rec (Bool.rec true false b) b a
  | .v i j, .v i' j' => Nat.beq i i' && Nat.beq j j'
  | _, _ => false
def btAnd : Bt → Bt → Option Bt
  | .k false, _ => some (.k false)
  | .k true, b => some b
  | a, .k false => some (.k false)
  | a, .k true => some a
  | .v i j, .v i' j' => match Nat.beq i i' && Nat.beq j j' with
    | true => some (.v i j)
    | false => none
def btOr : Bt → Bt → Option Bt
  | .k true, _ => some (.k true)
  | .k false, b => some b
  | a, .k true => some (.k true)
  | a, .k false => some a
  | .v i j, .v i' j' => match Nat.beq i i' && Nat.beq j j' with
    | true => some (.v i j)
    | false => none
def btXor : Bt → Bt → Option Bt
  | .k false, b => some b
  | a, .k false => some a
  | .k true, .k true => some (.k false)
  | .v i j, .v i' j' => match Nat.beq i i' && Nat.beq j j' with
    | true => some (.k false)
    | false => none
  | _, _ => none
def btClr : Bt → Bt → Option Bt
  | .k false, _ => some (.k false)
  | _, .k true => some (.k false)
  | a, .k false => some a
  | .v i j, .v i' j' => match Nat.beq i i' && Nat.beq j j' with
    | true => some (.k false)
    | false => none
  | _, _ => none
/-- bit by bit; where one list ends its bits are 0 -/
def zipL (f : Bt → Bt → Option Bt) : List Bt → Option (List Bt)
  | [] => some []
  | b :: bs => match f (.k false) b with
    | some c => match zipL f bs with
      | some l => some (c :: l)
      | none => none
    | none => none
def zipB (f : Bt → Bt → Option Bt) : List Bt → List Bt → Option (List Bt)
  | [], lb => zipL f lb
  | a :: as, lb => match lb with
    | [] => match f a (.k false) with
      | some c => match zipB f as [] with
        | some l => some (c :: l)
        | none => none
      | none => none
    | b :: bs => match f a b with
      | some c => match zipB f as bs with
        | some l => some (c :: l)
        | none => none
      | none => none
def bitsN (n : Nat) : Nat → Nat → List Bt
  | _, 0 => []
  | j, m + 1 => .k (n.testBit j) :: bitsN n (j + 1) m
def bitsV (i : Nat) : Nat → Nat → List Bt
  | _, 0 => []
  | j, m + 1 => .v i j :: bitsV i (j + 1) m
def padB : Nat → List Bt → List Bt
  | 0, l => l
  | n + 1, l => .k false :: padB n l
def zeroB : List Bt → Bool
  | [] => true
  | b :: bs => Bt.beq b (.k false) && zeroB bs
def eqBits : List Bt → List Bt → Bool
  | [], lb => zeroB lb
  | a :: as, lb => match lb with
    | [] => Bt.beq a (.k false) && eqBits as []
    | b :: bs => Bt.beq a b && eqBits as bs
def fitB (k : IntKind) (l : List Bt) : Bool := Nat.ble l.length k.bits
/-- the bits of a number, the lowest one first -/
def bits (g : G) : E → Option (List Bt)
  | .v i => match nthI g.vs i with
    | some (.ofNat _, .ofNat hi) => some (bitsV i 0 (Nat.log2 hi + 1))
    | _ => none
  | .c (.ofNat n) => some (bitsN n 0 (Nat.log2 n + 1))
  | .c (.negSucc _) => none
  | .ld _ _ _ => none
  | .wrap k a => match bits g a with
    | some l => match unsignedK k with
      | true => some (l.take k.bits)
      | false => match Nat.blt l.length k.bits with
        | true => some l
        | false => none
    | none => none
  | .bin o k a b => match unsignedK k with
    | false => none
    | true => match bits g a with
      | none => none
      | some la => match fitB k la with
        | false => none
        | true => match o with
          | .and => match bits g b with
            | some lb => match fitB k lb with
              | true => zipB btAnd la lb
              | false => none
            | none => none
          | .or => match bits g b with
            | some lb => match fitB k lb with
              | true => zipB btOr la lb
              | false => none
            | none => none
          | .xor => match bits g b with
            | some lb => match fitB k lb with
              | true => zipB btXor la lb
              | false => none
            | none => none
          | .clr => match bits g b with
            | some lb => match fitB k lb with
              | true => zipB btClr la lb
              | false => none
            | none => none
          | .shl => match b with
            | .c (.ofNat n) => some ((padB (Nat.min n k.bits) la).take k.bits)
            | _ => none
          | .shr => match b with
            | .c (.ofNat n) => some (la.drop (Nat.min n k.bits))
            | _ => none
          | _ => none
def Bt.diff : Bt → Bt → Bool
  | .k a, .k b => Bool.rec (Bool.rec false true b) (Bool.rec true false b) a
  | _, _ => false
def someOne : List Bt → Bool
  | [] => false
  | b :: bs => Bt.diff (.k false) b || someOne bs
def diffBits : List Bt → List Bt → Bool
  | [], lb => someOne lb
  | a :: as, lb => match lb with
    | [] => Bt.diff a (.k false) || diffBits as []
    | b :: bs => Bt.diff a b || diffBits as bs
def isBin : E → Bool
  | .bin o _ _ _ => match o with
    | .and | .or | .xor | .clr | .shl | .shr => true
    | _ => false
  | _ => false
/-- are two numbers the same, bit by bit? -/
def cmpB (g : G) (a b : E) : Option Bool := match isBin a || isBin b with
  | false => none
  | true => match bits g a with
    | some la => match bits g b with
      | some lb => match eqBits la lb with
        | true => some true
        | false => match diffBits la lb with
          | true => some false
          | false => none
      | none => none
    | none => none
def g0 : G := ⟨[], [], [], 0⟩
def isFb : Option Bool → Bool
  | some false => true
  | _ => false
def isTb : Option Bool → Bool
  | some true => true
  | _ => false
/-- the same, by what was tested -/
def leafE (g : G) (a b : E) : Bool := a.beq b || isFb (look g.pc (.lt a b)) && isFb (look g.pc (.lt b a)) || isTb (look g.pc (.eq a b))
/-- the same, part by part -/
def congE (g : G) : E → E → Bool
  | .v i, e => leafE g (.v i) e
  | .c n, e => leafE g (.c n) e
  | .bin o k a b, e => match e with
    | .bin o' k' a' b' => leafE g (.bin o k a b) (.bin o' k' a' b') || Nat.beq o.no o'.no && Nat.beq (kindNo k) (kindNo k') && congE g a a' && congE g b b'
    | e => leafE g (.bin o k a b) e
  | .wrap k a, e => match e with
    | .wrap k' a' => leafE g (.wrap k a) (.wrap k' a') || Nat.beq (kindNo k) (kindNo k') && congE g a a'
    | e => leafE g (.wrap k a) e
  | .ld k a i, e => match e with
    | .ld k' a' i' => Nat.beq (kindNo k) (kindNo k') && Nat.beq a a' && congE g i i'
    | e => leafE g (.ld k a i) e
/-- a sum of numbers: so many of each -/
def addA (e : E) (n : Int) : List (E × Int) → List (E × Int)
  | [] => [(e, n)]
  | (e', m) :: l => match e.beq e' with
    | true => (e', m + n) :: l
    | false => (e', m) :: addA e n l
/-- the same, as whole numbers -/
def linX (s : Int) : E → List (E × Int) × Int → List (E × Int) × Int
  | .c n, (l, c) => (l, c + s * n)
  | .bin o j a b, (l, c) => match o with
    | .add => linX s b (linX s a (l, c))
    | .sub => linX (-s) b (linX s a (l, c))
    | .mul => match a with
      | .c n => linX (s * n) b (l, c)
      | _ => (addA (.bin o j a b) s l, c)
    | _ => (addA (.bin o j a b) s l, c)
  | .wrap j a, (l, c) => (addA (.wrap j a) s l, c)
  | .v i, (l, c) => (addA (.v i) s l, c)
  | .ld k a i, (l, c) => (addA (.ld k a i) s l, c)
def noneA : List (E × Int) → Bool
  | [] => true
  | (_, n) :: l => eqI n 0 && noneA l
def isSumE : E → Bool
  | .bin o _ _ _ => match o with
    | .add => true
    | .sub => true
    | _ => false
  | _ => false
/-- what a sum of numbers is where it is known to be so much at least -/
def linBy (a b x y : E) (n m : Int) : Option Bool := match linX 1 x (linX (-1) y (linX (-1) a (linX 1 b ([], 0)))) with
  | (l, c) => match noneA l && leI n c with
    | true => some true
    | false => match linX 1 x (linX (-1) y (linX 1 a (linX (-1) b ([], 0)))) with
      | (l, c) => match noneA l && leI m c with
        | true => some false
        | false => none
/-- is a less than b, by one of the tests? -/
def linPc (a b : E) : List (B × Bool) → Option Bool
  | [] => linBy a b (.c 0) (.c 0) 1 0
  | (q, t) :: l => match q with
    | .lt x y => match (match t with
      | true => linBy a b x y 0 (-1)
      | false => linBy a b y x 1 0) with
      | some r => some r
      | none => linPc a b l
    | .eq x y => match t with
      | true => match linBy a b x y 1 0 with
        | some r => some r
        | none => linPc a b l
      | false => linPc a b l
    | _ => linPc a b l
def linLt (g : G) (a b : E) : Option Bool := match isSumE a || isSumE b with
  | true => linPc a b g.pc
  | false => none
def isLinE : E → Bool
  | .v _ => true
  | e => isSumE e
def linEq (g : G) (a b : E) : Option Bool := match isLinE a && isLinE b with
  | true => match linPc a b g.pc with
    | some true => some false
    | some false => match linPc b a g.pc with
      | some true => some false
      | some false => some true
      | none => none
    | none => match linPc b a g.pc with
      | some true => some false
      | _ => none
  | false => none
/-- each of a sum's numbers by p -/
def divA (p : Int) : List (E × Int) → Option (List (E × Int))
  | [] => some []
  | (e, n) :: l => match eqI (n % p) 0 with
    | true => match divA p l with
      | some r => some ((e, n / p) :: r)
      | none => none
    | false => none
def termE (e : E) (n : Int) : E := match eqI n 1 with
  | true => e
  | false => .bin .mul .i64 (.c n) e
def sumE : List (E × Int) → Option E
  | [] => none
  | (e, n) :: l => match eqI n 0 with
    | true => sumE l
    | false => match sumE l with
      | none => some (termE e n)
      | some r => some (.bin .add .i64 (termE e n) r)
def sumC (o : Option E) (c : Int) : E := match o with
  | none => .c c
  | some e => match eqI c 0 with
    | true => e
    | false => match ltI c 0 with
      | true => .bin .sub .i64 e (.c (-c))
      | false => .bin .add .i64 e (.c c)
/-- a sum by a number, if each part is a multiple of it -/
def quoA (x : E) (y : Int) : Option E := match isSumE x && ltI 0 y with
  | true => match linX 1 x ([], 0) with
    | (l, c) => match eqI (c % y) 0 with
      | true => match divA y l with
        | some r => some (sumC (sumE r) (c / y))
        | none => none
      | false => none
  | false => none
/-- what is known of a test -/
def G.dec (g : G) : B → Option Bool
  | .not b => match g.dec b with
    | some t => some (!t)
    | none => none
  | .and a b => match g.dec a with
    | some false => some false
    | some true => g.dec b
    | none => match g.dec b with
      | some false => some false
      | _ => none
  | .lt a b => match look g.pc (.lt a b) with
    | some t => some t
    | none => match a.beq b with
      | true => some false
      | false => match rng g a, rng g b with
        | some (l1, h1), some (l2, h2) => match ltI h1 l2 with
          | true => some true
          | false => match leI h2 l1 with
            | true => some false
            | false => linLt g a b
        | _, _ => none
  | .eq a b => match look g.pc (.eq a b) with
    | some t => some t
    | none => match a.beq b with
      | true => some true
      | false => match rng g a, rng g b with
        | some (l1, h1), some (l2, h2) => match ltI h1 l2 || ltI h2 l1 with
          | true => some false
          | false => match eqI l1 h1 && eqI l2 h2 && eqI l1 l2 with
            | true => some true
            | false => match congE g a b with
              | true => some true
              | false => match linEq g a b with
                | some t => some t
                | none => cmpB g a b
        | _, _ => match congE g a b with
          | true => some true
          | false => none
def addPc : B → Bool → List (B × Bool) → List (B × Bool)
  | .not b, t, l => addPc b (!t) l
  | .and a b, true, l => addPc a true (addPc b true l)
  | b, t, l => (b, t) :: l
/-- x + y is at most n; is at least n -/
def sumLe (g : G) (x y : E) (n : Int) : List (B × Bool) := match rng g x, rng g y with
  | some (lx, _), some (ly, _) => [(.lt (.c (n - ly)) x, false), (.lt (.c (n - lx)) y, false)]
  | _, _ => []
def sumGe (g : G) (x y : E) (n : Int) : List (B × Bool) := match rng g x, rng g y with
  | some (_, hx), some (_, hy) => [(.lt x (.c (n - hy)), false), (.lt y (.c (n - hx)), false)]
  | _, _ => []
/-- what follows of an equation -/
def deriveEq : E → Int → Bool → List (B × Bool)
  | .bin .add _ x (.c m), n, t => (.eq x (.c (n - m)), t) :: deriveEq x (n - m) t
  | .bin .add _ (.c m) x, n, t => (.eq x (.c (n - m)), t) :: deriveEq x (n - m) t
  | .bin .sub _ (.c m) x, n, t => (.eq x (.c (m - n)), t) :: deriveEq x (m - n) t
  | .bin .sub _ x (.c m), n, t => (.eq x (.c (n + m)), t) :: deriveEq x (n + m) t
  | _, _, _ => []
/-- what follows of a test -/
def derive (g : G) : B → Bool → List (B × Bool)
  | .not b, t => derive g b (!t)
  | .and a b, true => derive g a true ++ derive g b true
  | .lt (.c n) (.bin .add _ x y), true => sumGe g x y (n + 1)
  | .lt (.c n) (.bin .add _ x y), false => sumLe g x y n
  | .lt (.bin .add _ x y) (.c n), true => sumLe g x y (n - 1)
  | .lt (.bin .add _ x y) (.c n), false => sumGe g x y n
  | .eq e (.c n), t => deriveEq e n t
  | _, _ => []
/-- what one number is less than another says by what they lie between -/
def ltV (g : G) : B → Bool → List (B × Bool)
  | .not b, t => ltV g b (!t)
  | .lt a b, t => match a with
    | .c _ => []
    | _ => match b with
      | .c _ => []
      | _ => match rng g a, rng g b with
        | some (la, ha), some (lb, hb) => match t with
          | true => [(.lt a (.c hb), true), (.lt (.c la) b, true)]
          | false => [(.lt a (.c lb), false), (.lt (.c ha) b, false)]
        | _, _ => []
  | _, _ => []
def G.add (g : G) (b : B) (t : Bool) : G := { g with pc := ltV g b t ++ (derive g b t ++ addPc b t g.pc) }

/-- a number that is written out, or one that is not -/
inductive DN where
  | s (n : Int)
  | d (e : E)
def DN.val (ρ : Nat → Int) : DN → Int
  | .s n => n
  | .d e => e.val ρ
def DN.e : DN → E
  | .s n => .c n
  | .d e => e
inductive DB where
  | s (b : Bool)
  | d (b : B)
def DB.val (ρ : Nat → Int) : DB → Bool
  | .s b => b
  | .d b => b.val ρ
/-- a capacity: a number, or that of a row less so many -/
inductive Cp where
  | s (n : Nat)
  | row (k : Nat)
inductive V where
  | bool (b : DB)
  | int (k : IntKind) (n : DN)
  | str (s : ByteArray)
  | nilp
  | ptr (b o : Nat)
  | nils
  | slice (b o l : Nat) (c : Cp)
  | sl (b : Nat) (o l : E)
  | pel (b : Nat) (o : E) (z : Nat) (i : E) (j : Nat)
  | nilm
  | map (b : Nat)
  | nilf
  | func (f : Fn) (fst cap : List V)
  | nili
  | iface (t : TypeId) (v : V)
  | agg (cs : List V)
  | tup (vs : List V)

def V.undef : V := .tup []

/-- what may come: a result; one of two, by a test that is not written out; nothing is said -/
inductive T (α : Type) where
  | ret (a : α)
  | br (b : B) (t e : T α)
  | alt (t e : T α)
  | bad

def T.bind {α β : Type} (g : G) : T α → (G → α → T β) → T β
  | .ret a, f => f g a
  | .br b t e, f => .br b (t.bind (g.add b true) f) (e.bind (g.add b false) f)
  | .alt t e, f => .alt (t.bind g f) (e.bind g f)
  | .bad, _ => .bad
def T.all {α : Type} (ρ : Nat → Int) (Q : α → Prop) : T α → Prop
  | .ret a => Q a
  | .br b t e => (b.val ρ = true → t.all ρ Q) ∧ (b.val ρ = false → e.all ρ Q)
  | .alt t e => t.all ρ Q ∧ e.all ρ Q
  | .bad => False
def T.allB {α : Type} (q : α → Bool) : T α → Bool
  | .ret a => q a
  | .br _ t e => t.allB q && e.allB q
  | .alt t e => t.allB q && e.allB q
  | .bad => false
/-- .. and one way alone is gone -/
def T.allD {α : Type} (q : α → Bool) : T α → Bool
  | .ret a => q a
  | .br _ t e => t.allD q && e.allD q
  | .alt _ _ => false
  | .bad => false
/-- by a test: one way, if it is known which -/
def brG {α : Type} (g : G) (b : B) (t e : G → T α) : T α := match g.dec b with
  | some true => t g
  | some false => e g
  | none => .br b (t (g.add b true)) (e (g.add b false))

def forceE {α : Type} (e : E) : (E → α) → α := E.rec (motive := fun _ => (E → α) → α) (fun i f => forceN i fun i => f (.v i)) (fun n f => forceI n fun n => f (.c n))
  (fun o k _ _ ha hb f => ha fun a => hb fun b => f (.bin o k a b)) (fun k _ ha f => ha fun a => f (.wrap k a)) (fun k a _ hi f => forceN a fun a => hi fun i => f (.ld k a i)) e
def forceB {α : Type} (b : B) : (B → α) → α := B.rec (motive := fun _ => (B → α) → α) (fun a b f => forceE a fun a => forceE b fun b => f (.lt a b)) (fun a b f => forceE a fun a => forceE b fun b => f (.eq a b))
  (fun _ hb f => hb fun b => f (.not b)) (fun _ _ ha hb f => ha fun a => hb fun b => f (.and a b)) b
def forceDN {α : Type} (n : DN) (f : DN → α) : α := DN.rec (motive := fun _ => α) (fun n => forceI n fun n => f (.s n)) (fun e => forceE e fun e => f (.d e)) n
def forceDB {α : Type} (b : DB) (f : DB → α) : α := DB.rec (motive := fun _ => α) (fun b => Bool.rec (f (.s false)) (f (.s true)) b) (fun b => forceB b fun b => f (.d b)) b
/-- a table by numbers -/
inductive PT (α : Type) where
  | e
  | n (v : Option α) (l r : PT α)
def PT.full {α : Type} (v : Option α) : Nat → PT α
  | 0 => .e
  | d + 1 => .n v (PT.full v d) (PT.full v d)
def PT.get {α : Type} (t : PT α) : Nat → Option α :=
  PT.rec (motive := fun _ => Nat → Option α) (fun _ => none)
    (fun v _ _ gl gr k => Bool.rec (Bool.rec (gr (Nat.pred (Nat.div k 2))) (gl (Nat.div k 2)) (Nat.beq (Nat.mod k 2) 1)) v (Nat.beq k 0)) t
def PT.set {α : Type} (t : PT α) : Nat → α → PT α :=
  PT.rec (motive := fun _ => Nat → α → PT α) (fun _ _ => .e)
    (fun v l r sl sr k x => Bool.rec (Bool.rec (.n v l (sr (Nat.pred (Nat.div k 2)) x)) (.n v (sl (Nat.div k 2) x) r) (Nat.beq (Nat.mod k 2) 1)) (.n (some x) l r) (Nat.beq k 0)) t
def odds {α : Type} : List α → List α
  | [] => []
  | a :: [] => [a]
  | a :: _ :: l => a :: odds l
def evens {α : Type} : List α → List α
  | [] => []
  | _ :: [] => []
  | _ :: b :: l => b :: evens l
/-- a list as a table -/
def PT.ofL {α : Type} : Nat → List α → PT α
  | 0, _ => .e
  | _ + 1, [] => .e
  | d + 1, a :: l => .n (some a) (PT.ofL d (odds l)) (PT.ofL d (evens l))
/-- so many, from one on -/
def PT.getN {α : Type} (t : PT α) : Nat → Nat → Option (List α)
  | _, 0 => some []
  | o, k + 1 => match t.get o with
    | some v => match t.getN (o + 1) k with
      | some l => some (v :: l)
      | none => none
    | none => none
def PT.setN {α : Type} (t : PT α) : Nat → List α → PT α
  | _, [] => t
  | o, v :: l => (t.set o v).setN (o + 1) l

/-- a frame's slots; the calls that are put off -/
structure TM where
  t : PT V
  ds : List V
def TM.get (m : TM) (i : Nat) : Option V := match m with
  | ⟨t, _⟩ => t.get i
def TM.set (m : TM) (i : Nat) (v : V) : TM := match m with
  | ⟨t, ds⟩ => ⟨t.set i v, ds⟩

/-- a type; what it is made of; a function: by a table -/
def ti (P : Program) (t : TypeId) : Option TypeInfo := (PT.ofL 12 P.types.toList).get t
def und (P : Program) (t : TypeId) : Option TypeDesc := match ti P t with
  | some i => match i.desc with
    | .named _ u => match ti P u with
      | some j => some j.desc
      | none => none
    | d => some d
  | none => none
def fn? (P : Program) (f : FuncId) : Option Func := (PT.ofL 14 P.funcs.toList).get f

/-- what a row of numbers of one kind holds, by the place in it -/
inductive CF where
  | col (a : Nat)
  | zero
  | upd (i : E) (x : DN) (f : CF)
  | cut (m : E) (f h : CF)
def CF.val (ρ : Nat → Int) (k : IntKind) : CF → Nat → Int
  | .col a, i => k.wrap (ρ (arrIdx a i))
  | .zero, _ => 0
  | .upd j x f, i => if j.val ρ = (i : Int) then x.val ρ else f.val ρ k i
  | .cut m f h, i => if (i : Int) < m.val ρ then f.val ρ k i else h.val ρ k i
def CF.ld (k : IntKind) (i : E) : CF → G → T DN
  | .col a, _ => .ret (.d (.ld k a i))
  | .zero, _ => .ret (.s 0)
  | .upd j x f, g => match i.beq j with
    | true => .ret x
    | false => brG g (.eq i j) (fun _ => .ret x) (fun g => f.ld k i g)
  | .cut m f h, g => brG g (.lt i m) (fun g => f.ld k i g) (fun g => h.ld k i g)
/-- a block: just these cells; or cells of which the first ones are known; or a map -/
inductive Blk where
  | cells (t : TypeId) (n : Nat) (cs : PT V)
  | row (t : TypeId) (z n : Nat) (cs : PT V)
  | gone
  | map (es : List (V × V))
  | iter (m n : Nat) (seen : List Nat)
  | arr (o n : E) (cols : List (IntKind × Nat))
  | fn (k : IntKind) (n : E) (f : CF)
structure Mem where
  blks : PT Blk
  next : Nat
  lim : Nat
structure St where
  n : Nat
  tm : TM
  mem : Mem

def Mem.new (m : Mem) (b : Blk) : Nat × Mem := match m with
  | ⟨bs, nx, lim⟩ => (nx, ⟨bs.set nx b, nx + 1, lim⟩)
def Mem.upd (m : Mem) (b : Nat) (k : Blk) : Mem := match m with
  | ⟨bs, nx, lim⟩ => ⟨bs.set b k, nx, lim⟩

inductive R where
  | v (v : V)
  | enter (f : FuncId) (args : List V)
  | pan (v : V)
  | defer (d : V)
inductive Ex where
  | nor
  | exit (n : Nat)
  | ret
  | pan (v : V)

/-- a constant -/
def ofValue : Value → Option V
  | .bool b => some (.bool (.s b))
  | .int k n => some (.int k (.s n))
  | .string s => some (.str s)
  | .pointer none => some .nilp
  | .slice none 0 0 => some .nils
  | .map none => some .nilm
  | .nilFunc => some .nilf
  | .nilIface => some .nili
  | .func (.func f) ⟨[]⟩ ⟨[]⟩ => some (.func (.func f) [] [])
  | _ => none
def ofValues : List Value → Option (List V)
  | [] => some []
  | v :: r => match ofValue v with
    | some x => match ofValues r with
      | some y => some (x :: y)
      | none => none
    | none => none
/-- a zero value's cells -/
def zeroCells : Value → Option (List V)
  | .agg cs => ofValues cs.toList
  | v => match ofValue v with
    | some x => some [x]
    | none => none

def ev (ng : Nat) (tm : TM) : Operand → Option V
  | .tmp t => tm.get t
  | .const v => ofValue v
  | .func f => some (.func (.func f) [] [])
  | .global q => match Nat.blt q ng with
    | true => some (.ptr q 0)
    | false => none
def evs (ng : Nat) (tm : TM) : List Operand → Option (List V)
  | [] => some []
  | x :: r => match ev ng tm x with
    | some v => match evs ng tm r with
      | some l => some (v :: l)
      | none => none
    | none => none
def put (n : Nat) (tm : TM) (dst : Option Tmp) (v : V) : TM := match dst with
  | some d => match Nat.blt d n with
    | true => tm.set d v
    | false => tm
  | none => tm

def cellsOf : V → List V
  | .agg cs => cs
  | v => [v]

def isRow (P : Program) (t : TypeId) : Option Bool := match und P t with
  | some (.struct _) => some true
  | some (.array _ _) => some true
  | some _ => some false
  | none => none
def size? (P : Program) (t : TypeId) : Option Nat := match ti P t with
  | some i => some i.size
  | none => none
def zero? (P : Program) (t : TypeId) : Option (List V) := match ti P t with
  | some i => match i.zero with
    | some z => zeroCells z
    | none => none
  | none => none

def nth {α : Type} (l : List α) : Nat → Option α :=
  List.rec (motive := fun _ => Nat → Option α) (fun _ => none) (fun a _ ih k => Bool.rec (ih (Nat.pred k)) (some a) (Nat.beq k 0)) l
/-- so many, from one on; none where there are not so many -/
def cut : List V → Nat → Option (List V)
  | l, k => match Nat.ble k l.length with
    | true => some (l.take k)
    | false => none
/-- some cells for others -/
def splice (cs : List V) (o : Nat) (vs : List V) : Option (List V) :=
  match Nat.ble (o + vs.length) cs.length with
  | true => some (cs.take o ++ vs ++ cs.drop (o + vs.length))
  | false => none

def sub (P : Program) (t : TypeId) (cs : List V) (o : Nat) : Option V :=
  match isRow P t with
  | some true => match size? P t with
    | some z => match cut (cs.drop o) z with
      | some l => some (.agg l)
      | none => none
    | none => none
  | some false => nth cs o
  | none => none

def Blk.live : Blk → Bool
  | .gone => false
  | _ => true
/-- memory that is only read: cells of this type are -/
def roT : Nat := 999999
def Blk.ro : Blk → Bool
  | .cells t _ _ => Nat.beq t roT
  | .arr _ _ _ => true
  | _ => false
def Blk.isRow : Blk → Bool
  | .cells t _ _ => !Nat.beq t roT
  | .row _ _ _ _ => true
  | _ => false
def isLive : Option Blk → Bool
  | some k => k.live
  | none => false
def isLiveW : Option Blk → Bool
  | some k => k.live && !k.ro
  | none => false
def Blk.size : Blk → Nat
  | .cells _ n _ => n
  | .row _ _ n _ => n
  | _ => 0
def Blk.tab : Blk → PT V
  | .cells _ _ cs => cs
  | .row _ _ _ cs => cs
  | _ => .e
def Blk.with : Blk → PT V → Blk
  | .cells t n _, cs => .cells t n cs
  | .row t z n _, cs => .row t z n cs
  | k, _ => k
/-- cells of a block -/
def Blk.range (k : Blk) (o n : Nat) : Option (List V) := match Nat.ble (o + n) k.size with
  | true => k.tab.getN o n
  | false => none

def load (P : Program) (m : Mem) (t : TypeId) (b o : Nat) : Option V := match m.blks.get b with
  | some k => match isRow P t with
    | some true => match size? P t with
      | some z => match k.range o z with
        | some l => some (.agg l)
        | none => none
      | none => none
    | some false => match k.range o 1 with
      | some [v] => some v
      | _ => none
    | none => none
  | none => none
def oneCell : V → Bool
  | .agg _ => false
  | .tup _ => false
  | _ => true
def allOne : List V → Bool
  | [] => true
  | v :: l => oneCell v && allOne l
def storeW (P : Program) (m : Mem) (t : TypeId) (b o : Nat) (v : V) : Option Mem :=
  match m.blks.get b with
    | none => none
    | some k => match size? P t with
      | none => none
      | some z => match Nat.beq z (cellsOf v).length && allOne (cellsOf v) && k.isRow && Nat.ble (o + z) k.size with
        | false => none
        | true => some (m.upd b (k.with (k.tab.setN o (cellsOf v))))
def store (P : Program) (m : Mem) (t : TypeId) (b o : Nat) (v : V) : Option Mem :=
  match Nat.ble m.lim b with
  | false => none
  | true => storeW P m t b o v

/-- strings that are written out -/
def byteL (s : ByteArray) : List Nat := s.data.toList.map UInt8.toNat
def eqNL : List Nat → List Nat → Bool
  | [], [] => true
  | a :: l, b :: k => Nat.beq a b && eqNL l k
  | _, _ => false
def baEq (a b : ByteArray) : Bool := eqNL (byteL a) (byteL b)
def findB (c : Nat) : List Nat → Nat → Int
  | [], _ => -1
  | b :: l, i => match Nat.beq b c with
    | true => i
    | false => findB c l (i + 1)
/-- a function of Go's library that has no text -/
def extV (fn : Func) (args : List V) : Option V := match fn.name == "internal/bytealg.IndexByteString" && fn.origin == "" with
  | true => match args with
    | [.str s, .int .u8 (.s (.ofNat c))] => match Nat.blt c 256 with
      | true => some (.int .i64 (.s (findB c (byteL s) 0)))
      | false => none
    | _ => none
  | false => none
/-- keys of maps -/
def litEq (d : TypeDesc) (k k' : V) : Option Bool := match d with
  | .int _ => match k, k' with
    | .int j (.s a), .int j' (.s b) => match Nat.beq (kindNo j) (kindNo j') with
      | true => some (eqI a b)
      | false => none
    | _, _ => none
  | .string => match k, k' with
    | .str a, .str b => some (baEq a b)
    | _, _ => none
  | _ => none
def findK (d : TypeDesc) (k : V) : List (V × V) → Option (Option V)
  | [] => some none
  | (k', v) :: l => match litEq d k k' with
    | some true => some (some v)
    | some false => findK d k l
    | none => none
def isKeyV (d : TypeDesc) (k : V) : Bool := match d, k with
  | .int j, .int j' (.s _) => Nat.beq (kindNo j) (kindNo j')
  | .string, .str _ => true
  | _, _ => false
def mapOf (m : Mem) (b : Nat) : Option (List (V × V)) := match m.blks.get b with
  | some (.map es) => some es
  | _ => none
/-- a zero of one cell -/
def zeroOne (P : Program) (t : TypeId) : Option V := match ti P t with
  | some i => match i.zero with
    | some z => match ofValue z with
      | some v => some v
      | none => none
    | none => none
  | none => none
def lookupV (P : Program) (m : Mem) (t : TypeId) (x k : V) (ok : Bool) : Option V := match und P t with
  | some (.map kt et) => match und P kt with
    | some d => match isKeyV d k with
      | false => none
      | true => match x with
        | .map b => match mapOf m b with
          | some es => match findK d k es with
            | some (some v) => match ok with
              | true => some (.tup [v, .bool (.s true)])
              | false => some v
            | some none => match zeroOne P et with
              | some v => match ok with
                | true => some (.tup [v, .bool (.s false)])
                | false => some v
              | none => none
            | none => none
          | none => none
        | _ => none
    | none => none
  | _ => none
def insertV (P : Program) (m : Mem) (t : TypeId) (x k v : V) : Option Mem := match und P t with
  | some (.map kt _) => match und P kt with
    | some d => match isKeyV d k with
      | false => none
      | true => match x with
        | .map b => match Nat.ble m.lim b with
          | false => none
          | true => match mapOf m b with
            | some es => match findK d k es with
              | some none => some (m.upd b (.map (es ++ [(k, v)])))
              | _ => none
            | none => none
        | _ => none
    | none => none
  | _ => none
def iterOf (m : Mem) (b : Nat) : Option (Nat × Nat × List Nat) := match m.blks.get b with
  | some (.iter mb n seen) => some (mb, n, seen)
  | _ => none
def memN (i : Nat) : List Nat → Bool
  | [] => false
  | j :: l => Nat.beq i j || memN i l
def lastN : List Nat → Option Nat
  | [] => none
  | [i] => some i
  | _ :: l => lastN l
def entryV (m : Mem) (x : V) : Option V := match x with
  | .ptr b o => match Nat.beq o 0 with
    | true => match iterOf m b with
      | some (mb, n, seen) => match mapOf m mb with
        | some es => match Nat.beq es.length n with
          | true => match lastN seen with
            | some i => match nth es i with
              | some (k, v) => some (.tup [k, v])
              | none => none
            | none => none
          | false => none
        | none => none
      | none => none
    | false => none
  | _ => none
def nextOne (m : Mem) (b mb n : Nat) (seen : List Nat) (es : List (V × V)) (i : Nat) : T (V × Mem) := match nth es i with
  | some (k, v) => .ret (.tup [.bool (.s true), k, v], m.upd b (.iter mb n (seen ++ [i])))
  | none => .bad
def nextAlt (f : Nat → T (V × Mem)) : List Nat → T (V × Mem)
  | [] => .bad
  | [i] => f i
  | i :: l => .alt (f i) (nextAlt f l)
def leftN (seen : List Nat) : Nat → Nat → List Nat
  | 0, _ => []
  | k + 1, i => match memN i seen with
    | true => leftN seen k (i + 1)
    | false => i :: leftN seen k (i + 1)
def nextV (m : Mem) (x : V) : T (V × Mem) := match x with
  | .ptr b o => match Nat.beq o 0 && Nat.ble m.lim b with
    | true => match iterOf m b with
      | some (mb, n, seen) => match mapOf m mb with
        | some es => match Nat.beq es.length n with
          | true => match leftN seen n 0 with
            | [] => .ret (.tup [.bool (.s false)], m)
            | l => nextAlt (nextOne m b mb n seen es) l
          | false => .bad
        | none => .bad
      | none => .bad
    | false => .bad
  | _ => .bad

/-- arithmetic -/
def arith (op : BinOp) (k : IntKind) (x y : Int) : Option Int := match op with
  | .add => some (wrapI k (x + y))
  | .sub => some (wrapI k (x - y))
  | .mul => some (wrapI k (x * y))
  | .and => some (bAnd k x y)
  | .or => some (bOr k x y)
  | .xor => some (bXor k x y)
  | .andNot => some (bClr k x y)
  | _ => none
/-- a number, as it is written out where it can be -/
def mkE (g : G) (e : E) : DN := match rng g e with
  | some (lo, hi) => match eqI lo hi with
    | true => .s lo
    | false => .d e
  | none => .d e
def wrapE (g : G) (k : IntKind) (e : E) : DN := match rng g e with
  | some (lo, hi) => match eqI lo hi with
    | true => .s (k.wrap lo)
    | false => match leI (kmin k) lo && leI hi (kmax k) with
      | true => .d e
      | false => .d (.wrap k e)
  | none => .d (.wrap k e)
/-- is a number a multiple of m? -/
def remOk (g : G) (k : IntKind) (x : E) (m : Int) : Option Bool := match quoA x m with
  | some _ => some true
  | none => g.dec (.eq (.bin .rem k x (.c m)) (.c 0))
/-- with lower bits cleared that are not set -/
def clrE (g : G) (k : IntKind) (x y : E) : DN := match y with
  | .c (.ofNat m) => match unsignedK k && Nat.beq (m + 1) (2 ^ Nat.log2 (m + 1)) && leI (Int.ofNat m) (kmax k) with
    | true => match rng g x with
      | some (lo, hi) => match leI 0 lo && leI hi (kmax k) with
        | true => match remOk g k x (Int.ofNat (m + 1)) with
          | some true => .d x
          | _ => mkE g (.bin .clr k x y)
        | false => mkE g (.bin .clr k x y)
      | none => mkE g (.bin .clr k x y)
    | false => mkE g (.bin .clr k x y)
  | _ => mkE g (.bin .clr k x y)
/-- with higher bits cleared that are not set -/
def andE (g : G) (k : IntKind) (x y : E) : DN := match y with
  | .c (.ofNat m) => match unsignedK k && Nat.beq (m + 1) (2 ^ Nat.log2 (m + 1)) && leI (Int.ofNat m) (kmax k) with
    | true => match rng g x with
      | some (lo, hi) => match leI 0 lo && leI hi (Int.ofNat m) with
        | true => mkE g x
        | false => match leI 0 lo && leI hi (kmax k) with
          | true => match quoA x (Int.ofNat (m + 1)) with
            | some _ => .s 0
            | none => mkE g (.bin .and k x y)
          | false => mkE g (.bin .and k x y)
      | none => mkE g (.bin .and k x y)
    | false => mkE g (.bin .and k x y)
  | _ => mkE g (.bin .and k x y)
def shrE (g : G) (k : IntKind) (x y : E) : DN := match y with
  | .c n => match eqI n 0 with
    | true => mkE g x
    | false => mkE g (.bin .shr k x y)
  | _ => mkE g (.bin .shr k x y)
def zeroC : E → Bool
  | .c n => eqI n 0
  | _ => false
def addE (g : G) (k : IntKind) (x y : E) : DN := match zeroC x with
  | true => wrapE g k y
  | false => match zeroC y with
    | true => wrapE g k x
    | false => wrapE g k (.bin .add k x y)
def inRg (g : G) (k : IntKind) (x : E) : Bool := match rng g x with
  | some (lo, hi) => leI 0 lo && leI hi (kmax k)
  | none => false
def orE (g : G) (k : IntKind) (x y : E) : DN := match unsignedK k && zeroC x && inRg g k y with
  | true => mkE g y
  | false => match unsignedK k && zeroC y && inRg g k x with
    | true => mkE g x
    | false => mkE g (.bin .or k x y)
def shlE (g : G) (k : IntKind) (x y : E) : DN := match zeroC y with
  | true => wrapE g k x
  | false => mkE g (.bin .shl k x y)
def arithE (g : G) (op : BinOp) (k : IntKind) (x y : E) : Option DN := match op with
  | .add => some (addE g k x y)
  | .sub => some (wrapE g k (.bin .sub k x y))
  | .mul => some (wrapE g k (.bin .mul k x y))
  | .and => some (andE g k x y)
  | .or => some (orE g k x y)
  | .xor => some (mkE g (.bin .xor k x y))
  | .andNot => some (clrE g k x y)
  | _ => none
def isArith : BinOp → Bool
  | .add | .sub | .mul | .and | .or | .xor | .andNot => true
  | _ => false
def isCmp : BinOp → Bool
  | .eql | .neq | .lss | .leq | .gtr | .geq => true
  | _ => false
def cmpS (op : BinOp) (x y : Int) : Bool := match op with
  | .eql => eqI x y
  | .neq => !eqI x y
  | .lss => ltI x y
  | .leq => !ltI y x
  | .gtr => ltI y x
  | .geq => !ltI x y
  | _ => false
def cmpD (op : BinOp) (x y : Int) : Bool := match op with
  | .eql => decide (x = y)
  | .neq => !decide (x = y)
  | .lss => decide (x < y)
  | .leq => decide (x ≤ y)
  | .gtr => decide (y < x)
  | .geq => decide (y ≤ x)
  | _ => false
def cmpE (op : BinOp) (x y : E) : B := match op with
  | .eql => .eq x y
  | .neq => .not (.eq x y)
  | .lss => .lt x y
  | .leq => .not (.lt y x)
  | .gtr => .lt y x
  | .geq => .not (.lt x y)
  | _ => .lt x x
def mkB (g : G) (b : B) : DB := match g.dec b with
  | some t => .s t
  | none => .d b
def cmpN (g : G) (op : BinOp) (a b : DN) : DB := match a, b with
  | .s a, .s b => .s (cmpS op a b)
  | a, b => mkB g (cmpE op a.e b.e)

def DB.b : DB → B
  | .s true => .eq (.c 0) (.c 0)
  | .s false => .lt (.c 0) (.c 0)
  | .d b => b
def DB.and : DB → DB → DB
  | .s true, b => b
  | .s false, _ => .s false
  | .d a, .s true => .d a
  | .d _, .s false => .s false
  | .d a, .d b => .d (.and a b)
def DB.not : DB → DB
  | .s b => .s (!b)
  | .d (.not b) => .d b
  | .d b => .d (.not b)
def eqN (g : G) (a b : DN) : DB := cmpN g .eql a b
def eqBo : DB → DB → Option DB
  | .s true, b => some b
  | .s false, b => some b.not
  | .d b, .s true => some (.d b)
  | .d b, .s false => some (DB.not (.d b))
  | .d a, .d b => match a.beq b with
    | true => some (.s true)
    | false => some (.d (.not (.and (.not (.and a b)) (.not (.and (.not a) (.not b))))))
/-- the fields of two structs -/
def eqFs (P : Program) (g : TypeId → V → V → Option DB) (cs ds : List V) : List Field → Option DB
  | [] => some (.s true)
  | f :: fs => match f.name != "_" with
    | false => none
    | true => match sub P f.type cs f.offset, sub P f.type ds f.offset with
      | some x, some y => match g f.type x y with
        | some (.s false) => some (.s false)
        | some r => match eqFs P g cs ds fs with
          | some q => some (r.and q)
          | none => none
        | none => none
      | _, _ => none
/-- the elements of two arrays -/
def eqIs (P : Program) (g : TypeId → V → V → Option DB) (e : TypeId) (z : Nat) (cs ds : List V) : List Nat → Option DB
  | [] => some (.s true)
  | i :: is => match sub P e cs (i * z), sub P e ds (i * z) with
    | some x, some y => match g e x y with
      | some (.s false) => some (.s false)
      | some r => match eqIs P g e z cs ds is with
        | some q => some (r.and q)
        | none => none
      | none => none
    | _, _ => none
def upto : Nat → Nat → List Nat
  | 0, _ => []
  | k + 1, i => i :: upto k (i + 1)
/-- two values of numbers, bools, structs and arrays of such -/
def eqV (P : Program) (q : G) : Nat → TypeId → V → V → Option DB
  | 0, _, _, _ => none
  | d + 1, t, x, y => match und P t with
    | some .bool => match x, y with
      | .bool a, .bool b => eqBo a b
      | _, _ => none
    | some (.int _) => match x, y with
      | .int j a, .int k b => match Nat.beq (kindNo j) (kindNo k) with
        | true => some (eqN q a b)
        | false => none
      | _, _ => none
    | some (.array n e) => match x, y with
      | .agg cs, .agg ds => match size? P e with
        | some z => eqIs P (eqV P q d) e z cs ds (upto n 0)
        | none => none
      | _, _ => none
    | some (.struct fs) => match x, y with
      | .agg cs, .agg ds => match P.stoodInHeld t with
        | false => eqFs P (eqV P q d) cs ds fs.toList
        | true => none
      | _, _ => none
    | _ => none

/-- two values, are they one? (of kinds that ask no memory) -/
def same (P : Program) (q : G) (t : TypeId) (cst : Bool) (x y : V) : Option DB := match und P t with
  | some .bool => match x, y with
    | .bool a, .bool b => eqBo a b
    | _, _ => none
  | some (.pointer e) => match x, y with
    | .nilp, .nilp => some (.s true)
    | .nilp, .ptr _ _ => some (.s false)
    | .ptr _ _, .nilp => some (.s false)
    | .ptr b o, .ptr b' o' => match size? P e with
      | some z => match Nat.beq b b' && Nat.blt 0 z with
        | true => some (.s (Nat.beq o o'))
        | false => none
      | none => none
    | _, _ => none
  | some (.interface _) => match x, y with
    | .nili, .nili => match cst with
      | true => some (.s true)
      | false => none
    | .nili, .iface _ _ => some (.s false)
    | .iface _ _, .nili => some (.s false)
    | _, _ => none
  | some (.slice _) => match x, y with
    | .nils, .nils => some (.s true)
    | .nils, .slice _ _ _ _ => some (.s false)
    | .slice _ _ _ _, .nils => some (.s false)
    | _, _ => none
  | some (.func _ _ _) => match x, y with
    | .nilf, .nilf => some (.s true)
    | .nilf, .func _ _ _ => some (.s false)
    | .func _ _ _, .nilf => some (.s false)
    | _, _ => none
  | some (.struct _) => match P.eqGuardType P.depth t with
    | false => eqV P q 12 t x y
    | true => none
  | some (.array _ _) => match P.eqGuardType P.depth t with
    | false => eqV P q 12 t x y
    | true => none
  | _ => none
def isConstO : Operand → Bool
  | .const _ => true
  | _ => false

def shiftI (op : BinOp) (k : IntKind) (x y : Int) : Option Int := match op with
  | .shl => some (bShl k x y)
  | .shr => some (bShr k x y)
  | _ => none
def shiftE (g : G) (op : BinOp) (k : IntKind) (x y : E) : Option DN := match op with
  | .shl => some (shlE g k x y)
  | .shr => some (shrE g k x y)
  | _ => none
def divI (op : BinOp) (k : IntKind) (x y : Int) : Option Int := match op with
  | .quo => some (wrapI k (x.tdiv y))
  | .rem => some (x.tmod y)
  | _ => none
def divE (g : G) (op : BinOp) (k : IntKind) (x : E) (y : Int) : Option DN := match op with
  | .quo => match quoA x y with
    | some e => some (wrapE g k e)
    | none => some (wrapE g k (.bin .quo k x (.c y)))
  | .rem => match rng g x with
    | some (lo, hi) => match leI 0 lo && ltI hi y with
      | true => some (.d x)
      | false => match quoA x y with
        | some _ => some (.s 0)
        | none => some (mkE g (.bin .rem k x (.c y)))
    | none => some (mkE g (.bin .rem k x (.c y)))
  | _ => none
def isShift : BinOp → Bool
  | .shl | .shr => true
  | _ => false
def nonneg (g : G) : DN → Bool
  | .s n => leI 0 n
  | .d e => match rng g e with
    | some (lo, _) => leI 0 lo
    | none => false

def oint (k : IntKind) : Option DN → Option V
  | some n => forceDN n fun n => some (.int k n)
  | none => none
def obool (b : DB) : Option V := forceDB b fun b => some (.bool b)
def os : Option Int → Option DN
  | some n => some (.s n)
  | none => none
def bin (P : Program) (g : G) (ty : TypeId) (cst : Bool) (op : BinOp) (x y : V) : Option V := match isShift op with
  | true => match x, y with
    | .int k a, .int _ b => match nonneg g b with
      | false => none
      | true => match a, b with
        | .s a, .s b => oint k (os (shiftI op k a b))
        | a, b => oint k (shiftE g op k a.e b.e)
    | _, _ => none
  | false => match isCmp op with
    | true => match x, y with
      | .int j a, .int k b => match Nat.beq (kindNo j) (kindNo k) with
        | true => obool (cmpN g op a b)
        | false => none
      | .str a, .str b => match op with
        | .eql => some (.bool (.s (baEq a b)))
        | .neq => some (.bool (.s (!baEq a b)))
        | _ => none
      | x, y => match op with
        | .eql => match same P g ty cst x y with
          | some b => obool b
          | none => none
        | .neq => match same P g ty cst x y with
          | some b => obool b.not
          | none => none
        | _ => none
    | false => match x, y with
      | .int j a, .int k b => match Nat.beq (kindNo j) (kindNo k) with
        | false => none
        | true => match isArith op with
          | true => match a, b with
            | .s a, .s b => oint j (os (arith op j a b))
            | a, b => oint j (arithE g op j a.e b.e)
          | false => match b with
            | .s b => match eqI b 0 with
              | true => none
              | false => match a with
                | .s a => oint j (os (divI op j a b))
                | .d a => oint j (divE g op j a b)
            | .d _ => none
      | _, _ => none

def un (g : G) (op : UnOp) (x : V) : Option V := match op, x with
  | .neg, .int k n => match n with
    | .s n => oint k (some (.s (wrapI k (0 - n))))
    | .d e => oint k (some (wrapE g k (.bin .sub k (.c 0) e)))
  | .xor, .int k n => match n with
    | .s n => oint k (some (.s (bXor k (if k.signed then -1 else k.max) n)))
    | .d e => oint k (some (mkE g (.bin .xor k (.c (if k.signed then -1 else k.max)) e)))
  | .not, .bool b => obool b.not
  | _, _ => none

def wrapN (g : G) (k : IntKind) : DN → DN
  | .s n => .s (wrapI k n)
  | .d e => wrapE g k e
def conv (P : Program) (g : G) (src dst : TypeId) (x : V) : Option V := match und P src, und P dst, x with
  | some _, some (.int k), .int _ n => oint k (some (wrapN g k n))
  | some _, some .string, .str s => some (.str s)
  | _, _, _ => none

/-- a number between two: each of them -/
def splitE {α : Type} (g : G) (e : E) (f : Nat → T α) : Nat → Nat → T α
  | 0, lo => f lo
  | k + 1, lo => brG g (.eq e (.c lo)) (fun _ => f lo) (fun g' => splitE g' e f k (lo + 1))
/-- an index: in, or not -/
def ixT {α : Type} (g : G) (i : DN) (n : Nat) (f : Nat → T α) : T α := match i with
  | .s i => match i with
    | .ofNat i => match Nat.blt i n with
      | true => f i
      | false => .bad
    | .negSucc _ => .bad
  | .d e => match rng g e with
    | some (.ofNat lo, .ofNat hi) => match Nat.blt hi n && Nat.ble lo hi && Nat.ble (hi - lo) 70 with
      | true => splitE g e f (hi - lo) lo
      | false => .bad
    | _ => .bad

def fieldOf (P : Program) (t : TypeId) (f : Nat) : Option Field := match und P t with
  | some (.struct fs) => nth fs.toList f
  | _ => none

/-- parts of a struct, or an array -/
def fillV (place : Nat → Option (Nat × Nat)) (cells : List V) : List (Nat × V) → Option (List V)
  | [] => some cells
  | (i, v) :: rest => match place i with
    | none => none
    | some (o, z) => match Nat.beq (cellsOf v).length z with
      | false => none
      | true => match splice cells o (cellsOf v) with
        | none => none
        | some l => fillV place l rest
def placesOf (P : Program) : List Field → Option (List (Nat × Nat))
  | [] => some []
  | f :: r => match size? P f.type with
    | none => none
    | some z => match placesOf P r with
      | none => none
      | some l => some ((f.offset, z) :: l)
def evParts (ng : Nat) (tm : TM) : List (Nat × Operand) → Option (List (Nat × V))
  | [] => some []
  | (i, x) :: r => match ev ng tm x with
    | some v => match evParts ng tm r with
      | some l => some ((i, v) :: l)
      | none => none
    | none => none
def rep (z : List V) : Nat → List V
  | 0 => []
  | n + 1 => z ++ rep z n
def buildV (P : Program) (t : TypeId) (ps : List (Nat × V)) : Option V := match zero? P t with
  | none => none
  | some z => match und P t with
    | some (.struct fs) => match placesOf P fs.toList with
      | some pl => match fillV (nth pl) z ps with
        | some l => some (.agg l)
        | none => none
      | none => none
    | some (.array _ e) => match size? P e with
      | some s => match fillV (fun i => some (i * s, s)) z ps with
        | some l => some (.agg l)
        | none => none
      | none => none
    | _ => none
/-- parts of a slice -/
def fillP (s n : Nat) (cs : PT V) : List (Nat × V) → Option (PT V)
  | [] => some cs
  | (i, v) :: rest => match Nat.beq (cellsOf v).length s && Nat.blt i n with
    | false => none
    | true => fillP s n (cs.setN (i * s) (cellsOf v)) rest
def buildSliceV (P : Program) (m : Mem) (t : TypeId) (n : Nat) (ps : List (Nat × V)) : Option (V × Mem) := match und P t with
  | some (.slice e) => match size? P e with
    | some s => match Nat.blt 0 s && Nat.ble (n * s) 16777216 && Nat.blt 0 n with
      | true => match zero? P e with
        | some z => match Nat.beq z.length s with
          | true => match fillP s n (PT.full none 12) ps with
            | some cs => let (b, m') := m.new (.cells e (n * s) cs); some (.slice b 0 n (.s n), m')
            | none => none
          | false => none
        | none => none
      | false => none
    | none => none
  | _ => none
def zerosP (z : List V) (n : Nat) : PT V := match z with
  | [v] => PT.full (some v) 14
  | z => PT.ofL 14 (rep z n)
def makeSliceV (P : Program) (m : Mem) (t : TypeId) (l c : V) : Option (V × Mem) := match l, c with
  | .int .i64 (.s (.ofNat l)), .int .i64 (.s (.ofNat c)) => match und P t with
    | some (.slice e) => match ti P e with
      | some i => match Nat.beq l c && Nat.ble (c * i.bytes) 1000000 && Nat.ble c 1000000 && Nat.blt 0 i.size with
        | true => match zero? P e with
          | some z => match Nat.beq z.length i.size with
            | true => let (b, m') := m.new (.cells e (c * i.size) (zerosP z c)); some (.slice b 0 l (.s c), m')
            | false => none
          | none => none
        | false => none
      | none => none
    | _ => none
  | _, _ => none

def elems (P : Program) (m : Mem) (e : TypeId) (x : V) : Option (List V × Nat) := match size? P e with
  | none => none
  | some z => match x with
    | .slice b o l _ => match m.blks.get b with
      | some k => match k.range o (l * z) with
        | some cs => some (cs, l)
        | none => none
      | none => none
    | _ => none
/-- append: what is told of the block that was is forgotten, the new one's first cells are known -/
def appendV (P : Program) (m : Mem) (t : TypeId) (s x : V) : Option (V × Mem) := match und P t with
  | some (.slice e) => match ti P e with
    | some i => match Nat.blt 0 i.size && Nat.ble i.bytes 1000 with
      | false => none
      | true => match zero? P e with
        | none => none
        | some z => match Nat.beq z.length i.size with
          | false => none
          | true => match elems P m e x with
            | none => none
            | some (ns, n) => match allOne ns && Nat.ble n 100000 with
              | false => none
              | true => match s with
                | .nils => match Nat.beq n 0 with
                  | true => some (.nils, m)
                  | false => let (b, m') := m.new (.row e i.size (n * i.size) ((PT.full none 12).setN 0 ns)); some (.slice b 0 n (.row 0), m')
                | .slice b 0 l (.row 0) => match m.blks.get b with
                  | some (.row e' z k cs) => match Nat.beq e e' && Nat.beq z i.size && Nat.beq k (l * z) && Nat.ble m.lim b && Nat.ble l 1000000 with
                    | true => let (b', m') := m.new (.row e z ((l + n) * z) (cs.setN k ns)); some (.slice b' 0 (l + n) (.row 0), m'.upd b .gone)
                    | false => none
                  | _ => none
                | .slice _ _ l (.s c) => match Nat.blt c (l + n) && Nat.ble l 1000000 with
                  | true => match elems P m e s with
                    | some (xs, _) => match allOne xs with
                      | true => let (b', m') := m.new (.row e i.size ((l + n) * i.size) ((PT.full none 12).setN 0 (xs ++ ns))); some (.slice b' 0 (l + n) (.row 0), m')
                      | false => none
                    | none => none
                  | false => none
                | _ => none
    | none => none
  | _ => none

def lenOfV (P : Program) (t : TypeId) (x : V) : Option Int := match und P t, x with
  | some .string, .str s => some s.size
  | some (.array n _), _ => some n
  | some (.slice _), .nils => some 0
  | some (.slice _), .slice _ _ l _ => some l
  | some (.pointer a), _ => match und P a with
    | some (.array n _) => some n
    | _ => none
  | _, _ => none

/-- the length of a slice that is not written out -/
def lenDyn (P : Program) (g : G) (t : TypeId) (x : V) : Option E := match und P t with
  | some (.slice _) => match x with
    | .sl _ _ l => match rng g l with
      | some (lo, _) => match leI 0 lo with
        | true => some l
        | false => none
      | none => none
    | _ => none
  | _ => none
def pickN (t : Bool) (a b : DN) : DN := match t with
  | true => a
  | false => b
def minmax (g : G) (mx : Bool) (x y : V) : T V := match x, y with
  | .int j a, .int k b => match Nat.beq (kindNo j) (kindNo k) with
    | true => match a, b with
      | .s a, .s b => .ret (.int j (.s (match mx with
        | true => match ltI a b with | true => b | false => a
        | false => match ltI b a with | true => b | false => a)))
      | a, b => match mx with
        | true => brG g (.lt a.e b.e) (fun _ => .ret (.int j b)) (fun _ => .ret (.int j a))
        | false => brG g (.lt b.e a.e) (fun _ => .ret (.int j b)) (fun _ => .ret (.int j a))
    | false => .bad
  | _, _ => .bad

def ovl (v : Option V) : T R := match v with
  | some v => .ret (.v v)
  | none => .bad

/-- the function behind a method of a type -/
def methodOf (P : Program) (t : TypeId) (name : String) : Option FuncId := match ti P t with
  | none => none
  | some i => match i.methods.find? (·.name == name) with
    | none => none
    | some mt => match mt.path.toList, mt.func with
      | [], some (f, true) => match und P t with
        | some (.pointer _) => some f
        | _ => none
      | [], some (f, false) => match und P t with
        | some (.pointer _) => none
        | some _ => some f
        | none => none
      | _, _ => none

def callV (P : Program) (f : FuncId) (args : List V) : T R := match fn? P f with
  | none => .bad
  | some fn => match fn.body with
    | none => match extV fn args with
      | some v => .ret (.v v)
      | none => .bad
    | some _ => match fn.name == "runtime.NumGoroutine" with
      | true => .bad
      | false => .ret (.enter f args)

/-- a bound of a slice: none where it does not stand -/
def boundV (x : Option V) (d top : Nat) (f : Nat → T R) : T R := match x with
  | none => f d
  | some (.int _ (.s (.ofNat i))) => match Nat.ble i top with
    | true => f i
    | false => .bad
  | some _ => .bad

def sliceV (P : Program) (t : TypeId) (x : V) (lo hi : Option V) : T R := match und P t with
  | some (.slice e) => match size? P e with
    | none => .bad
    | some z => match x with
      | .slice b o l (.s c) => boundV hi l c fun h => boundV lo 0 h fun i => .ret (.v (.slice b (match Nat.beq c i with | true => o | false => o + i * z) (h - i) (.s (c - i))))
      | .nils => boundV hi 0 0 fun _ => boundV lo 0 0 fun _ => .ret (.v .nils)
      | _ => .bad
  | some (.array n e) => match size? P e, x with
    | some z, .ptr b o => boundV hi n n fun h => boundV lo 0 h fun i => .ret (.v (.slice b (match Nat.beq n i with | true => o | false => o + i * z) (h - i) (.s (n - i))))
    | _, _ => .bad
  | _ => .bad

def assertV (P : Program) (x : V) (as : TypeId) (ok : Bool) : Option V := match und P as with
  | some (.interface _) => none
  | some _ => match x with
    | .iface t v => match Nat.beq t as with
      | true => match ok with
        | true => some (.tup [v, .bool (.s true)])
        | false => some v
      | false => none
    | _ => none
  | none => none

def xMove (P : Program) (g : G) (tm : TM) (m : Mem) (x : Operand) : T R := ovl (ev g.ng tm x)
def xAssign (P : Program) (g : G) (tm : TM) (m : Mem) (x : Operand) : T R := ovl (ev g.ng tm x)
def xPick (P : Program) (g : G) (tm : TM) (m : Mem) (c a b : Operand) : T R := match ev g.ng tm c, ev g.ng tm a, ev g.ng tm b with
  | some (.bool (.s true)), some a, some _ => .ret (.v a)
  | some (.bool (.s false)), some _, some b => .ret (.v b)
  | some (.bool (.d p)), some a, some b => brG g p (fun _ => .ret (.v a)) (fun _ => .ret (.v b))
  | _, _, _ => .bad
def xBuild (P : Program) (g : G) (tm : TM) (m : Mem) (t : TypeId) (ps : Array (Nat × Operand)) : T R := match evParts g.ng tm ps.toList with
  | some l => ovl (buildV P t l)
  | none => .bad
/-- cells of an element of a row of numbers -/
def colsV (i : E) : List (IntKind × Nat) → List V
  | [] => []
  | (k, a) :: l => .int k (.d (.ld k a i)) :: colsV i l
def isF : Option Bool → Bool
  | some false => true
  | _ => false
def isT : Option Bool → Bool
  | some true => true
  | _ => false
def loadA (P : Program) (g : G) (m : Mem) (t : TypeId) (b : Nat) (o : E) (z : Nat) (i : E) (j : Nat) : Option V := match m.blks.get b with
  | some (.arr o' n cols) => match o.beq o' && Nat.beq z cols.length && isF (g.dec (.lt i (.c 0))) && isT (g.dec (.lt i n)) with
    | true => match isRow P t with
      | some true => match size? P t with
        | some s => match cut ((colsV i cols).drop j) s with
          | some l => some (.agg l)
          | none => none
        | none => none
      | some false => nth (colsV i cols) j
      | none => none
    | false => none
  | _ => none
def zeroE : E → Bool
  | .c n => eqI n 0
  | _ => false
/-- the same of a row of one kind -/
def loadFn (P : Program) (g : G) (t : TypeId) (k : IntKind) (n : E) (f : CF) (o : E) (z : Nat) (i : E) (j : Nat) : T R := match zeroE o && Nat.beq z 1 && Nat.beq j 0 && isF (g.dec (.lt i (.c 0))) && isT (g.dec (.lt i n)) && isF (isRow P t) with
  | true => (f.ld k i g).bind g fun _ x => .ret (.v (.int k x))
  | false => .bad
def fnAt (m : Mem) (b : Nat) : Option (IntKind × E × CF) := match m.blks.get b with
  | some (.fn k n f) => some (k, n, f)
  | _ => none
def xLoad (P : Program) (g : G) (tm : TM) (m : Mem) (t : TypeId) (x : Operand) : T R := match ev g.ng tm x with
  | some (.ptr b o) => ovl (load P m t b o)
  | some (.pel b o z i j) => match fnAt m b with
    | some (k, n, f) => loadFn P g t k n f o z i j
    | none => ovl (loadA P g m t b o z i j)
  | _ => .bad
def xNilCheck (P : Program) (g : G) (tm : TM) (m : Mem) (x : Operand) : T R := match ev g.ng tm x with
  | some (.ptr b o) => .ret (.v (.ptr b o))
  | some (.pel b o z i j) => .ret (.v (.pel b o z i j))
  | some (.iface t v) => .ret (.v (.iface t v))
  | some (.func (.func f) a c) => .ret (.v (.func (.func f) a c))
  | _ => .bad
/-- a divisor that is not written out -/
def divD (op : BinOp) (b : V) : Option (IntKind × E) := match op with
  | .quo | .rem => match b with
    | .int k (.d e) => some (k, e)
    | _ => none
  | _ => none
def xBinOp (P : Program) (g : G) (tm : TM) (m : Mem) (op : BinOp) (t : TypeId) (x y : Operand) : T R := match ev g.ng tm x, ev g.ng tm y with
  | some a, some b => match divD op b with
    | none => ovl (bin P g t (isConstO x || isConstO y) op a b)
    | some (k, e) => ixT g (.d e) 100 fun j => ovl (bin P g0 t (isConstO x || isConstO y) op a (.int k (.s (Int.ofNat j))))
  | _, _ => .bad
def xUnOp (P : Program) (g : G) (tm : TM) (m : Mem) (op : UnOp) (x : Operand) : T R := match ev g.ng tm x with
  | some a => ovl (un g op a)
  | none => .bad
def xConvert (P : Program) (g : G) (tm : TM) (m : Mem) (s d : TypeId) (x : Operand) : T R := match ev g.ng tm x with
  | some a => ovl (conv P g s d a)
  | none => .bad
def xMakeInterface (P : Program) (g : G) (tm : TM) (m : Mem) (t : TypeId) (x : Operand) : T R := match und P t with
  | some (.interface _) => .bad
  | none => .bad
  | some _ => match ev g.ng tm x with
    | some a => .ret (.v (.iface t a))
    | none => .bad
def xMakeFunc (P : Program) (g : G) (tm : TM) (m : Mem) (f : Fn) (a c : Array Operand) : T R := match evs g.ng tm a.toList, evs g.ng tm c.toList with
  | some a, some c => .ret (.v (.func f a c))
  | _, _ => .bad
def xSlice (P : Program) (g : G) (tm : TM) (m : Mem) (t : TypeId) (x : Operand) (lo hi : Option Operand) : T R := match ev g.ng tm x with
  | some v => match lo, hi with
    | none, none => sliceV P t v none none
    | some lo, none => match ev g.ng tm lo with
      | some l => sliceV P t v (some l) none
      | none => .bad
    | none, some hi => match ev g.ng tm hi with
      | some h => sliceV P t v none (some h)
      | none => .bad
    | some lo, some hi => match ev g.ng tm lo, ev g.ng tm hi with
      | some l, some h => sliceV P t v (some l) (some h)
      | _, _ => .bad
  | none => .bad
def xFieldAddr (P : Program) (g : G) (tm : TM) (m : Mem) (t : TypeId) (x : Operand) (f : Nat) : T R := match ev g.ng tm x, fieldOf P t f with
  | some (.ptr b o), some fd => match size? P fd.type with
    | some z => match Nat.blt 0 z with
      | true => .ret (.v (.ptr b (o + fd.offset)))
      | false => .bad
    | none => .bad
  | some (.pel b o q i j), some fd => match size? P fd.type with
    | some z => match Nat.blt 0 z with
      | true => .ret (.v (.pel b o q i (j + fd.offset)))
      | false => .bad
    | none => .bad
  | _, _ => .bad
def xField (P : Program) (g : G) (tm : TM) (m : Mem) (t : TypeId) (x : Operand) (f : Nat) : T R := match ev g.ng tm x, fieldOf P t f with
  | some (.agg cs), some fd => ovl (sub P fd.type cs fd.offset)
  | _, _ => .bad
def xIndexAddr (P : Program) (g : G) (tm : TM) (m : Mem) (t : TypeId) (x i : Operand) : T R := match ev g.ng tm x, ev g.ng tm i with
  | some x, some (.int _ i) => match und P t with
    | some (.array n e) => match x, size? P e with
      | .ptr b o, some z => ixT g i n fun j => .ret (.v (.ptr b (o + j * z)))
      | _, _ => .bad
    | some (.slice e) => match x, size? P e with
      | .slice b o l _, some z => ixT g i l fun j => .ret (.v (.ptr b (o + j * z)))
      | .sl b o l, some z => match isF (g.dec (.lt i.e (.c 0))) && isT (g.dec (.lt i.e l)) with
        | true => .ret (.v (.pel b o z i.e 0))
        | false => .bad
      | _, _ => .bad
    | _ => .bad
  | _, _ => .bad
def xIndex (P : Program) (g : G) (tm : TM) (m : Mem) (t : TypeId) (x i : Operand) : T R := match ev g.ng tm x, ev g.ng tm i with
  | some x, some (.int _ i) => match und P t with
    | some (.array n e) => match x, size? P e with
      | .agg cs, some z => ixT g i n fun j => ovl (sub P e cs (j * z))
      | _, _ => .bad
    | some .string => match x with
      | .str s => ixT g i s.size fun j => match nth s.data.toList j with
        | some c => .ret (.v (.int .u8 (.s c.toNat)))
        | none => .bad
      | _ => .bad
    | _ => .bad
  | _, _ => .bad
def xLookup (P : Program) (g : G) (tm : TM) (m : Mem) (t : TypeId) (x k : Operand) (ok : Bool) : T R := match ev g.ng tm x, ev g.ng tm k with
  | some x, some k => ovl (lookupV P m t x k ok)
  | _, _ => .bad
def xEntry (P : Program) (g : G) (tm : TM) (m : Mem) (x : Operand) : T R := match ev g.ng tm x with
  | some x => ovl (entryV m x)
  | none => .bad
def xExtract (P : Program) (g : G) (tm : TM) (m : Mem) (x : Operand) (i : Nat) : T R := match ev g.ng tm x with
  | some (.tup vs) => ovl (nth vs i)
  | _ => .bad
def xTypeAssert (P : Program) (g : G) (tm : TM) (m : Mem) (x : Operand) (as : TypeId) (ok : Bool) : T R := match ev g.ng tm x with
  | some v => ovl (assertV P v as ok)
  | none => .bad
def xPanic (P : Program) (g : G) (tm : TM) (m : Mem) (x : Operand) : T R := match ev g.ng tm x with
  | some (.iface t v) => .ret (.pan (.iface t v))
  | _ => .bad
def xCall (P : Program) (g : G) (tm : TM) (m : Mem) (c : Call) : T R := match evs g.ng tm c.args.toList with
  | none => .bad
  | some args => match c.callee with
    | .value f => match ev g.ng tm f with
      | some (.func (.func g) fst cap) => callV P g (fst ++ args ++ cap)
      | _ => .bad
    | .invoke r name => match ev g.ng tm r with
      | some (.iface t v) => match methodOf P t name with
        | some g => callV P g (v :: args)
        | none => .bad
      | _ => .bad
    | .builtin b => match b, c.argTypes.toList, args with
      | .len, [t], [x] => match lenOfV P t x with
        | some n => .ret (.v (.int .i64 (.s n)))
        | none => match lenDyn P g t x with
          | some e => .ret (.v (.int .i64 (.d e)))
          | none => .bad
      | .min, _, [x, y] => (minmax g false x y).bind g fun _ v => .ret (.v v)
      | .max, _, [x, y] => (minmax g true x y).bind g fun _ v => .ret (.v v)
      | .unsafeSliceData, _, [.nils] => .ret (.v .nilp)
      | .unsafeString, [_, _], [.nilp, .int .i64 (.s (.ofNat 0))] => .ret (.v (.str ⟨#[]⟩))
      | _, _, _ => .bad
def xDefer (P : Program) (g : G) (tm : TM) (m : Mem) (c : Call) : T R := match evs g.ng tm c.args.toList with
  | none => .bad
  | some args => match c.callee with
    | .value f => match ev g.ng tm f with
      | some (.func fn fst cap) => .ret (.defer (.func fn (fst ++ args) cap))
      | _ => .bad
    | _ => .bad
def xSliceO (P : Program) (g : G) (tm : TM) (m : Mem) (t : TypeId) (x : Operand) (lo hi mx : Option Operand) : T R := match mx with
  | none => xSlice P g tm m t x lo hi
  | some _ => .bad
def noX : Program → G → TM → Mem → T R := fun _ _ _ _ => .bad
/-- operations that leave memory alone -/
def opX (o : Op) : Program → G → TM → Mem → T R := Op.rec (motive := fun _ => Program → G → TM → Mem → T R)
  (fun x P g tm m => xMove P g tm m x)
  (fun x P g tm m => xAssign P g tm m x)
  (fun c a b P g tm m => xPick P g tm m c a b)
  (fun _ => noX)
  (fun _ _ => noX)
  (fun t ps P g tm m => xBuild P g tm m t ps)
  (fun _ _ _ => noX)
  (fun _ _ _ _ => noX)
  (fun t x P g tm m => xLoad P g tm m t x)
  (fun _ _ _ => noX)
  (fun _ => noX)
  (fun _ => noX)
  (fun x P g tm m => xNilCheck P g tm m x)
  (fun op t x y _ P g tm m => xBinOp P g tm m op t x y)
  (fun op _ x P g tm m => xUnOp P g tm m op x)
  (fun s d x P g tm m => xConvert P g tm m s d x)
  (fun _ _ => noX)
  (fun t x P g tm m => xMakeInterface P g tm m t x)
  (fun f a c P g tm m => xMakeFunc P g tm m f a c)
  (fun _ _ => noX)
  (fun _ _ => noX)
  (fun _ _ _ => noX)
  (fun t x lo hi mx P g tm m => xSliceO P g tm m t x lo hi mx)
  (fun t x f P g tm m => xFieldAddr P g tm m t x f)
  (fun t x f P g tm m => xField P g tm m t x f)
  (fun t x i P g tm m => xIndexAddr P g tm m t x i)
  (fun t x i P g tm m => xIndex P g tm m t x i)
  (fun t x k ok P g tm m => xLookup P g tm m t x k ok)
  (fun _ _ _ _ => noX)
  (fun _ _ _ => noX)
  (fun _ _ _ _ => noX)
  (fun _ _ => noX)
  (fun _ _ => noX)
  (fun x P g tm m => xEntry P g tm m x)
  (fun x _ as ok P g tm m => xTypeAssert P g tm m x as ok)
  (fun x i P g tm m => xExtract P g tm m x i)
  (fun c P g tm m => xCall P g tm m c)
  (fun _ => noX)
  (fun c P g tm m => xDefer P g tm m c)
  (fun x P g tm m => xPanic P g tm m x)
  (fun _ _ => noX)
  (fun _ _ _ => noX)
  (fun _ _ => noX) o
def xpure (P : Program) (g : G) (tm : TM) (m : Mem) (o : Op) : T R := opX o P g tm m

/-- operations that make memory, or write it -/
def xmemO (P : Program) (g : G) (tm : TM) (m : Mem) (o : Op) : Option (V × Mem) := match o with
  | .alloc e => match zero? P e with
    | some z => let (b, m') := m.new (.cells e z.length (PT.ofL 14 z)); some (.ptr b 0, m')
    | none => none
  | .box e x => match ev g.ng tm x with
    | some v => let (b, m') := m.new (.cells e (cellsOf v).length (PT.ofL 14 (cellsOf v))); some (.ptr b 0, m')
    | none => none
  | .buildSlice t n ps => match evParts g.ng tm ps.toList with
    | some l => buildSliceV P m t n l
    | none => none
  | .store t x y => match ev g.ng tm x, ev g.ng tm y with
    | some (.ptr b o), some v => match store P m t b o v with
      | some m' => some (.undef, m')
      | none => none
    | _, _ => none
  | .makeSlice t l c => match ev g.ng tm l, ev g.ng tm c with
    | some l, some c => makeSliceV P m t l c
    | _, _ => none
  | .makeMap _ r => match r with
    | none => let (b, m') := m.new (.map []); some (.map b, m')
    | some _ => none
  | .insert t x k v => match ev g.ng tm x, ev g.ng tm k, ev g.ng tm v with
    | some x, some k, some v => match insertV P m t x k v with
      | some m' => some (.undef, m')
      | none => none
    | _, _, _ => none
  | .mapUpdate t x k v => match ev g.ng tm x, ev g.ng tm k, ev g.ng tm v with
    | some x, some k, some v => match insertV P m t x k v with
      | some m' => some (.undef, m')
      | none => none
    | _, _, _ => none
  | .range t x => match und P t, ev g.ng tm x with
    | some (.map _ _), some (.map mb) => match mapOf m mb with
      | some es => let (b, m') := m.new (.iter mb es.length []); some (.ptr b 0, m')
      | none => none
    | _, _ => none
  | .call c => match c.callee with
    | .builtin .append => match evs g.ng tm c.args.toList, c.argTypes.toList with
      | some [s, x], [t, t'] => match Nat.beq t t' with
        | true => appendV P m t s x
        | false => none
      | _, _ => none
    | _ => none
  | _ => none
def tof {α : Type} : Option α → T α
  | some a => .ret a
  | none => .bad
def xNext (g : G) (tm : TM) (m : Mem) (x : Operand) (str : Bool) : T (V × Mem) := match str with
  | true => .bad
  | false => match ev g.ng tm x with
    | some x => nextV m x
    | none => .bad
/-- a copy of a row of numbers, of whatever length -/
def fnNew (m : Mem) (k : IntKind) (l : E) (f : CF) : V × Mem := let (b', m') := m.new (.fn k l f); (.sl b' (.c 0) l, m')
def slNew (m : Mem) (l : E) (cols : List (IntKind × Nat)) : V × Mem := match cols with
  | [(k, a)] => fnNew m k l (.col a)
  | cols => let (b', m') := m.new (.arr (.c 0) l cols); (.sl b' (.c 0) l, m')
def slTail (g : G) (m : Mem) (l : E) (r : V × Mem) : T (V × Mem) := match rng g l with
  | some (lo, hi) => match leI 0 lo && leI hi 100000 with
    | true => match g.dec (.eq l (.c 0)) with
      | some true => .ret (.nils, m)
      | some false => .ret r
      | none => .br (.eq l (.c 0)) (.ret (.nils, m)) (.ret r)
    | false => .bad
  | none => .bad
def appendSl (P : Program) (g : G) (m : Mem) (t : TypeId) (b : Nat) (o l : E) : T (V × Mem) := match und P t with
  | some (.slice e) => match ti P e with
    | some i => match zero? P e with
      | some z => match m.blks.get b with
        | some (.arr o' n cols) => match o.beq o' && l.beq n && Nat.beq i.size cols.length && Nat.blt 0 i.size && Nat.ble i.bytes 1000 && Nat.beq z.length i.size with
          | true => slTail g m l (slNew m l cols)
          | false => .bad
        | some (.fn k n f) => match zeroE o && l.beq n && Nat.beq i.size 1 && Nat.ble i.bytes 1000 && Nat.beq z.length 1 with
          | true => slTail g m l (fnNew m k l f)
          | false => .bad
        | _ => .bad
      | none => .bad
    | none => .bad
  | _ => .bad
/-- a number is stored into a row of numbers -/
def stFn (P : Program) (g : G) (m : Mem) (t : TypeId) (b : Nat) (o : E) (z : Nat) (i : E) (j : Nat) (k : IntKind) (x : DN) : Option Mem := match fnAt m b with
  | some (k', n, f) => match Nat.beq (kindNo k) (kindNo k') && Nat.ble m.lim b && zeroE o && Nat.beq z 1 && Nat.beq j 0 && isF (g.dec (.lt i (.c 0))) && isT (g.dec (.lt i n)) with
    | true => match size? P t with
      | some s => match Nat.beq s 1 with
        | true => some (m.upd b (.fn k n (.upd i x f)))
        | false => none
      | none => none
    | false => none
  | none => none
def stOf (P : Program) (g : G) (tm : TM) (m : Mem) (t : TypeId) (x y : Operand) : Option (T (V × Mem)) := match ev g.ng tm x, ev g.ng tm y with
  | some (.pel b o z i j), some (.int k v) => match stFn P g m t b o z i j k v with
    | some m' => some (.ret (.undef, m'))
    | none => none
  | _, _ => none
def isZ (k : IntKind) : List V → Bool
  | [.int k' (.s n)] => Nat.beq (kindNo k) (kindNo k') && eqI n 0
  | _ => false
/-- a row of numbers, of whatever length -/
def mkFn (P : Program) (g : G) (m : Mem) (t : TypeId) (l : E) : Option (T (V × Mem)) := match und P t with
  | some (.slice e) => match ti P e, und P e, zero? P e, rng g l with
    | some i, some (.int k), some z, some (lo, hi) => match Nat.beq i.size 1 && Nat.ble i.bytes 10 && isZ k z && leI 0 lo && leI hi 100000 with
      | true => some (.ret (fnNew m k l .zero))
      | false => none
    | _, _, _, _ => none
  | _ => none
def mkOf (P : Program) (g : G) (tm : TM) (m : Mem) (t : TypeId) (l c : Operand) : Option (T (V × Mem)) := match ev g.ng tm l, ev g.ng tm c with
  | some (.int .i64 (.d l)), some (.int .i64 (.d c)) => match l.beq c with
    | true => mkFn P g m t l
    | false => none
  | _, _ => none
def minN (a b : Nat) : Nat := match Nat.ble a b with
  | true => a
  | false => b
/-- cells that are copied -/
def copyV (P : Program) (g : G) (m : Mem) (t : TypeId) (d x : V) : Option (T (V × Mem)) := match und P t with
  | some (.slice e) => match size? P e with
    | some z => match Nat.beq z 1 with
      | false => none
      | true => match d, x with
        | .slice b o l c, .nils => some (.ret (.int .i64 (.s 0), m))
        | .sl b o l, .nils => some (.ret (.int .i64 (.s 0), m))
        | .slice b o l c, .slice b2 o2 l2 c2 => forceN (minN l2 l) fun n => match m.blks.get b2, m.blks.get b with
          | some k2, some k => match k2.range o2 n with
            | some ns => match Nat.beq ns.length n && allOne ns && k.isRow && Nat.ble m.lim b && Nat.ble (o + n) k.size with
              | true => some (.ret (.int .i64 (.s (.ofNat n)), m.upd b (k.with (k.tab.setN o ns))))
              | false => none
            | none => none
          | _, _ => none
        | .sl b o l, .sl b2 o2 l2 => match m.blks.get b2, fnAt m b with
          | some (.arr o' n' cols), some (k, n, f) => match cols with
            | [(k', a)] => match Nat.beq (kindNo k') (kindNo k) && Nat.ble m.lim b && zeroE o && o2.beq o' && l2.beq n' && l.beq n && isF (g.dec (.lt l l2)) && isF (g.dec (.lt l2 (.c 0))) with
              | true => some (.ret (.int .i64 (.d l2), m.upd b (.fn k n (.cut l2 (.col a) f))))
              | false => none
            | _ => none
          | _, _ => none
        | _, _ => none
    | none => none
  | _ => none
def slOf (P : Program) (g : G) (tm : TM) (m : Mem) (c : Call) : Option (T (V × Mem)) := match c.callee with
  | .builtin .append => match evs g.ng tm c.args.toList, c.argTypes.toList with
    | some [.nils, .sl b o l], [t, t'] => match Nat.beq t t' with
      | true => some (appendSl P g m t b o l)
      | false => none
    | some [.nils, .nils], [t, t'] => match Nat.beq t t', und P t with
      | true, some (.slice e) => match ti P e with
        | some _ => some (.ret (.nils, m))
        | none => none
      | _, _ => none
    | _, _ => none
  | .builtin .copy => match evs g.ng tm c.args.toList, c.argTypes.toList with
    | some [d, x], [t, _] => copyV P g m t d x
    | _, _ => none
  | _ => none
def xmem (P : Program) (g : G) (tm : TM) (m : Mem) (o : Op) : T (V × Mem) := match o with
  | .next x str => xNext g tm m x str
  | .call c => match slOf P g tm m c with
    | some t => t
    | none => tof (xmemO P g tm m (.call c))
  | .store t x y => match stOf P g tm m t x y with
    | some t => t
    | none => tof (xmemO P g tm m (.store t x y))
  | .makeSlice t l c => match mkOf P g tm m t l c with
    | some t => t
    | none => tof (xmemO P g tm m (.makeSlice t l c))
  | o => tof (xmemO P g tm m o)
def isAppend (c : Call) : Bool := match c.callee with
  | .builtin .append => true
  | .builtin .copy => true
  | _ => false
def isMem (o : Op) : Bool := Op.rec (motive := fun _ => Bool) (fun _ => false) (fun _ => false) (fun _ _ _ => false) (fun _ => true) (fun _ _ => true) (fun _ _ => false) (fun _ _ _ => true) (fun _ _ _ _ => true) (fun _ _ => false) (fun _ _ _ => true) (fun _ => false) (fun _ => false) (fun _ => false) (fun _ _ _ _ _ => false) (fun _ _ _ => false) (fun _ _ _ => false) (fun _ _ => false) (fun _ _ => false) (fun _ _ _ => false) (fun _ _ => true) (fun _ _ => false) (fun _ _ _ => true) (fun _ _ _ _ _ => false) (fun _ _ _ => false) (fun _ _ _ => false) (fun _ _ _ => false) (fun _ _ _ => false) (fun _ _ _ _ => false) (fun _ _ _ _ => true) (fun _ _ _ => false) (fun _ _ _ _ => false) (fun _ _ => true) (fun _ _ => true) (fun _ => false) (fun _ _ _ _ => false) (fun _ _ => false) (fun c => isAppend c) (fun _ => false) (fun _ => false) (fun _ => false) (fun _ _ => false) (fun _ _ _ => false) (fun _ _ => false) o

/-- is an operation wanted? ask: its test is not written out -/
inductive Wn where
  | yes
  | no
  | ask (j : Nat) (b : B)
  | bad
def wantedV (n : Nat) (ops : List Oper) (tm : TM) (o : Oper) : Wn := match o.guard with
  | none => .yes
  | some (j, want) => match nth ops j with
    | none => .bad
    | some p => match p.dst with
      | none => .bad
      | some d => match Nat.blt d n with
        | false => .bad
        | true => match tm.get d with
          | some (.bool (.s true)) => match want with
            | true => .yes
            | false => .no
          | some (.bool (.s false)) => match want with
            | true => .no
            | false => .yes
          | some (.bool (.d b)) => .ask d b
          | some (.tup []) => .no
          | _ => .bad

/-- the results of a function -/
def resV (P : Program) (tm : TM) (m : Mem) : List ResultVar → Option (List V)
  | [] => some []
  | .tmp t :: r => match tm.get t with
    | some v => match resV P tm m r with
      | some l => some (v :: l)
      | none => none
    | none => none
  | .cell a t :: r => match tm.get a with
    | some (.ptr b o) => match load P m t b o with
      | some v => match resV P tm m r with
        | some l => some (v :: l)
        | none => none
      | none => none
    | _ => none
def resultV (P : Program) (fn : Func) (tm : TM) (m : Mem) : Option V := match resV P tm m fn.results.toList with
  | some [v] => some v
  | some l => some (.tup l)
  | none => none

mutual
/-- are all names below n? -/
def vbel (n : Nat) : V → Bool
  | .ptr b _ => Nat.blt b n
  | .slice b _ _ _ => Nat.blt b n
  | .sl b _ _ => Nat.blt b n
  | .pel b _ _ _ _ => Nat.blt b n
  | .map b => Nat.blt b n
  | .func _ a c => vbels n a && vbels n c
  | .iface _ v => vbel n v
  | .agg cs => vbels n cs
  | .tup cs => vbels n cs
  | _ => true
def vbels (n : Nat) : List V → Bool
  | [] => true
  | v :: l => vbel n v && vbels n l
end

def initTm (n : Nat) (t : TM) (i : Nat) : List V → TM
  | [] => t
  | v :: l => initTm n (put n t (some i) v) (i + 1) l

inductive Fin where
  | ret (v : V)
  | pan (v : V)

/-- does it always come back, with a value of the names below n? -/
def quietB (n : Nat) : Fin × Mem → Bool
  | (.ret v, _) => vbel n v
  | (.pan _, _) => false
def Mem.quiet (m : Mem) : Mem := match m with
  | ⟨bs, nx, _⟩ => ⟨bs, nx, nx⟩

/-- a call in whatever order: where it is quiet, what comes behind it; else the other way -/
def drawCall (g : G) (q : Fin × Mem → Bool) (t : T (Fin × Mem)) (f : G → V → T (Ex × St)) (e : T (Ex × St)) : T (Ex × St) := match t.allD q with
  | true => t.bind g fun g r => match r.1 with
    | .ret v => f g v
    | .pan _ => .bad
  | false => e

/-- the machine, of so many rounds less -/
structure Rec where
  call : G → FuncId → List V → Mem → T (Fin × Mem)
  code : G → Code → St → T (Ex × St)
  list : G → List Oper → List Oper → St → T (Ex × St)
  draw : G → Array Oper → Nat → List Oper → St → T (Ex × St)
  any : G → Array Oper → Nat → Array Bool → List Nat → Mem → St → T (Ex × St)

def tm0 : TM := ⟨PT.full (some .undef) 10, []⟩
/-- what a frame does whose deferred call runs: it returns; it panics; its panic is taken -/
inductive Md where
  | retn
  | pan (v : V)
  | recd (v : V)
def Md.of : Option V → Md
  | none => .retn
  | some v => .pan v
def Md.fin : Md → Option V
  | .pan v => some v
  | _ => none
def isRec (o : Op) : Bool := match o with
  | .call c => match c.callee with
    | .builtin b => match b with
      | .recover => true
      | _ => false
    | _ => false
  | _ => false
def anyRec : List Oper → Bool
  | [] => false
  | o :: l => isRec o.op || anyRec l
def hasRec : Code → Bool
  | .seq a b => hasRec a || hasRec b
  | .block _ c => hasRec c
  | .region _ ops _ => anyRec ops.toList
  | _ => false
def St.res (st : St) (dst : Option Tmp) (v : V) : St := match st with
  | ⟨n, tm, m⟩ => ⟨n, put n tm dst v, m⟩
/-- operations of a deferred call, one behind the other -/
def recL (P : Program) (ops : List Oper) : List Oper → G → Md → St → T (Md × St)
  | [], _, u, st => .ret (u, st)
  | o :: rest, g, u, st => match wantedV st.n ops st.tm o with
    | .no => recL P ops rest g u (st.res o.dst .undef)
    | .yes => match isRec o.op with
      | true => match u with
        | .pan v => recL P ops rest g (.recd v) (st.res o.dst v)
        | u => recL P ops rest g u (st.res o.dst .nili)
      | false => (xpure P g st.tm st.mem o.op).bind g fun g x => match x with
        | .v v => recL P ops rest g u (st.res o.dst v)
        | _ => .bad
    | _ => .bad
def leafS (P : Program) (r : Rec) (c : Code) (g : G) (u : Md) (st : St) : T (Ex × Md × St) := match hasRec c with
  | true => match c with
    | .region _ ops d => match d with
      | false => (recL P ops.toList ops.toList g u st).bind g fun _ x => .ret (.nor, x.1, x.2)
      | true => .bad
    | _ => .bad
  | false => (r.code g c st).bind g fun _ x => .ret (x.1, u, x.2)
/-- a deferred call's text -/
def codeS (P : Program) (r : Rec) : Code → G → Md → St → T (Ex × Md × St)
  | .seq a b, g, u, st => (codeS P r a g u st).bind g fun g x => match x with
    | (.nor, u, st) => codeS P r b g u st
    | x => .ret x
  | .block n c, g, u, st => (codeS P r c g u st).bind g fun _ x => match x with
    | (.exit n', u, st) => match Nat.beq n' n with
      | true => .ret (.nor, u, st)
      | false => .ret (.exit n', u, st)
    | x => .ret x
  | c, g, u, st => leafS P r c g u st
def dend (P : Program) (fn : Func) (e : Ex) (u : Md) (st : St) : T (Option V × Mem) := match e with
  | .pan _ => .bad
  | .exit _ => .bad
  | _ => match st.tm.ds with
    | [] => match resultV P fn st.tm st.mem with
      | some _ => .ret (u.fin, st.mem)
      | none => .bad
    | _ :: _ => .bad
/-- a call that was put off -/
def dcall (P : Program) (r : Rec) (g : G) (d : V) (u : Option V) (m : Mem) : T (Option V × Mem) := match d with
  | .func f fst cap => match f with
    | .func f => match fn? P f with
      | none => .bad
      | some fn => match fn.name == "runtime.NumGoroutine" with
        | true => .bad
        | false => match fn.body with
          | none => .bad
          | some c => forceN (max (fst ++ cap).length fn.ntmps) fun n => (codeS P r c g (.of u) ⟨n, initTm n tm0 0 (fst ++ cap), m⟩).bind g fun _ x => dend P fn x.1 x.2.1 x.2.2
    | _ => .bad
  | _ => .bad
def leave (P : Program) (r : Rec) (fn : Func) (tm : TM) : List V → G → Option V → Mem → T (Fin × Mem)
  | [], _, u, m => match u with
    | some v => .ret (.pan v, m)
    | none => match resultV P fn tm m with
      | some v => .ret (.ret v, m)
      | none => .bad
  | d :: ds, g, u, m => (dcall P r g d u m).bind g fun g x => leave P r fn tm ds g x.1 x.2
def finish (P : Program) (r : Rec) (g : G) (fn : Func) (e : Ex) (st : St) : T (Fin × Mem) := match e with
  | .nor => leave P r fn st.tm st.tm.ds g none st.mem
  | .ret => leave P r fn st.tm st.tm.ds g none st.mem
  | .pan v => leave P r fn st.tm st.tm.ds g (some v) st.mem
  | .exit _ => .bad
def stepBody (P : Program) (r : Rec) (g : G) (fn : Func) (c : Code) (n : Nat) (args : List V) (m : Mem) : T (Fin × Mem) :=
  (r.code g c ⟨n, initTm n tm0 0 args, m⟩).bind g fun g x => finish P r g fn x.1 x.2
/-- what is known of some calls -/
abbrev Hook := G → FuncId → List V → Mem → Option (T (Fin × Mem))
def noH : Hook := fun _ _ _ _ => none
def stepCall (P : Program) (H : Hook) (r : Rec) (g : G) (f : FuncId) (args : List V) (m : Mem) : T (Fin × Mem) := match H g f args m with
  | some t => t
  | none => match fn? P f with
    | none => .bad
    | some fn => match fn.body with
      | none => .bad
      | some c => forceN (max args.length fn.ntmps) fun n => stepBody P r g fn c n args m
def seqB (r : Rec) (b : Code) (g : G) (e : Ex) (st : St) : T (Ex × St) := match e with
  | .nor => r.code g b st
  | e => .ret (e, st)
def blockB (n : Nat) (e : Ex) (st : St) : T (Ex × St) := match e with
  | .exit n' => match Nat.beq n' n with
    | true => .ret (.nor, st)
    | false => .ret (.exit n', st)
  | e => .ret (e, st)
def refine (st : St) (t : Nat) (b : Bool) : St := match st with
  | ⟨n, tm, m⟩ => ⟨n, put n tm (some t) (.bool (.s b)), m⟩
def stepCond (r : Rec) (g : G) (x : Operand) (a b : Code) (st : St) : T (Ex × St) := match ev g.ng st.tm x with
  | some (.bool (.s true)) => r.code g a st
  | some (.bool (.s false)) => r.code g b st
  | some (.bool (.d p)) => match x with
    | .tmp t => brG g p (fun g => r.code g a (refine st t true)) (fun g => r.code g b (refine st t false))
    | _ => .bad
  | _ => .bad
/-- the first operation that writes memory, or may; the first one that makes some -/
def isCallF (o : Op) : Bool := match o with
  | .call c => match c.callee with
    | .builtin _ => false
    | _ => true
  | _ => false
def firstOf (q : Op → Bool) : List Oper → Nat → Nat
  | [], i => i
  | o :: l, i => match q o.op with
    | true => i
    | false => firstOf q l (i + 1)
/-- is there an order from one of these on? -/
def tailIn (ops : Array Oper) : Nat → Nat → Bool
  | 0, _ => false
  | k + 1, i => Region.lexTailB .any ops i || tailIn ops k (i + 1)
def drawn (ops : Array Oper) : Bool := match Nat.beq (firstOf isMem ops.toList 0) ops.size with
  | true => Region.lexB .any ops
  | false => tailIn ops (firstOf isMem ops.toList 0 + 1 - firstOf (fun o => isMem o || isCallF o) ops.toList 0) (firstOf (fun o => isMem o || isCallF o) ops.toList 0)
def St.setM (st : St) (m : Mem) : St := match st with
  | ⟨n, tm, _⟩ => ⟨n, tm, m⟩
def St.setLim (st : St) (lim : Nat) : St := match st with
  | ⟨n, tm, m⟩ => match m with
    | ⟨bs, nx, _⟩ => ⟨n, tm, ⟨bs, nx, lim⟩⟩
def anyB (nx lim : Nat) (e : Ex) (st : St) : T (Ex × St) := match e with
  | .nor => match Nat.beq st.mem.lim nx with
    | true => .ret (.nor, st.setLim lim)
    | false => .bad
  | _ => .bad
/-- blocks that a region's stores write -/
def preW (P : Program) (g : G) (n : Nat) (m : Mem) : List Oper → TM → List Nat
  | [], _ => []
  | o :: l, tm => match o.op with
    | .store _ x _ => match ev g.ng tm x with
      | some (.ptr b _) => match Nat.ble m.lim b && isLiveW (m.blks.get b) with
        | true => b :: preW P g n m l tm
        | false => preW P g n m l tm
      | _ => preW P g n m l tm
    | op => match isMem op with
      | true => preW P g n m l (put n tm o.dst .undef)
      | false => match xpure P g tm m op with
        | .ret (.v v) => preW P g n m l (put n tm o.dst v)
        | _ => preW P g n m l (put n tm o.dst .undef)
def isStore (o : Op) : Bool := match o with
  | .store _ _ _ => true
  | _ => false
def anyStore : List Oper → Bool
  | [] => false
  | o :: l => isStore o.op || anyStore l
def goneL (m : Mem) : List Nat → Mem
  | [] => m
  | b :: l => (goneL m l).upd b .gone
def okW (m : Mem) : List Nat → Bool
  | [] => true
  | b :: l => Nat.ble m.lim b && isLiveW (m.blks.get b) && okW m l
def wsOf (P : Program) (g : G) (ops : Array Oper) (st : St) : List Nat := match anyStore ops.toList with
  | true => preW P g st.n st.mem ops.toList st.tm
  | false => []
def stepAnyB (r : Rec) (g : G) (ops : Array Oper) (st : St) (ws : List Nat) : T (Ex × St) := match okW st.mem ws with
  | true => (r.any g ops ops.size (Array.replicate ops.size false) ws (goneL st.mem.quiet ws) (st.setM st.mem.quiet)).bind g fun _ x => anyB st.mem.next st.mem.lim x.1 x.2
  | false => .bad
/-- every order, where calls write what there is -/
def anyB2 (lim : Nat) (e : Ex) (st : St) : T (Ex × St) := match e with
  | .nor => match Nat.beq st.mem.lim lim with
    | true => .ret (.nor, st)
    | false => .bad
  | _ => .bad
def stepAny2 (r : Rec) (g : G) (ops : Array Oper) (st : St) : T (Ex × St) := match Region.noSelect ops with
  | false => .bad
  | true => (r.any g ops ops.size (Array.replicate ops.size false) [] ⟨PT.full none 14, st.mem.next, st.mem.next⟩ st).bind g fun _ x => anyB2 st.mem.lim x.1 x.2
def stepDrawn0 (P : Program) (r : Rec) (g : G) (ops : Array Oper) (st : St) : T (Ex × St) := match drawn ops with
  | true => r.draw g ops 0 ops.toList st
  | false => match Region.noSelect ops with
    | false => .bad
    | true => stepAnyB r g ops st (wsOf P g ops st)
def orElse (t : T (Ex × St)) (u : T (Ex × St)) : T (Ex × St) := match t with
  | .bad => u
  | .ret x => .ret x
  | .br b x y => .br b x y
  | .alt x y => .alt x y
def stepDrawn (P : Program) (r : Rec) (g : G) (ops : Array Oper) (st : St) : T (Ex × St) := orElse (stepDrawn0 P r g ops st) (stepAny2 r g ops st)
def stepCode (P : Program) (r : Rec) (g : G) (c : Code) (st : St) : T (Ex × St) := match c with
  | .skip => .ret (.nor, st)
  | .ret => .ret (.ret, st)
  | .exit n => .ret (.exit n, st)
  | .seq a b => (r.code g a st).bind g fun g x => seqB r b g x.1 x.2
  | .cond x a b => stepCond r g x a b st
  | .block n c => (r.code g c st).bind g fun _ x => blockB n x.1 x.2
  | .loop c => (r.code g c st).bind g fun g x => seqB r (.loop c) g x.1 x.2
  | .region _ ops d => match d with
    | false => r.list g ops.toList ops.toList st
    | true => stepDrawn P r g ops st
  | _ => .bad
def St.push (st : St) (d : V) : St := match st with
  | ⟨n, tm, m⟩ => match tm with
    | ⟨t, ds⟩ => ⟨n, ⟨t, d :: ds⟩, m⟩
def St.resM (st : St) (dst : Option Tmp) (v : V) (m : Mem) : St := match st with
  | ⟨n, tm, _⟩ => ⟨n, put n tm dst v, m⟩
def afterCall (r : Rec) (ops rest : List Oper) (st : St) (dst : Option Tmp) (g : G) (e : Fin) (m : Mem) : T (Ex × St) := match e with
  | .ret v => r.list g ops rest (st.resM dst v m)
  | .pan v => .ret (.pan v, st.setM m)
def afterPure (r : Rec) (ops rest : List Oper) (st : St) (dst : Option Tmp) (g : G) (x : R) : T (Ex × St) := match x with
  | .v v => r.list g ops rest (st.res dst v)
  | .pan v => .ret (.pan v, st)
  | .enter f args => (r.call g f args st.mem).bind g fun g x => afterCall r ops rest st dst g x.1 x.2
  | .defer d => r.list g ops rest ((st.push d).res dst .undef)
def stepOp (P : Program) (r : Rec) (g : G) (ops rest : List Oper) (o : Oper) (st : St) : T (Ex × St) := match isMem o.op with
  | true => (xmem P g st.tm st.mem o.op).bind g fun g x => r.list g ops rest (st.resM o.dst x.1 x.2)
  | false => (xpure P g st.tm st.mem o.op).bind g fun g x => afterPure r ops rest st o.dst g x
/-- operations, one behind the other -/
def stepList (P : Program) (r : Rec) (g : G) (ops l : List Oper) (st : St) : T (Ex × St) := match l with
  | [] => .ret (.nor, st)
  | o :: rest => match wantedV st.n ops st.tm o with
    | .bad => .bad
    | .no => r.list g ops rest (st.res o.dst .undef)
    | .ask j b => brG g b (fun g => r.list g ops (o :: rest) (refine st j true)) (fun g => r.list g ops (o :: rest) (refine st j false))
    | .yes => stepOp P r g ops rest o st
def tailOf (r : Rec) (g : G) (ops : Array Oper) (i : Nat) (l : List Oper) (st : St) : T (Ex × St) := match Region.lexTailB .any ops i with
  | true => r.list g ops.toList l st
  | false => .bad
def drawPure (r : Rec) (ops : Array Oper) (i : Nat) (o : Oper) (rest : List Oper) (st : St) (g : G) (x : R) : T (Ex × St) := match x with
  | .v v => r.draw g ops (i + 1) rest (st.res o.dst v)
  | .pan _ => .bad
  | .defer _ => .bad
  | .enter f args => drawCall g (quietB st.mem.next) (r.call g f args st.mem.quiet) (fun g v => r.draw g ops (i + 1) rest (st.res o.dst v)) (tailOf r g ops i (o :: rest) st)
def stepDrawOp (P : Program) (r : Rec) (g : G) (ops : Array Oper) (i : Nat) (o : Oper) (rest : List Oper) (st : St) : T (Ex × St) := match isMem o.op with
  | true => tailOf r g ops i (o :: rest) st
  | false => (xpure P g st.tm st.mem o.op).bind g fun g x => drawPure r ops i o rest st g x
/-- operations in whatever order: the first ones leave memory alone, or only add to it; the others come one behind the other -/
def stepDraw (P : Program) (r : Rec) (g : G) (ops : Array Oper) (i : Nat) (l : List Oper) (st : St) : T (Ex × St) := match l with
  | [] => match Region.lexB .any ops with
    | true => .ret (.nor, st)
    | false => .bad
  | o :: rest => match wantedV st.n ops.toList st.tm o with
    | .bad => .bad
    | .no => r.draw g ops (i + 1) rest (st.res o.dst .undef)
    | .ask j b => brG g b (fun g => r.draw g ops i (o :: rest) (refine st j true)) (fun g => r.draw g ops i (o :: rest) (refine st j false))
    | .yes => stepDrawOp P r g ops i o rest st
/-- a load of one of these blocks -/
def loadIn (g : G) (m0 : Mem) (tm : TM) (o : Op) : Bool := match o with
  | .load _ x => match ev g.ng tm x with
    | some (.ptr b _) => !isLive (m0.blks.get b)
    | some (.pel b _ _ _ _) => !isLive (m0.blks.get b)
    | _ => false
  | _ => false
/-- an operation that may be taken first -/
def pickFree (g : G) (m0 : Mem) (tm : TM) (ops : Array Oper) (listed : Array Bool) : List Nat → Option Nat
  | [] => none
  | i :: l => match ops[i]? with
    | none => pickFree g m0 tm ops listed l
    | some o => match isMem o.op || isCallF o.op || loadIn g m0 tm o.op with
      | true => pickFree g m0 tm ops listed l
      | false => match Region.free .any ops listed i with
        | true => some i
        | false => pickFree g m0 tm ops listed l
def Mem.wide (m0 : Mem) (n : Nat) : Mem := match m0 with
  | ⟨bs, _, _⟩ => ⟨bs, n, n⟩
/-- a store into one of these blocks -/
def storeIn (P : Program) (g : G) (ws : List Nat) (tm : TM) (m : Mem) (o : Op) : Option Mem := match o with
  | .store t x y => match ev g.ng tm x, ev g.ng tm y with
    | some (.ptr b o), some v => match memN b ws with
      | true => storeW P m t b o v
      | false => none
    | _, _ => none
  | _ => none
def anyV (r : Rec) (ops : Array Oper) (fuel : Nat) (listed : Array Bool) (ws : List Nat) (m0 : Mem) (st : St) (dst : Option Tmp) (g : G) (x : R) : T (Ex × St) := match x with
  | .v v => r.any g ops fuel listed ws m0 (st.res dst v)
  | _ => .bad
def anyTake (P : Program) (r : Rec) (g : G) (ops : Array Oper) (fuel : Nat) (listed : Array Bool) (ws : List Nat) (m0 : Mem) (st : St) (j : Nat) : T (Ex × St) := match ops[j]? with
  | none => .bad
  | some o => match wantedV st.n ops.toList st.tm o with
    | .bad => .bad
    | .no => r.any g ops fuel (listed.setIfInBounds j true) ws m0 (st.res o.dst .undef)
    | .ask t b => brG g b (fun g => r.any g ops (fuel + 1) listed ws m0 (refine st t true)) (fun g => r.any g ops (fuel + 1) listed ws m0 (refine st t false))
    | .yes => (xpure P g st.tm (m0.wide st.mem.next) o.op).bind g fun g x => anyV r ops fuel (listed.setIfInBounds j true) ws m0 st o.dst g x
def anyCall (r : Rec) (ops : Array Oper) (fuel : Nat) (listed : Array Bool) (ws : List Nat) (m0 : Mem) (st : St) (dst : Option Tmp) (g : G) (e : Fin) (m : Mem) : T (Ex × St) := match e with
  | .ret v => r.any g ops fuel listed ws m0 (st.resM dst v m)
  | .pan _ => .bad
def anyX (r : Rec) (ops : Array Oper) (fuel : Nat) (listed : Array Bool) (ws : List Nat) (m0 : Mem) (st : St) (dst : Option Tmp) (g : G) (x : R) : T (Ex × St) := match x with
  | .v v => r.any g ops fuel listed ws m0 (st.res dst v)
  | .pan _ => .bad
  | .enter f args => (r.call g f args st.mem).bind g fun g y => anyCall r ops fuel listed ws m0 st dst g y.1 y.2
  | .defer _ => .bad
def anyOne (P : Program) (r : Rec) (g : G) (ops : Array Oper) (fuel : Nat) (listed : Array Bool) (ws : List Nat) (m0 : Mem) (st : St) (j : Nat) : T (Ex × St) := match ops[j]? with
  | none => .bad
  | some o => match wantedV st.n ops.toList st.tm o with
    | .bad => .bad
    | .no => r.any g ops fuel (listed.setIfInBounds j true) ws m0 (st.res o.dst .undef)
    | .ask t b => brG g b (fun g => r.any g ops (fuel + 1) listed ws m0 (refine st t true)) (fun g => r.any g ops (fuel + 1) listed ws m0 (refine st t false))
    | .yes => match isMem o.op with
      | true => match storeIn P g ws st.tm st.mem o.op with
        | some m' => r.any g ops fuel (listed.setIfInBounds j true) ws m0 (st.resM o.dst .undef m')
        | none => (xmem P g st.tm st.mem o.op).bind g fun g x => r.any g ops fuel (listed.setIfInBounds j true) ws m0 (st.resM o.dst x.1 x.2)
      | false => (xpure P g st.tm st.mem o.op).bind g fun g x => anyX r ops fuel (listed.setIfInBounds j true) ws m0 st o.dst g x
def DN.beq : DN → DN → Bool
  | .s a, .s b => eqI a b
  | .d a, .d b => a.beq b
  | _, _ => false
def DB.beq : DB → DB → Bool
  | .s a, .s b => Bool.rec (Bool.rec true false b) b a
  | .d a, .d b => a.beq b
  | _, _ => false
/-- tables of lists -/
def oddsO {α : Type} : List (Option α) → List (Option α)
  | [] => []
  | a :: [] => [a]
  | a :: _ :: l => a :: oddsO l
def evensO {α : Type} : List (Option α) → List (Option α)
  | [] => []
  | _ :: [] => []
  | _ :: b :: l => b :: evensO l
def PT.ofO {α : Type} : Nat → List (Option α) → PT α
  | 0, _ => .e
  | d + 1, [] => PT.full none (d + 1)
  | d + 1, a :: l => .n a (PT.ofO d (oddsO l)) (PT.ofO d (evensO l))
def PT.listO {α : Type} (t : PT α) : Nat → Nat → List (Option α)
  | 0, _ => []
  | k + 1, i => t.get i :: t.listO k (i + 1)
def St.trim (st : St) : St := match st with
  | ⟨n, ⟨t, ds⟩, ⟨bs, nx, lim⟩⟩ => ⟨n, ⟨PT.ofO 12 (t.listO n 0), ds⟩, ⟨PT.ofO 14 (bs.listO nx 0), nx, lim⟩⟩
def CF.beq : CF → CF → Bool
  | .col a, f => (match f with
    | .col b => Nat.beq a b
    | _ => false)
  | .zero, f => (match f with
    | .zero => true
    | _ => false)
  | .upd i x h, f => (match f with
    | .upd i' x' h' => i.beq i' && x.beq x' && h.beq h'
    | _ => false)
  | .cut m h j, f => (match f with
    | .cut m' h' j' => m.beq m' && h.beq h' && j.beq j'
    | _ => false)
def colsEq : List (IntKind × Nat) → List (IntKind × Nat) → Bool
  | [], [] => true
  | (k, a) :: l, (k', a') :: l' => Nat.beq (kindNo k) (kindNo k') && Nat.beq a a' && colsEq l l'
  | _, _ => false
def isNilV : List V → Bool
  | [] => true
  | _ => false
/-! every order of operations that make memory: what comes of them is one, but for names -/
/-- what one operation makes of a state; it does not branch -/
def oneV (P : Program) (r : Rec) (g : G) (ops : Array Oper) (st : St) (o : Oper) : Option St := match wantedV st.n ops.toList st.tm o with
  | .no => some (st.res o.dst .undef)
  | .yes => match isMem o.op with
    | true => match xmem P g st.tm st.mem o.op with
      | .ret x => some (st.resM o.dst x.1 x.2)
      | _ => none
    | false => match xpure P g st.tm st.mem o.op with
      | .ret x => match x with
        | .v v => some (st.res o.dst v)
        | .enter f args => match r.call g f args st.mem with
          | .ret y => match y.1 with
            | .ret v => some (st.resM o.dst v y.2)
            | .pan _ => none
          | _ => none
        | _ => none
      | _ => none
  | _ => none
/-- an operation that may be taken first -/
def freeV (P : Program) (g : G) (ops : Array Oper) (m0 : Mem) (st : St) (o : Oper) : Option St := match wantedV st.n ops.toList st.tm o with
  | .no => some (st.res o.dst .undef)
  | .yes => match xpure P g st.tm (m0.wide st.mem.next) o.op with
    | .ret x => match x with
      | .v v => some (st.res o.dst v)
      | _ => none
    | _ => none
  | _ => none
def nthD : List Nat → Nat → Nat
  | [], _ => 99999999
  | x :: l, i => match i with
    | 0 => x
    | i + 1 => nthD l i
/-- a name of the first one's is which of the other's -/
def ren (nb : Nat) (ts : List Nat) (b : Nat) : Nat := match Nat.blt b nb with
  | true => b
  | false => nthD ts (b - nb)
def cpEq : Cp → Cp → Bool
  | .s n, c => (match c with
    | .s m => Nat.beq n m
    | _ => false)
  | .row n, c => (match c with
    | .row m => Nat.beq n m
    | _ => false)
mutual
/-- the same value, but for names -/
def vren (nb nx : Nat) (ts : List Nat) : V → V → Bool
  | .bool a, v => (match v with
    | .bool b => a.beq b
    | _ => false)
  | .int j a, v => (match v with
    | .int k b => Nat.beq (kindNo j) (kindNo k) && a.beq b
    | _ => false)
  | .str a, v => (match v with
    | .str b => baEq a b
    | _ => false)
  | .nilp, v => (match v with
    | .nilp => true
    | _ => false)
  | .nils, v => (match v with
    | .nils => true
    | _ => false)
  | .nili, v => (match v with
    | .nili => true
    | _ => false)
  | .nilm, v => (match v with
    | .nilm => true
    | _ => false)
  | .nilf, v => (match v with
    | .nilf => true
    | _ => false)
  | .ptr b o, v => (match v with
    | .ptr b' o' => Nat.beq (ren nb ts b) b' && Nat.beq o o' && Nat.blt b nx
    | _ => false)
  | .slice b o l c, v => (match v with
    | .slice b' o' l' c' => Nat.beq (ren nb ts b) b' && Nat.beq o o' && Nat.beq l l' && Nat.blt b nx && cpEq c c'
    | _ => false)
  | .pel b o z i j, v => (match v with
    | .pel b' o' z' i' j' => Nat.beq (ren nb ts b) b' && Nat.blt b nx && o.beq o' && Nat.beq z z' && i.beq i' && Nat.beq j j'
    | _ => false)
  | .sl b o l, v => (match v with
    | .sl b' o' l' => Nat.beq (ren nb ts b) b' && Nat.blt b nx && o.beq o' && l.beq l'
    | _ => false)
  | .map b, v => (match v with
    | .map b' => Nat.beq (ren nb ts b) b' && Nat.blt b nx
    | _ => false)
  | .func _ _ _, _ => false
  | .iface t u, v => (match v with
    | .iface t' u' => Nat.beq t t' && vren nb nx ts u u'
    | _ => false)
  | .agg xs, v => (match v with
    | .agg ys => vrens nb nx ts xs ys
    | _ => false)
  | .tup xs, v => (match v with
    | .tup ys => vrens nb nx ts xs ys
    | _ => false)
def vrens (nb nx : Nat) (ts : List Nat) : List V → List V → Bool
  | [], ys => (match ys with
    | [] => true
    | _ => false)
  | x :: xs, ys => (match ys with
    | y :: ys => vren nb nx ts x y && vrens nb nx ts xs ys
    | [] => false)
end
/-- cells from o on -/
def crens (f : V → V → Bool) (cs ds : PT V) : Nat → Nat → Bool
  | 0, _ => true
  | k + 1, i => (match cs.get i with
    | none => true
    | some u => match ds.get i with
      | some v => f u v
      | none => false) && crens f cs ds k (i + 1)
def bren (f : V → V → Bool) (k k' : Blk) : Bool := match k with
  | .cells t n cs => (match k' with
    | .cells t' n' ds => Nat.beq t t' && Nat.beq n n' && crens f cs ds n 0
    | _ => false)
  | .row t z n cs => (match k' with
    | .row t' z' n' ds => Nat.beq t t' && Nat.beq z z' && Nat.beq n n' && crens f cs ds n 0
    | _ => false)
  | .arr o n cols => (match k' with
    | .arr o' n' cols' => o.beq o' && n.beq n' && colsEq cols cols'
    | _ => false)
  | .fn k n c => (match k' with
    | .fn k' n' c' => Nat.beq (kindNo k) (kindNo k') && n.beq n' && c.beq c'
    | _ => false)
  | .gone => true
  | _ => false
/-- all blocks, by these names -/
def brens (f : V → V → Bool) (bs ds : PT Blk) : List Nat → Nat → Bool
  | [], _ => true
  | b :: ts, i => (match bs.get i with
    | none => true
    | some k => match ds.get b with
      | some k' => bren f k k'
      | none => false) && brens f bs ds ts (i + 1)
def idTs (ts : List Nat) : Nat → Nat → List Nat
  | 0, _ => ts
  | k + 1, i => i :: idTs ts k (i + 1)
def nodupN : List Nat → Bool
  | [] => true
  | b :: l => !memN b l && nodupN l
def allIn (lo hi : Nat) : List Nat → Bool
  | [] => true
  | b :: l => Nat.ble lo b && Nat.blt b hi && allIn lo hi l
def rensB (nb nx : Nat) (ts : List Nat) (tm tm' : TM) (m m' : Mem) (n : Nat) : Bool :=
  Nat.beq m.next nx && Nat.beq m'.next nx && Nat.beq (nb + ts.length) nx && nodupN ts && allIn nb nx ts && crens (vren nb nx ts) tm.t tm'.t n 0 && brens (vren nb nx ts) m.blks m'.blks (idTs ts nb 0) 0
/-- an entry: what is done, the state, which names each operation made -/
structure DE where
  l : Array Bool
  st : St
  al : List (Nat × Nat × Nat)
def insAl (x : Nat × Nat × Nat) : List (Nat × Nat × Nat) → List (Nat × Nat × Nat)
  | [] => [x]
  | y :: l => match Nat.blt x.1 y.1 with
    | true => x :: y :: l
    | false => y :: insAl x l
def findAl (al al' : List (Nat × Nat × Nat)) (b : Nat) : Nat := match al with
  | [] => 99999999
  | (_, f, c) :: l => match al' with
    | [] => 99999999
    | (_, f', _) :: l' => match Nat.ble f b && Nat.blt b (f + c) with
      | true => f' + (b - f)
      | false => findAl l l' b
def mkTs (al al' : List (Nat × Nat × Nat)) : Nat → Nat → List Nat
  | 0, _ => []
  | k + 1, b => findAl al al' b :: mkTs al al' k (b + 1)
def eqBools : List Bool → List Bool → Bool
  | [], l => (match l with
    | [] => true
    | _ => false)
  | a :: k, l => (match l with
    | b :: l => Bool.rec (Bool.rec true false b) (Bool.rec false true b) a && eqBools k l
    | [] => false)
/-- an entry is put among others: where one has done the same it has to be the same -/
def insDE (nb : Nat) (e : DE) : List DE → Option (List DE)
  | [] => some [⟨e.l, e.st.trim, e.al⟩]
  | d :: l => match eqBools d.l.toList e.l.toList with
    | true => match Nat.beq d.st.n e.st.n && Nat.beq d.st.mem.lim e.st.mem.lim && Nat.ble d.st.mem.lim nb && isNilV d.st.tm.ds && isNilV e.st.tm.ds && rensB nb d.st.mem.next (mkTs d.al e.al (d.st.mem.next - nb) nb) d.st.tm e.st.tm d.st.mem e.st.mem d.st.n with
      | true => some (d :: l)
      | false => none
    | false => match insDE nb e l with
      | some l => some (d :: l)
      | none => none
def succDE (P : Program) (r : Rec) (g : G) (ops : Array Oper) (m0 : Mem) (nb : Nat) (e : DE) : List Nat → List DE → Option (List DE)
  | [], out => some out
  | j :: js, out => match ops[j]? with
    | none => none
    | some o => match oneV P r g ops e.st o with
      | none => none
      | some st' => match insDE nb ⟨e.l.setIfInBounds j true, st', insAl (j, e.st.mem.next, st'.mem.next - e.st.mem.next) e.al⟩ out with
        | none => none
        | some out => succDE P r g ops m0 nb e js out
def layerDE (P : Program) (r : Rec) (g : G) (ops : Array Oper) (m0 : Mem) (nb : Nat) : List DE → List DE → Option (List DE)
  | [], out => some out
  | e :: l, out => match Region.ready .any ops e.l with
    | [] => none
    | i :: is => match pickFree g m0 e.st.tm ops e.l (i :: is) with
      | some j => match ops[j]? with
        | none => none
        | some o => match freeV P g ops m0 e.st o with
          | none => none
          | some st' => match insDE nb ⟨e.l.setIfInBounds j true, st', e.al⟩ out with
            | none => none
            | some out => layerDE P r g ops m0 nb l out
      | none => match succDE P r g ops m0 nb e (i :: is) out with
        | none => none
        | some out => layerDE P r g ops m0 nb l out
def dpAll (P : Program) (r : Rec) (g : G) (ops : Array Oper) (m0 : Mem) (nb : Nat) : Nat → List DE → Option St
  | 0, _ => none
  | k + 1, l => match l with
    | [] => none
    | e :: l' => match Region.ready .any ops e.l with
      | [] => match l' with
        | [] => some e.st
        | _ => none
      | _ => match layerDE P r g ops m0 nb (e :: l') [] with
        | none => none
        | some out => dpAll P r g ops m0 nb k out
/-- operations in whatever order: those that may be taken first are; else there is one alone that may come -/
def stepAny (P : Program) (r : Rec) (g : G) (ops : Array Oper) (fuel : Nat) (listed : Array Bool) (ws : List Nat) (m0 : Mem) (st : St) : T (Ex × St) := match Region.ready .any ops listed with
  | [] => .ret (.nor, st)
  | i :: is => match fuel with
    | 0 => .bad
    | fuel + 1 => match pickFree g m0 st.tm ops listed (i :: is) with
      | some j => anyTake P r g ops fuel listed ws m0 st j
      | none => match is with
        | [] => anyOne P r g ops fuel listed ws m0 st i
        | _ :: _ => match dpAll P r g ops m0 st.mem.next (fuel + 2) [⟨listed, st, []⟩] with
          | some st' => .ret (.nor, st')
          | none => .bad
def rec0 : Rec := ⟨fun _ _ _ _ => .bad, fun _ _ _ => .bad, fun _ _ _ _ => .bad, fun _ _ _ _ _ => .bad, fun _ _ _ _ _ _ _ => .bad⟩
def machine (P : Program) (H : Hook) (k : Nat) : Rec := Nat.rec (motive := fun _ => Rec) rec0 (fun _ r => ⟨stepCall P H r, stepCode P r, stepList P r, stepDraw P r, stepAny P r⟩) k
def xcallH (P : Program) (H : Hook) (k : Nat) (g : G) (f : FuncId) (args : List V) (m : Mem) : T (Fin × Mem) := (machine P H k).call g f args m
def xcall (P : Program) (k : Nat) (g : G) (f : FuncId) (args : List V) (m : Mem) : T (Fin × Mem) := (machine P noH k).call g f args m

/-- what a law comes to: true; no; a test that is not written out; one of two -/
inductive Sk where
  | ok
  | no
  | dyn (b : B)
  | br (b : B) (t e : Sk)
  | alt (t e : Sk)
def Sk.holds (ρ : Nat → Int) : Sk → Prop
  | .ok => True
  | .no => False
  | .dyn b => b.val ρ = true
  | .br b t e => (b.val ρ = true → t.holds ρ) ∧ (b.val ρ = false → e.holds ρ)
  | .alt t e => t.holds ρ ∧ e.holds ρ
def Sk.mk (b : B) (t e : Sk) : Sk := match t, e with
  | .ok, .ok => .ok
  | t, e => .br b t e
def Sk.both (t e : Sk) : Sk := match t, e with
  | .ok, .ok => .ok
  | t, e => .alt t e
def skel : T (Fin × Mem) → Sk
  | .ret (.ret (.bool (.s true)), _) => .ok
  | .ret (.ret (.bool (.d b)), _) => .dyn b
  | .ret _ => .no
  | .br b t e => Sk.mk b (skel t) (skel e)
  | .alt t e => Sk.both (skel t) (skel e)
  | .bad => .no

/-- the same, written out -/
def Sk.out (f : Sk → Sk) : Sk → Sk
  | .ok => f .ok
  | .no => f .no
  | .dyn b => f (.dyn b)
  | .br b t e => f (.br b t e)
  | .alt t e => f (.alt t e)
def Sk.force : Sk → Sk
  | .ok => .ok
  | .no => .no
  | .dyn b => .dyn b
  | .br b t e => Sk.out (fun t' => Sk.out (fun e' => .br b t' e') (Sk.force e)) (Sk.force t)
  | .alt t e => Sk.out (fun t' => Sk.out (fun e' => .alt t' e') (Sk.force e)) (Sk.force t)

mutual
def vbeq : V → V → Bool
  | .bool a, .bool b => a.beq b
  | .int j a, .int k b => Nat.beq (kindNo j) (kindNo k) && a.beq b
  | .str a, .str b => baEq a b
  | .nilp, .nilp => true
  | .nils, .nils => true
  | .nili, .nili => true
  | .agg cs, .agg ds => vbeqs cs ds
  | .tup cs, .tup ds => vbeqs cs ds
  | _, _ => false
def vbeqs : List V → List V → Bool
  | [], [] => true
  | x :: l, y :: k => vbeq x y && vbeqs l k
  | _, _ => false
end
/-- a call of which it is known what it returns; does it ask the variables? -/
structure HE where
  f : Nat
  asks : Bool
  args : List V
  v : V
def litsAre (k : IntKind) : List V → List Int → Bool
  | [], [] => true
  | .int j (.s a) :: l, b :: r => Nat.beq (kindNo j) (kindNo k) && eqI a b && litsAre k l r
  | _, _ => false
def globsB (m : Mem) (ng : Nat) : List (Nat × IntKind × List Int) → Bool
  | [] => true
  | x :: l => Nat.blt x.1 ng && (match m.blks.get x.1 with
    | some (.cells _ n cs) => Nat.beq n x.2.2.length && (match cs.getN 0 n with
      | some vs => litsAre x.2.1 vs x.2.2
      | none => false)
    | _ => false) && globsB m ng l
def hookT (gl : List (Nat × IntKind × List Int)) (g : G) (f : FuncId) (args : List V) (m : Mem) : List HE → Option (T (Fin × Mem))
  | [] => none
  | h :: l => match Nat.beq h.f f with
    | false => hookT gl g f args m l
    | true => match vbeqs h.args args with
      | false => hookT gl g f args m l
      | true => match h.asks with
        | false => some (.ret (.ret h.v, m))
        | true => match globsB m g.ng gl with
          | true => some (.ret (.ret h.v, m))
          | false => none
def hookL (gl : List (Nat × IntKind × List Int)) (tab : List HE) : Hook := fun g f args m => hookT gl g f args m tab
def isRet (v : V) : Fin × Mem → Bool
  | (.ret u, _) => vbeq v u
  | _ => false
def mem0 : Mem := ⟨PT.full none 14, 0, 0⟩
/-- the variables that are known: their numbers, what they hold -/
def gTab : List (Nat × IntKind × List Int) → PT Blk
  | [] => PT.full none 14
  | (g, k, ns) :: l => (gTab l).set g (.cells roT ns.length (PT.ofL 8 (ns.map fun n => .int k (.s n))))
def memG (ng : Nat) (l : List (Nat × IntKind × List Int)) : Mem := ⟨gTab l, ng, ng⟩
def isTrue : Fin × Mem → Bool
  | (.ret (.bool (.s b)), _) => b
  | _ => false
end
end Go.Proofs.Ythndnammnnallaa.Sy
