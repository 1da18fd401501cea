/- The evaluator over memory known by name: loops by an invariant, at a statement's own level. -/
import Derived.Test.YtkljleenmmeneaaGreatDoorFar
namespace Go.Proofs.YtkljleenmmeneaaGreatDoor.Sy
open Go.RowKit
noncomputable section

def lookS : List (Nat × E) → Nat → Option E
  | [], _ => none
  | (j, e) :: l, i => match Nat.beq j i with
    | true => some e
    | false => lookS l i
def E.subst (s : List (Nat × E)) : E → E
  | .v i => match lookS s i with
    | some e => e
    | none => .v i
  | .c n => .c n
  | .bin o k a b => .bin o k (a.subst s) (b.subst s)
  | .wrap k a => .wrap k (a.subst s)
  | .ld k a i => .ld k a (i.subst s)
def B.subst (s : List (Nat × E)) : B → B
  | .lt a b => .lt (a.subst s) (b.subst s)
  | .eq a b => .eq (a.subst s) (b.subst s)
  | .not b => .not (b.subst s)
  | .and a b => .and (a.subst s) (b.subst s)
def linA (k : IntKind) (s : Int) : E → List (E × Int) × Int → List (E × Int) × Int
  | .c n, (l, c) => (l, c + s * n)
  | .bin o j a b, (l, c) => match o with
    | .add => linA k s b (linA k s a (l, c))
    | .sub => linA k (-s) b (linA k s a (l, c))
    | _ => (addA (.bin o j a b) s l, c)
  | .wrap j a, (l, c) => match Nat.beq (kindNo j) (kindNo k) with
    | true => linA k s a (l, c)
    | false => (addA (.wrap j a) s l, c)
  | .v i, (l, c) => (addA (.v i) s l, c)
  | .ld k a i, (l, c) => (addA (.ld k a i) s l, c)
/-- a is less than b by so many -/
def lessX (a b : E) : Bool := match linX (-1) b (linX 1 a ([], 0)) with
  | (l, c) => noneA l && ltI c 0
def zeroA (p : Int) : List (E × Int) → Bool
  | [] => true
  | (_, n) :: l => eqI (n % p) 0 && zeroA p l
def inK (g : G) (k : IntKind) (e : E) : Bool := match rng g e with
  | some (lo, hi) => leI (kmin k) lo && leI hi (kmax k)
  | none => false
def kOf : E → Option IntKind
  | .wrap k _ => some k
  | .bin _ k _ _ => some k
  | _ => none
/-- do two numbers differ by a multiple of the kind's power of two, and lie both in its range? -/
def sameW (g : G) (k : IntKind) (a b : E) : Bool := inK g k a && inK g k b && (match linA k (-1) b (linA k 1 a ([], 0)) with
  | (l, c) => zeroA (2 ^ k.bits) l && eqI (c % 2 ^ k.bits) 0)
def sameE (g : G) (a b : E) : Bool := a.beq b || (match g.dec (.eq a b) with
  | some true => true
  | _ => match kOf a with
    | some k => sameW g k a b
    | none => match kOf b with
      | some k => sameW g k a b
      | none => false)

mutual
/-- is a value that of a template, the variables being so? its names are below nT -/
def vinst (g : G) (s : List (Nat × E)) (nT : Nat) : V → V → Bool
  | .int j a, .int k b => Nat.beq (kindNo j) (kindNo k) && sameE g (a.e.subst s) b.e
  | .bool a, .bool b => (a.b.subst s).beq b.b
  | .str a, .str b => baEq a b
  | .nilp, .nilp => true
  | .nils, .nils => true
  | .nili, .nili => true
  | .nilm, .nilm => true
  | .nilf, .nilf => true
  | .ptr b o, .ptr b' o' => Nat.beq b b' && Nat.beq o o' && Nat.blt b nT
  | .slice b o l c, .slice b' o' l' c' => Nat.beq b b' && Nat.beq o o' && Nat.beq l l' && Nat.blt b nT && (match c, c' with
    | .s n, .s n' => Nat.beq n n'
    | .row n, .row n' => Nat.beq n n'
    | _, _ => false)
  | .pel b o z i j, .pel b' o' z' i' j' => Nat.beq b b' && Nat.blt b nT && Nat.beq z z' && Nat.beq j j' && sameE g (o.subst s) o' && sameE g (i.subst s) i'
  | .sl b o l, .sl b' o' l' => Nat.beq b b' && Nat.blt b nT && sameE g (o.subst s) o' && sameE g (l.subst s) l'
  | .map b, .map b' => Nat.beq b b' && Nat.blt b nT
  | .iface t v, .iface t' v' => Nat.beq t t' && vinst g s nT v v'
  | .agg cs, .agg ds => vinsts g s nT cs ds
  | .tup cs, .tup ds => vinsts g s nT cs ds
  | _, _ => false
def vinsts (g : G) (s : List (Nat × E)) (nT : Nat) : List V → List V → Bool
  | [], [] => true
  | x :: l, y :: k => vinst g s nT x y && vinsts g s nT l k
  | _, _ => false
end
/-- cells from o on: what the template says of them -/
def cinst (f : V → V → Bool) (cs : PT V) : List (Option V) → Nat → Bool
  | [], _ => true
  | none :: l, i => cinst f cs l (i + 1)
  | some tv :: l, i => (match cs.get i with
    | some v => f tv v
    | none => false) && cinst f cs l (i + 1)
/-- a template's block: cells, or a row -/
inductive BT where
  | cells (t : TypeId) (n : Nat) (l : List (Option V))
  | row (t : TypeId) (z n : Nat) (l : List (Option V))
  | arr (o n : E) (cols : List (IntKind × Nat))
  | no
def BT.blk : BT → Option Blk
  | .cells t n l => some (.cells t n (PT.ofO 14 l))
  | .row t z n l => some (.row t z n (PT.ofO 14 l))
  | .arr o n cols => some (.arr o n cols)
  | .no => none
def binst (q : E → E → Bool) (f : V → V → Bool) : BT → Option Blk → Bool
  | .arr o n cols, some (.arr o' n' cols') => q o o' && q n n' && colsEq cols cols'
  | .cells t n l, some (.cells t' n' cs) => Nat.beq t t' && Nat.beq n n' && cinst f cs l 0
  | .row t z n l, some (.row t' z' n' cs) => Nat.beq t t' && Nat.beq z z' && Nat.beq n n' && cinst f cs l 0
  | .no, _ => true
  | _, _ => false
def bsinst (q : E → E → Bool) (f : V → V → Bool) (bs : PT Blk) : List BT → Nat → Bool
  | [], _ => true
  | b :: l, i => binst q f b (bs.get i) && bsinst q f bs l (i + 1)
/-- a template of states at a loop's head -/
structure Tp where
  n : Nat
  L : List (Option V)
  bs : List BT
  lim : Nat
def Tp.st (p : Tp) : St := ⟨p.n, ⟨PT.ofO 12 p.L, []⟩, ⟨PT.ofO 14 (p.bs.map BT.blk), p.bs.length, p.lim⟩⟩
def Tp.inst (p : Tp) (g : G) (s : List (Nat × E)) (st : St) : Bool :=
  Nat.beq p.n st.n && Nat.ble p.bs.length st.mem.next && Nat.beq p.lim st.mem.lim && Nat.ble p.L.length p.n && Nat.ble g.ng p.bs.length && (match st.tm.ds with
    | [] => true
    | _ :: _ => false) && cinst (vinst g s p.bs.length) st.tm.t p.L 0 && bsinst (fun a b => sameE g (a.subst s) b) (vinst g s p.bs.length) st.mem.blks p.bs 0

/-- where a template's value stands -/
inductive Pos where
  | slot (i : Nat)
  | cell (b i : Nat)
  | at (s i : Nat)
def Pos.get (st : St) : Pos → Option V
  | .slot i => st.tm.get i
  | .cell b i => match st.mem.blks.get b with
    | some k => k.tab.get i
    | none => none
  | .at s i => match st.tm.get s with
    | some (.ptr b _) => match st.mem.blks.get b with
      | some k => k.tab.get i
      | none => none
    | _ => none
def Pos.num (st : St) (p : Pos) : Option E := match p.get st with
  | some (.int _ n) => some n.e
  | _ => none
/-- what is said of a loop: its variables (where each stands, between what it lies), what other places hold or that it is not known, facts, what comes nearer at each round, to what -/
structure LS where
  vars : List (Pos × Int × Int)
  slots : List (Nat × Option V)
  cells : List (Nat × Nat × Option V)
  gone : List Nat
  facts : List (B × Bool)
  falls : E × E
  peel : Nat := 0
  ats : List (Nat × Nat × Option V) := []
def subOf (st : St) : List (Pos × Int × Int) → Nat → Option (List (Nat × E))
  | [], _ => some []
  | (p, _) :: l, i => match p.num st with
    | some e => match subOf st l (i + 1) with
      | some s => some ((i, e) :: s)
      | none => none
    | none => none
/-- a is at most b, by one of the tests -/
def byPc (a b : E) : List (B × Bool) → Bool
  | [] => false
  | (q, t) :: l => (match q with
    | .lt x y => match t with
      | true => match linX (-1) y (linX 1 x (linX (-1) a (linX 1 b ([], 0)))) with
        | (l, c) => noneA l && leI (-1) c
      | false => match linX 1 y (linX (-1) x (linX (-1) a (linX 1 b ([], 0)))) with
        | (l, c) => noneA l && leI 0 c
    | _ => false) || byPc a b l
def impliedB (g : G) : B → Bool → Bool
  | .lt b a, false => byPc a b g.pc
  | _, _ => false
def factsB (g : G) (s : List (Nat × E)) : List (B × Bool) → Bool
  | [] => true
  | (b, t) :: l => (match g.dec (b.subst s) with
    | some t' => Bool.rec (Bool.rec true false t') (Bool.rec false true t') t
    | none => impliedB g (b.subst s) t) && factsB g s l
def rangesB (g : G) (s : List (Nat × E)) : List (Pos × Int × Int) → Nat → Bool
  | [], _ => true
  | (_, lo, hi) :: l, i => (match lookS s i with
    | some e => match rng g e with
      | some (a, b) => leI lo a && leI b hi
      | none => false
    | none => false) && rangesB g s l (i + 1)
/-- the slots that a text writes -/
def outs : List Oper → List Nat
  | [] => []
  | o :: l => match o.dst with
    | some d => d :: outs l
    | none => outs l
def writes : Code → List Nat
  | .seq a b => writes a ++ writes b
  | .block _ c => writes c
  | .loop c => writes c
  | .cond _ a b => writes a ++ writes b
  | .region _ ops _ => outs ops.toList
  | _ => []
def lookO {α : Type} : List (Nat × α) → Nat → Option α
  | [], _ => none
  | (j, e) :: l, i => match Nat.beq j i with
    | true => some e
    | false => lookO l i
def varAt : List (Pos × Int × Int) → Nat → Nat → Option Nat
  | [], _, _ => none
  | (.slot j, _) :: l, v, i => match Nat.beq j i with
    | true => some v
    | false => varAt l (v + 1) i
  | _ :: l, v, i => varAt l (v + 1) i
def cvarAt : List (Pos × Int × Int) → Nat → Nat → Nat → Option Nat
  | [], _, _, _ => none
  | (.cell c j, _) :: l, v, b, i => match Nat.beq j i && Nat.beq c b with
    | true => some v
    | false => cvarAt l (v + 1) b i
  | _ :: l, v, b, i => cvarAt l (v + 1) b i
def reV (v : Nat) : Option V → Option V
  | some (.int k _) => some (.int k (.d (.v v)))
  | _ => none
def slotsOf (sp : LS) (N : Nat) (w : List Nat) (tm : TM) : Nat → Nat → List (Option V)
  | 0, _ => []
  | k + 1, i => (match varAt sp.vars N i with
    | some v => reV v (tm.get i)
    | none => match lookO sp.slots i with
      | some o => o
      | none => match memN i w with
        | true => none
        | false => tm.get i) :: slotsOf sp N w tm k (i + 1)
def lookC : List (Nat × Nat × Option V) → Nat → Nat → Option (Option V)
  | [], _, _ => none
  | (b, i, o) :: l, c, j => match Nat.beq b c && Nat.beq i j with
    | true => some o
    | false => lookC l c j
def cellsL (sp : LS) (N : Nat) (b : Nat) (cs : PT V) : Nat → Nat → List (Option V)
  | 0, _ => []
  | k + 1, i => (match cvarAt sp.vars N b i with
    | some v => reV v (cs.get i)
    | none => match lookC sp.cells b i with
      | some o => o
      | none => cs.get i) :: cellsL sp N b cs k (i + 1)
def blksOf (sp : LS) (N : Nat) (m : Mem) : Nat → Nat → List BT
  | 0, _ => []
  | k + 1, b => (match memN b sp.gone with
    | true => .no
    | false => match m.blks.get b with
      | some (.cells t n cs) => .cells t n (cellsL sp N b cs n 0)
      | some (.row t z n cs) => .row t z n (cellsL sp N b cs n 0)
      | some (.arr o n cols) => .arr o n cols
      | _ => .no) :: blksOf sp N m k (b + 1)
/-- places by a slot that points to them -/
def blkAt (tm : TM) (s : Nat) : Nat := match tm.get s with
  | some (.ptr b _) => b
  | _ => 0
def resVars (tm : TM) : List (Pos × Int × Int) → List (Pos × Int × Int)
  | [] => []
  | (p, r) :: l => (match p with
    | .at s i => .cell (blkAt tm s) i
    | p => p, r) :: resVars tm l
def resAts (tm : TM) : List (Nat × Nat × Option V) → List (Nat × Nat × Option V)
  | [] => []
  | (s, i, v) :: l => (blkAt tm s, i, v) :: resAts tm l
def LS.res (sp : LS) (tm : TM) : LS := { sp with vars := resVars tm sp.vars, cells := resAts tm sp.ats ++ sp.cells }
def tpOf0 (sp : LS) (N : Nat) (c : Code) (st : St) : Tp := ⟨st.n, slotsOf sp N (writes c) st.tm st.n 0, blksOf sp N st.mem st.mem.next 0, st.mem.lim⟩
def tpOf (sp : LS) (N : Nat) (c : Code) (st : St) : Tp := tpOf0 (sp.res st.tm) N c st
/-- of variables below n alone, and of rows -/
def belE (n : Nat) : E → Bool
  | .v i => Nat.blt i n || Nat.ble 1000 i
  | .c _ => true
  | .bin _ _ a b => belE n a && belE n b
  | .wrap _ a => belE n a
  | .ld _ _ i => belE n i
def belB (n : Nat) : B → Bool
  | .lt a b => belE n a && belE n b
  | .eq a b => belE n a && belE n b
  | .not b => belB n b
  | .and a b => belB n a && belB n b
def keepPc (n : Nat) : List (B × Bool) → List (B × Bool)
  | [] => []
  | (b, t) :: l => match belB n b with
    | true => (b, t) :: keepPc n l
    | false => keepPc n l
def belN (n : Nat) : DN → Bool
  | .s _ => true
  | .d e => belE n e
def belD (n : Nat) : DB → Bool
  | .s _ => true
  | .d b => belB n b
mutual
def vbelE (n : Nat) : V → Bool
  | .bool b => belD n b
  | .int _ k => belN n k
  | .sl _ o l => belE n o && belE n l
  | .pel _ o _ i _ => belE n o && belE n i
  | .func _ a c => vbelEs n a && vbelEs n c
  | .iface _ v => vbelE n v
  | .agg cs => vbelEs n cs
  | .tup cs => vbelEs n cs
  | _ => true
def vbelEs (n : Nat) : List V → Bool
  | [] => true
  | v :: l => vbelE n v && vbelEs n l
end
def ptAll (q : V → Bool) : PT V → Bool
  | .e => true
  | .n v l r => (match v with
    | some x => q x
    | none => true) && ptAll q l && ptAll q r
def noDs : List V → Bool
  | [] => true
  | _ :: _ => false
def gOf (sp : LS) (g : G) : G := ⟨g.vs ++ sp.vars.map (·.2), sp.facts ++ keepPc g.vs.length g.pc, g.hq, g.ng⟩
/-- may a state be that of a template? (and what falls is at least 0) -/
def headB (sp : LS) (N : Nat) (p : Tp) (g : G) (st : St) : Option (List (Nat × E)) := match subOf st sp.vars N with
  | some s => match Nat.ble (N + sp.vars.length) 1000 && rangesB g s sp.vars N && factsB g s sp.facts && p.inst g s st with
    | true => some s
    | false => none
  | none => none
/-- are all variables of a number below n? -/
def belowE (n : Nat) : E → Bool
  | .v i => Nat.blt i n
  | .c _ => true
  | .bin _ _ a b => belowE n a && belowE n b
  | .wrap _ a => belowE n a
  | .ld _ _ _ => false
/-- a call whose text has loops of which something is said -/
def isInl (inl : FuncId → Bool) (o : Op) : Bool := match o with
  | .call c => match c.callee with
    | .value x => match x with
      | .func f => inl f
      | _ => false
    | _ => false
  | _ => false
def anyInl (inl : FuncId → Bool) : List Oper → Bool
  | [] => false
  | o :: l => isInl inl o.op || anyInl inl l
def hasLoop (inl : FuncId → Bool) : Code → Bool
  | .seq a b => hasLoop inl a || hasLoop inl b
  | .block _ c => hasLoop inl c
  | .loop _ => true
  | .cond _ a b => hasLoop inl a || hasLoop inl b
  | .region _ ops d => !d && anyInl inl ops.toList
  | _ => false
def T.allG {α : Type} (f : G → α → Bool) : T α → G → Bool
  | .ret a, g => f g a
  | .br b t e, g => t.allG f (g.add b true) && e.allG f (g.add b false)
  | .alt t e, g => t.allG f g && e.allG f g
  | .bad, _ => false
def backB (sp : LS) (N : Nat) (p : Tp) (K : G → Ex → St → Bool) (g : G) (e : Ex) (st : St) : Bool := match e with
  | .nor => match headB sp N p g st with
    | some s => lessX (.bin .sub .i64 (sp.falls.2.subst s) (sp.falls.1.subst s)) (.bin .sub .i64 sp.falls.2 sp.falls.1) && isT (g.dec (.lt sp.falls.1 sp.falls.2))
    | none => false
  | e => K g e st
def blockK (n : Nat) (K : G → Ex → St → Bool) (g : G) (e : Ex) (st : St) : Bool := match e with
  | .exit n' => match Nat.beq n' n with
    | true => K g .nor st
    | false => K g (.exit n') st
  | e => K g e st
abbrev Cl := G → FuncId → List V → Mem → (G → V → Mem → Bool) → Bool
def norK (L : G → St → Bool) (K : G → Ex → St → Bool) (g : G) (e : Ex) (st : St) : Bool := match e with
  | .nor => L g st
  | e => K g e st
/-- operations, one behind the other; calls whose text has loops -/
def topL (r : Rec) (P : Program) (cl : Cl) (inl : FuncId → Bool) (ops : List Oper) : List Oper → G → St → (G → Ex → St → Bool) → Bool
  | [], g, st, K => K g .nor st
  | o :: rest, g, st, K => match isInl inl o.op with
    | false => (r.list g ops [o] st).allG (fun g x => norK (fun g st => topL r P cl inl ops rest g st K) K g x.1 x.2) g
    | true => match wantedV st.n ops st.tm o with
      | .no => topL r P cl inl ops rest g (st.res o.dst .undef) K
      | .yes => match ptAll (vbelE g.vs.length) st.tm.t && noDs st.tm.ds with
        | false => false
        | true => (xpure P g st.tm st.mem o.op).allG (fun g' x => match x with
          | .enter f args => cl g' f args st.mem fun g2 v m => topL r P cl inl ops rest g2 (st.resM o.dst v m) K
          | _ => false) g
      | _ => false
def peelT (F inv : G → St → (G → Ex → St → Bool) → Bool) : Nat → G → St → (G → Ex → St → Bool) → Bool
  | 0, g, st, K => inv g st K
  | p + 1, g, st, K => F g st (norK (fun g st => peelT F inv p g st K) K)
/-- a loop by what is said of it -/
def loopT (F : G → St → (G → Ex → St → Bool) → Bool) (sp : LS) (c : Code) (g : G) (st : St) (K : G → Ex → St → Bool) : Bool := match headB sp g.vs.length (tpOf sp g.vs.length c st) g st with
  | none => false
  | some _ => belowE (g.vs.length + sp.vars.length) sp.falls.1 && belowE (g.vs.length + sp.vars.length) sp.falls.2 && F (gOf sp g) (tpOf sp g.vs.length c st).st (backB sp g.vs.length (tpOf sp g.vs.length c st) K)
/-- a text, with loops by what is said of them (by the number of the block around each) -/
def top (r : Rec) (P : Program) (cl : Cl) (inl : FuncId → Bool) (spec : Nat → Option LS) : Code → Nat → G → St → (G → Ex → St → Bool) → Bool
  | .seq a b, i, g, st, K => match hasLoop inl (.seq a b) with
    | false => (r.code g (.seq a b) st).allG (fun g x => K g x.1 x.2) g
    | true => top r P cl inl spec a i g st (norK (fun g st => top r P cl inl spec b i g st K) K)
  | .block n c, i, g, st, K => match hasLoop inl c with
    | false => (r.code g (.block n c) st).allG (fun g x => K g x.1 x.2) g
    | true => top r P cl inl spec c n g st (blockK n K)
  | .loop c, i, g, st, K => match spec i with
    | none => (r.code g (.loop c) st).allG (fun g x => K g x.1 x.2) g
    | some sp => peelT (fun g st K => top r P cl inl spec c i g st K) (fun g st K => loopT (fun g st K => top r P cl inl spec c i g st K) sp c g st K) sp.peel g st K
  | .cond x a b, i, g, st, K => match hasLoop inl (.cond x a b) with
    | false => (r.code g (.cond x a b) st).allG (fun g x => K g x.1 x.2) g
    | true => match ev g.ng st.tm x with
      | some (.bool (.s true)) => top r P cl inl spec a i g st K
      | some (.bool (.s false)) => top r P cl inl spec b i g st K
      | some (.bool (.d p)) => match x with
        | .tmp t => match g.dec p with
          | some true => top r P cl inl spec a i g (refine st t true) K
          | some false => top r P cl inl spec b i g (refine st t false) K
          | none => top r P cl inl spec a i (g.add p true) (refine st t true) K && top r P cl inl spec b i (g.add p false) (refine st t false) K
        | _ => false
      | _ => false
  | .region id ops d, _, g, st, K => match hasLoop inl (.region id ops d) with
    | false => (r.code g (.region id ops d) st).allG (fun g x => K g x.1 x.2) g
    | true => topL r P cl inl ops.toList ops.toList g st K
  | c, _, g, st, K => (r.code g c st).allG (fun g x => K g x.1 x.2) g
def finK (P : Program) (fn : Func) (K : G → V → Mem → Bool) (g : G) (e : Ex) (st : St) : Bool := match e with
  | .pan _ => false
  | .exit _ => false
  | _ => match st.tm.ds with
    | [] => match resultV P fn st.tm st.mem with
      | some v => K g v st.mem
      | none => false
    | _ :: _ => false
/-- a call, the calls in it so deep -/
def topD (P : Program) (H : Hook) (k : Nat) (specs : FuncId → Option (Nat → Option LS)) : Nat → Cl
  | 0 => fun _ _ _ _ _ => false
  | d + 1 => fun g f args m K => match specs f with
    | none => false
    | some spec => match fn? P f with
      | none => false
      | some fn => match fn.body with
        | none => false
        | some c => forceN (max args.length fn.ntmps) fun n => top (machine P H k) P (topD P H k specs d) (fun f => (specs f).isSome) spec c 0 g ⟨n, initTm n tm0 0 args, m⟩ (finK P fn K)
def isTrueV (_ : G) (v : V) (_ : Mem) : Bool := match v with
  | .bool (.s b) => b
  | _ => false
def topCall (P : Program) (H : Hook) (k d : Nat) (specs : FuncId → Option (Nat → Option LS)) (g : G) (f : FuncId) (args : List V) (m : Mem) : Bool := topD P H k specs d g f args m isTrueV
end
end Go.Proofs.YtkljleenmmeneaaGreatDoor.Sy
