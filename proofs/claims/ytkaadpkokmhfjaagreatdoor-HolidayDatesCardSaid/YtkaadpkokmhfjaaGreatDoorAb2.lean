/-
  THE ENGINE, PART 2: from the model's code to the evaluator's: 'lowerCode', and what a region that draws its order must fulfil.
-/
import Derived.Test.YtkaadpkokmhfjaaGreatDoorAb1
namespace Go.Ab

def valS : Value → Option AV
  | .bool b => some (.bool b)
  | .int k n => some (.int k n)
  | .string s => some (.str s.data.toList)
  | .pointer none => some .nilPtr
  | .slice none 0 0 => some .nilSl
  | .map none => some .nilMap
  | .nilFunc => some .nilFn
  | .nilIface => some .nilIface
  | _ => none
def valsS : List Value → Option (List AV)
  | [] => some []
  | v :: r => match valS v, valsS r with
    | some a, some l => some (a :: l)
    | _, _ => none
def valA : Value → Option AV
  | .agg cs => (valsS cs.toList).map .agg
  | .tuple vs => if vs.isEmpty then some (.tup []) else none
  | v => valS v

def opdA : Operand → Option AX
  | .tmp t => some (.t t)
  | .const v => (valA v).map .c
  | .global g => some (.g g)
  | .func f => some (.f f)
def opdsA : List Operand → Option (List AX)
  | [] => some []
  | x :: r => match opdA x, opdsA r with
    | some a, some l => some (a :: l)
    | _, _ => none
def opdO : Option Operand → Option (Option AX)
  | none => some none
  | some x => (opdA x).map some

def isAggT (P : Program) (t : TypeId) : Option Bool := (P.underlying t).map fun d => match d with | .struct _ | .array _ _ => true | _ => false
def sizeT (P : Program) (t : TypeId) : Option Nat := (P.info? t).map (·.size)
def zeroT (P : Program) (t : TypeId) : Option AV := ((P.info? t).bind (·.zero)).bind valA
def cellsV : AV → List AV
  | .agg cs => cs
  | v => [v]

/-- Structs whose values are compared cell by cell: the kinds of the cells. -/
def flatFs (P : Program) (flat : TypeId → Option (List Nat)) : List Field → Nat → Option (List Nat)
  | [], _ => some []
  | f :: r, off => if f.name ≠ "_" ∧ f.offset = off then (match flat f.type with
    | some ks => if sizeT P f.type = some ks.length then (flatFs P flat r (off + ks.length)).map (ks ++ ·) else none
    | none => none) else none
def flatN (P : Program) : Nat → TypeId → Option (List Nat)
  | 0, _ => none
  | d + 1, t => match P.underlying t with
    | some .bool => some [0]
    | some (.int _) => some [1]
    | some .string => some [2]
    | some (.struct fs) => if P.stoodInHeld t then none else flatFs P (flatN P d) fs.toList 0
    | _ => none

def etyOf (P : Program) (t : TypeId) : Option ETy :=
  match P.underlying t with
  | some .bool => some .bool
  | some (.pointer _) => some .ptr
  | some (.slice _) => some .slice
  | some (.map _ _) => some .map
  | some (.func _ _ _) => some .func
  | some (.interface _) => some .iface
  | some (.struct _) =>
    if P.eqGuardType P.depth t then none else (flatN P 20 t).map .flat
  | _ => none

def partsA (place : Nat → Option (Nat × Nat)) : List (Nat × Operand) → Option (List (Nat × Nat × AX))
  | [] => some []
  | (i, x) :: r => match place i, opdA x, partsA place r with
    | some (off, sz), some a, some l => some ((off, sz, a) :: l)
    | _, _, _ => none

def repL : Nat → List AV → List AV
  | 0, _ => []
  | n + 1, l => l ++ repL n l

def basicKey (P : Program) (k : TypeId) : Option Bool :=
  match P.underlying k with
  | some (.int _) => some false
  | some .string => some true
  | _ => none

def lowerBi (P : Program) (b : Builtin) (ts : Array TypeId) : Option ABi :=
  match b with
  | .len => match (ts[0]?).bind P.underlying with
    | some (.array n _) => some (.lenArr n)
    | some (.pointer a) => match P.underlying a with
      | some (.array n _) => some (.lenArr n)
      | _ => none
    | some .string => some (.len 0)
    | some (.slice _) => some (.len 1)
    | some (.map _ _) => some (.len 2)
    | _ => none
  | .min => some .min
  | .max => some .max
  | .append => match ts.toList with
    | [t0, t1] => match P.underlying t0, P.underlying t1 with
      | some (.slice e), some (.slice _) | some (.slice e), some .string => match P.info? e, zeroT P e with
        | some i, some z => if i.size = 0 ∨ (cellsV z).length ≠ i.size then none else some (.append i.size i.bytes)
        | _, _ => none
      | _, _ => none
    | _ => none
  | .clear => match (ts[0]?).bind P.underlying with
    | some (.slice e) => match sizeT P e, zeroT P e with
      | some s, some z => if s = 0 ∨ (cellsV z).length ≠ s then none else some (.clear (cellsV z))
      | _, _ => none
    | _ => none
  | .copy => match (ts[0]?).bind P.underlying with
    | some (.slice e) => (sizeT P e).bind fun s => if s = 0 then none else some (.copy s)
    | _ => none
  | _ => none

def lowerOp (P : Program) (o : Oper) : Option AO :=
  match o.op with
  | .move x | .assign x => (opdA x).map .mv
  | .pick c a b => match opdA c, opdA a, opdA b with
    | some c, some a, some b => some (.pick c a b)
    | _, _, _ => none
  | .alloc t => (zeroT P t).map fun z => .new (cellsV z)
  | .box _ x => (opdA x).map .box
  | .build t parts => match zeroT P t, P.underlying t with
    | some (.agg z), some (.struct fs) => match fs.toList.mapM (fun f => (P.info? f.type).map fun i => (f.offset, i.size)) with
      | some places => (partsA (fun i => places[i]?) parts.toList).map (.build z ·)
      | none => none
    | some (.agg z), some (.array _ e) => match sizeT P e with
      | some s => (partsA (fun i => some (i * s, s)) parts.toList).map (.build z ·)
      | none => none
    | _, _ => none
  | .buildSlice t len parts => match P.underlying t with
    | some (.slice e) => match sizeT P e, zeroT P e with
      | some s, some z => if s = 0 ∨ len * s > 100000 ∨ (cellsV z).length ≠ s then none else (partsA (fun i => some (i * s, s)) parts.toList).map fun ps => .bslice (repL len (cellsV z)) ps len s
      | _, _ => none
    | _ => none
  | .load t a => match isAggT P t, sizeT P t, opdA a with
    | some g, some s, some a => some (.load g s a)
    | _, _, _ => none
  | .store t a x => match sizeT P t, opdA a, opdA x with
    | some s, some a, some x => some (.store s a x)
    | _, _, _ => none
  | .nilCheck x => (opdA x).map .nilck
  | .binOp op t x y _ => match P.underlying t, opdA x, opdA y with
    | some (.int _), some x, some y | some .string, some x, some y => some (.bin op x y)
    | some _, some x, some y => match op with
      | .eql => (etyOf P t).map fun e => .eq false e x y
      | .neq => (etyOf P t).map fun e => .eq true e x y
      | _ => none
    | _, _, _ => none
  | .unOp op _ x => (opdA x).map (.un op)
  | .convert s d x => match P.underlying s, P.underlying d, opdA x with
    | some (.int _), some (.int k), some x => some (.conv (.int k) x)
    | some .string, some .string, some x => some (.conv .str x)
    | some .string, some (.slice e), some x => match P.underlying e with
      | some (.int .u8) => some (.conv .s2b x)
      | _ => none
    | some (.slice e), some .string, some x => match P.underlying e with
      | some (.int .u8) => some (.conv .b2s x)
      | _ => none
    | _, _, _ => none
  | .makeInterface t x => match P.underlying t, opdA x with
    | some (.interface _), _ => none
    | some _, some x => some (.mkif t x)
    | _, _ => none
  | .typeAssert x _ t ok => match P.underlying t, zeroT P t, opdA x with
    | some (.interface _), _, _ => none
    | some _, some z, some x => some (.tassert t ok z x)
    | _, _, _ => none
  | .makeFunc (.func f) first captured => match opdsA first.toList, opdsA captured.toList with
    | some a, some b => some (.mkfn f a b)
    | _, _ => none
  | .makeMap _ none => some .mkmap
  | .lookup t m k ok => match P.underlying t with
    | some (.map kt e) => match basicKey P kt, zeroT P e, opdA m, opdA k with
      | some b, some z, some m, some k => some (.lookup b z ok m k)
      | _, _, _, _ => none
    | _ => none
  | .mapUpdate t m k v | .insert t m k v => match P.underlying t with
    | some (.map kt _) => match basicKey P kt, opdA m, opdA k, opdA v with
      | some b, some m, some k, some v => some (.mapset b m k v)
      | _, _, _, _ => none
    | _ => none
  | .makeSlice t l c => match P.underlying t with
    | some (.slice e) => match P.info? e, zeroT P e, opdA l, opdA c with
      | some i, some z, some l, some c => if i.size = 0 ∨ (cellsV z).length ≠ i.size then none else some (.mkslice (cellsV z) i.bytes l c)
      | _, _, _, _ => none
    | _ => none
  | .slice t x lo hi mx => match P.underlying t, opdA x, opdO lo, opdO hi, opdO mx with
    | some .string, some x, some lo, some hi, some none => some (.slice .str x lo hi none)
    | some (.slice e), some x, some lo, some hi, some mx => (sizeT P e).map fun s => .slice (.slice s) x lo hi mx
    | some (.array n e), some x, some lo, some hi, some none => (sizeT P e).map fun s => .slice (.arr n s) x lo hi none
    | _, _, _, _, _ => none
  | .fieldAddr s x f => match P.underlying s with
    | some (.struct fs) => match fs[f]? with
      | some f => match sizeT P f.type, opdA x with
        | some s, some x => if s = 0 then none else some (.fldaddr f.offset x)
        | _, _ => none
      | none => none
    | _ => none
  | .field t x f => match P.underlying t with
    | some (.struct fs) => match fs[f]? with
      | some f => match isAggT P f.type, sizeT P f.type, opdA x with
        | some g, some s, some x => some (.fld g f.offset s x)
        | _, _, _ => none
      | none => none
    | _ => none
  | .indexAddr t x i => match P.underlying t, opdA x, opdA i with
    | some (.array n e), some x, some i => (sizeT P e).map fun s => .idxaddr (some n) s x i
    | some (.slice e), some x, some i => (sizeT P e).bind fun s => if s = 0 then none else some (.idxaddr none s x i)
    | _, _, _ => none
  | .index t x i => match P.underlying t, opdA x, opdA i with
    | some (.array n e), some x, some i => match isAggT P e, sizeT P e with
      | some g, some s => some (.idx n g s x i)
      | _, _ => none
    | some .string, some x, some i => some (.sidx x i)
    | _, _, _ => none
  | .extract x i => (opdA x).map (.ext i)
  | .call c => match opdsA c.args.toList with
    | none => none
    | some args => match c.callee with
      | .value f => (opdA f).map fun f => .call f args
      | .invoke r m => (opdA r).map fun r => .invoke m r args
      | .builtin b => (lowerBi P b c.argTypes).map fun b => .bi b args
  | _ => none

/-! Regions that draw their order -/
def AX.slots : AX → List Nat
  | .t n => [n]
  | _ => []
def slotsOf (l : List AX) : List Nat := l.flatMap AX.slots
def AO.opds : AO → List AX
  | .mv x | .box x | .load _ _ x | .nilck x | .un _ x | .conv _ x | .mkif _ x | .tassert _ _ _ x | .fldaddr _ x | .fld _ _ _ x | .ext _ x => [x]
  | .pick a b c => [a, b, c]
  | .new _ | .mkmap => []
  | .build _ ps | .bslice _ ps _ _ => ps.map fun p => p.2.2
  | .store _ a b | .bin _ a b | .eq _ _ a b | .lookup _ _ _ a b | .mkslice _ _ a b | .idxaddr _ _ a b | .idx _ _ _ a b | .sidx a b => [a, b]
  | .mkfn _ a b => a ++ b
  | .mapset _ a b c => [a, b, c]
  | .slice _ x a b c => [x] ++ a.toList ++ b.toList ++ c.toList
  | .bi _ l => l
  | .call f l => f :: l
  | .invoke _ x l => x :: l
def AOp.reads (o : AOp) : List Nat := slotsOf o.op.opds ++ (o.grd.map (·.1)).toList
/-- Neither reads nor changes the heap. -/
def AO.pure : AO → Bool
  | .mv _ | .pick .. | .build .. | .bin .. | .eq .. | .un .. | .conv (.int _) _ | .conv .str _ | .mkif .. | .tassert .. | .mkfn .. | .fldaddr .. | .fld .. | .idxaddr .. | .idx .. | .sidx .. | .ext .. | .nilck _ => true
  | .bi (.lenArr _) _ | .bi .min _ | .bi .max _ => true
  | _ => false
def AOp.quiet (o : AOp) : Bool := o.op.reading || (o.q && (match o.op with | .call .. | .invoke .. => true | _ => false))

def pairOk (chk : List (Nat × Nat)) (bj : Nat) (i j : Nat) (a b : AOp) : Bool :=
  bj.testBit i ||
  ((a.op.pure || b.op.pure || (a.quiet && b.quiet) || ((a.op.reading || b.op.reading) && chk.contains (i, j))) &&
   (match a.dst with | some d => !b.reads.contains d && b.dst != some d | none => true) &&
   (match b.dst with | some d => !a.reads.contains d | none => true))

def pairsOk (chk : List (Nat × Nat)) (bj : Nat) (j : Nat) (b : AOp) : Nat → List AOp → Bool
  | _, [] => true
  | i, a :: r => pairOk chk bj i j a b && pairsOk chk bj j b (i + 1) r

def drawOkFrom (chk : List (Nat × Nat)) (bf : List Nat) (all : List AOp) : Nat → List AOp → Bool
  | _, [] => true
  | j, b :: r => pairsOk chk (bf.getD j 0) j b 0 (all.take j) && drawOkFrom chk bf all (j + 1) r

def edgesDown : Nat → List Oper → Bool
  | _, [] => true
  | i, o :: r => o.after.all (fun e => !Region.binds .any e || decide (e.on < i)) && edgesDown (i + 1) r

def drawOk (chk : List (Nat × Nat)) (ops : Array Oper) (l : List AOp) : Bool := edgesDown 0 ops.toList && drawOkFrom chk (Region.before ops).toList l 0 l

/-! Code -/
def noRF : ACode → Bool
  | .seq a b | .cond _ a b => noRF a && noRF b
  | .block _ a | .scope a | .loop _ a => noRF a
  | .rangeFunc .. => false
  | _ => true

def lowerAOp (P : Program) (nt : Nat) (ops : Array Oper) (o : Oper) (like : AOp) : Option AOp :=
  match lowerOp P o with
  | none => none
  | some a =>
    let grd : Option (Option (Nat × Bool)) := match o.guard with
      | none => some none
      | some (j, w) => match (ops[j]?).bind (·.dst) with
        | some d => some (some (d, w))
        | none => none
    match grd with
    | none => none
    | some g => if (match o.dst with | some d => decide (d < nt) | none => true) then some { dst := o.dst, grd := g, q := like.q, op := a } else none

def lowerOps (P : Program) (nt : Nat) (ops : Array Oper) : List Oper → List AOp → Option (List AOp)
  | [], [] => some []
  | o :: r, a :: s => match lowerAOp P nt ops o a, lowerOps P nt ops r s with
    | some x, some l => some (x :: l)
    | _, _ => none
  | _, _ => none

def lowerCode (P : Program) (nt : Nat) : Code → ACode → Option ACode
  | .skip, .skip => some .skip
  | .ret, .ret => some .ret
  | .exit i, .exit _ => some (.exit i)
  | .seq a b, .seq x y => match lowerCode P nt a x, lowerCode P nt b y with
    | some x, some y => some (.seq x y)
    | _, _ => none
  | .cond c a b, .cond _ x y => match opdA c, lowerCode P nt a x, lowerCode P nt b y with
    | some c, some x, some y => some (.cond c x y)
    | _, _, _ => none
  | .block i a, .block _ x => (lowerCode P nt a x).map (.block i)
  | .label _, .skip => some .skip
  | .scope a, .scope x => (lowerCode P nt a x).map .scope
  | .loop a, .loop live x => (lowerCode P nt a x).map (.loop live)
  | .region _ ops d, .region _ keep chk l => match lowerOps P nt ops ops.toList l with
    | some l => if d && !drawOk chk ops l then none else some (.region d keep chk l)
    | none => none
  | .rangeFunc f ps a b, .rangeFunc _ _ x y => match opdA f, lowerCode P nt a x, lowerCode P nt b y with
    | some f, some x, some y => if ps.all (· < nt) && noRF x && noRF y then some (.rangeFunc f ps.toList x y) else none
    | _, _, _ => none
  | _, _ => none

def lowerRes (P : Program) : List ResultVar → Option (List ARes)
  | [] => some []
  | .tmp t :: r => (lowerRes P r).map (.tmp t :: ·)
  | .cell a t :: r => match isAggT P t, sizeT P t, lowerRes P r with
    | some g, some s, some l => some (.cell a g s :: l)
    | _, _, _ => none

/-- The evaluator's function is the program's. -/
def funOk (P : Program) (k : Nat) (f : AFun) : Prop :=
  ∃ fn c, P.funcs[k]? = some fn ∧ fn.body = some c ∧ (fn.name == "runtime.NumGoroutine") = false ∧ fn.ntmps = f.nt ∧
    lowerRes P fn.results.toList = some f.res ∧ lowerCode P f.nt c f.body = some f.body

end Go.Ab
