/-
  THE ENGINE, PART 1: an abstract evaluator of the model's code: definitions.
  Values without real addresses: live blocks have names, immutable slices are lists of cells.
-/
import Derived.OrdersIn
import Derived.RangeFuncLeaves
namespace Go.Ab

/-- Abstract values. 'bad': nothing is known. -/
inductive AV where
  | bool (b : Bool)
  | int (k : IntKind) (n : Int)
  | str (s : List UInt8)
  | ptr (b off : Nat)
  | cptr (cells : List AV)
  | gptr (g off : Nat)
  | nilPtr
  | sl (b off len cap sz : Nat)
  | sl0
  | nilSl
  | lst (cells : List AV) (len : Nat)
  | map (b : Nat)
  | nilMap
  | fn (f : Nat) (first captured : List AV)
  | yl (l : Nat)
  | nilFn
  | iface (t : TypeId) (v : AV)
  | nilIface
  | agg (cells : List AV)
  | tup (vs : List AV)
  | bad
  deriving Inhabited

inductive AX where
  | t (n : Nat)
  | c (v : AV)
  | g (g : Nat)
  | f (k : Nat)
  deriving Inhabited

abbrev Env := List (Nat × AV)
def Env.get : Env → Nat → AV
  | [], _ => .bad
  | (k, v) :: r, t => if k = t then v else Env.get r t
def Env.set : Env → Nat → AV → Env
  | [], t, v => [(t, v)]
  | (k, u) :: r, t, v => if k = t then (k, v) :: r else (k, u) :: Env.set r t v
def Env.mask (E : Env) (live : List Nat) : Env := live.map fun t => (t, E.get t)

def AX.ev (E : Env) : AX → AV
  | .t n => E.get n
  | .c v => v
  | .g i => .gptr i 0
  | .f k => .fn k [] []

/-- How two values of a type are compared. -/
inductive ETy where
  | bool | ptr | slice | map | func | iface | flat (ks : List Nat)
  deriving Inhabited

inductive ACv where
  | int (k : IntKind) | str | s2b | b2s
  deriving Inhabited

inductive ASl where
  | str | slice (sz : Nat) | arr (n sz : Nat)
  deriving Inhabited

inductive ABi where
  | len (k : Nat) | lenArr (n : Nat) | min | max | append (sz bytes : Nat) | copy (sz : Nat) | clear (zero : List AV)
  deriving Inhabited

inductive AO where
  | mv (x : AX)
  | pick (c a b : AX)
  | new (cells : List AV)
  | box (x : AX)
  | build (zero : List AV) (parts : List (Nat × Nat × AX))
  | bslice (zero : List AV) (parts : List (Nat × Nat × AX)) (len sz : Nat)
  | load (agg : Bool) (sz : Nat) (a : AX)
  | store (sz : Nat) (a x : AX)
  | nilck (x : AX)
  | bin (op : BinOp) (x y : AX)
  | eq (neg : Bool) (t : ETy) (x y : AX)
  | un (op : UnOp) (x : AX)
  | conv (k : ACv) (x : AX)
  | mkif (t : TypeId) (x : AX)
  | tassert (t : TypeId) (ok : Bool) (zero : AV) (x : AX)
  | mkfn (f : Nat) (first captured : List AX)
  | mkmap
  | lookup (str : Bool) (zero : AV) (ok : Bool) (m k : AX)
  | mapset (str : Bool) (m k v : AX)
  | mkslice (zero : List AV) (bytes : Nat) (l c : AX)
  | slice (k : ASl) (x : AX) (lo hi mx : Option AX)
  | fldaddr (off : Nat) (x : AX)
  | fld (agg : Bool) (off sz : Nat) (x : AX)
  | idxaddr (n : Option Nat) (sz : Nat) (x i : AX)
  | idx (n : Nat) (agg : Bool) (sz : Nat) (x i : AX)
  | sidx (x i : AX)
  | ext (i : Nat) (x : AX)
  | bi (b : ABi) (args : List AX)
  | call (f : AX) (args : List AX)
  | invoke (m : String) (x : AX) (args : List AX)
  deriving Inhabited

structure AOp where
  dst : Option Nat
  grd : Option (Nat × Bool)
  q : Bool
  op : AO
  deriving Inhabited

inductive ACode where
  | skip
  | ret
  | exit (id : Nat)
  | seq (a b : ACode)
  | cond (c : AX) (a b : ACode)
  | block (id : Nat) (a : ACode)
  | scope (a : ACode)
  | loop (live : List Nat) (a : ACode)
  | region (draw : Bool) (keep : List Nat) (chk : List (Nat × Nat)) (ops : List AOp)
  | rangeFunc (f : AX) (params : List Nat) (assign body : ACode)
  deriving Inhabited

inductive ARes where
  | tmp (t : Nat)
  | cell (a : Nat) (agg : Bool) (sz : Nat)
  deriving Inhabited

structure AFun where
  nt : Nat
  frz : Bool
  res : List ARes
  body : ACode
  deriving Inhabited

inductive AExit where
  | normal | ret | exit (id : Nat)
  deriving Inhabited

inductive AB where
  | cells (c : List AV)
  | map (es : List (AV × AV))
  | loop (E : Env) (params : List Nat) (assign body : ACode) (st : LoopState) (pend : AExit)
  | dead
  deriving Inhabited

abbrev AHeap := List (Nat × AB)
def look : AHeap → Nat → AB
  | [], _ => .dead
  | (k, o) :: r, b => if k = b then o else look r b
def upd : AHeap → Nat → AB → AHeap
  | [], _, _ => []
  | (k, o) :: r, b, o' => if k = b then (k, o') :: r else (k, o) :: upd r b o'

/-- Live blocks; the next name; the least name written; the least name into which a value with names was written. -/
structure AS where
  heap : AHeap
  next : Nat
  wm : Nat
  nm : Nat
  deriving Inhabited

structure AProg where
  fn : Nat → Option AFun
  ext : Nat → Option (List AV → AS → Option (AV × AS × Bool))
  glob : Nat → Option (List AV)
  meth : List (TypeId × String × Nat)

def AS.alloc (S : AS) (o : AB) : AS := { S with heap := (S.next, o) :: S.heap, next := S.next + 1 }

mutual
def noName : AV → Bool
  | .ptr _ _ | .sl _ _ _ _ _ | .map _ | .yl _ => false
  | .fn _ a b => noNames a && noNames b
  | .iface _ v => noName v
  | .agg cs => noNames cs
  | .tup vs => noNames vs
  | .bad => false
  | _ => true
def noNames : List AV → Bool
  | [] => true
  | v :: r => noName v && noNames r
end

/-- The value of one cell: no aggregate, no tuple, not unknown. -/
def AV.isCell : AV → Bool
  | .agg _ | .tup _ | .bad => false
  | _ => true
def allCells : List AV → Bool
  | [] => true
  | v :: r => v.isCell && allCells r

def AV.cells? : AV → Option (List AV)
  | .agg cs => if allCells cs then some cs else none
  | .tup _ | .bad => none
  | v => some [v]

/-- A part of a row of cells. -/
def apart (agg : Bool) (off sz : Nat) (cs : List AV) : Option AV :=
  if agg then (if off + sz ≤ cs.length then some (.agg ((cs.drop off).take sz)) else none)
  else cs[off]?

def putAt (cs : List AV) (off : Nat) (new : List AV) : List AV := cs.take off ++ new ++ cs.drop (off + new.length)

def fillA (E : Env) : List AV → List (Nat × Nat × AX) → Option (List AV)
  | cs, [] => some cs
  | cs, (off, sz, x) :: r =>
    match (x.ev E).cells? with
    | some new => if new.length = sz ∧ off + sz ≤ cs.length then fillA E (putAt cs off new) r else none
    | none => none

/-- A key of an integer's or a text's type. -/
def keyOk (str : Bool) : AV → Bool
  | .int _ _ => !str
  | .str _ => str
  | _ => false
def AV.isStr : AV → Bool
  | .str _ => true
  | _ => false
def AV.known : AV → Bool
  | .bad => false
  | _ => true

/-! Numbers -/
def wrapI : IntKind → Int → Int
  | .i64, n => if -9223372036854775808 ≤ n ∧ n ≤ 9223372036854775807 then n else (n + 9223372036854775808) % 18446744073709551616 - 9223372036854775808
  | .u64, n => if 0 ≤ n ∧ n ≤ 18446744073709551615 then n else n % 18446744073709551616
  | .u8, n => if 0 ≤ n ∧ n ≤ 255 then n else n % 256
  | .i32, n => if -2147483648 ≤ n ∧ n ≤ 2147483647 then n else (n + 2147483648) % 4294967296 - 2147483648
  | .u32, n => if 0 ≤ n ∧ n ≤ 4294967295 then n else n % 4294967296
  | .u16, n => if 0 ≤ n ∧ n ≤ 65535 then n else n % 65536
  | .i16, n => if -32768 ≤ n ∧ n ≤ 32767 then n else (n + 32768) % 65536 - 32768
  | .i8, n => if -128 ≤ n ∧ n ≤ 127 then n else (n + 128) % 256 - 128

def bitsI (op : BinOp) (k : IntKind) (x y : Int) : Option AV :=
  let a := BitVec.ofInt k.bits x
  let b := BitVec.ofInt k.bits y
  match op with
  | .and => some (.int k (wrapI k (a &&& b).toNat))
  | .or => some (.int k (wrapI k (a ||| b).toNat))
  | .xor => some (.int k (wrapI k (a ^^^ b).toNat))
  | .andNot => some (.int k (wrapI k (a &&& ~~~b).toNat))
  | _ => none

def aint (op : BinOp) (k : IntKind) (a b : Int) : Option AV :=
  match op with
  | .add => some (.int k (wrapI k (a + b)))
  | .sub => some (.int k (wrapI k (a - b)))
  | .mul => some (.int k (wrapI k (a * b)))
  | .quo => if b = 0 then none else some (.int k (wrapI k (a.tdiv b)))
  | .rem => if b = 0 then none else some (.int k (a.tmod b))
  | .eql => some (.bool (a == b))
  | .neq => some (.bool (a != b))
  | .lss => some (.bool (a < b))
  | .leq => some (.bool (a ≤ b))
  | .gtr => some (.bool (a > b))
  | .geq => some (.bool (a ≥ b))
  | .shl | .shr => none
  | op => bitsI op k a b

def ashift (op : BinOp) (k : IntKind) (a b : Int) : Option AV :=
  if b < 0 then none else
  match op with
  | .shl => some (.int k (wrapI k (a * 2 ^ (min b.toNat k.bits))))
  | .shr => some (.int k (a.fdiv (2 ^ (min b.toNat k.bits))))
  | _ => none

def maxStr : Nat := 1099511627776

def astr (op : BinOp) (a b : List UInt8) : Option AV :=
  match op with
  | .add => if a.length + b.length ≤ maxStr then some (.str (a ++ b)) else none
  | .eql => some (.bool (a == b))
  | .neq => some (.bool (!(a == b)))
  | .lss => some (.bool (Op.bytesLess a b))
  | .leq => some (.bool (Op.bytesLess a b || a == b))
  | .gtr => some (.bool (!(Op.bytesLess a b || a == b)))
  | .geq => some (.bool (!Op.bytesLess a b))
  | _ => none

def abin (op : BinOp) (x y : AV) : Option AV :=
  match x, y with
  | .int k a, .int k' b =>
    match op with
    | .shl | .shr => ashift op k a b
    | _ => if k = k' then aint op k a b else none
  | .str a, .str b => astr op a b
  | _, _ => none

/-- Two scalars of one kind. -/
def eqS : AV → AV → Option Bool
  | .bool a, .bool b => some (a == b)
  | .int k a, .int k' b => if k = k' then some (a == b) else none
  | .str a, .str b => some (a == b)
  | _, _ => none
/-- Two scalars of a given kind: 0 a bool, 1 an integer, 2 a text. -/
def eq1 : Nat → AV → AV → Option Bool
  | 0, .bool a, .bool b => some (a == b)
  | 1, .int k a, .int k' b => if k = k' then some (a == b) else none
  | 2, .str a, .str b => some (a == b)
  | _, _, _ => none
def eqK : List Nat → List AV → List AV → Option Bool
  | [], [], [] => some true
  | k :: ks, a :: r, b :: s => match eq1 k a b with
    | some true => eqK ks r s
    | some false => some false
    | none => none
  | _, _, _ => none

def aeq (t : ETy) (x y : AV) : Option Bool :=
  match t, x, y with
  | .bool, .bool a, .bool b => some (a == b)
  | .flat ks, .agg a, .agg b => if a.length = ks.length ∧ b.length = ks.length then eqK ks a b else none
  | .ptr, .nilPtr, .nilPtr => some true
  | .ptr, .nilPtr, .ptr _ _ | .ptr, .ptr _ _, .nilPtr => some false
  | .slice, .nilSl, .nilSl => some true
  | .slice, .nilSl, .sl _ _ _ _ _ | .slice, .nilSl, .lst _ _ | .slice, .nilSl, .sl0 => some false
  | .slice, .sl _ _ _ _ _, .nilSl | .slice, .lst _ _, .nilSl | .slice, .sl0, .nilSl => some false
  | .map, .nilMap, .nilMap => some true
  | .map, .nilMap, .map _ | .map, .map _, .nilMap => some false
  | .func, .nilFn, .nilFn => some true
  | .func, .nilFn, .fn _ _ _ | .func, .fn _ _ _, .nilFn => some false
  | .iface, .nilIface, .iface _ _ | .iface, .iface _ _, .nilIface => some false
  | _, _, _ => none

def aun (op : UnOp) (x : AV) : Option AV :=
  match op, x with
  | .neg, .int k n => some (.int k (wrapI k (0 - n)))
  | .xor, .int k n => bitsI .xor k (if k.signed then -1 else k.max) n
  | .not, .bool b => some (.bool (!b))
  | _, _ => none

def asInt? : AV → Option Int
  | .int _ n => some n
  | _ => none

/-- An index or a bound from 0 to a number. -/
def bnd (x : AV) (hi : Nat) : Option Nat :=
  match x with
  | .int _ n => if 0 ≤ n ∧ n ≤ (hi : Int) then some n.toNat else none
  | _ => none

def bytesOf : List AV → Option (List UInt8)
  | [] => some []
  | .int .u8 n :: r => (bytesOf r).map (UInt8.ofNat n.toNat :: ·)
  | _ :: _ => none

/-- The cells of the first n elements of a slice. -/
def cellsOfSl (h : AHeap) (x : AV) (sz n : Nat) : Option (List AV) :=
  match x with
  | .nilSl | .sl0 => if n = 0 then some [] else none
  | .lst cs len => if n ≤ len ∧ n * sz ≤ cs.length then some (cs.take (n * sz)) else none
  | .sl b off len _ sz' =>
    match look h b with
    | .cells c => if n ≤ len ∧ sz' = sz ∧ off + n * sz ≤ c.length then some ((c.drop off).take (n * sz)) else none
    | _ => none
  | .str s => if n ≤ s.length ∧ sz = 1 then some ((s.take n).map fun b => .int .u8 b.toNat) else none
  | _ => none

def lenA (h : AHeap) : AV → Option Nat
  | .nilSl | .sl0 | .nilMap => some 0
  | .lst _ n => some n
  | .sl _ _ n _ _ => some n
  | .str s => some s.length
  | .map b => match look h b with
    | .map es => some es.length
    | _ => none
  | _ => none

/-- len at a type: 0 a text, 1 a slice, 2 a map. -/
def lenK (h : AHeap) : Nat → AV → Option Nat
  | 0, .str s => some s.length
  | 1, .nilSl | 1, .sl0 => some 0
  | 1, .lst _ n => some n
  | 1, .sl _ _ n _ _ => some n
  | 2, .nilMap => some 0
  | 2, .map b => match look h b with
    | .map es => some es.length
    | _ => none
  | _, _ => none

def AS.write (S : AS) (b : Nat) (o : AB) (named : Bool) : AS :=
  { S with heap := upd S.heap b o, wm := min S.wm b, nm := if named then min S.nm b else S.nm }

/-- append -/
def aappend (S : AS) (sz bytes : Nat) (s x : AV) : Option (AV × AS) := do
  let n ← lenA S.heap x
  let new ← cellsOfSl S.heap x sz n
  let sl ← lenA S.heap s
  if (sl + n) * bytes > maxStr ∨ sl + n > maxStr then none
  else if allCells new = false then none
  else match s with
  | .nilSl => if n = 0 then some (.nilSl, S) else some (.sl S.next 0 n n sz, S.alloc (.cells new))
  | .sl0 => if n = 0 then some (.sl0, S) else some (.sl S.next 0 n n sz, S.alloc (.cells new))
  | .sl b off len cap sz' =>
    if n = 0 then some (s, S) else
    match look S.heap b with
    | .cells c =>
      if sz' ≠ sz then none
      else if len + n ≤ cap then
        (if off + (len + n) * sz ≤ c.length then some (.sl b off (len + n) cap sz, S.write b (.cells (putAt c (off + len * sz) new)) (!noNames new)) else none)
      else if off + len * sz = c.length then
        some (.sl S.next 0 (len + n) (len + n) sz, (S.write b .dead false).alloc (.cells (c.drop off ++ new)))
      else none
    | _ => none
  | _ => none

def acopy (S : AS) (sz : Nat) (d s : AV) : Option (AV × AS) := do
  let n ← lenA S.heap s
  let m ← lenK S.heap 1 d
  let k := min n m
  let new ← cellsOfSl S.heap s sz k
  if allCells new = false then none
  else if k = 0 then some (.int .i64 0, S)
  else match d with
  | .sl b off len _ sz' =>
    match look S.heap b with
    | .cells c => if sz' = sz ∧ k ≤ len ∧ off + k * sz ≤ c.length then some (.int .i64 k, S.write b (.cells (putAt c off new)) (!noNames new)) else none
    | _ => none
  | _ => none

def aclear (S : AS) (zero : List AV) (d : AV) : Option (AV × AS) :=
  match d with
  | .nilSl | .sl0 => some (.tup [], S)
  | .lst _ 0 => some (.tup [], S)
  | .sl b off len _ sz =>
    if len = 0 then some (.tup [], S) else
    match look S.heap b with
    | .cells c => if zero.length = sz ∧ off + len * sz ≤ c.length ∧ allCells zero = true then some (.tup [], S.write b (.cells (putAt c off (List.replicate len zero).flatten)) (!noNames zero)) else none
    | _ => none
  | _ => none

def findA (k : AV) : List (AV × AV) → Option (Option AV)
  | [] => some none
  | (k', v) :: r => match eqS k k' with
    | some true => some (some v)
    | some false => findA k r
    | none => none
def setA (k v : AV) : List (AV × AV) → Option (List (AV × AV))
  | [] => some [(k, v)]
  | (k', v') :: r => match eqS k k' with
    | some true => some ((k, v) :: r)
    | some false => (setA k v r).map ((k', v') :: ·)
    | none => none

def ofOk (ok : Bool) (v : AV) (there : Bool) : AV := if ok then .tup [v, .bool there] else v

def aminF (k : IntKind) : Int → List AV → Option AV
  | x, [] => some (.int k x)
  | x, .int k' y :: r => if k = k' then aminF k (if y < x then y else x) r else none
  | _, _ => none
def amaxF (k : IntKind) : Int → List AV → Option AV
  | x, [] => some (.int k x)
  | x, .int k' y :: r => if k = k' then amaxF k (if y > x then y else x) r else none
  | _, _ => none
def amin : List AV → Option AV
  | .int k x :: r => aminF k x r
  | _ => none
def amax : List AV → Option AV
  | .int k x :: r => amaxF k x r
  | _ => none

/-- The bounds of a slice expression. -/
def loHi (lo hi : Option AV) (most len : Nat) : Option (Nat × Nat) :=
  match (match hi with | some v => bnd v most | none => some len) with
  | none => none
  | some h => match (match lo with | some v => bnd v h | none => some 0) with
    | none => none
    | some l => some (l, h)
def isZero : Option AV → Bool
  | none => true
  | some (.int _ 0) => true
  | _ => false

def sliceA (heap : AHeap) (k : ASl) (x : AV) (lo hi mx : Option AV) : Option AV :=
  match mx with
  | some m =>
    -- x[0:0:0]
    match k, hi, m with
    | .slice _, some (.int _ 0), .int _ 0 => if isZero lo then (match x with
      | .sl _ _ _ _ _ | .lst _ _ | .sl0 => some .sl0
      | .nilSl => some .nilSl
      | _ => none) else none
    | _, _, _ => none
  | none =>
    match k, x with
    | .str, .str s => match loHi lo hi s.length s.length with
      | some (l, h) => some (.str ((s.take h).drop l))
      | none => none
    | .slice _, .nilSl => match loHi lo hi 0 0 with
      | some _ => some .nilSl
      | none => none
    | .slice _, .sl0 => match loHi lo hi 0 0 with
      | some _ => some .sl0
      | none => none
    | .slice sz, .lst cs len => match loHi lo hi len len with
      | some (l, h) => if h * sz ≤ cs.length ∧ sz ≠ 0 then some (.lst ((cs.take (h * sz)).drop (l * sz)) (h - l)) else none
      | none => none
    | .slice sz', .sl b off len cap sz => match loHi lo hi cap len with
      | some (l, h) => if sz' = sz then some (.sl b (off + l * sz) (h - l) (cap - l) sz) else none
      | none => none
    | .arr n sz, .ptr b off => match look heap b with
      | .cells c => match loHi lo hi n n with
        | some (l, h) => if off + n * sz ≤ c.length ∧ sz ≠ 0 then some (.sl b (off + l * sz) (h - l) (n - l) sz) else none
        | none => none
      | _ => none
    | _, _ => none

def idxA (n : Nat) (i : AV) : Option Nat :=
  match i with
  | .int _ k => if 0 ≤ k ∧ k < (n : Int) then some k.toNat else none
  | _ => none

def AS.load (G : Nat → Option (List AV)) (S : AS) (agg : Bool) (sz : Nat) : AV → Option AV
  | .ptr b off => match look S.heap b with
    | .cells c => apart agg off sz c
    | _ => none
  | .cptr cs => apart agg 0 sz cs
  | .gptr g off => match G g with
    | some cs => apart agg off sz cs
    | none => none
  | _ => none

/-- One operation, but for calls. -/
def aop (G : Nat → Option (List AV)) (E : Env) (S : AS) : AO → Option (AV × AS)
  | .mv x => some (x.ev E, S)
  | .pick c a b => match c.ev E with
    | .bool t => some (if t then a.ev E else b.ev E, S)
    | _ => none
  | .new cells => some (.ptr S.next 0, S.alloc (.cells cells))
  | .box x => match (x.ev E).cells? with
    | some cs => some (.ptr S.next 0, S.alloc (.cells cs))
    | none => none
  | .build zero parts => (fillA E zero parts).map fun cs => (.agg cs, S)
  | .bslice zero parts len sz => (fillA E zero parts).map fun cs => (.sl S.next 0 len len sz, S.alloc (.cells cs))
  | .load agg sz a => (S.load G agg sz (a.ev E)).map fun v => (v, S)
  | .store sz a x =>
    match a.ev E, (x.ev E).cells? with
    | .ptr b off, some new =>
      match look S.heap b with
      | .cells c => if new.length = sz ∧ off + sz ≤ c.length then some (.tup [], S.write b (.cells (putAt c off new)) (!noNames new)) else none
      | _ => none
    | _, _ => none
  | .nilck x => match x.ev E with
    | .ptr b o => some (.ptr b o, S)
    | .cptr cs => some (.cptr cs, S)
    | .gptr g o => some (.gptr g o, S)
    | .fn f a b => some (.fn f a b, S)
    | .yl l => some (.yl l, S)
    | .iface t v => some (.iface t v, S)
    | _ => none
  | .bin op x y => (abin op (x.ev E) (y.ev E)).map fun v => (v, S)
  | .eq neg t x y => (aeq t (x.ev E) (y.ev E)).map fun b => (.bool (if neg then !b else b), S)
  | .un op x => (aun op (x.ev E)).map fun v => (v, S)
  | .conv k x => match k, x.ev E with
    | .int k, .int _ n => some (.int k (wrapI k n), S)
    | .str, .str s => some (.str s, S)
    | .s2b, .str s => if s.length ≤ maxStr then some (.sl S.next 0 s.length s.length 1, S.alloc (.cells (s.map fun b => .int .u8 b.toNat))) else none
    | .b2s, v => if v.isStr then none else match lenA S.heap v with
      | some n => match cellsOfSl S.heap v 1 n with
        | some cs => (bytesOf cs).map fun s => (.str s, S)
        | none => none
      | none => none
    | _, _ => none
  | .mkif t x => match x.ev E with
    | .bad => none
    | v => some (.iface t v, S)
  | .tassert t ok zero x => match x.ev E with
    | .iface u v => if u = t then some (ofOk ok v true, S) else if ok then some (.tup [zero, .bool false], S) else none
    | .nilIface => if ok then some (.tup [zero, .bool false], S) else none
    | _ => none
  | .mkfn f first captured => some (.fn f (first.map (AX.ev E)) (captured.map (AX.ev E)), S)
  | .mkmap => some (.map S.next, S.alloc (.map []))
  | .lookup str zero ok m k =>
    if keyOk str (k.ev E) = false then none else
    match m.ev E with
    | .nilMap => some (ofOk ok zero false, S)
    | .map b => match look S.heap b with
      | .map es => (findA (k.ev E) es).map fun r => (match r with | some v => ofOk ok v true | none => ofOk ok zero false, S)
      | _ => none
    | _ => none
  | .mapset str m k v =>
    if keyOk str (k.ev E) = false ∨ (v.ev E).known = false then none else
    match m.ev E with
    | .map b => match look S.heap b with
      | .map es => (setA (k.ev E) (v.ev E) es).map fun es => (.tup [], S.write b (.map es) (!noName (v.ev E)))
      | _ => none
    | _ => none
  | .mkslice zero bytes l c => match l.ev E, c.ev E with
    | .int _ l, .int _ c => if 0 ≤ l ∧ l ≤ c ∧ c * bytes ≤ (maxStr : Int) ∧ c ≤ (maxStr : Int) ∧ zero ≠ [] then
        some (.sl S.next 0 l.toNat c.toNat zero.length, S.alloc (.cells ((List.replicate c.toNat zero).flatten)))
      else none
    | _, _ => none
  | .slice k x lo hi mx => (sliceA S.heap k (x.ev E) (lo.map (AX.ev E)) (hi.map (AX.ev E)) (mx.map (AX.ev E))).map fun v => (v, S)
  | .fldaddr off x => match x.ev E with
    | .ptr b o => some (.ptr b (o + off), S)
    | .cptr cs => if off ≤ cs.length then some (.cptr (cs.drop off), S) else none
    | .gptr g o => some (.gptr g (o + off), S)
    | _ => none
  | .fld agg off sz x => match x.ev E with
    | .agg cs => (apart agg off sz cs).map fun v => (v, S)
    | _ => none
  | .idxaddr none sz x i => match x.ev E with
    | .sl b off len _ sz' => if sz' = sz then (idxA len (i.ev E)).map fun k => (.ptr b (off + k * sz), S) else none
    | .lst cs len => match idxA len (i.ev E) with
      | some k => if k * sz + sz ≤ cs.length then some (.cptr ((cs.drop (k * sz)).take sz), S) else none
      | none => none
    | _ => none
  | .idxaddr (some n) sz x i => match x.ev E with
    | .ptr b off => (idxA n (i.ev E)).map fun k => (.ptr b (off + k * sz), S)
    | .cptr cs => match idxA n (i.ev E) with
      | some k => if k * sz ≤ cs.length then some (.cptr (cs.drop (k * sz)), S) else none
      | none => none
    | .gptr g off => (idxA n (i.ev E)).map fun k => (.gptr g (off + k * sz), S)
    | _ => none
  | .idx n agg sz x i => match x.ev E with
    | .agg cs => match idxA n (i.ev E) with
      | some k => (apart agg (k * sz) sz cs).map fun v => (v, S)
      | none => none
    | _ => none
  | .sidx x i => match x.ev E with
    | .str s => match idxA s.length (i.ev E) with
      | some k => (s[k]?).map fun b => (.int .u8 b.toNat, S)
      | none => none
    | _ => none
  | .ext i x => match x.ev E with
    | .tup vs => (vs[i]?).map fun v => (v, S)
    | _ => none
  | .bi (.len k) [x] => (lenK S.heap k (x.ev E)).map fun n => (.int .i64 n, S)
  | .bi (.lenArr n) [_] => some (.int .i64 n, S)
  | .bi .min args => (amin (args.map (AX.ev E))).map fun v => (v, S)
  | .bi .max args => (amax (args.map (AX.ev E))).map fun v => (v, S)
  | .bi (.append sz bytes) [s, x] => aappend S sz bytes (s.ev E) (x.ev E)
  | .bi (.copy sz) [d, s] => acopy S sz (d.ev E) (s.ev E)
  | .bi (.clear zero) [d] => aclear S zero (d.ev E)
  | .bi _ _ => none
  | .call _ _ => none
  | .invoke _ _ _ => none

/-! Calls -/
mutual
def freeze (n0 : Nat) (h : AHeap) : Nat → AV → AV
  | 0, v => v
  | d + 1, v => match v with
    | .sl b off len _ sz => if n0 ≤ b then (match look h b with
      | .cells c => if off + len * sz ≤ c.length ∧ noNames (freezes n0 h d ((c.drop off).take (len * sz))) = true then .lst (freezes n0 h d ((c.drop off).take (len * sz))) len else v
      | _ => v) else v
    | .agg cs => .agg (freezes n0 h d cs)
    | .tup vs => .tup (freezes n0 h d vs)
    | .iface t v => .iface t (freeze n0 h d v)
    | v => v
def freezes (n0 : Nat) (h : AHeap) : Nat → List AV → List AV
  | 0, vs => vs
  | d + 1, vs => vs.map (freeze n0 h d)
end

/-- How a call ends: what is no longer needed is dropped. -/
def fin (frz : Bool) (S0 : AS) (v : AV) (S1 : AS) : AV × AS × Bool :=
  let n0 := S0.next
  let v' := if frz && decide (n0 ≤ S1.nm) then freeze n0 S1.heap 12 v else v
  if n0 ≤ S1.nm ∧ noName v' = true then
    if n0 ≤ S1.wm then (v', S0, true)
    else (v', { heap := S1.heap.drop (S1.next - n0), next := n0, wm := min S0.wm S1.wm, nm := S0.nm }, false)
  else (v, { S1 with wm := min S0.wm S1.wm, nm := min S0.nm S1.nm }, false)

structure Rec where
  code : ACode → Env → AS → Option (AExit × Env × AS)
  call : Nat → List AV → AS → Option (AV × AS × Bool)

def argEnv : Nat → List AV → Env
  | _, [] => []
  | i, v :: r => (i, v) :: argEnv (i + 1) r

def getRes (G : Nat → Option (List AV)) (E : Env) (S : AS) : List ARes → Option (List AV)
  | [] => some []
  | .tmp t :: r => (getRes G E S r).map (E.get t :: ·)
  | .cell a agg sz :: r => match S.load G agg sz (E.get a) with
    | some v => (getRes G E S r).map (v :: ·)
    | none => none

def oneOf : List AV → AV
  | [v] => v
  | vs => .tup vs

/-- One round of a range over a function. -/
def round (R : Rec) (l : Nat) (args : List AV) (S : AS) : Option (AV × AS × Bool) :=
  match look S.heap l with
  | .loop E params assign body .ready _ =>
    if params.length ≠ args.length then none else
    match R.code assign ((params.zip args).foldl (fun E p => E.set p.1 p.2) E) S with
    | some (.normal, E1, S1) =>
      match look S1.heap l with
      | .loop E2 ps2 as2 bd2 .ready pend2 =>
        match R.code body E1 (S1.write l (.loop E2 ps2 as2 bd2 .busy pend2) false) with
        | some (e, _, S2) =>
          match look S2.heap l with
          | .loop E3 ps3 as3 bd3 .busy _ => match e with
            | .normal => some (.bool true, S2.write l (.loop E3 ps3 as3 bd3 .ready .normal) false, false)
            | e => some (.bool false, S2.write l (.loop E3 ps3 as3 bd3 .done e) false, false)
          | _ => none
        | none => none
      | _ => none
    | _ => none
  | _ => none

def callV (A : AProg) (R : Rec) (f : AV) (args : List AV) (S : AS) : Option (AV × AS × Bool) :=
  match f with
  | .fn k first captured =>
    match A.ext k with
    | some g => g (first ++ args ++ captured) S
    | none => R.call k (first ++ args ++ captured) S
  | .yl l => round R l args S
  | _ => none

def methOf : List (TypeId × String × Nat) → TypeId → String → Option Nat
  | [], _, _ => none
  | (t, m, k) :: r, u, n => if t = u ∧ m = n then some k else methOf r u n

def aoper (A : AProg) (R : Rec) (q : Bool) (E : Env) (S : AS) : AO → Option (AV × AS)
  | .call f args => match callV A R (f.ev E) (args.map (AX.ev E)) S with
    | some (v, S', quiet) => if q && !quiet then none else some (v, S')
    | none => none
  | .invoke m x args => match x.ev E with
    | .iface t v => match methOf A.meth t m with
      | some k => match callV A R (.fn k [] []) (v :: args.map (AX.ev E)) S with
        | some (v, S', quiet) => if q && !quiet then none else some (v, S')
        | none => none
      | none => none
    | _ => none
  | o => aop A.glob E S o

/-- Is an operation wanted: its guard has been answered so? -/
def wantedA (E : Env) : Option (Nat × Bool) → Option Bool
  | none => some true
  | some (t, want) => match E.get t with
    | .bool b => some (b == want)
    | .tup _ => some false
    | _ => none

def putE (E : Env) (dst : Option Nat) (v : AV) : Env :=
  match dst with
  | some d => (d, v) :: E
  | none => E

def aops (A : AProg) (R : Rec) : List AOp → Env → AS → Option (Env × AS)
  | [], E, S => some (E, S)
  | o :: r, E, S =>
    match wantedA E o.grd with
    | some true => match aoper A R o.q E S o.op with
      | some (v, S') => aops A R r (putE E o.dst v) S'
      | none => none
    | some false => aops A R r (putE E o.dst (.tup [])) S
    | none => none

/-! Loads that are taken before or behind a change -/
mutual
def avEq : AV → AV → Bool
  | .bool a, .bool b => a == b
  | .int k a, .int l b => decide (k = l ∧ a = b)
  | .str a, .str b => decide (a = b)
  | .ptr a b, .ptr c d => decide (a = c ∧ b = d)
  | .cptr a, .cptr b => avsEq a b
  | .gptr a b, .gptr c d => decide (a = c ∧ b = d)
  | .nilPtr, .nilPtr => true
  | .sl a b c d e, .sl a' b' c' d' e' => decide (a = a' ∧ b = b' ∧ c = c' ∧ d = d' ∧ e = e')
  | .sl0, .sl0 => true
  | .nilSl, .nilSl => true
  | .lst a n, .lst b m => decide (n = m) && avsEq a b
  | .map a, .map b => decide (a = b)
  | .nilMap, .nilMap => true
  | .fn k a b, .fn k' a' b' => decide (k = k') && avsEq a a' && avsEq b b'
  | .nilFn, .nilFn => true
  | .iface t a, .iface u b => decide (t = u) && avEq a b
  | .nilIface, .nilIface => true
  | .agg a, .agg b => avsEq a b
  | .tup a, .tup b => avsEq a b
  | _, _ => false
def avsEq : List AV → List AV → Bool
  | [], [] => true
  | a :: r, b :: s => avEq a b && avsEq r s
  | _, _ => false
end

def aopsT (A : AProg) (R : Rec) : List AOp → Env → AS → Option (List (Env × AS × AV) × Env × AS)
  | [], E, S => some ([], E, S)
  | o :: r, E, S =>
    match wantedA E o.grd with
    | some true => match aoper A R o.q E S o.op with
      | some (v, S') => match aopsT A R r (putE E o.dst v) S' with
        | some (tr, E1, S1) => some ((E, S, v) :: tr, E1, S1)
        | none => none
      | none => none
    | some false => match aopsT A R r (putE E o.dst (.tup [])) S with
      | some (tr, E1, S1) => some ((E, S, .tup []) :: tr, E1, S1)
      | none => none
    | none => none

def AO.reading : AO → Bool
  | .load .. | .lookup .. | .bi (.len _) _ | .conv .b2s _ | .slice .. => true
  | _ => false

def stAt : List (Env × AS × AV) → AS → Nat → AS
  | [], S1, _ => S1
  | (_, S, _) :: _, _, 0 => S
  | _ :: r, S1, n + 1 => stAt r S1 n

/-- Operation i, which only reads, says the same in a state. -/
def sameAt (G : Nat → Option (List AV)) (o : AOp) (t : Env × AS × AV) (S : AS) : Bool :=
  match wantedA t.1 o.grd with
  | some true => match aop G t.1 S o.op with
    | some (v, _) => avEq v t.2.2
    | none => false
  | _ => true

/-- Of i and j one only reads, and says the same before and behind the other. -/
def chk1 (G : Nat → Option (List AV)) (ops : List AOp) (tr : List (Env × AS × AV)) (S1 : AS) (i j : Nat) : Bool :=
  match ops[i]?, ops[j]?, tr[i]?, tr[j]? with
  | some a, some b, some s, some t =>
    if a.op.reading then sameAt G a s (stAt tr S1 j) && sameAt G a s (stAt tr S1 (j + 1))
    else if b.op.reading then sameAt G b t (stAt tr S1 i) && sameAt G b t (stAt tr S1 (i + 1))
    else false
  | _, _, _, _ => false
def chkAll (G : Nat → Option (List AV)) (ops : List AOp) (tr : List (Env × AS × AV)) (S1 : AS) : List (Nat × Nat) → Bool
  | [] => true
  | (i, j) :: r => chk1 G ops tr S1 i j && chkAll G ops tr S1 r

def stepCode (A : AProg) (R : Rec) : ACode → Env → AS → Option (AExit × Env × AS)
  | .skip, E, S => some (.normal, E, S)
  | .ret, E, S => some (.ret, E, S)
  | .exit id, E, S => some (.exit id, E, S)
  | .seq a b, E, S => match R.code a E S with
    | some (.normal, E1, S1) => R.code b E1 S1
    | r => r
  | .cond c a b, E, S => match c.ev E with
    | .bool t => if t then R.code a E S else R.code b E S
    | _ => none
  | .block id a, E, S => match R.code a E S with
    | some (.exit i, E1, S1) => if i = id then some (.normal, E1, S1) else some (.exit i, E1, S1)
    | r => r
  | .scope a, E, S => R.code a E S
  | .loop live a, E, S => match R.code a (E.mask live) S with
    | some (.normal, E1, S1) => R.code (.loop live a) E1 S1
    | r => r
  | .region _ keep chk ops, E, S => match chk with
    | [] => match aops A R ops E S with
      | some (E1, S1) => some (.normal, E1.mask keep, S1)
      | none => none
    | _ => match aopsT A R ops E S with
      | some (tr, E1, S1) => if chkAll A.glob ops tr S1 chk then some (.normal, E1.mask keep, S1) else none
      | none => none
  | .rangeFunc f params assign body, E, S =>
    match f.ev E with
    | .fn k fs cs =>
      if (A.ext k).isSome then none else
      match callV A R (.fn k fs cs) [.yl S.next] (S.alloc (.loop E params assign body .ready .normal)) with
      | some (_, S2, _) =>
        match look S2.heap S.next with
        | .loop _ _ _ _ .busy _ => none
        | .loop _ _ _ _ _ pend => some (pend, E, S2.write S.next .dead false)
        | _ => none
      | none => none
    | _ => none

def stepCall (A : AProg) (R : Rec) (k : Nat) (args : List AV) (S : AS) : Option (AV × AS × Bool) :=
  match A.fn k with
  | none => none
  | some f =>
    if args.length ≤ f.nt then
      match R.code f.body (argEnv 0 args) { S with wm := S.next, nm := S.next } with
      | some (.normal, E1, S1) | some (.ret, E1, S1) =>
        match getRes A.glob E1 S1 f.res with
        | some vs => some (fin f.frz S (oneOf vs) S1)
        | none => none
      | _ => none
    else none

def stepR (A : AProg) (R : Rec) : Rec := { code := stepCode A R, call := stepCall A R }

def evN (A : AProg) : Nat → Rec := fun n => Nat.rec { code := fun _ _ _ => none, call := fun _ _ _ => none } (fun _ R => stepR A R) n

end Go.Ab
