/-
  THE ENGINE, PART 27: symbolic runs by a machine with a stack: each rule fires ahead of a look at its arguments, so that simp never walks through code; what is not decided becomes an if-then-else, whose branches run on by themselves.
-/
import Derived.Test.YtkaadpkokmhfjaaGreatDoorAb26
namespace Go.Ab

/-! Choices: simp decides what is asked, else runs each branch under its own condition, once. -/
def wt (t : Bool) : Bool := t
@[simp] theorem wt_e {t : Bool} : wt t = t := rfl
def brc {α : Type} (t : Bool) (X Y : α) : α := match t with
  | true => X
  | false => Y
open Classical in
noncomputable def brx {α : Type} (p : Prop) (X Y : α) : α := if p then X else Y
class Tag {α : Type} (X Y : α) where
  dummy : Unit
instance tag {α : Type} {X Y : α} : Tag X Y := ⟨()⟩
open Classical in
noncomputable def brD {α : Type} (p : Prop) (X Y : α) [_h : Tag X Y] : α := if p then X else Y
section
variable {α : Type} {t t' : Bool} {X Y X' Y' : α} {p p' : Prop}
@[congr] theorem brc_congr (h : t = t') : brc t X Y = brc t' X Y := by rw [h]
@[simp ↓] theorem brc_t : brc true X Y = X := rfl
@[simp ↓] theorem brc_f : brc false X Y = Y := rfl
@[simp] theorem brc_t' : brc true X Y = X := rfl
@[simp] theorem brc_f' : brc false X Y = Y := rfl
@[simp low] theorem brc_x : brc t X Y = brx (t = true) X Y := by cases t <;> simp [brc, brx]
@[congr] theorem brx_congr (h : p = p') (h1 : p' → X = X') (h2 : ¬ p' → Y = Y') : brx p X Y = brx p' X' Y' := by
  subst h
  unfold brx
  split
  · rename_i hp; exact h1 hp
  · rename_i hp; exact h2 hp
@[simp] theorem brx_t : brx True X Y = X := by simp [brx]
@[simp] theorem brx_f : brx False X Y = Y := by simp [brx]
@[simp low] theorem brx_D : brx p X Y = brD p X Y := rfl
theorem brD_ite [Decidable p] [Tag X Y] : brD p X Y = if p then X else Y := by
  unfold brD; split <;> simp [*]
theorem brc_ite [Decidable p] : (if p then X else Y) = brc (wt (decide p)) X Y := by
  by_cases h : p <;> simp [h]
theorem brc_b : (if t = true then X else Y) = brc (wt t) X Y := by cases t <;> rfl
end

inductive SFr where
  | seq (b : ACode)
  | blk (i : Nat)

section
variable {β : Type}
noncomputable def after (A : AProg) (κ : Option (AExit × Env × AS) → Option β) : List SFr → Option (AExit × Env × AS) → Option β
  | [], r => κ r
  | .seq b :: st, r => after A κ st (seqK A b r)
  | .blk i :: st, r => after A κ st (blockK i r)
noncomputable def runS (A : AProg) (κ : Option (AExit × Env × AS) → Option β) (c : ACode) (E : Env) (S : AS) (st : List SFr) : Option β := after A κ st ((evW A).code c E S)
noncomputable def retS (A : AProg) (κ : Option (AExit × Env × AS) → Option β) (e : AExit) (E : Env) (S : AS) (st : List SFr) : Option β := after A κ st (some (e, E, S))
noncomputable def condS (A : AProg) (κ : Option (AExit × Env × AS) → Option β) (a b : ACode) (E : Env) (S : AS) (st : List SFr) (v : AV) : Option β := after A κ st (condK A a b E S v)
noncomputable def opsS (A : AProg) (κ : Option (AExit × Env × AS) → Option β) (ops : List AOp) (E : Env) (S : AS) (keep : List Nat) (st : List SFr) : Option β := after A κ st (regK keep (aops A (evW A) ops E S))
noncomputable def guardS (A : AProg) (κ : Option (AExit × Env × AS) → Option β) (o : AOp) (r : List AOp) (E : Env) (S : AS) (keep : List Nat) (st : List SFr) (w : Option Bool) : Option β := after A κ st (regK keep (guardK A o r E S w))
noncomputable def doS (A : AProg) (κ : Option (AExit × Env × AS) → Option β) (dst : Option Nat) (q : Bool) (op : AO) (r : List AOp) (E : Env) (S : AS) (keep : List Nat) (st : List SFr) : Option β := after A κ st (regK keep (opK A dst r E (aoper A (evW A) q E S op)))
noncomputable def stepS (A : AProg) (κ : Option (AExit × Env × AS) → Option β) (dst : Option Nat) (r : List AOp) (E : Env) (keep : List Nat) (st : List SFr) (x : Option (AV × AS)) : Option β := after A κ st (regK keep (opK A dst r E x))
noncomputable def vaS (A : AProg) (κ : Option (AExit × Env × AS) → Option β) (dst : Option Nat) (r : List AOp) (E : Env) (S : AS) (keep : List Nat) (st : List SFr) (x : Option AV) : Option β := stepS A κ dst r E keep st (x.map fun v => (v, S))
noncomputable def pickS (A : AProg) (κ : Option (AExit × Env × AS) → Option β) (dst : Option Nat) (a b : AX) (r : List AOp) (E : Env) (S : AS) (keep : List Nat) (st : List SFr) (c : AV) : Option β := after A κ st (regK keep (opK A dst r E (pickK S (a.ev E) (b.ev E) c)))

variable {A : AProg} {κ : Option (AExit × Env × AS) → Option β} {E : Env} {S S' S1 : AS} {st : List SFr}
variable {b c : ACode} {keep : List Nat} {ops r : List AOp} {chk : List (Nat × Nat)} {dst g : Option (Nat)} {gd : Option (Nat × Bool)} {o : AOp} {op : AO} {v : AV} {q t w : Bool} {i j n m k sz off len : Nat} {f : AFun} {x y z : AX} {l : List AX} {args : List AV} {p : Prop} [Decidable p] {e : AExit}

/-! simp looks only where a machine waits -/
@[congr] theorem condS_congr {v v' : AV} (h : v = v') : condS A κ b c E S st v = condS A κ b c E S st v' := by rw [h]
@[congr] theorem guardS_congr {w w' : Option Bool} (h : w = w') : guardS A κ o r E S keep st w = guardS A κ o r E S keep st w' := by rw [h]
@[congr] theorem stepS_congr {x x' : Option (AV × AS)} (h : x = x') : stepS A κ dst r E keep st x = stepS A κ dst r E keep st x' := by rw [h]
@[congr] theorem vaS_congr {x x' : Option AV} (h : x = x') : vaS A κ dst r E S keep st x = vaS A κ dst r E S keep st x' := by rw [h]
@[congr] theorem pickS_congr {a a' : AV} (h : a = a') : pickS A κ dst x y r E S keep st a = pickS A κ dst x y r E S keep st a' := by rw [h]
@[congr] theorem runS_congr {E' : Env} {S' : AS} (h : E = E') (h' : S = S') : runS A κ c E S st = runS A κ c E' S' st := by rw [h, h']

/-! Code -/
def finK (G : Nat → Option (List AV)) (frz : Bool) (res : List ARes) (S : AS) : Option (AExit × Env × AS) → Option (AV × AS × Bool)
  | some (.normal, E1, S1) => (getRes G E1 S1 res).map fun vs => fin frz S (oneOf vs) S1
  | some (.ret, E1, S1) => (getRes G E1 S1 res).map fun vs => fin frz S (oneOf vs) S1
  | _ => none
@[simp] theorem finK_n {G : Nat → Option (List AV)} {frz : Bool} {res : List ARes} : finK G frz res S (some (.normal, E, S1)) = (getRes G E S1 res).map fun vs => fin frz S (oneOf vs) S1 := rfl
@[simp] theorem finK_r {G : Nat → Option (List AV)} {frz : Bool} {res : List ARes} : finK G frz res S (some (.ret, E, S1)) = (getRes G E S1 res).map fun vs => fin frz S (oneOf vs) S1 := rfl
theorem run_call {l : List AV} (hf : A.fn k = some f) (hl : l.length ≤ f.nt) : (evW A).call k l S = runS A (finK A.glob f.frz f.res S) f.body (argEnv 0 l) { S with wm := S.next, nm := S.next } [] := e_call hf hl
theorem run_code : (evW A).code c E S = runS A id c E S [] := rfl
@[simp ↓] theorem m_seq : runS A κ (.seq b c) E S st = runS A κ b E S (.seq c :: st) := by simp only [runS, after, k_seq]
@[simp ↓] theorem m_cond : runS A κ (.cond x b c) E S st = condS A κ b c E S st (x.ev E) := by simp only [runS, condS, k_cond]
@[simp ↓] theorem m_block : runS A κ (.block i b) E S st = runS A κ b E S (.blk i :: st) := by simp only [runS, after, k_block]
@[simp ↓] theorem m_scope : runS A κ (.scope b) E S st = runS A κ b E S st := by simp only [runS, e_scope]
@[simp ↓] theorem m_skip : runS A κ .skip E S st = retS A κ .normal E S st := by simp only [runS, retS, e_skip]
@[simp ↓] theorem m_ret : runS A κ .ret E S st = retS A κ .ret E S st := by simp only [runS, retS, e_ret]
@[simp ↓] theorem m_exit : runS A κ (.exit i) E S st = retS A κ (.exit i) E S st := by simp only [runS, retS, e_exit]
@[simp ↓] theorem m_region {d : Bool} : runS A κ (.region d keep [] ops) E S st = opsS A κ ops E S keep st := by simp only [runS, opsS, k_region]
theorem m_loop {live : List Nat} {a : ACode} (h : c = .loop live a) : runS A κ c E S st = runS A κ a (E.mask live) S (.seq c :: st) := by
  subst h
  show after A κ st ((evW A).code (.loop live a) E S) = after A κ st (seqK A (.loop live a) ((evW A).code a (E.mask live) S))
  rw [e_loop]
  generalize (evW A).code a (E.mask live) S = r
  match r with
  | none => rfl
  | some (.normal, _, _) => rfl
  | some (.ret, _, _) => rfl
  | some (.exit _, _, _) => rfl
@[simp] theorem condS_b : condS A κ b c E S st (.bool t) = brc (wt t) (runS A κ b E S st) (runS A κ c E S st) := by cases t <;> rfl
@[simp ↓] theorem r_seq_n : retS A κ .normal E S (.seq c :: st) = runS A κ c E S st := rfl
@[simp ↓] theorem r_seq_r : retS A κ .ret E S (.seq c :: st) = retS A κ .ret E S st := rfl
@[simp ↓] theorem r_seq_e : retS A κ (.exit i) E S (.seq c :: st) = retS A κ (.exit i) E S st := rfl
@[simp ↓] theorem r_blk_n : retS A κ .normal E S (.blk i :: st) = retS A κ .normal E S st := rfl
@[simp ↓] theorem r_blk_r : retS A κ .ret E S (.blk i :: st) = retS A κ .ret E S st := rfl
@[simp ↓] theorem r_blk_e : retS A κ (.exit j) E S (.blk i :: st) = if j = i then retS A κ .normal E S st else retS A κ (.exit j) E S st := by
  show after A κ st (if j = i then _ else _) = _
  split <;> rfl
@[simp ↓] theorem r_nil : retS A κ e E S [] = κ (some (e, E, S)) := rfl

/-- Where a piece of code is known, a run through it goes on behind it. -/
theorem run_of {E' : Env} (h : (evW A).code c E S = some (e, E', S')) : runS A κ c E S st = retS A κ e E' S' st := by simp only [runS, h, retS]

/-! Regions -/
@[simp ↓] theorem s_nil : opsS A κ [] E S keep st = retS A κ .normal (E.mask keep) S st := rfl
@[simp ↓] theorem s_none : opsS A κ (⟨dst, none, q, op⟩ :: r) E S keep st = doS A κ dst q op r E S keep st := by
  simp only [opsS, doS]; rw [k_cons]; rfl
@[simp ↓] theorem s_some : opsS A κ (⟨dst, some (n, w), q, op⟩ :: r) E S keep st = guardS A κ ⟨dst, some (n, w), q, op⟩ r E S keep st (grdK w (E.get n)) := by
  simp only [opsS, guardS]; rw [k_cons, wanted_s]
@[simp] theorem guardS_b : guardS A κ o r E S keep st (some t) = brc (wt t) (doS A κ o.dst o.q o.op r E S keep st) (opsS A κ r (putE E o.dst (.tup [])) S keep st) := by cases t <;> rfl
@[simp ↓] theorem put_s' : putE E (some n) v = (n, v) :: E := rfl
@[simp ↓] theorem put_n' : putE E none v = E := rfl
@[simp ↓] theorem get_n' : Env.get [] n = .bad := rfl
@[simp ↓] theorem get_i' {a : AV} : Env.get ((k, a) :: E) n = if k = n then a else E.get n := rfl
@[simp ↓ high] theorem get_h' {a : AV} : Env.get ((n, a) :: E) n = a := by simp [Env.get]
@[simp ↓] theorem mask_n' : E.mask [] = [] := rfl
@[simp ↓] theorem mask_c' {k : List Nat} : E.mask (n :: k) = (n, E.get n) :: E.mask k := rfl
@[simp ↓] theorem ev_t' : (AX.t n).ev E = E.get n := rfl
@[simp ↓] theorem ev_c' {a : AV} : (AX.c a).ev E = a := rfl
@[simp ↓] theorem ev_f' : (AX.f n).ev E = .fn n [] [] := rfl
@[simp ↓] theorem ev_g' : (AX.g n).ev E = .gptr n 0 := rfl

@[simp] theorem stepS_s : stepS A κ dst r E keep st (some (v, S')) = opsS A κ r (putE E dst v) S' keep st := rfl
@[simp] theorem stepS_ite {X Y : Option (AV × AS)} : stepS A κ dst r E keep st (if p then X else Y) = brc (wt (decide p)) (stepS A κ dst r E keep st X) (stepS A κ dst r E keep st Y) := by rw [← brc_ite]; split <;> rfl
@[simp] theorem vaS_s : vaS A κ dst r E S keep st (some v) = opsS A κ r (putE E dst v) S keep st := rfl
@[simp] theorem vaS_ite {X Y : Option AV} : vaS A κ dst r E S keep st (if p then X else Y) = brc (wt (decide p)) (vaS A κ dst r E S keep st X) (vaS A κ dst r E S keep st Y) := by rw [← brc_ite]; split <;> rfl
@[simp] theorem pickS_b : pickS A κ dst x y r E S keep st (.bool t) = brc (wt t) (vaS A κ dst r E S keep st (some (x.ev E))) (vaS A κ dst r E S keep st (some (y.ev E))) := by cases t <;> rfl

/-! Operations that give a value -/
@[simp ↓] theorem d_mv : doS A κ dst q (.mv x) r E S keep st = vaS A κ dst r E S keep st (some (x.ev E)) := rfl
@[simp ↓] theorem d_pick : doS A κ dst q (.pick x y z) r E S keep st = pickS A κ dst y z r E S keep st (x.ev E) := by simp only [doS, pickS, o_pick]
@[simp ↓] theorem d_bin {op : BinOp} : doS A κ dst q (.bin op x y) r E S keep st = vaS A κ dst r E S keep st (abin op (x.ev E) (y.ev E)) := rfl
@[simp ↓] theorem d_un {op : UnOp} : doS A κ dst q (.un op x) r E S keep st = vaS A κ dst r E S keep st (aun op (x.ev E)) := rfl
@[simp ↓] theorem d_eq {neg : Bool} {t : ETy} : doS A κ dst q (.eq neg t x y) r E S keep st = vaS A κ dst r E S keep st ((aeq t (x.ev E) (y.ev E)).map fun b => .bool (if neg then !b else b)) := by
  simp only [doS, vaS, stepS, o_eq, Option.map_map]; rfl
@[simp ↓] theorem d_build {z : List AV} {ps : List (Nat × Nat × AX)} : doS A κ dst q (.build z ps) r E S keep st = vaS A κ dst r E S keep st ((fillA E z ps).map .agg) := by
  simp only [doS, vaS, stepS, o_build, Option.map_map]; rfl
def nilV : AV → Option AV
  | .ptr b o => some (.ptr b o)
  | .cptr cs => some (.cptr cs)
  | .gptr g o => some (.gptr g o)
  | .fn f a b => some (.fn f a b)
  | .yl l => some (.yl l)
  | .iface t v => some (.iface t v)
  | _ => none
@[simp ↓] theorem d_nilck : doS A κ dst q (.nilck x) r E S keep st = vaS A κ dst r E S keep st (nilV (x.ev E)) := by
  simp only [doS, vaS, stepS, aoper, aop]; cases x.ev E <;> rfl
@[simp] theorem nilV_p : nilV (.ptr k n) = some (.ptr k n) := rfl
@[simp] theorem nilV_c {cs : List AV} : nilV (.cptr cs) = some (.cptr cs) := rfl
@[simp] theorem nilV_g : nilV (.gptr k n) = some (.gptr k n) := rfl
@[simp] theorem nilV_f {a b : List AV} : nilV (.fn n a b) = some (.fn n a b) := rfl
@[simp] theorem nilV_i {u : TypeId} : nilV (.iface u v) = some (.iface u v) := rfl
def fadV (off : Nat) : AV → Option AV
  | .ptr b o => some (.ptr b (o + off))
  | .cptr cs => if off ≤ cs.length then some (.cptr (cs.drop off)) else none
  | .gptr g o => some (.gptr g (o + off))
  | _ => none
@[simp ↓] theorem d_fldaddr : doS A κ dst q (.fldaddr off x) r E S keep st = vaS A κ dst r E S keep st (fadV off (x.ev E)) := by
  simp only [doS, vaS, stepS, aoper, aop]
  cases x.ev E with
  | cptr cs => simp only [fadV]; split <;> rfl
  | _ => rfl
@[simp] theorem fadV_p : fadV off (.ptr k n) = some (.ptr k (n + off)) := rfl
@[simp] theorem fadV_c {cs : List AV} : fadV off (.cptr cs) = if off ≤ cs.length then some (.cptr (cs.drop off)) else none := rfl
@[simp] theorem fadV_g : fadV off (.gptr k n) = some (.gptr k (n + off)) := rfl
def fldV (agg : Bool) (off sz : Nat) : AV → Option AV
  | .agg cs => apart agg off sz cs
  | _ => none
@[simp ↓] theorem d_fld : doS A κ dst q (.fld t off sz x) r E S keep st = vaS A κ dst r E S keep st (fldV t off sz (x.ev E)) := by
  simp only [doS, vaS, stepS, aoper, aop]; cases x.ev E <;> rfl
@[simp] theorem fldV_a {cs : List AV} : fldV t off sz (.agg cs) = apart t off sz cs := rfl
def extV (i : Nat) : AV → Option AV
  | .tup vs => vs[i]?
  | _ => none
@[simp ↓] theorem d_ext : doS A κ dst q (.ext i x) r E S keep st = vaS A κ dst r E S keep st (extV i (x.ev E)) := by
  simp only [doS, vaS, stepS, aoper, aop]; cases x.ev E <;> rfl
@[simp] theorem extV_t {vs : List AV} : extV i (.tup vs) = vs[i]? := rfl
def cvI (k : IntKind) : AV → Option AV
  | .int _ n => some (.int k (wrapI k n))
  | _ => none
@[simp ↓] theorem d_convI {k : IntKind} : doS A κ dst q (.conv (.int k) x) r E S keep st = vaS A κ dst r E S keep st (cvI k (x.ev E)) := by
  simp only [doS, vaS, stepS, aoper, aop]; cases x.ev E <;> rfl
@[simp] theorem cvI_i {k kd : IntKind} {m : Int} : cvI k (.int kd m) = some (.int k (wrapI k m)) := rfl
def cvS : AV → Option AV
  | .str s => some (.str s)
  | _ => none
@[simp ↓] theorem d_convS : doS A κ dst q (.conv .str x) r E S keep st = vaS A κ dst r E S keep st (cvS (x.ev E)) := by
  simp only [doS, vaS, stepS, aoper, aop]; cases x.ev E <;> rfl
@[simp] theorem cvS_s {s : List UInt8} : cvS (.str s) = some (.str s) := rfl
def mkiV (u : TypeId) : AV → Option AV
  | .bad => none
  | v => some (.iface u v)
@[simp ↓] theorem d_mkfn {a b : List AX} : doS A κ dst q (.mkfn n a b) r E S keep st = vaS A κ dst r E S keep st (some (.fn n (a.map (AX.ev E)) (b.map (AX.ev E)))) := rfl
def ldA (agg : Bool) (off sz : Nat) : AB → Option AV
  | .cells c => apart agg off sz c
  | _ => none
def ldG (agg : Bool) (off sz : Nat) : Option (List AV) → Option AV
  | some c => apart agg off sz c
  | _ => none
def ldV (G : Nat → Option (List AV)) (h : AHeap) (agg : Bool) (sz : Nat) : AV → Option AV
  | .ptr b off => ldA agg off sz (look h b)
  | .cptr cs => apart agg 0 sz cs
  | .gptr g off => ldG agg off sz (G g)
  | _ => none
theorem load_ldV {G : Nat → Option (List AV)} : S.load G t sz v = ldV G S.heap t sz v := by
  cases v with
  | ptr b o => simp only [AS.load, ldV]; cases look S.heap b <;> rfl
  | gptr g o => simp only [AS.load, ldV]; cases G g <;> rfl
  | _ => rfl
@[simp ↓] theorem d_load : doS A κ dst q (.load t sz x) r E S keep st = vaS A κ dst r E S keep st (ldV A.glob S.heap t sz (x.ev E)) := by
  rw [← load_ldV]; rfl
@[simp] theorem ldV_p {G : Nat → Option (List AV)} {h : AHeap} : ldV G h t sz (.ptr k off) = ldA t off sz (look h k) := rfl
@[simp] theorem ldV_c {G : Nat → Option (List AV)} {h : AHeap} {cs : List AV} : ldV G h t sz (.cptr cs) = apart t 0 sz cs := rfl
@[simp] theorem ldV_g {G : Nat → Option (List AV)} {h : AHeap} : ldV G h t sz (.gptr k off) = ldG t off sz (G k) := rfl
@[simp] theorem ldA_c {cs : List AV} : ldA t off sz (.cells cs) = apart t off sz cs := rfl
@[simp] theorem ldG_c {cs : List AV} : ldG t off sz (some cs) = apart t off sz cs := rfl
@[simp ↓] theorem d_len : doS A κ dst q (.bi (.len k) [x]) r E S keep st = vaS A κ dst r E S keep st ((lenK S.heap k (x.ev E)).map fun n => .int .i64 n) := by
  simp only [doS, vaS, stepS, aoper, aop, Option.map_map]; rfl
@[simp ↓] theorem d_lenArr : doS A κ dst q (.bi (.lenArr n) [x]) r E S keep st = vaS A κ dst r E S keep st (some (.int .i64 n)) := rfl
@[simp ↓] theorem d_min : doS A κ dst q (.bi .min l) r E S keep st = vaS A κ dst r E S keep st (amin (l.map (AX.ev E))) := rfl
@[simp ↓] theorem d_max : doS A κ dst q (.bi .max l) r E S keep st = vaS A κ dst r E S keep st (amax (l.map (AX.ev E))) := rfl
def sxV (i : AV) : AV → Option AV
  | .str s => (idxA s.length i).bind fun k => (s[k]?).map fun b => .int .u8 b.toNat
  | _ => none
@[simp ↓] theorem d_sidx : doS A κ dst q (.sidx x y) r E S keep st = vaS A κ dst r E S keep st (sxV (y.ev E) (x.ev E)) := by
  simp only [doS, vaS, stepS, o_sidx]
  cases x.ev E with
  | str s => simp only [sidxK, sxV, Option.map_bind]; cases idxA s.length (y.ev E) <;> simp [Option.map_map, Function.comp_def]
  | _ => rfl
@[simp] theorem sxV_s {s : List UInt8} {a : AV} : sxV a (.str s) = (idxA s.length a).bind fun k => (s[k]?).map fun b => .int .u8 b.toNat := rfl
def iaV (sz : Nat) (i : AV) : AV → Option AV
  | .sl b off len _ sz' => if sz' = sz then (idxA len i).map fun k => .ptr b (off + k * sz) else none
  | .lst cs len => (idxA len i).bind fun k => if k * sz + sz ≤ cs.length then some (.cptr ((cs.drop (k * sz)).take sz)) else none
  | _ => none
@[simp ↓] theorem d_idxaddr : doS A κ dst q (.idxaddr none sz x y) r E S keep st = vaS A κ dst r E S keep st (iaV sz (y.ev E) (x.ev E)) := by
  simp only [doS, vaS, stepS, aoper, aop]
  cases x.ev E with
  | lst cs len =>
    simp only [iaV]
    cases idxA len (y.ev E) with
    | none => rfl
    | some k => simp only [Option.bind_some]; split <;> rfl
  | sl b off len cap sz' =>
    simp only [iaV]
    split
    · rw [Option.map_map]; rfl
    · rfl
  | _ => rfl
@[simp] theorem iaV_l {cs : List AV} {a : AV} : iaV sz a (.lst cs n) = (idxA n a).bind fun k => if k * sz + sz ≤ cs.length then some (.cptr ((cs.drop (k * sz)).take sz)) else none := rfl
@[simp] theorem iaV_s {cap : Nat} {a : AV} : iaV sz a (.sl k off n cap m) = if m = sz then (idxA n a).map fun k' => .ptr k (off + k' * sz) else none := rfl
def ixV (n : Nat) (agg : Bool) (sz : Nat) (i : AV) : AV → Option AV
  | .agg cs => (idxA n i).bind fun k => apart agg (k * sz) sz cs
  | _ => none
@[simp ↓] theorem d_idx : doS A κ dst q (.idx n t sz x y) r E S keep st = vaS A κ dst r E S keep st (ixV n t sz (y.ev E) (x.ev E)) := by
  simp only [doS, vaS, stepS, aoper, aop]
  cases x.ev E with
  | agg cs => simp only [ixV]; cases idxA n (y.ev E) <;> rfl
  | _ => rfl
@[simp] theorem ixV_a {cs : List AV} {a : AV} : ixV n t sz a (.agg cs) = (idxA n a).bind fun k => apart t (k * sz) sz cs := rfl
def iapV (n sz : Nat) (i : AV) : AV → Option AV
  | .ptr b off => (idxA n i).map fun k => .ptr b (off + k * sz)
  | .cptr cs => (idxA n i).bind fun k => if k * sz ≤ cs.length then some (.cptr (cs.drop (k * sz))) else none
  | .gptr g off => (idxA n i).map fun k => .gptr g (off + k * sz)
  | _ => none
@[simp ↓] theorem d_idxaddrN : doS A κ dst q (.idxaddr (some n) sz x y) r E S keep st = vaS A κ dst r E S keep st (iapV n sz (y.ev E) (x.ev E)) := by
  simp only [doS, vaS, stepS, aoper, aop]
  cases x.ev E with
  | cptr cs =>
    simp only [iapV]
    cases idxA n (y.ev E) with
    | none => rfl
    | some k => simp only [Option.bind_some]; split <;> rfl
  | ptr b off => simp only [iapV, Option.map_map]; rfl
  | gptr b off => simp only [iapV, Option.map_map]; rfl
  | _ => rfl
@[simp] theorem iapV_p {a : AV} : iapV n sz a (.ptr k off) = (idxA n a).map fun i => .ptr k (off + i * sz) := rfl
@[simp] theorem iapV_c {a : AV} {cs : List AV} : iapV n sz a (.cptr cs) = (idxA n a).bind fun k => if k * sz ≤ cs.length then some (.cptr (cs.drop (k * sz))) else none := rfl
@[simp] theorem iapV_g {a : AV} : iapV n sz a (.gptr k off) = (idxA n a).map fun i => .gptr k (off + i * sz) := rfl
@[simp ↓] theorem d_slice {kk : ASl} {lo hi mx : Option AX} : doS A κ dst q (.slice kk x lo hi mx) r E S keep st = vaS A κ dst r E S keep st (sliceA S.heap kk (x.ev E) (lo.map (AX.ev E)) (hi.map (AX.ev E)) (mx.map (AX.ev E))) := rfl
def lkV (zero : AV) (ok : Bool) (k : AV) : AB → Option AV
  | .map es => (findA k es).map fun r => match r with | some v => ofOk ok v true | none => ofOk ok zero false
  | _ => none
def luV (h : AHeap) (zero : AV) (ok : Bool) (k : AV) : AV → Option AV
  | .nilMap => some (ofOk ok zero false)
  | .map b => lkV zero ok k (look h b)
  | _ => none
@[simp ↓] theorem d_lookup {str : Bool} {zero : AV} : doS A κ dst q (.lookup str zero t x y) r E S keep st = vaS A κ dst r E S keep st (if keyOk str (y.ev E) = true then luV S.heap zero t (y.ev E) (x.ev E) else none) := by
  simp only [doS, vaS, stepS, aoper, aop]
  cases hk : keyOk str (y.ev E) with
  | false => simp
  | true =>
    simp only [if_true]
    cases x.ev E with
    | map b =>
      simp only [luV, lkV]
      cases look S.heap b with
      | map es => simp only []; cases findA (y.ev E) es <;> rfl
      | _ => rfl
    | _ => rfl
@[simp] theorem luV_n {h : AHeap} {zero k : AV} : luV h zero t k .nilMap = some (ofOk t zero false) := rfl
@[simp] theorem luV_m {h : AHeap} {zero k : AV} : luV h zero t k (.map n) = lkV zero t k (look h n) := rfl
@[simp] theorem lkV_m {zero k : AV} {es : List (AV × AV)} : lkV zero t k (.map es) = (findA k es).map fun r => match r with | some v => ofOk t v true | none => ofOk t zero false := rfl
@[simp] theorem key_i {kd : IntKind} {m : Int} : keyOk false (.int kd m) = true := rfl
@[simp] theorem key_s {s : List UInt8} : keyOk true (.str s) = true := rfl

/-! Operations that change the state -/
@[simp ↓] theorem d_new {cs : List AV} : doS A κ dst q (.new cs) r E S keep st = stepS A κ dst r E keep st (some (.ptr S.next 0, S.alloc (.cells cs))) := rfl
@[simp ↓] theorem d_box : doS A κ dst q (.box x) r E S keep st = stepS A κ dst r E keep st (boxK S ((x.ev E).cells?)) := by simp only [doS, stepS, o_box]
@[simp ↓] theorem d_bslice {z : List AV} {ps : List (Nat × Nat × AX)} : doS A κ dst q (.bslice z ps len sz) r E S keep st = stepS A κ dst r E keep st ((fillA E z ps).map fun cs => (.sl S.next 0 len len sz, S.alloc (.cells cs))) := rfl
@[simp ↓] theorem d_store : doS A κ dst q (.store sz x y) r E S keep st = stepS A κ dst r E keep st (stK S sz ((y.ev E).cells?) (x.ev E)) := by simp only [doS, stepS, o_store]
@[simp ↓] theorem d_mkmap : doS A κ dst q .mkmap r E S keep st = stepS A κ dst r E keep st (some (.map S.next, S.alloc (.map []))) := rfl
def msC (S : AS) (k v : AV) (b : Nat) : AB → Option (AV × AS)
  | .map es => (setA k v es).map fun es => (.tup [], S.write b (.map es) (!noName v))
  | _ => none
def msK (S : AS) (k v : AV) : AV → Option (AV × AS)
  | .map b => msC S k v b (look S.heap b)
  | _ => none
@[simp ↓] theorem d_mapset {str : Bool} : doS A κ dst q (.mapset str x y z) r E S keep st = stepS A κ dst r E keep st (if keyOk str (y.ev E) = true ∧ (z.ev E).known = true then msK S (y.ev E) (z.ev E) (x.ev E) else none) := by
  simp only [doS, stepS, aoper, aop]
  cases hk : keyOk str (y.ev E) <;> cases hv : (z.ev E).known <;> simp
  cases x.ev E with
  | map b => simp only [msK, msC]; cases look S.heap b <;> rfl
  | _ => rfl
@[simp] theorem msK_m {k v : AV} : msK S k v (.map n) = msC S k v n (look S.heap n) := rfl
@[simp] theorem msC_m {k v : AV} {es : List (AV × AV)} : msC S k v n (.map es) = (setA k v es).map fun es => (.tup [], S.write n (.map es) (!noName v)) := rfl
@[simp ↓] theorem d_mkslice {z : List AV} {bytes : Nat} : doS A κ dst q (.mkslice z bytes x y) r E S keep st = stepS A κ dst r E keep st (aoper A (evW A) q E S (.mkslice z bytes x y)) := rfl
@[simp ↓] theorem d_append {bytes : Nat} : doS A κ dst q (.bi (.append sz bytes) [x, y]) r E S keep st = stepS A κ dst r E keep st (aappend S sz bytes (x.ev E) (y.ev E)) := rfl
@[simp ↓] theorem d_copy : doS A κ dst q (.bi (.copy sz) [x, y]) r E S keep st = stepS A κ dst r E keep st (acopy S sz (x.ev E) (y.ev E)) := rfl
@[simp ↓] theorem d_clear {z : List AV} : doS A κ dst q (.bi (.clear z) [x]) r E S keep st = stepS A κ dst r E keep st (aclear S z (x.ev E)) := rfl
@[simp ↓] theorem d_call : doS A κ dst q (.call x l) r E S keep st = stepS A κ dst r E keep st (callK q (callV A (evW A) (x.ev E) (l.map (AX.ev E)) S)) := by simp only [doS, stepS, o_call]
def callE (R : Rec) (k : Nat) (args : List AV) (S : AS) : Option (List AV → AS → Option (AV × AS × Bool)) → Option (AV × AS × Bool)
  | none => R.call k args S
  | some g => g args S
@[simp ↓] theorem cv_e {R : Rec} {fs cs l : List AV} : callV A R (.fn k fs cs) l S = callE R k (fs ++ l ++ cs) S (A.ext k) := by
  simp only [callV]; cases A.ext k <;> rfl
@[simp] theorem callE_n {R : Rec} {l : List AV} : callE R k l S none = R.call k l S := rfl
@[simp] theorem callE_s {R : Rec} {l : List AV} {g : List AV → AS → Option (AV × AS × Bool)} : callE R k l S (some g) = g l S := rfl
@[simp] theorem callK_s' {S' : AS} : callK false (some (v, S', q)) = some (v, S') := callK_s
@[simp] theorem callK_q' {S' : AS} : callK q (some (v, S', true)) = some (v, S') := callK_q
@[simp] theorem callK_ite {X Y : Option (AV × AS × Bool)} : callK q (if p then X else Y) = if p then callK q X else callK q Y := by split <;> rfl
@[simp] theorem omap_ite {α γ : Type} {g : α → γ} {X Y : Option α} : Option.map g (if p then X else Y) = if p then Option.map g X else Option.map g Y := by split <;> rfl
@[simp] theorem obind_ite {α γ : Type} {g : α → Option γ} {X Y : Option α} : Option.bind (if p then X else Y) g = if p then Option.bind X g else Option.bind Y g := by split <;> rfl

/-! Regions with loads that may be taken before or behind a change -/
noncomputable def opsT (A : AProg) (κ : Option (AExit × Env × AS) → Option β) (all : List AOp) (chk : List (Nat × Nat)) (ops : List AOp) (E : Env) (S : AS) (acc : List (Env × AS × AV)) (keep : List Nat) (st : List SFr) : Option β :=
  after A κ st (regTK A.glob keep all chk ((aopsT A (evW A) ops E S).map fun p => (acc.reverse ++ p.1, p.2)))
noncomputable def guardT (A : AProg) (κ : Option (AExit × Env × AS) → Option β) (all : List AOp) (chk : List (Nat × Nat)) (o : AOp) (r : List AOp) (E : Env) (S : AS) (acc : List (Env × AS × AV)) (keep : List Nat) (st : List SFr) (w : Option Bool) : Option β :=
  after A κ st (regTK A.glob keep all chk ((guardTK A o r E S w).map fun p => (acc.reverse ++ p.1, p.2)))
noncomputable def stepT (A : AProg) (κ : Option (AExit × Env × AS) → Option β) (all : List AOp) (chk : List (Nat × Nat)) (dst : Option Nat) (r : List AOp) (E : Env) (S : AS) (acc : List (Env × AS × AV)) (keep : List Nat) (st : List SFr) (x : Option (AV × AS)) : Option β :=
  after A κ st (regTK A.glob keep all chk ((opTK A dst r E S x).map fun p => (acc.reverse ++ p.1, p.2)))
variable {all : List AOp} {acc : List (Env × AS × AV)}
@[congr] theorem guardT_congr {w w' : Option Bool} (h : w = w') : guardT A κ all chk o r E S acc keep st w = guardT A κ all chk o r E S acc keep st w' := by rw [h]
@[congr] theorem stepT_congr {x x' : Option (AV × AS)} (h : x = x') : stepT A κ all chk dst r E S acc keep st x = stepT A κ all chk dst r E S acc keep st x' := by rw [h]
@[simp ↓] theorem m_regionT {d : Bool} {c : Nat × Nat} : runS A κ (.region d keep (c :: chk) ops) E S st = opsT A κ ops (c :: chk) ops E S [] keep st := by
  simp only [runS, opsT, k_regionT]
  cases aopsT A (evW A) ops E S <;> simp
@[simp ↓] theorem t_nil : opsT A κ all chk [] E S acc keep st = brc (wt (chkAll A.glob all acc.reverse S chk)) (retS A κ .normal (E.mask keep) S st) (after A κ st none) := by
  rw [← brc_b]
  simp only [opsT, k_nilT, Option.map_some, List.append_nil, regTK_s]
  split <;> rfl
@[simp ↓] theorem t_cons : opsT A κ all chk (o :: r) E S acc keep st = guardT A κ all chk o r E S acc keep st (wantedA E o.grd) := by
  simp only [opsT, guardT]; rw [k_consT]
@[simp] theorem guardT_b : guardT A κ all chk o r E S acc keep st (some t) = brc (wt t) (stepT A κ all chk o.dst r E S acc keep st (aoper A (evW A) o.q E S o.op)) (opsT A κ all chk r (putE E o.dst (.tup [])) S ((E, S, .tup []) :: acc) keep st) := by
  cases t
  · simp only [guardT, opsT, guardTK, wt, brc]
    congr 2
    cases aopsT A (evW A) r (putE E o.dst (.tup [])) S <;> simp [consT]
  · rfl
@[simp] theorem stepT_s {S' : AS} : stepT A κ all chk dst r E S acc keep st (some (v, S')) = opsT A κ all chk r (putE E dst v) S' ((E, S, v) :: acc) keep st := by
  simp only [stepT, opsT, opTK]
  congr 2
  cases aopsT A (evW A) r (putE E dst v) S' <;> simp [consT]
@[simp] theorem stepT_ite {X Y : Option (AV × AS)} : stepT A κ all chk dst r E S acc keep st (if p then X else Y) = brc (wt (decide p)) (stepT A κ all chk dst r E S acc keep st X) (stepT A κ all chk dst r E S acc keep st Y) := by rw [← brc_ite]; split <;> rfl
end

/-! Values -/
section
variable {R : Rec} {E : Env} {S S1 : AS} {dst : Option Nat} {o : AOp} {v : AV} {q t w : Bool} {i j n : Nat} {f : AFun} {G : Nat → Option (List AV)} {x y z : AX} {l : List AX} {args : List AV} {kd : IntKind} {m : Int} {p : Prop} [Decidable p]
attribute [simp] wanted_n wanted_s grdK_b grdK_t finish_n finish_r res_n res_t one_1 argEnv b_add b_sub b_mul b_rem b_eql b_neq b_lss b_leq b_gtr b_geq u_not len_0
  fill_n fill_c fillK_s cells_int cells_str cells_bool cells_agg ac_n ac_c ic_int ic_str ic_bool ap_f ap_t putAt boxK_s lk_c AS.alloc stK_p stC_c AS.write up_c eq_bool eq_flat eqK_n eqK_i eqK_s
  chkAll chk1 stAt sameAt AO.reading aop AS.load avEq avsEq
@[simp] theorem b_quo {a b : Int} (h : b ≠ 0) : abin .quo (.int kd a) (.int kd b) = some (.int kd (wrapI kd (a.tdiv b))) := by simp [abin, aint, h]
@[simp] theorem b_sadd {a b : List UInt8} : abin .add (.str a) (.str b) = if a.length + b.length ≤ maxStr then some (.str (a ++ b)) else none := rfl
@[simp] theorem b_seql {a b : List UInt8} : abin .eql (.str a) (.str b) = some (.bool (decide (a = b))) := by
  have : (a == b) = decide (a = b) := by by_cases h : a = b <;> simp [h]
  simp only [abin, astr, this]
@[simp] theorem b_sneq {a b : List UInt8} : abin .neq (.str a) (.str b) = some (.bool (!decide (a = b))) := by
  have : (a == b) = decide (a = b) := by by_cases h : a = b <;> simp [h]
  simp only [abin, astr, this]
@[simp] theorem b_slss {a b : List UInt8} : abin .lss (.str a) (.str b) = some (.bool (Op.bytesLess a b)) := rfl
@[simp] theorem u_neg {a : Int} : aun .neg (.int kd a) = some (.int kd (wrapI kd (0 - a))) := rfl
@[simp] theorem lenK_l {h : AHeap} {cs : List AV} : lenK h 1 (.lst cs n) = some n := rfl
@[simp] theorem lenK_n {h : AHeap} : lenK h 1 .nilSl = some 0 := rfl
@[simp] theorem lenK_0 {h : AHeap} : lenK h 1 .sl0 = some 0 := rfl
@[simp] theorem lenK_s {h : AHeap} {b o c s : Nat} : lenK h 1 (.sl b o n c s) = some n := rfl
@[simp] theorem eq_sl {cs : List AV} : aeq .slice (.lst cs n) .nilSl = some false := rfl
@[simp] theorem eq_fn {a b : List AV} : aeq .func (.fn n a b) .nilFn = some false := rfl
@[simp] theorem eqK_b {ks : List Nat} {as bs : List AV} {s t : Bool} : eqK (0 :: ks) (.bool s :: as) (.bool t :: bs) = if s = t then eqK ks as bs else some false := by
  simp only [eqK, eq1]
  cases s <;> cases t <;> rfl
@[simp] theorem one_0 : oneOf [] = .tup [] := rfl
@[simp] theorem one_2 {u : AV} {r : List AV} : oneOf (v :: u :: r) = .tup (v :: u :: r) := rfl
theorem idxA_nat {k : Nat} (h : k < n) : idxA n (.int kd (k : Int)) = some k := by simp [idxA, h]
theorem tr_of (v : AV) (h : noName v = true) : noName v = true := h
@[simp] theorem nn_bool : noName (.bool t) = true := tr_of _ rfl
@[simp] theorem nn_int : noName (.int kd m) = true := tr_of _ rfl
@[simp] theorem nn_str {s : List UInt8} : noName (.str s) = true := tr_of _ rfl
@[simp] theorem nn_nilSl : noName .nilSl = true := tr_of _ rfl
@[simp] theorem nn_sl0 : noName .sl0 = true := tr_of _ rfl
@[simp] theorem nn_nilPtr : noName .nilPtr = true := tr_of _ rfl
@[simp] theorem nn_nilFn : noName .nilFn = true := tr_of _ rfl
@[simp] theorem nn_nilMap : noName .nilMap = true := tr_of _ rfl
@[simp] theorem nn_nilIface : noName .nilIface = true := tr_of _ rfl
@[simp] theorem nn_cptr {cs : List AV} : noName (.cptr cs) = true := tr_of _ rfl
@[simp] theorem nn_lst {cs : List AV} : noName (.lst cs n) = true := tr_of _ rfl
@[simp] theorem nn_sl {b k c d : Nat} : noName (.sl b k n c d) = false := by simp [noName]
@[simp] theorem nn_ptr {b : Nat} : noName (.ptr b n) = false := by simp [noName]
@[simp] theorem nn_agg {cs : List AV} : noName (.agg cs) = noNames cs := by simp [noName]
@[simp] theorem nn_tup {cs : List AV} : noName (.tup cs) = noNames cs := by simp [noName]
@[simp] theorem nn_fn {as bs : List AV} : noName (.fn n as bs) = (noNames as && noNames bs) := by simp [noName]
@[simp] theorem nn_iface {u : TypeId} : noName (.iface u v) = noName v := by simp [noName]
@[simp] theorem nns_n : noNames [] = true := by simp [noNames]
@[simp] theorem nns_c {cs : List AV} : noNames (v :: cs) = (noName v && noNames cs) := by simp [noNames]
end

mutual
theorem freeze_id (n : Nat) (h : AHeap) : ∀ (d : Nat) (v : AV), noName v = true → freeze n h d v = v
  | 0, v, _ => by cases v <;> rfl
  | d + 1, v, hv => by
    cases v with
    | sl b o l c s => simp at hv
    | agg cs => simp only [freeze]; rw [freezes_id n h d cs (by simpa using hv)]
    | tup cs => simp only [freeze]; rw [freezes_id n h d cs (by simpa using hv)]
    | iface t v => simp only [freeze]; rw [freeze_id n h d v (by simpa using hv)]
    | _ => rfl
theorem freezes_id (n : Nat) (h : AHeap) : ∀ (d : Nat) (vs : List AV), noNames vs = true → freezes n h d vs = vs
  | 0, vs, _ => rfl
  | d + 1, vs, hv => by
    simp only [freezes]
    have : ∀ l : List AV, noNames l = true → l.map (freeze n h d) = l := by
      intro l
      induction l with
      | nil => intro _; rfl
      | cons a r ih =>
        intro hl
        simp only [noNames, Bool.and_eq_true] at hl
        simp only [List.map_cons]
        rw [freeze_id n h d a hl.1, ih hl.2]
    exact this vs hv
end

/-- A call that leaves old memory alone, and gives a value without names. -/
@[simp] theorem fin_pure {S S1 : AS} {frz : Bool} {v : AV} (h1 : S.next ≤ S1.nm) (h2 : S.next ≤ S1.wm) (hv : noName v = true) : fin frz S v S1 = (v, S, true) := by
  unfold fin
  have hz : (if (frz && decide (S.next ≤ S1.nm)) = true then freeze S.next S1.heap 12 v else v) = v := by
    split
    · exact freeze_id _ _ _ _ hv
    · rfl
  simp only [hz]
  rw [if_pos ⟨h1, hv⟩, if_pos h2]
@[simp] theorem wrapI_id {n : Int} (h1 : -9223372036854775808 ≤ n) (h2 : n ≤ 9223372036854775807) : wrapI .i64 n = n := by
  show (if -9223372036854775808 ≤ n ∧ n ≤ 9223372036854775807 then n else _) = n
  rw [if_pos ⟨h1, h2⟩]
theorem tdiv_nn {a b : Int} (h : 0 ≤ a) : a.tdiv b = a / b := Int.tdiv_eq_ediv_of_nonneg h
theorem tmod_nn {a b : Int} (h : 0 ≤ a) : a.tmod b = a % b := Int.tmod_eq_emod_of_nonneg h
theorem tdiv_up {a b : Int} (hb : 0 < b) : a.tdiv b = if 0 ≤ a ∨ a % b = 0 then a / b else a / b + 1 := by
  have := Int.tdiv_eq_ediv (a := a) (b := b)
  rw [Int.sign_eq_one_of_pos hb] at this
  simp only [Int.dvd_iff_emod_eq_zero] at this
  rw [this]
  split <;> simp
theorem tmod_up {a b : Int} (hb : 0 < b) : a.tmod b = if 0 ≤ a ∨ a % b = 0 then a % b else a % b - b := by
  have := Int.tmod_eq_emod (a := a) (b := b)
  simp only [Int.dvd_iff_emod_eq_zero] at this
  rw [this]
  split
  · simp
  · have : (b.natAbs : Int) = b := by omega
    omega
@[simp] theorem wrapI_u8 {n : Int} (h1 : 0 ≤ n) (h2 : n ≤ 255) : wrapI .u8 n = n := by
  show (if 0 ≤ n ∧ n ≤ 255 then n else _) = n
  rw [if_pos ⟨h1, h2⟩]
@[simp] theorem wrapI_u32 {n : Int} (h1 : 0 ≤ n) (h2 : n ≤ 4294967295) : wrapI .u32 n = n := by
  show (if 0 ≤ n ∧ n ≤ 4294967295 then n else _) = n
  rw [if_pos ⟨h1, h2⟩]
@[simp] theorem wrapI_u64 {n : Int} (h1 : 0 ≤ n) (h2 : n ≤ 18446744073709551615) : wrapI .u64 n = n := by
  show (if 0 ≤ n ∧ n ≤ 18446744073709551615 then n else _) = n
  rw [if_pos ⟨h1, h2⟩]
@[simp] theorem wrapI_i32 {n : Int} (h1 : -2147483648 ≤ n) (h2 : n ≤ 2147483647) : wrapI .i32 n = n := by
  show (if -2147483648 ≤ n ∧ n ≤ 2147483647 then n else _) = n
  rw [if_pos ⟨h1, h2⟩]
@[simp] theorem idxA_i {n : Nat} {kd : IntKind} {k : Int} : idxA n (.int kd k) = if 0 ≤ k ∧ k < (n : Int) then some k.toNat else none := rfl
/-- A slice that a call made, handed back: it is frozen. -/
def finA (S S1 : AS) (b off len cap sz : Nat) : AB → AV × AS × Bool
  | .cells c => if off + len * sz ≤ c.length ∧ noNames ((c.drop off).take (len * sz)) = true then (.lst ((c.drop off).take (len * sz)) len, S, true) else fin true S (.sl b off len cap sz) S1
  | _ => fin true S (.sl b off len cap sz) S1
@[simp] theorem fin_sl {S S1 : AS} {b off len cap sz : Nat} (h1 : S.next ≤ S1.nm) (h2 : S.next ≤ S1.wm) (h3 : S.next ≤ b) : fin true S (.sl b off len cap sz) S1 = finA S S1 b off len cap sz (look S1.heap b) := by
  generalize ho : look S1.heap b = o
  cases o with
  | cells c =>
    simp only [finA]
    split
    · rename_i hc
      unfold fin
      have hf : freezes S.next S1.heap 11 ((c.drop off).take (len * sz)) = (c.drop off).take (len * sz) := freezes_id _ _ _ _ hc.2
      have hz : freeze S.next S1.heap 12 (.sl b off len cap sz) = .lst ((c.drop off).take (len * sz)) len := by
        simp only [freeze, h3, if_true, ho, hf]
        rw [if_pos hc]
      simp only [h1, decide_true, Bool.and_self, if_true, hz]
      rw [if_pos ⟨trivial, tr_of (.lst _ _) rfl⟩, if_pos h2]
    · rfl
  | _ => rfl
@[simp] theorem finA_c {S S1 : AS} {b off len cap sz : Nat} {c : List AV} (h1 : off + len * sz ≤ c.length) (h2 : noNames ((c.drop off).take (len * sz)) = true) : finA S S1 b off len cap sz (.cells c) = (.lst ((c.drop off).take (len * sz)) len, S, true) := by
  simp only [finA, h1, h2, and_self, if_true]
/-- A slice from before a call, handed back. -/
@[simp] theorem fin_old {S S1 : AS} {frz : Bool} {b off len cap sz : Nat} (h : b < S.next) : fin frz S (.sl b off len cap sz) S1 = (.sl b off len cap sz, { S1 with wm := min S.wm S1.wm, nm := min S.nm S1.nm }, false) := by
  unfold fin
  have hz : (if (frz && decide (S.next ≤ S1.nm)) = true then freeze S.next S1.heap 12 (.sl b off len cap sz) else .sl b off len cap sz) = .sl b off len cap sz := by
    split
    · simp only [freeze]
      rw [if_neg (by omega)]
    · rfl
  simp only [hz]
  rw [if_neg (by simp)]
@[simp] theorem fin_map {S S1 : AS} {frz : Bool} {b : Nat} : fin frz S (.map b) S1 = (.map b, { S1 with wm := min S.wm S1.wm, nm := min S.nm S1.nm }, false) := by
  unfold fin
  have hz : (if (frz && decide (S.next ≤ S1.nm)) = true then freeze S.next S1.heap 12 (.map b) else .map b) = .map b := by
    split <;> simp [freeze]
  have hn : noName (.map b) = false := by simp [noName]
  simp only [hz, hn]
  rw [if_neg (by simp)]
@[simp] theorem fin_ptr {S S1 : AS} {frz : Bool} {b o : Nat} : fin frz S (.ptr b o) S1 = (.ptr b o, { S1 with wm := min S.wm S1.wm, nm := min S.nm S1.nm }, false) := by
  unfold fin
  have hz : (if (frz && decide (S.next ≤ S1.nm)) = true then freeze S.next S1.heap 12 (.ptr b o) else .ptr b o) = .ptr b o := by
    split <;> simp [freeze]
  simp only [hz, nn_ptr]
  rw [if_neg (by simp)]
@[simp] theorem le_s' {a b : Nat} (h : a ≤ b) : a ≤ b + 1 := Nat.le_succ_of_le h
@[simp] theorem min_l' {a b : Nat} (h : a ≤ b) : min a b = a := Nat.min_eq_left h
theorem ret_bool {S : AS} {q : Bool} {a b : Bool} (h : a = true ↔ b = true) : some (AV.bool a, S, q) = some (AV.bool b, S, q) := by
  cases a <;> cases b <;> simp_all
theorem ret_int {S : AS} {q : Bool} {k : IntKind} {a b : Int} (h : a = b) : some (AV.int k a, S, q) = some (AV.int k b, S, q) := by rw [h]
end Go.Ab
