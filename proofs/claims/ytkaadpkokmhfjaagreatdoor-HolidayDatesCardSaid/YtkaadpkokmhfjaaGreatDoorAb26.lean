/-
  THE ENGINE, PART 26: equations for symbolic runs.
-/
import Derived.Test.YtkaadpkokmhfjaaGreatDoorAb25
namespace Go.Ab
variable {A : AProg} {E : Env} {S : AS}

theorem e_skip : (evW A).code .skip E S = some (.normal, E, S) := by rw [evW_code]; rfl
theorem e_ret : (evW A).code .ret E S = some (.ret, E, S) := by rw [evW_code]; rfl
theorem e_exit {i : Nat} : (evW A).code (.exit i) E S = some (.exit i, E, S) := by rw [evW_code]; rfl
theorem e_scope {a : ACode} : (evW A).code (.scope a) E S = (evW A).code a E S := by rw [evW_code]; rfl
theorem e_seq {a b : ACode} : (evW A).code (.seq a b) E S = match (evW A).code a E S with
    | some (.normal, E1, S1) => (evW A).code b E1 S1
    | r => r := by rw [evW_code]; rfl
theorem e_cond {c : AX} {a b : ACode} : (evW A).code (.cond c a b) E S = match c.ev E with
    | .bool t => if t then (evW A).code a E S else (evW A).code b E S
    | _ => none := by rw [evW_code]; rfl
theorem e_block {i : Nat} {a : ACode} : (evW A).code (.block i a) E S = match (evW A).code a E S with
    | some (.exit j, E1, S1) => if j = i then some (.normal, E1, S1) else some (.exit j, E1, S1)
    | r => r := by rw [evW_code]; rfl
theorem e_region {d : Bool} {keep : List Nat} {ops : List AOp} : (evW A).code (.region d keep [] ops) E S = match aops A (evW A) ops E S with
    | some (E1, S1) => some (.normal, E1.mask keep, S1)
    | none => none := by rw [evW_code]; rfl
theorem e_regionT {d : Bool} {keep : List Nat} {c : Nat × Nat} {chk : List (Nat × Nat)} {ops : List AOp} : (evW A).code (.region d keep (c :: chk) ops) E S = match aopsT A (evW A) ops E S with
    | some (tr, E1, S1) => if chkAll A.glob ops tr S1 (c :: chk) then some (.normal, E1.mask keep, S1) else none
    | none => none := by rw [evW_code]; rfl
theorem e_loop {live : List Nat} {a : ACode} : (evW A).code (.loop live a) E S = match (evW A).code a (E.mask live) S with
    | some (.normal, E1, S1) => (evW A).code (.loop live a) E1 S1
    | r => r := by rw [evW_code]; rfl
theorem e_loopN {c : ACode} {live : List Nat} {a : ACode} (h : c = .loop live a) : (evW A).code c E S = match (evW A).code a (E.mask live) S with
    | some (.normal, E1, S1) => (evW A).code c E1 S1
    | r => r := by subst h; exact e_loop

/-- The end of a call. -/
def finish (G : Nat → Option (List AV)) (f : AFun) (S : AS) : Option (AExit × Env × AS) → Option (AV × AS × Bool)
  | some (.normal, E1, S1) => (getRes G E1 S1 f.res).map fun vs => fin f.frz S (oneOf vs) S1
  | some (.ret, E1, S1) => (getRes G E1 S1 f.res).map fun vs => fin f.frz S (oneOf vs) S1
  | _ => none
theorem e_call {k : Nat} {f : AFun} {l : List AV} (hf : A.fn k = some f) (hl : l.length ≤ f.nt) : (evW A).call k l S = finish A.glob f S ((evW A).code f.body (argEnv 0 l) { S with wm := S.next, nm := S.next }) := by
  rw [evW_call, stepCall]
  simp only [hf, if_pos hl]
  generalize (evW A).code f.body (argEnv 0 l) { S with wm := S.next, nm := S.next } = r
  match r with
  | none => rfl
  | some (.normal, E1, S1) => simp only [finish]; cases getRes A.glob E1 S1 f.res <;> rfl
  | some (.ret, E1, S1) => simp only [finish]; cases getRes A.glob E1 S1 f.res <;> rfl
  | some (.exit _, E1, S1) => rfl

theorem cv_none {R : Rec} {k : Nat} {l : List AV} (h : A.ext k = none) : callV A R (.fn k [] []) l S = R.call k l S := by
  simp only [callV, h, List.nil_append, List.append_nil]
theorem cv_some {R : Rec} {k : Nat} {l : List AV} {g : List AV → AS → Option (AV × AS × Bool)} (h : A.ext k = some g) : callV A R (.fn k [] []) l S = g l S := by
  simp only [callV, h, List.nil_append, List.append_nil]
theorem wrapI_small {n : Int} (h1 : -1000000000000000 ≤ n) (h2 : n ≤ 1000000000000000) : wrapI .i64 n = n := by
  show (if -9223372036854775808 ≤ n ∧ n ≤ 9223372036854775807 then n else _) = n
  rw [if_pos ⟨by omega, by omega⟩]

/-- A call that leaves the state alone. -/
theorem fin_same {frz : Bool} {v : AV} (hv : noName v = true) (hz : ∀ n h, freeze n h 12 v = v) : fin frz S v { S with wm := S.next, nm := S.next } = (v, S, true) := by
  unfold fin
  simp only [hz, ite_self, hv, and_true, Nat.le_refl, if_true]
theorem fin_bool {frz b : Bool} : fin frz S (.bool b) { S with wm := S.next, nm := S.next } = (.bool b, S, true) := fin_same rfl fun _ _ => by simp [freeze]
theorem fin_int {frz : Bool} {k : IntKind} {n : Int} : fin frz S (.int k n) { S with wm := S.next, nm := S.next } = (.int k n, S, true) := fin_same rfl fun _ _ => by simp [freeze]

/-! The same with the rest of the run kept shut until its turn comes -/
noncomputable def seqK (A : AProg) (b : ACode) : Option (AExit × Env × AS) → Option (AExit × Env × AS)
  | some (.normal, E1, S1) => (evW A).code b E1 S1
  | some (.ret, E1, S1) => some (.ret, E1, S1)
  | some (.exit i, E1, S1) => some (.exit i, E1, S1)
  | none => none
noncomputable def condK (A : AProg) (a b : ACode) (E : Env) (S : AS) : AV → Option (AExit × Env × AS)
  | .bool true => (evW A).code a E S
  | .bool false => (evW A).code b E S
  | _ => none
def blockK (i : Nat) : Option (AExit × Env × AS) → Option (AExit × Env × AS)
  | some (.exit j, E1, S1) => if j = i then some (.normal, E1, S1) else some (.exit j, E1, S1)
  | some (.normal, E1, S1) => some (.normal, E1, S1)
  | some (.ret, E1, S1) => some (.ret, E1, S1)
  | none => none
def regK (keep : List Nat) : Option (Env × AS) → Option (AExit × Env × AS)
  | some (E1, S1) => some (.normal, E1.mask keep, S1)
  | none => none
def regTK (G : Nat → Option (List AV)) (keep : List Nat) (ops : List AOp) (chk : List (Nat × Nat)) : Option (List (Env × AS × AV) × Env × AS) → Option (AExit × Env × AS)
  | some (tr, E1, S1) => if chkAll G ops tr S1 chk then some (.normal, E1.mask keep, S1) else none
  | none => none
noncomputable def opK (A : AProg) (dst : Option Nat) (r : List AOp) (E : Env) : Option (AV × AS) → Option (Env × AS)
  | some (v, S') => aops A (evW A) r (putE E dst v) S'
  | none => none
noncomputable def guardK (A : AProg) (o : AOp) (r : List AOp) (E : Env) (S : AS) : Option Bool → Option (Env × AS)
  | some true => opK A o.dst r E (aoper A (evW A) o.q E S o.op)
  | some false => aops A (evW A) r (putE E o.dst (.tup [])) S
  | none => none
def consT (E : Env) (S : AS) (v : AV) : Option (List (Env × AS × AV) × Env × AS) → Option (List (Env × AS × AV) × Env × AS)
  | some (tr, E1, S1) => some ((E, S, v) :: tr, E1, S1)
  | none => none
noncomputable def opTK (A : AProg) (dst : Option Nat) (r : List AOp) (E : Env) (S : AS) : Option (AV × AS) → Option (List (Env × AS × AV) × Env × AS)
  | some (v, S') => consT E S v (aopsT A (evW A) r (putE E dst v) S')
  | none => none
noncomputable def guardTK (A : AProg) (o : AOp) (r : List AOp) (E : Env) (S : AS) : Option Bool → Option (List (Env × AS × AV) × Env × AS)
  | some true => opTK A o.dst r E S (aoper A (evW A) o.q E S o.op)
  | some false => consT E S (.tup []) (aopsT A (evW A) r (putE E o.dst (.tup [])) S)
  | none => none
def callK (q : Bool) : Option (AV × AS × Bool) → Option (AV × AS)
  | some (v, S', quiet) => if q && !quiet then none else some (v, S')
  | none => none

theorem k_seq {a b : ACode} : (evW A).code (.seq a b) E S = seqK A b ((evW A).code a E S) := by
  rw [e_seq]
  generalize (evW A).code a E S = r
  match r with
  | none => rfl
  | some (.normal, _, _) => rfl
  | some (.ret, _, _) => rfl
  | some (.exit _, _, _) => rfl
theorem k_cond {c : AX} {a b : ACode} : (evW A).code (.cond c a b) E S = condK A a b E S (c.ev E) := by
  rw [e_cond]
  cases c.ev E with
  | bool t => cases t <;> rfl
  | _ => rfl
theorem k_block {i : Nat} {a : ACode} : (evW A).code (.block i a) E S = blockK i ((evW A).code a E S) := by
  rw [e_block]
  generalize (evW A).code a E S = r
  match r with
  | none => rfl
  | some (.normal, _, _) => rfl
  | some (.ret, _, _) => rfl
  | some (.exit _, _, _) => rfl
theorem k_region {d : Bool} {keep : List Nat} {ops : List AOp} : (evW A).code (.region d keep [] ops) E S = regK keep (aops A (evW A) ops E S) := by
  rw [e_region]
  cases aops A (evW A) ops E S <;> rfl
theorem k_regionT {d : Bool} {keep : List Nat} {c : Nat × Nat} {chk : List (Nat × Nat)} {ops : List AOp} : (evW A).code (.region d keep (c :: chk) ops) E S = regTK A.glob keep ops (c :: chk) (aopsT A (evW A) ops E S) := by
  rw [e_regionT]
  cases aopsT A (evW A) ops E S <;> rfl
theorem k_loop {c : ACode} {live : List Nat} {a : ACode} (h : c = .loop live a) : (evW A).code c E S = seqK A c ((evW A).code a (E.mask live) S) := by
  rw [e_loopN h]
  generalize (evW A).code a (E.mask live) S = r
  match r with
  | none => rfl
  | some (.normal, _, _) => rfl
  | some (.ret, _, _) => rfl
  | some (.exit _, _, _) => rfl
theorem k_nil : aops A (evW A) [] E S = some (E, S) := rfl
theorem k_cons {o : AOp} {r : List AOp} : aops A (evW A) (o :: r) E S = guardK A o r E S (wantedA E o.grd) := by
  rw [aops]
  cases wantedA E o.grd with
  | none => rfl
  | some t =>
    cases t with
    | false => rfl
    | true => simp only [guardK]; cases aoper A (evW A) o.q E S o.op <;> rfl
theorem k_nilT : aopsT A (evW A) [] E S = some ([], E, S) := rfl
theorem k_consT {o : AOp} {r : List AOp} : aopsT A (evW A) (o :: r) E S = guardTK A o r E S (wantedA E o.grd) := by
  rw [aopsT]
  cases wantedA E o.grd with
  | none => rfl
  | some t =>
    cases t with
    | false => simp only [guardTK]; cases aopsT A (evW A) r (putE E o.dst (.tup [])) S <;> rfl
    | true =>
      simp only [guardTK]
      cases aoper A (evW A) o.q E S o.op with
      | none => rfl
      | some p => simp only [opTK]; cases aopsT A (evW A) r (putE E o.dst p.1) p.2 <;> rfl
theorem k_call {R : Rec} {q : Bool} {f : AX} {args : List AX} : aoper A R q E S (.call f args) = callK q (callV A R (f.ev E) (args.map (AX.ev E)) S) := by
  rw [aoper]
  cases callV A R (f.ev E) (args.map (AX.ev E)) S <;> rfl
theorem k_aop {R : Rec} {q : Bool} {o : AO} (h : o.isCall = false) : aoper A R q E S o = aop A.glob E S o := by cases o <;> first | rfl | cases h

/-! Equations that wait for their turn -/
def lenR (S : AS) : Option Nat → Option (AV × AS)
  | some n => some (.int .i64 n, S)
  | none => none
section
variable {R : Rec} {b c : ACode} {keep : List Nat} {ops r : List AOp} {dst : Option Nat} {o : AOp} {S' : AS} {v : AV} {q t w : Bool} {i j n : Nat} {f : AFun} {G : Nat → Option (List AV)} {x y z : AX} {l : List AX} {args : List AV} {kd : IntKind} {m : Int}
theorem seqK_n : seqK A b (some (.normal, E, S)) = (evW A).code b E S := rfl
theorem seqK_r : seqK A b (some (.ret, E, S)) = some (.ret, E, S) := rfl
theorem seqK_e : seqK A b (some (.exit i, E, S)) = some (.exit i, E, S) := rfl
theorem condK_t : condK A b c E S (.bool true) = (evW A).code b E S := rfl
theorem condK_f : condK A b c E S (.bool false) = (evW A).code c E S := rfl
theorem blockK_n : blockK i (some (.normal, E, S)) = some (.normal, E, S) := rfl
theorem blockK_r : blockK i (some (.ret, E, S)) = some (.ret, E, S) := rfl
theorem blockK_e : blockK i (some (.exit j, E, S)) = if j = i then some (.normal, E, S) else some (.exit j, E, S) := rfl
theorem regK_s : regK keep (some (E, S)) = some (.normal, E.mask keep, S) := rfl
theorem opK_s : opK A dst r E (some (v, S')) = aops A (evW A) r (putE E dst v) S' := rfl
theorem guardK_t : guardK A o r E S (some true) = opK A o.dst r E (aoper A (evW A) o.q E S o.op) := rfl
theorem guardK_f : guardK A o r E S (some false) = aops A (evW A) r (putE E o.dst (.tup [])) S := rfl
theorem callK_s : callK false (some (v, S', q)) = some (v, S') := by cases q <;> rfl
theorem callK_q : callK q (some (v, S', true)) = some (v, S') := by cases q <;> rfl
theorem finish_n : finish G f S (some (.normal, E, S')) = (getRes G E S' f.res).map fun vs => fin f.frz S (oneOf vs) S' := rfl
theorem finish_r : finish G f S (some (.ret, E, S')) = (getRes G E S' f.res).map fun vs => fin f.frz S (oneOf vs) S' := rfl
def grdK (w : Bool) : AV → Option Bool
  | .bool b => some (b == w)
  | .tup _ => some false
  | _ => none
theorem wanted_n : wantedA E none = some true := rfl
theorem wanted_s : wantedA E (some (n, w)) = grdK w (E.get n) := by simp only [wantedA]; unfold grdK; cases E.get n <;> rfl
theorem grdK_b : grdK w (.bool t) = some (t == w) := rfl
theorem grdK_t {vs : List AV} : grdK w (.tup vs) = some false := rfl
def pickK (S : AS) (a b : AV) : AV → Option (AV × AS)
  | .bool t => some (if t then a else b, S)
  | _ => none
theorem pickK_t {a b : AV} : pickK S a b (.bool true) = some (a, S) := rfl
theorem pickK_f {a b : AV} : pickK S a b (.bool false) = some (b, S) := rfl
theorem o_mv : aoper A R q E S (.mv x) = some (x.ev E, S) := rfl
theorem o_pick : aoper A R q E S (.pick x y z) = pickK S (y.ev E) (z.ev E) (x.ev E) := by simp only [aoper, aop]; unfold pickK; cases x.ev E <;> rfl
theorem o_bin {op : BinOp} : aoper A R q E S (.bin op x y) = (abin op (x.ev E) (y.ev E)).map fun v => (v, S) := rfl
theorem o_un {op : UnOp} : aoper A R q E S (.un op x) = (aun op (x.ev E)).map fun v => (v, S) := rfl
theorem o_len {k : Nat} : aoper A R q E S (.bi (.len k) [x]) = lenR S (lenK S.heap k (x.ev E)) := by
  simp only [aoper, aop, lenR]
  cases lenK S.heap k (x.ev E) <;> rfl
theorem lenR_s : lenR S (some n) = some (.int .i64 n, S) := rfl
def sidxK (S : AS) (i : AV) : AV → Option (AV × AS)
  | .str s => (idxA s.length i).bind fun k => (s[k]?).map fun b => (.int .u8 b.toNat, S)
  | _ => none
theorem o_sidx : aoper A R q E S (.sidx x y) = sidxK S (y.ev E) (x.ev E) := by
  simp only [aoper, aop]
  unfold sidxK
  cases x.ev E with
  | str s => simp only; cases idxA s.length (y.ev E) <;> rfl
  | _ => rfl
theorem sidxK_s {s : List UInt8} {a : AV} {u : UInt8} (h : idxA s.length a = some n) (hu : s[n]? = some u) : sidxK S a (.str s) = some (.int .u8 u.toNat, S) := by simp [sidxK, h, hu]
theorem o_call : aoper A R q E S (.call x l) = callK q (callV A R (x.ev E) (l.map (AX.ev E)) S) := k_call
theorem ev_t : (AX.t n).ev E = E.get n := rfl
theorem ev_c {a : AV} : (AX.c a).ev E = a := rfl
theorem ev_f : (AX.f n).ev E = .fn n [] [] := rfl
theorem put_s : putE E (some n) v = (n, v) :: E := rfl
theorem put_n : putE E none v = E := rfl
theorem mask_n : E.mask [] = [] := rfl
theorem mask_c {k : List Nat} : E.mask (n :: k) = (n, E.get n) :: E.mask k := rfl
theorem get_c {k : Nat} {a : AV} : Env.get ((k, a) :: E) n = cond (Nat.beq k n) a (E.get n) := by
  simp only [Env.get]
  by_cases h : k = n
  · subst h; simp
  · have : Nat.beq k n = false := by rw [← Bool.not_eq_true]; intro e; exact h (Nat.eq_of_beq_eq_true e)
    rw [if_neg h, this]; rfl
theorem res_n : getRes G E S [] = some [] := rfl
theorem res_t {rs : List ARes} : getRes G E S (.tmp n :: rs) = (getRes G E S rs).map (E.get n :: ·) := rfl
theorem one_1 : oneOf [v] = v := rfl
theorem get_i {k : Nat} {a : AV} : Env.get ((k, a) :: E) n = if k = n then a else E.get n := rfl
theorem b_add {a b : Int} : abin .add (.int kd a) (.int kd b) = some (.int kd (wrapI kd (a + b))) := by simp [abin, aint]
theorem b_sub {a b : Int} : abin .sub (.int kd a) (.int kd b) = some (.int kd (wrapI kd (a - b))) := by simp [abin, aint]
theorem b_mul {a b : Int} : abin .mul (.int kd a) (.int kd b) = some (.int kd (wrapI kd (a * b))) := by simp [abin, aint]
theorem b_rem {a b : Int} (h : b ≠ 0) : abin .rem (.int kd a) (.int kd b) = some (.int kd (a.tmod b)) := by simp [abin, aint, h]
theorem b_eql {a b : Int} : abin .eql (.int kd a) (.int kd b) = some (.bool (decide (a = b))) := by simp [abin, aint]; rfl
theorem b_neq {a b : Int} : abin .neq (.int kd a) (.int kd b) = some (.bool (decide (a ≠ b))) := by
  simp only [abin, aint, if_true]
  by_cases h : a = b <;> simp [h]
theorem b_lss {a b : Int} : abin .lss (.int kd a) (.int kd b) = some (.bool (decide (a < b))) := by simp [abin, aint]
theorem b_leq {a b : Int} : abin .leq (.int kd a) (.int kd b) = some (.bool (decide (a ≤ b))) := by simp [abin, aint]
theorem b_gtr {a b : Int} : abin .gtr (.int kd a) (.int kd b) = some (.bool (decide (a > b))) := by simp [abin, aint]
theorem b_geq {a b : Int} : abin .geq (.int kd a) (.int kd b) = some (.bool (decide (a ≥ b))) := by simp [abin, aint]
theorem u_not : aun .not (.bool t) = some (.bool (!t)) := rfl
theorem len_0 {h : AHeap} {s : List UInt8} : lenK h 0 (.str s) = some s.length := rfl
end

/-! Memory -/
section
variable {R : Rec} {q g : Bool} {G : Nat → Option (List AV)} {x y : AX} {off sz n b k : Nat} {cs new c : List AV} {h : AHeap} {o p : AB} {v : AV}
def boxK (S : AS) : Option (List AV) → Option (AV × AS)
  | some cs => some (.ptr S.next 0, S.alloc (.cells cs))
  | none => none
theorem o_box : aoper A R q E S (.box x) = boxK S ((x.ev E).cells?) := by
  simp only [aoper, aop]; cases (x.ev E).cells? <;> rfl
theorem boxK_s : boxK S (some cs) = some (.ptr S.next 0, S.alloc (.cells cs)) := rfl
theorem o_new : aoper A R q E S (.new cs) = some (.ptr S.next 0, S.alloc (.cells cs)) := rfl
theorem cells_agg : AV.cells? (.agg cs) = if allCells cs = true then some cs else none := rfl
theorem cells_int {kd : IntKind} {m : Int} : AV.cells? (.int kd m) = some [.int kd m] := rfl
theorem cells_str {s : List UInt8} : AV.cells? (.str s) = some [.str s] := rfl
theorem cells_bool {t : Bool} : AV.cells? (.bool t) = some [.bool t] := rfl
theorem ac_n : allCells [] = true := rfl
theorem ac_c : allCells (v :: cs) = (v.isCell && allCells cs) := rfl
theorem ic_int {kd : IntKind} {m : Int} : (AV.int kd m).isCell = true := rfl
theorem ic_str {s : List UInt8} : (AV.str s).isCell = true := rfl
theorem ic_bool {t : Bool} : (AV.bool t).isCell = true := rfl
def fldK (S : AS) (off : Nat) : AV → Option (AV × AS)
  | .ptr b o => some (.ptr b (o + off), S)
  | .cptr cs => if off ≤ cs.length then some (.cptr (cs.drop off), S) else none
  | .gptr g o => some (.gptr g (o + off), S)
  | _ => none
theorem o_fldaddr : aoper A R q E S (.fldaddr off x) = fldK S off (x.ev E) := by simp only [aoper, aop]; unfold fldK; cases x.ev E <;> rfl
theorem fldK_p : fldK S off (.ptr b n) = some (.ptr b (n + off), S) := rfl
def ldC (S : AS) (g : Bool) (sz off : Nat) : AB → Option (AV × AS)
  | .cells c => (apart g off sz c).map fun v => (v, S)
  | _ => none
def ldK (G : Nat → Option (List AV)) (S : AS) (g : Bool) (sz : Nat) : AV → Option (AV × AS)
  | .ptr b o => ldC S g sz o (look S.heap b)
  | v => (S.load G g sz v).map fun v => (v, S)
theorem o_load : aoper A R q E S (.load g sz x) = ldK A.glob S g sz (x.ev E) := by
  simp only [aoper, aop]
  unfold ldK
  cases x.ev E with
  | ptr b o => simp only [AS.load]; cases look S.heap b <;> rfl
  | _ => rfl
theorem ldK_p : ldK G S g sz (.ptr b n) = ldC S g sz n (look S.heap b) := rfl
theorem ldC_c : ldC S g sz off (.cells c) = (apart g off sz c).map fun v => (v, S) := rfl
theorem ap_f : apart false off sz c = c[off]? := rfl
theorem ap_t : apart true off sz c = if off + sz ≤ c.length then some (.agg ((c.drop off).take sz)) else none := rfl
def stC (S : AS) (sz : Nat) (new : List AV) (b off : Nat) : AB → Option (AV × AS)
  | .cells c => if new.length = sz ∧ off + sz ≤ c.length then some (.tup [], S.write b (.cells (putAt c off new)) (!noNames new)) else none
  | _ => none
def stK (S : AS) (sz : Nat) : Option (List AV) → AV → Option (AV × AS)
  | some new, .ptr b o => stC S sz new b o (look S.heap b)
  | _, _ => none
theorem o_store : aoper A R q E S (.store sz x y) = stK S sz ((y.ev E).cells?) (x.ev E) := by
  simp only [aoper, aop]
  cases x.ev E with
  | ptr b o =>
    cases (y.ev E).cells? with
    | none => rfl
    | some new => simp only [stK]; cases look S.heap b <;> rfl
  | _ => cases (y.ev E).cells? <;> rfl
theorem stK_p : stK S sz (some new) (.ptr b n) = stC S sz new b n (look S.heap b) := rfl
theorem stC_c : stC S sz new b off (.cells c) = if new.length = sz ∧ off + sz ≤ c.length then some (.tup [], S.write b (.cells (putAt c off new)) (!noNames new)) else none := rfl
theorem lk_c : look ((k, o) :: h) b = if k = b then o else look h b := rfl
theorem up_c : upd ((k, o) :: h) b p = if k = b then (k, p) :: h else (k, o) :: upd h b p := rfl
theorem o_build {z : List AV} {ps : List (Nat × Nat × AX)} : aoper A R q E S (.build z ps) = (fillA E z ps).map fun cs => (.agg cs, S) := rfl
theorem fill_n {z : List AV} : fillA E z [] = some z := rfl
def fillK (E : Env) (z : List AV) (off sz : Nat) (r : List (Nat × Nat × AX)) : Option (List AV) → Option (List AV)
  | some new => if new.length = sz ∧ off + sz ≤ z.length then fillA E (putAt z off new) r else none
  | none => none
theorem fill_c {z : List AV} {r : List (Nat × Nat × AX)} : fillA E z ((off, sz, x) :: r) = fillK E z off sz r ((x.ev E).cells?) := by
  simp only [fillA]; cases (x.ev E).cells? <;> rfl
theorem fillK_s {z : List AV} {r : List (Nat × Nat × AX)} : fillK E z off sz r (some new) = if new.length = sz ∧ off + sz ≤ z.length then fillA E (putAt z off new) r else none := rfl
def idxK (S : AS) (n : Nat) (g : Bool) (sz : Nat) (i : AV) : AV → Option (AV × AS)
  | .agg cs => (idxA n i).bind fun k => (apart g (k * sz) sz cs).map fun v => (v, S)
  | _ => none
theorem o_idx : aoper A R q E S (.idx n g sz x y) = idxK S n g sz (y.ev E) (x.ev E) := by
  simp only [aoper, aop]
  unfold idxK
  cases x.ev E with
  | agg cs => simp only; cases idxA n (y.ev E) <;> rfl
  | _ => rfl
theorem idxK_s {i : AV} (h : idxA n i = some k) : idxK S n g sz i (.agg cs) = (apart g (k * sz) sz cs).map fun v => (v, S) := by simp [idxK, h]
theorem o_eq {neg : Bool} {t : ETy} : aoper A R q E S (.eq neg t x y) = (aeq t (x.ev E) (y.ev E)).map fun b => (.bool (if neg then !b else b), S) := rfl
theorem eq_bool {t u : Bool} : aeq .bool (.bool t) (.bool u) = some (t == u) := rfl
theorem eq_flat {ks : List Nat} {as bs : List AV} : aeq (.flat ks) (.agg as) (.agg bs) = if as.length = ks.length ∧ bs.length = ks.length then eqK ks as bs else none := rfl
theorem eqK_n : eqK [] [] [] = some true := rfl
theorem eqK_i {ks : List Nat} {as bs : List AV} {kd : IntKind} {m l : Int} : eqK (1 :: ks) (.int kd m :: as) (.int kd l :: bs) = if m = l then eqK ks as bs else some false := by
  simp only [eqK, eq1, if_true]
  by_cases h : m = l
  · simp [h]
  · have e : (m == l) = false := by simpa using h
    rw [e, if_neg h]
theorem eqK_s {ks : List Nat} {as bs : List AV} {s t : List UInt8} : eqK (2 :: ks) (.str s :: as) (.str t :: bs) = if s = t then eqK ks as bs else some false := by
  simp only [eqK, eq1]
  by_cases h : s = t
  · simp [h]
  · have e : (s == t) = false := by simpa using h
    rw [e, if_neg h]
theorem regTK_s {tr : List (Env × AS × AV)} {keep : List Nat} {ops : List AOp} {chk : List (Nat × Nat)} {S1 : AS} : regTK G keep ops chk (some (tr, E, S1)) = if chkAll G ops tr S1 chk then some (.normal, E.mask keep, S1) else none := rfl
theorem consT_s {tr : List (Env × AS × AV)} {E1 : Env} {S1 : AS} : consT E S v (some (tr, E1, S1)) = some ((E, S, v) :: tr, E1, S1) := rfl
theorem opTK_s {dst : Option Nat} {r : List AOp} {S' : AS} : opTK A dst r E S (some (v, S')) = consT E S v (aopsT A (evW A) r (putE E dst v) S') := rfl
theorem guardTK_t {o : AOp} {r : List AOp} : guardTK A o r E S (some true) = opTK A o.dst r E S (aoper A (evW A) o.q E S o.op) := rfl
theorem guardTK_f {o : AOp} {r : List AOp} : guardTK A o r E S (some false) = consT E S (.tup []) (aopsT A (evW A) r (putE E o.dst (.tup [])) S) := rfl
/-- A call that leaves old memory alone. -/
theorem fin_new {frz : Bool} {t : Bool} {S1 : AS} (h1 : S.next ≤ S1.nm) (h2 : S.next ≤ S1.wm) : fin frz S (.bool t) S1 = (.bool t, S, true) := by
  unfold fin
  have hz : (if (frz && decide (S.next ≤ S1.nm)) = true then freeze S.next S1.heap 12 (.bool t) else .bool t) = .bool t := by split <;> simp [freeze]
  simp only [hz]
  rw [if_pos ⟨h1, rfl⟩, if_pos h2]
end

theorem get_cons {k t : Nat} {v : AV} : Env.get ((k, v) :: E) t = if k = t then v else E.get t := rfl
theorem get_nil {t : Nat} : Env.get [] t = .bad := rfl
end Go.Ab
