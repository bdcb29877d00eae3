/-
  THE ENGINE, PART 18: calls and rounds: one operation, walked.
-/
import Derived.Test.YtkaadpkokmhfjaaGreatDoorAb16
import Derived.Test.YtkaadpkokmhfjaaGreatDoorAb17
import Derived.RangeFuncRecord
namespace Go.Ab
variable {P : Program} {A : AProg} {R : Rec} {K K' : Nat → Option Obj} {ρ ρ' : Nat → Loc} {S S' : AS} {w w' : World} {E : Env} {a : Act} {o : Oper} {ao : AO} {v : AV}

def Fr (r : Option Nat) : Fence := { Fence.wide with round := r }

def toExit : AExit → Exit
  | .normal => .normal
  | .ret => .ret
  | .exit id => .exit id

def canEnter (P : Program) (k : Nat) : Prop := ∃ fn, P.funcs[k]? = some fn ∧ (fn.name == "runtime.NumGoroutine") = false ∧ fn.body.isNone = false

/-- A value, a state and a world: what a call must come to. -/
def Out (P : Program) (K : Nat → Option Obj) (ρ : Nat → Loc) (S : AS) (w : World) (v : AV) (S' : AS) (v' : Value) (w' : World) : Prop :=
  ∃ K' ρ', VRel K' ρ' v v' ∧ vb S'.next v ∧ Sim P K' ρ' S' w' ∧ Ext K ρ S w K' ρ' S' w'

def callPost (P : Program) (K : Nat → Option Obj) (ρ : Nat → Loc) (S : AS) (w : World) (v : AV) (S' : AS) : Ending → World → Prop
  | .returned v', w' => Out P K ρ S w v S' v' w'
  | _, _ => False

def CallOk (P : Program) (k : Nat) (K : Nat → Option Obj) (ρ : Nat → Loc) (S : AS) (w : World) (us : Array Value) (v : AV) (S' : AS) : Prop :=
  canEnter P k ∧ CallsIn Fence.wide 0 P k us w (callPost P K ρ S w v S')

/-- A call, or a row of the model's own. -/
def ExtOk (P : Program) (k : Nat) (K : Nat → Option Obj) (ρ : Nat → Loc) (S : AS) (w : World) (us : Array Value) (v : AV) (S' : AS) : Prop :=
  CallOk P k K ρ S w us v S' ∨ ∃ v' w', (callFunc k us).run P w = .ok (.value v') w' ∧ Out P K ρ S w v S' v' w'

def markOf (r : Nat) : Deferred := { target := .collected r, args := #[] }
def Marks (K' : Nat → Option Obj) (lo : Nat) (a a' : Act) : Prop := ∃ rs : List Nat, a'.defers = rs.map markOf ++ a.defers ∧ rs.Nodup ∧ ∀ r ∈ rs, K' r = some (.deferred (some [])) ∧ lo ≤ r

def codePost (P : Program) (nt : Nat) (K : Nat → Option Obj) (ρ : Nat → Loc) (S : AS) (w : World) (a : Act) (e : AExit) (E1 : Env) (S1 : AS) : Exit → Act → World → Prop := fun ex a' w' =>
  ex = toExit e ∧ ∃ K' ρ', Sim P K' ρ' S1 w' ∧ ERel K' ρ' S1.next E1 a'.tmps ∧ a'.tmps.size = nt ∧ Ext K ρ S w K' ρ' S1 w' ∧ Marks K' w.heap.size a a'

structure Setup (P : Program) (A : AProg) : Prop where
  fn : ∀ k f, A.fn k = some f → funOk P k f
  ext : ∀ k g, A.ext k = some g → ∀ K ρ S w args (us : Array Value) v S' qt, GRel K A.glob → Sim P K ρ S w → VRels K ρ args us.toList → vbs S.next args → g args S = some (v, S', qt) → ExtOk P k K ρ S w us v S'
  quiet : ∀ k g args S v S', A.ext k = some g → g args S = some (v, S', true) → S' = S
  meth : ∀ t m k, methOf A.meth t m = some k → ∀ v w, (method (P.types.size + Made.depth) t v m).run P w = .ok (k, v) w
  mixed : P.follows .mixedOrders = true

structure RecOk (P : Program) (A : AProg) (R : Rec) : Prop where
  quiet : QuietOk A R
  call : ∀ k args (us : Array Value) S w K ρ v S' qt, GRel K A.glob → Sim P K ρ S w → VRels K ρ args us.toList → vbs S.next args → R.call k args S = some (v, S', qt) → CallOk P k K ρ S w us v S'
  code : ∀ nt c ac r K ρ E S a w e E1 S1, lowerCode P nt c ac = some ac → (r ≠ none → noRF ac = true) → GRel K A.glob → Sim P K ρ S w → ERel K ρ S.next E a.tmps → a.tmps.size = nt →
    R.code ac E S = some (e, E1, S1) → c.wpIn (Fr r) 0 P (codePost P nt K ρ S w a e E1 S1) a w

/-- What stands behind a function value: a call or a round. -/
def Reaches (P : Program) (w : World) (POST : Ending → World → Prop) : Next → Prop
  | .enter k us => CallsIn Fence.wide 0 P k us w POST
  | .round l f tmps as bd => RoundIn Fence.wide 0 P l f tmps as bd w POST
  | .value v' => POST (.returned v') w
  | _ => False

theorem run_callFunc {k : Nat} (h : canEnter P k) (us : Array Value) : (callFunc k us).run P w = .ok (.enter k us) w := by
  obtain ⟨fn, h1, h2, h3⟩ := h
  have h2' : fn.name ≠ "runtime.NumGoroutine" := by simpa using h2
  have h3' : fn.body ≠ none := by intro e; rw [e] at h3; cases h3
  simp [callFunc, h1, h2', h3']

theorem loop_of_live (hS : Sim P K ρ S w) {l : Nat} {E : Env} {ps : List Nat} {as bd : ACode} {st : LoopState} {pend : AExit} (h : look S.heap l = .loop E ps as bd st pend) :
    ∃ r, w.heap[(ρ l).blk]? = some (.loop r) ∧ BRel P K ρ S.next (ρ l) (.loop E ps as bd st pend) (.loop r) := by
  obtain ⟨o, h1, h2, _⟩ := hS.live l (by rw [h]; simp)
  rw [h] at h2
  cases o <;> try exact h2.elim
  exact ⟨_, h1, h2⟩

/-- The record of a loop is changed in its state and its pending jump. -/
theorem loop_write (hS : Sim P K ρ S w) {l : Nat} {E : Env} {ps : List Nat} {as bd : ACode} {st : LoopState} {pend : AExit} (h : look S.heap l = .loop E ps as bd st pend)
    {r : Loop} (hw : w.heap[(ρ l).blk]? = some (.loop r)) (hB : BRel P K ρ S.next (ρ l) (.loop E ps as bd st pend) (.loop r)) (st' : LoopState) (pend' : AExit) (jump : Option Code) (hj : exitCode pend' = jump) :
    Sim P K ρ (S.write l (.loop E ps as bd st' pend') false) (w.putObj (ρ l).blk (.loop { r with state := st', pending := jump })) ∧
      Ext K ρ S w K ρ (S.write l (.loop E ps as bd st' pend') false) (w.putObj (ρ l).blk (.loop { r with state := st', pending := jump })) := by
  have hlt : (ρ l).blk < w.heap.size := (Array.getElem?_eq_some_iff.1 hw).1
  obtain ⟨b1, b2, b3, b4, b5⟩ := hB
  refine sim_write hS (by rw [h]; simp) _ false (.loop { r with state := st', pending := jump }) (World.putObj_heap_same hlt) (fun c hc => World.putObj_heap_other hc) World.putObj_size ⟨rfl, rfl, rfl⟩ ⟨b1, b2, rfl, hj, b5⟩ ?_
  intro _ n hn
  rw [h] at hn
  exact hn
theorem loop_kill (hS : Sim P K ρ S w) {l : Nat} {E : Env} {ps : List Nat} {as bd : ACode} {st : LoopState} {pend : AExit} (h : look S.heap l = .loop E ps as bd st pend)
    {r r' : Loop} (hw : w.heap[(ρ l).blk]? = some (.loop r)) :
    Sim P K ρ (S.write l .dead false) (w.putObj (ρ l).blk (.loop r')) ∧ Ext K ρ S w K ρ (S.write l .dead false) (w.putObj (ρ l).blk (.loop r')) := by
  have hlt : (ρ l).blk < w.heap.size := (Array.getElem?_eq_some_iff.1 hw).1
  exact sim_write hS (by rw [h]; simp) _ false (.loop r') (World.putObj_heap_same hlt) (fun c hc => World.putObj_heap_other hc) World.putObj_size ⟨rfl, rfl, rfl⟩ trivial (fun _ _ _ => trivial)

theorem get_set {E : Env} {t s : Nat} {x : AV} : (E.set t x).get s = if t = s then x else E.get s := by
  induction E with
  | nil => simp only [Env.set, Env.get]
  | cons p r ih =>
    obtain ⟨k, y⟩ := p
    simp only [Env.set]
    by_cases hk : k = t
    · subst hk
      rw [if_pos rfl]
      simp only [Env.get]
      split <;> rfl
    · rw [if_neg hk]
      simp only [Env.get, ih]
      by_cases hks : k = s
      · rw [if_pos hks, if_neg (fun e => hk (by rw [hks, e])), if_pos hks]
      · rw [if_neg hks, if_neg hks]

theorem ERel.set {n : Nat} {tmps : Array Value} (hE : ERel K ρ n E tmps) {t : Nat} {x : AV} {u : Value} (ht : t < tmps.size) (hr : VRel K ρ x u) (hb : vb n x) : ERel K ρ n (E.set t x) (tmps.setIfInBounds t u) := by
  intro s
  rw [get_set]
  by_cases hs : t = s
  · subst hs
    rw [if_pos rfl]
    refine ⟨?_, hb⟩
    simp [ht]
    exact hr
  · rw [if_neg hs]
    refine ⟨?_, (hE s).2⟩
    have : (tmps.setIfInBounds t u).getD s undef = tmps.getD s undef := by
      simp [Array.getElem?_setIfInBounds_ne hs]
    rw [this]; exact (hE s).1

theorem params_rel {n : Nat} : ∀ (ps : List Nat) (xs : List AV) (us : List Value) (E : Env) (tmps : Array Value), (∀ p ∈ ps, p < tmps.size) → VRels K ρ xs us → vbs n xs → ERel K ρ n E tmps →
    ERel K ρ n ((ps.zip xs).foldl (fun E p => E.set p.1 p.2) E) ((ps.zip us).foldl (fun tmps p => tmps.setIfInBounds p.1 p.2) tmps) ∧ ((ps.zip us).foldl (fun tmps p => tmps.setIfInBounds p.1 p.2) tmps).size = tmps.size
  | [], _, _, E, tmps, _, _, _, hE => by simpa using hE
  | p :: ps, [], us, E, tmps, _, hr, _, hE => by have := hr.nil_inv; subst this; simpa using hE
  | p :: ps, x :: xs, us, E, tmps, hp, hr, hb, hE => by
    obtain ⟨u, us, rfl, h1, h2⟩ := hr.cons_inv
    simp only [vbs] at hb
    have := params_rel ps xs us (E.set p x) (tmps.setIfInBounds p u) (fun q hq => by simpa using hp q (List.mem_cons_of_mem _ hq)) h2 hb.2 (hE.set (hp p (List.mem_cons_self ..)) h1 hb.1)
    simpa using this

theorem Out.ext {K1 : Nat → Option Obj} {ρ1 : Nat → Loc} {S1 : AS} {w1 : World} {v' : Value} (h : Ext K ρ S w K1 ρ1 S1 w1) (k : Out P K1 ρ1 S1 w1 v S' v' w') : Out P K ρ S w v S' v' w' := by
  obtain ⟨K2, ρ2, h1, h2, h3, h4⟩ := k
  exact ⟨K2, ρ2, h1, h2, h3, h.trans h4⟩

theorem wpIn_round {c : Code} {n : Nat} {Q : Exit → Act → World → Prop} {l : Nat} (h : c.wpIn (Fr (some l)) n P Q a w) : c.wpIn (Fence.wide.inRound l) n P Q a w := h

theorem round_sound (hR : RecOk P A R) {l : Nat} {args : List AV} {us : Array Value} {qt : Bool} (hG : GRel K A.glob) (hS : Sim P K ρ S w) (hargs : VRels K ρ args us.toList) (hab : vbs S.next args)
    (h : round R l args S = some (v, S', qt)) :
    ∃ nx, (Instr.yield (ρ l).blk us).run P w = .ok nx w ∧ Reaches P w (callPost P K ρ S w v S') nx := by
  unfold round at h
  split at h <;> try contradiction
  rename_i E ps as bd pend hlk
  split at h
  · cases h
  rename_i hlen
  simp only [ne_eq, Decidable.not_not] at hlen
  obtain ⟨r, hw, hB⟩ := loop_of_live hS hlk
  obtain ⟨b1, b2, b3, b4, b5, b6, b7, b8, b9⟩ := hB
  subst b2
  have hsz : us.size = r.params.size := by have := hargs.1; simp at this hlen; omega
  refine ⟨_, run_yield hw hsz, ?_⟩
  have hfold : (r.params.zip us).foldl (fun tmps (t, a) => tmps.setIfInBounds t a) r.tmps = (r.params.toList.zip us.toList).foldl (fun tmps p => tmps.setIfInBounds p.1 p.2) r.tmps := by
    rw [← Array.toList_zip, Array.foldl_toList]
  have hpar := params_rel r.params.toList args us.toList E r.tmps b7 hargs hab b1
  rw [← hfold] at hpar
  split at h <;> try contradiction
  rename_i E1 S1 hrun1
  have hwp1 := hR.code _ _ _ (some (ρ l).blk) K ρ _ S { tmps := (r.params.zip us).foldl (fun tmps (t, a) => tmps.setIfInBounds t a) r.tmps, defers := [] } w _ _ _ b5 (fun _ => b8) hG hS hpar.1 hpar.2 hrun1
  refine roundIn_of_wpIn trivial (wpIn_mono (wpIn_round hwp1) fun e a1 w1 he => ?_)
  obtain ⟨he, K1, ρ1, hS1, hE1, hn1, hX1, _⟩ := he
  subst he
  simp only [toExit, Exit.then]
  split at h <;> try contradiction
  rename_i E2 ps2 as2 bd2 pend2 hlk1
  have hlb : l < S.next := hS.lt (by rw [hlk]; simp)
  have hρ1 : (ρ1 l).blk = (ρ l).blk := by rw [hX1.names l hlb]
  obtain ⟨r1, hw1, hB1⟩ := loop_of_live hS1 hlk1
  have hst : r1.state = .ready := hB1.2.2.1.symm
  refine ⟨_, run_beginRound (by rw [← hρ1]; exact hw1) hst, ?_⟩
  have hput : ({ r1 with state := .busy } : Loop) = { r1 with state := .busy, pending := r1.pending } := rfl
  have hk := loop_write hS1 hlk1 hw1 hB1 .busy pend2 r1.pending hB1.2.2.2.1
  rw [hρ1] at hk
  obtain ⟨hS2, hX2⟩ := hk
  split at h <;> try contradiction
  rename_i e3 E3 S3 hrun2
  obtain ⟨c1, c2, c3, c4, c5, c6, c7, c8, c9⟩ := hB1
  have hX12 := hX1.trans hX2
  have hwp2 := hR.code _ _ _ (some (ρ l).blk) K1 ρ1 E1 _ a1 _ _ _ _ b6 (fun _ => b9) (hG.mono hX1.cellsK) hS2 hE1 hn1 hrun2
  refine wpIn_mono (wpIn_round hwp2) fun e a3 w3 he => ?_
  obtain ⟨he, K3, ρ3, hS3, hE3, hn3, hX3, _⟩ := he
  subst he
  split at h <;> try contradiction
  rename_i E4 ps4 as4 bd4 pend4 hlk3
  have hX03 := hX12.trans hX3
  have hρ3 : (ρ3 l).blk = (ρ l).blk := by rw [hX03.names l hlb]
  obtain ⟨r3, hw3, hB3⟩ := loop_of_live hS3 hlk3
  have hw3' : w3.heap[(ρ l).blk]? = some (.loop r3) := by rw [← hρ3]; exact hw3
  cases e3 with
  | normal =>
    simp only [Option.some.injEq, Prod.mk.injEq] at h
    obtain ⟨rfl, rfl, _⟩ := h
    simp only [toExit, roundPost]
    have hk := loop_write hS3 hlk3 hw3 hB3 .ready .normal none rfl
    rw [hρ3] at hk
    exact ⟨_, _, run_endRound none hw3', K3, ρ3, .bool, trivial, hk.1, hX03.trans hk.2⟩
  | ret =>
    simp only [Option.some.injEq, Prod.mk.injEq] at h
    obtain ⟨rfl, rfl, _⟩ := h
    simp only [toExit, roundPost]
    have hk := loop_write hS3 hlk3 hw3 hB3 .done .ret (some .ret) rfl
    rw [hρ3] at hk
    exact ⟨_, _, run_endRound (some .ret) hw3', K3, ρ3, .bool, trivial, hk.1, hX03.trans hk.2⟩
  | exit id =>
    simp only [Option.some.injEq, Prod.mk.injEq] at h
    obtain ⟨rfl, rfl, _⟩ := h
    simp only [toExit, roundPost]
    have hk := loop_write hS3 hlk3 hw3 hB3 .done (.exit id) (some (.exit id)) rfl
    rw [hρ3] at hk
    exact ⟨_, _, run_endRound (some (.exit id)) hw3', K3, ρ3, .bool, trivial, hk.1, hX03.trans hk.2⟩

theorem callV_fn (hs : Setup P A) (hR : RecOk P A R) {k : Nat} {first captured : List AV} {uf : Value} {args : List AV} {us : Array Value} {qt : Bool} (hG : GRel K A.glob) (hS : Sim P K ρ S w) (hf : VRel K ρ (.fn k first captured) uf) (hfb : vb S.next (.fn k first captured))
    (hargs : VRels K ρ args us.toList) (hab : vbs S.next args) (h : callV A R (.fn k first captured) args S = some (v, S', qt)) :
    ∃ a' b', uf = .func (.func k) a' b' ∧ ExtOk P k K ρ S w ((a' ++ us) ++ b') v S' ∧ (A.ext k = none → CallOk P k K ρ S w ((a' ++ us) ++ b') v S') := by
  simp only [callV] at h
  have hfn : ∃ a' b', uf = .func (.func k) a' b' ∧ VRels K ρ first a'.toList ∧ VRels K ρ captured b'.toList := by
    cases hf with
    | fn ha hb h1 h2 => exact ⟨_, _, rfl, ⟨by simpa using ha, fun i x v hx hv => h1 i x v hx (by simpa using hv)⟩, ⟨by simpa using hb, fun i x v hx hv => h2 i x v hx (by simpa using hv)⟩⟩
  obtain ⟨a', b', rfl, h1, h2⟩ := hfn
  simp only [vb] at hfb
  have hall : VRels K ρ (first ++ args ++ captured) ((a' ++ us) ++ b').toList := by
    simp only [Array.toList_append]
    exact (h1.append hargs).append h2
  have hallb : vbs S.next (first ++ args ++ captured) := vbs_iff.2 fun q hq => by
    rcases List.mem_append.1 hq with hq | hq
    · rcases List.mem_append.1 hq with hq | hq
      · exact vbs_iff.1 hfb.1 q hq
      · exact vbs_iff.1 hab q hq
    · exact vbs_iff.1 hfb.2 q hq
  refine ⟨a', b', rfl, ?_⟩
  split at h
  · rename_i g hg
    exact ⟨hs.ext k g hg K ρ S w _ _ _ _ _ hG hS hall hallb h, fun e => by rw [hg] at e; cases e⟩
  · have := hR.call k _ _ S w K ρ _ _ _ hG hS hall hallb h
    exact ⟨.inl this, fun _ => this⟩

theorem callV_sound (hs : Setup P A) (hR : RecOk P A R) {f : AV} {uf : Value} {args : List AV} {us : Array Value} {qt : Bool} (hG : GRel K A.glob) (hS : Sim P K ρ S w) (hf : VRel K ρ f uf) (hfb : vb S.next f)
    (hargs : VRels K ρ args us.toList) (hab : vbs S.next args) (h : callV A R f args S = some (v, S', qt)) :
    ∃ d nx w', (Deferred.ofValue uf us).run P w = .ok d w ∧ (invoke d.target d.args).run P w = .ok nx w' ∧ Reaches P w' (callPost P K ρ S w v S') nx := by
  cases f with
  | fn k first captured =>
    obtain ⟨a', b', rfl, hok, _⟩ := callV_fn hs hR hG hS hf hfb hargs hab h
    rcases hok with hok | ⟨v', w', h1, h2⟩
    · exact ⟨_, .enter k ((a' ++ us) ++ b'), w, rfl, by simp only [invoke]; exact run_callFunc hok.1 _, hok.2⟩
    · exact ⟨_, .value v', w', rfl, by simp only [invoke]; exact h1, h2⟩
  | yl l =>
    simp only [callV] at h
    cases hf
    obtain ⟨nx, h1, h2⟩ := round_sound hR hG hS hargs hab h
    refine ⟨_, nx, w, rfl, ?_, h2⟩
    simp only [invoke]
    simpa using h1
  | _ => simp [callV] at h

theorem lower_notCall (h : lowerOp P o = some ao) (hn : ∀ c, o.op ≠ .call c) : ao.isCall = false := by
  cases hop : o.op with
  | call c => exact absurd hop (hn c)
  | _ =>
    simp only [lowerOp, hop] at h
    repeat' (split at h)
    all_goals first
      | (cases h; done)
      | (cases h; rfl)
      | (exfalso; have := ‹Op.makeFunc _ _ _ = Op.call _›; cases this; done)
      | (exfalso; have := ‹Op.makeMap _ _ = Op.call _›; cases this; done)
      | (obtain ⟨_, _, rfl⟩ := Option.map_eq_some_iff.1 h; rfl)
      | (obtain ⟨_, _, h⟩ := Option.bind_eq_some_iff.1 h; repeat' (split at h)
         all_goals first | (cases h; done) | (cases h; rfl))

theorem lower_call {f : AX} {args : List AX} (h : lowerOp P o = some (.call f args)) : ∃ c fo, o.op = .call c ∧ c.callee = .value fo ∧ opdA fo = some f ∧ opdsA c.args.toList = some args := by
  by_cases hop : ∃ c, o.op = .call c
  · obtain ⟨c, hop⟩ := hop
    simp only [lowerOp, hop] at h
    split at h <;> try contradiction
    rename_i as has
    split at h
    · rename_i fo hc
      obtain ⟨f', hf, he⟩ := Option.map_eq_some_iff.1 h
      injection he with he1 he2
      subst he1; subst he2
      exact ⟨c, fo, hop, hc, hf, has⟩
    · obtain ⟨f', hf, he⟩ := Option.map_eq_some_iff.1 h
      cases he
    · obtain ⟨f', hf, he⟩ := Option.map_eq_some_iff.1 h
      cases he
  · have := lower_notCall h fun c hc => hop ⟨c, hc⟩
    cases this

theorem lower_invoke {m : String} {f : AX} {args : List AX} (h : lowerOp P o = some (.invoke m f args)) : ∃ c fo, o.op = .call c ∧ c.callee = .invoke fo m ∧ opdA fo = some f ∧ opdsA c.args.toList = some args := by
  by_cases hop : ∃ c, o.op = .call c
  · obtain ⟨c, hop⟩ := hop
    simp only [lowerOp, hop] at h
    split at h <;> try contradiction
    rename_i as has
    split at h
    · obtain ⟨f', hf, he⟩ := Option.map_eq_some_iff.1 h
      cases he
    · rename_i fo m' hc
      obtain ⟨f', hf, he⟩ := Option.map_eq_some_iff.1 h
      injection he with he1 he2 he3
      subst he1; subst he2; subst he3
      exact ⟨c, fo, hop, hc, hf, has⟩
    · obtain ⟨f', hf, he⟩ := Option.map_eq_some_iff.1 h
      cases he
  · have := lower_notCall h fun c hc => hop ⟨c, hc⟩
    cases this

/-- One operation, walked. -/
theorem aoper_sound (hs : Setup P A) (hR : RecOk P A R) {q : Bool} {r : Option Nat} {Q : Exit → Act → World → Prop} {next : Act → World → Prop} (hG : GRel K A.glob) (hS : Sim P K ρ S w) (hE : ERel K ρ S.next E a.tmps)
    (hlow : lowerOp P o = some ao) (h : aoper A R q E S ao = some (v, S')) (hn : ∀ v' w', Out P K ρ S w v S' v' w' → next (a.put o.dst v') w') : o.wpIn (Fr r) 0 P a w next Q := by
  refine ⟨fun _ _ => trivial, ?_⟩
  have hnd : ∀ c, o.op ≠ .defer c := by intro c hc; simp only [lowerOp, hc] at hlow; cases hlow
  rw [show (Fr r).round = r from rfl, Oper.semAt_eq _ _ _ hnd]
  have plain : aop A.glob E S ao = some (v, S') → o.uponIn (Fr r) 0 P a next Q ((execOp a.eval o).run P w) := by
    intro h
    obtain ⟨v', w', K', ρ', h1, h2⟩ := aop_sound hG hS hE hlow h
    rcases h1 with h1 | ⟨h1, h3⟩
    · rw [h1]; exact hn v' w' ⟨K', ρ', h2⟩
    · rw [h1]; subst h3; exact hn _ w' ⟨K', ρ', h2⟩
  have calls : ∀ (d : Deferred) (nx : Next) (w1 : World), (execOp a.eval o).run P w = (invoke d.target d.args).run P w → (invoke d.target d.args).run P w = .ok nx w1 → Reaches P w1 (callPost P K ρ S w v S') nx →
      o.uponIn (Fr r) 0 P a next Q ((execOp a.eval o).run P w) := by
    intro d nx w1 h1 h2 h3
    rw [h1, h2]
    cases nx <;> try exact h3.elim
    · exact hn _ w1 h3
    · refine ⟨fun h => (by cases h), CallsIn.mono (F := Fr r) h3 fun e w' he => ?_⟩
      cases e with
      | returned v' => exact hn v' w' he
      | _ => exact he.elim
    · refine ⟨fun h => (by cases h), RoundIn.mono (F := Fr r) h3 fun e w' he => ?_⟩
      cases e with
      | returned v' => exact hn v' w' he
      | _ => exact he.elim
  cases ao with
  | call f args =>
    obtain ⟨c, fo, hop, hc, hfo, hargs⟩ : ∃ c fo, o.op = .call c ∧ c.callee = .value fo ∧ opdA fo = some f ∧ opdsA c.args.toList = some args := lower_call hlow
    simp only [aoper] at h
    split at h <;> try contradiction
    rename_i v1 S1 qt hcall
    have hv : v1 = v ∧ S1 = S' := by
      split at h
      · cases h
      · simpa using h
    obtain ⟨rfl, rfl⟩ := hv
    have hf := opd_rel hE hfo
    have ha := opds_rel hE hargs
    obtain ⟨d, nx, w1, h1, h2, h3⟩ := callV_sound hs hR (us := c.args.map a.eval) hG hS hf.1 hf.2 (by simpa using ha.1) ha.2 hcall
    refine calls d nx w1 ?_ h2 h3
    simp only [execOp, hop, resolve, hc, Sem.run_bind, h1, Result.andThen_ok]
  | invoke m x args =>
    obtain ⟨c, fo, hop, hc, hfo, hargs⟩ : ∃ c fo, o.op = .call c ∧ c.callee = .invoke fo m ∧ opdA fo = some x ∧ opdsA c.args.toList = some args := lower_invoke hlow
    have hf := opd_rel hE hfo
    have ha := opds_rel hE hargs
    simp only [aoper] at h
    split at h <;> try contradiction
    rename_i t u hx
    rw [hx] at hf
    split at h <;> try contradiction
    rename_i k hk
    split at h <;> try contradiction
    rename_i v1 S1 qt hcall
    have hv : v1 = v ∧ S1 = S' := by
      split at h
      · cases h
      · simpa using h
    obtain ⟨rfl, rfl⟩ := hv
    obtain ⟨u', hu', hru⟩ : ∃ u', a.eval fo = .iface t u' ∧ VRel K ρ u u' := by
      have := hf.1
      generalize a.eval fo = z at this
      cases this with
      | iface h => exact ⟨_, rfl, h⟩
    have hub : vb S.next u := by simpa [vb] using hf.2
    obtain ⟨d, nx, w1, h1, h2, h3⟩ := callV_sound hs hR (f := .fn k [] []) (uf := .func (.func k) #[] #[]) (us := #[u'] ++ c.args.map a.eval) hG hS
      (.fn rfl rfl (fun i x v hx => by simp at hx) (fun i x v hx => by simp at hx)) (by simp [vb, vbs]) (by simpa using VRels.cons hru (by simpa using ha.1)) (by simp only [vbs]; exact ⟨hub, ha.2⟩) hcall
    simp only [Deferred.ofValue, Sem.run_pure, Result.ok.injEq, and_true] at h1
    subst h1
    refine calls _ nx w1 ?_ h2 h3
    simp only [invoke] at h2 ⊢
    simp only [execOp, hop, resolve, hc, Sem.run_bind, Sem.run_pure, Result.andThen_ok, invoke, hu']
    have e0 : (#[Value.iface t u'] ++ c.args.map a.eval)[0]? = some (Value.iface t u') := by simp [Array.getElem?_append]
    have e1 : (#[Value.iface t u'] ++ c.args.map a.eval).extract 1 (#[Value.iface t u'] ++ c.args.map a.eval).size = c.args.map a.eval := by simp
    rw [e0, e1]
    have e2 : (program).run P w = .ok P w := rfl
    simp only [callMethod, Sem.run_bind, e2, Result.andThen_ok, hs.meth t m k hk u' w]
    simp
  | _ => exact plain h
end Go.Ab
