/-
  THE ENGINE, PART 17: operations of the evaluator's: what they depend on; a region's run, operation by operation.
-/
import Derived.Test.YtkaadpkokmhfjaaGreatDoorAb2
namespace Go.Ab
variable {A : AProg} {R : Rec} {q : Bool} {E E' : Env} {S S' : AS} {v : AV} {o : AO}

theorem ev_congr {x : AX} (h : ∀ t ∈ x.slots, E.get t = E'.get t) : x.ev E = x.ev E' := by
  cases x with
  | t n => exact h n (by simp [AX.slots])
  | _ => rfl

theorem fillA_congr : ∀ (ps : List (Nat × Nat × AX)) (cs : List AV), (∀ p ∈ ps, p.2.2.ev E = p.2.2.ev E') → fillA E cs ps = fillA E' cs ps
  | [], _, _ => rfl
  | (off, sz, x) :: r, cs, h => by
    have hx := h _ (List.mem_cons_self ..)
    simp only at hx
    simp only [fillA, hx]
    split
    · split
      · exact fillA_congr r _ fun p hp => h p (List.mem_cons_of_mem _ hp)
      · rfl
    · rfl

theorem map_ev_congr {l : List AX} (h : ∀ x ∈ l, x.ev E = x.ev E') : l.map (AX.ev E) = l.map (AX.ev E') := List.map_congr_left h

theorem opt_ev_congr {x : Option AX} (h : ∀ y ∈ x.toList, y.ev E = y.ev E') : x.map (AX.ev E) = x.map (AX.ev E') := by
  cases x with
  | none => rfl
  | some y => simp only [Option.map_some, h y (by simp)]

theorem aoper_congr (h : ∀ t ∈ slotsOf o.opds, E.get t = E'.get t) : aoper A R q E S o = aoper A R q E' S o := by
  have hx : ∀ x ∈ o.opds, x.ev E = x.ev E' := fun x hx => ev_congr fun t ht => h t (List.mem_flatMap.2 ⟨x, hx, ht⟩)
  clear h
  cases o with
  | build z ps => simp only [aoper, aop]; rw [fillA_congr ps z fun p hp => hx _ (List.mem_map.2 ⟨p, hp, rfl⟩)]
  | bslice z ps n s => simp only [aoper, aop]; rw [fillA_congr ps z fun p hp => hx _ (List.mem_map.2 ⟨p, hp, rfl⟩)]
  | mkfn f a b =>
    simp only [AO.opds, List.mem_append] at hx
    simp only [aoper, aop]
    rw [map_ev_congr fun x h => hx x (.inl h), map_ev_congr fun x h => hx x (.inr h)]
  | slice k x a b c =>
    simp only [AO.opds, List.mem_append, List.mem_singleton] at hx
    simp only [aoper, aop]
    rw [hx x (.inl (.inl (.inl rfl))), opt_ev_congr fun y hy => hx y (.inl (.inl (.inr hy))), opt_ev_congr fun y hy => hx y (.inl (.inr hy)), opt_ev_congr fun y hy => hx y (.inr hy)]
  | bi b l =>
    have hm : l.map (AX.ev E) = l.map (AX.ev E') := map_ev_congr hx
    simp only [AO.opds] at hx
    cases b <;> simp only [aoper, aop, hm]
    all_goals
      cases l with
      | nil => rfl
      | cons x r =>
        have h1 := hx x (List.mem_cons_self ..)
        cases r with
        | nil => simp only [h1]
        | cons y r =>
          have h2 := hx y (List.mem_cons_of_mem _ (List.mem_cons_self ..))
          cases r with
          | nil => simp only [h1, h2]
          | cons z r => rfl
  | call f l =>
    simp only [AO.opds, List.mem_cons] at hx
    simp only [aoper]
    rw [hx f (.inl rfl), map_ev_congr fun x h => hx x (.inr h)]
  | invoke m f l =>
    simp only [AO.opds, List.mem_cons] at hx
    simp only [aoper]
    rw [hx f (.inl rfl), map_ev_congr fun x h => hx x (.inr h)]
  | idxaddr n s x i =>
    have h1 := hx x (by simp [AO.opds])
    have h2 := hx i (by simp [AO.opds])
    cases n <;> simp only [aoper, aop, h1, h2]
  | tassert t ok z x =>
    have h1 := hx x (by simp [AO.opds])
    simp only [aoper, aop, h1]
  | lookup b z ok m k =>
    have h1 := hx m (by simp [AO.opds])
    have h2 := hx k (by simp [AO.opds])
    simp only [aoper, aop, h1, h2]
  | _ =>
    simp [AO.opds] at hx
    simp [aoper, aop, hx]

/-- Pure operations: of any heap. -/
theorem aoper_pure (hp : o.pure = true) : ∃ f : Option AV, ∀ S, aoper A R q E S o = f.map fun v => (v, S) := by
  refine ⟨(aoper A R q E default o).map (·.1), fun S => ?_⟩
  cases o with
  | conv k x =>
    cases k <;> simp only [AO.pure] at hp <;> try contradiction
    all_goals
      simp only [aoper, aop]
      split <;> first | rfl | simp_all
  | bi b l =>
    cases b <;> simp only [AO.pure] at hp <;> try contradiction
    · cases l with
      | nil => rfl
      | cons x r => cases r <;> rfl
    · simp only [aoper, aop]; cases amin (l.map (AX.ev E)) <;> rfl
    · simp only [aoper, aop]; cases amax (l.map (AX.ev E)) <;> rfl
  | idxaddr n s x i =>
    cases n
    all_goals
      simp only [aoper, aop]
      repeat' split
      all_goals first | rfl | (cases idxA _ (i.ev E) <;> rfl) | simp_all
  | mv x => rfl
  | mkfn f a b => rfl
  | _ =>
    simp only [AO.pure] at hp <;> try contradiction
    all_goals
      simp only [aoper, aop]
      first
      | (repeat' split) <;> first | rfl | (simp; done) | (simp_all; done) | (simp [Option.map_map, Function.comp_def]; done)

theorem aoper_reading (hp : o.reading = true) (h : aoper A R q E S o = some (v, S')) : S' = S := by
  cases o with
  | bi b l =>
    cases b <;> simp only [AO.reading] at hp <;> try contradiction
    cases l with
    | nil => simp [aoper, aop] at h
    | cons x r =>
      cases r with
      | nil => simp only [aoper, aop, Option.map_eq_some_iff, Prod.mk.injEq] at h; obtain ⟨_, _, _, h⟩ := h; exact h.symm
      | cons _ _ => simp [aoper, aop] at h
  | conv k x =>
    cases k <;> simp only [AO.reading] at hp <;> try contradiction
    simp only [aoper, aop] at h
    repeat' (split at h <;> try contradiction)
    obtain ⟨r, _, h⟩ := Option.map_eq_some_iff.1 h
    simp only [Prod.mk.injEq] at h
    exact h.2.symm
  | load g s x => simp only [aoper, aop, Option.map_eq_some_iff, Prod.mk.injEq] at h; obtain ⟨_, _, _, h⟩ := h; exact h.symm
  | slice k x a b c => simp only [aoper, aop, Option.map_eq_some_iff, Prod.mk.injEq] at h; obtain ⟨_, _, _, h⟩ := h; exact h.symm
  | lookup b z ok m k =>
    simp only [aoper, aop] at h
    split at h
    · cases h
    · split at h <;> try contradiction
      · simp only [Option.some.injEq, Prod.mk.injEq] at h; exact h.2.symm
      · split at h <;> try contradiction
        obtain ⟨r, _, h⟩ := Option.map_eq_some_iff.1 h
        cases r <;> (simp only [Prod.mk.injEq] at h; exact h.2.symm)
  | _ => simp only [AO.reading] at hp <;> contradiction

/-- A call that says 'quiet' has changed nothing. -/
structure QuietOk (A : AProg) (R : Rec) : Prop where
  call : ∀ k args S v S', R.call k args S = some (v, S', true) → S' = S
  ext : ∀ k g args S v S', A.ext k = some g → g args S = some (v, S', true) → S' = S

theorem callV_quiet (hR : QuietOk A R) {f : AV} {args : List AV} (h : callV A R f args S = some (v, S', true)) : S' = S := by
  unfold callV at h
  split at h
  · split at h
    · rename_i g hg
      exact hR.ext _ _ _ _ _ _ hg h
    · exact hR.call _ _ _ _ _ h
  · unfold round at h
    repeat' (split at h <;> try contradiction)
    all_goals simp at h
  · cases h

def AO.isCall : AO → Bool
  | .call .. | .invoke .. => true
  | _ => false

theorem aoper_quietCall (hR : QuietOk A R) (hc : o.isCall = true) (h : aoper A R true E S o = some (v, S')) : S' = S := by
  cases o <;> simp only [AO.isCall] at hc <;> try contradiction
  · simp only [aoper] at h
    split at h <;> try contradiction
    rename_i v1 S1 qt hcall
    cases qt with
    | false => simp at h
    | true => simp at h; obtain ⟨rfl, rfl⟩ := h; exact callV_quiet hR hcall
  · simp only [aoper] at h
    split at h <;> try contradiction
    split at h <;> try contradiction
    split at h <;> try contradiction
    rename_i v1 S1 qt hcall
    cases qt with
    | false => simp at h
    | true => simp at h; obtain ⟨rfl, rfl⟩ := h; exact callV_quiet hR hcall

/-- Does an operation change the state? -/
def AOp.changes (o : AOp) : Bool := !(o.op.pure || o.quiet)

theorem aoper_still (hR : QuietOk A R) {o : AOp} (hc : o.changes = false) (h : aoper A R o.q E S o.op = some (v, S')) : S' = S := by
  simp only [AOp.changes, Bool.not_eq_false', Bool.or_eq_true] at hc
  rcases hc with hc | hc
  · obtain ⟨f, hf⟩ := aoper_pure (A := A) (R := R) (q := o.q) (E := E) hc
    rw [hf S] at h
    obtain ⟨r, _, h⟩ := Option.map_eq_some_iff.1 h
    simp only [Prod.mk.injEq] at h
    exact h.2.symm
  · simp only [AOp.quiet, Bool.or_eq_true, Bool.and_eq_true] at hc
    rcases hc with hc | ⟨hq, hc⟩
    · exact aoper_reading hc h
    · rw [hq] at h
      exact aoper_quietCall hR (by cases ho : o.op <;> simp_all [AO.isCall]) h

/-! A region's run -/
structure Trace (A : AProg) (R : Rec) (l : List AOp) (Es : Nat → Env) (Ss : Nat → AS) (vs : Nat → AV) : Prop where
  step : ∀ i o, l[i]? = some o → (wantedA (Es i) o.grd = some true ∧ aoper A R o.q (Es i) (Ss i) o.op = some (vs i, Ss (i + 1))) ∨ (wantedA (Es i) o.grd = some false ∧ vs i = .tup [] ∧ Ss (i + 1) = Ss i)
  env : ∀ i o, l[i]? = some o → Es (i + 1) = putE (Es i) o.dst (vs i)

theorem trace_of : ∀ (l : List AOp) (E : Env) (S : AS) {E1 : Env} {S1 : AS}, aops A R l E S = some (E1, S1) → ∃ Es Ss vs, Trace A R l Es Ss vs ∧ Es 0 = E ∧ Ss 0 = S ∧ Es l.length = E1 ∧ Ss l.length = S1
  | [], E, S, E1, S1, h => by
    simp only [aops, Option.some.injEq, Prod.mk.injEq] at h
    obtain ⟨rfl, rfl⟩ := h
    exact ⟨fun _ => E, fun _ => S, fun _ => .bad, ⟨fun i o h => by simp at h, fun i o h => by simp at h⟩, rfl, rfl, rfl, rfl⟩
  | o :: r, E, S, E1, S1, h => by
    have go : ∀ v0 S0, ((wantedA E o.grd = some true ∧ aoper A R o.q E S o.op = some (v0, S0)) ∨ (wantedA E o.grd = some false ∧ v0 = .tup [] ∧ S0 = S)) → aops A R r (putE E o.dst v0) S0 = some (E1, S1) →
        ∃ Es Ss vs, Trace A R (o :: r) Es Ss vs ∧ Es 0 = E ∧ Ss 0 = S ∧ Es (o :: r).length = E1 ∧ Ss (o :: r).length = S1 := by
      intro v0 S0 h0 h1
      obtain ⟨Es, Ss, vs, ht, e1, e2, e3, e4⟩ := trace_of r _ _ h1
      refine ⟨fun i => Nat.casesOn i E Es, fun i => Nat.casesOn i S Ss, fun i => Nat.casesOn i v0 vs, ⟨?_, ?_⟩, rfl, rfl, e3, e4⟩
      · intro i p hp
        cases i with
        | zero =>
          simp only [List.getElem?_cons_zero, Option.some.injEq] at hp
          subst hp
          simp only [e2]
          exact h0
        | succ i => exact ht.step i p (by simpa using hp)
      · intro i p hp
        cases i with
        | zero =>
          simp only [List.getElem?_cons_zero, Option.some.injEq] at hp
          subst hp
          exact e1
        | succ i => exact ht.env i p (by simpa using hp)
    simp only [aops] at h
    split at h <;> try contradiction
    · rename_i hw
      split at h <;> try contradiction
      rename_i v0 S0 h0
      exact go v0 S0 (.inl ⟨hw, h0⟩) h
    · rename_i hw
      exact go _ _ (.inr ⟨hw, rfl, rfl⟩) h

theorem traceT_of : ∀ (l : List AOp) (E : Env) (S : AS) {tr : List (Env × AS × AV)} {E1 : Env} {S1 : AS}, aopsT A R l E S = some (tr, E1, S1) →
    ∃ Es Ss vs, Trace A R l Es Ss vs ∧ Es 0 = E ∧ Ss 0 = S ∧ Es l.length = E1 ∧ Ss l.length = S1 ∧ (∀ i, i < l.length → tr[i]? = some (Es i, Ss i, vs i)) ∧ (∀ i, i ≤ l.length → stAt tr S1 i = Ss i)
  | [], E, S, tr, E1, S1, h => by
    simp only [aopsT, Option.some.injEq, Prod.mk.injEq] at h
    obtain ⟨rfl, rfl, rfl⟩ := h
    exact ⟨fun _ => E, fun _ => S, fun _ => .bad, ⟨fun i o h => by simp at h, fun i o h => by simp at h⟩, rfl, rfl, rfl, rfl, fun i hi => by simp at hi, fun i _ => rfl⟩
  | o :: r, E, S, tr, E1, S1, h => by
    have go : ∀ v0 S0 tr', ((wantedA E o.grd = some true ∧ aoper A R o.q E S o.op = some (v0, S0)) ∨ (wantedA E o.grd = some false ∧ v0 = .tup [] ∧ S0 = S)) → aopsT A R r (putE E o.dst v0) S0 = some (tr', E1, S1) → tr = (E, S, v0) :: tr' →
        ∃ Es Ss vs, Trace A R (o :: r) Es Ss vs ∧ Es 0 = E ∧ Ss 0 = S ∧ Es (o :: r).length = E1 ∧ Ss (o :: r).length = S1 ∧ (∀ i, i < (o :: r).length → tr[i]? = some (Es i, Ss i, vs i)) ∧ (∀ i, i ≤ (o :: r).length → stAt tr S1 i = Ss i) := by
      intro v0 S0 tr' h0 h1 htr
      subst htr
      obtain ⟨Es, Ss, vs, ht, e1, e2, e3, e4, e5, e6⟩ := traceT_of r _ _ h1
      refine ⟨fun i => Nat.casesOn i E Es, fun i => Nat.casesOn i S Ss, fun i => Nat.casesOn i v0 vs, ⟨?_, ?_⟩, rfl, rfl, e3, e4, ?_, ?_⟩
      · intro i p hp
        cases i with
        | zero =>
          simp only [List.getElem?_cons_zero, Option.some.injEq] at hp
          subst hp
          simp only [e2]
          exact h0
        | succ i => exact ht.step i p (by simpa using hp)
      · intro i p hp
        cases i with
        | zero =>
          simp only [List.getElem?_cons_zero, Option.some.injEq] at hp
          subst hp
          exact e1
        | succ i => exact ht.env i p (by simpa using hp)
      · intro i hi
        cases i with
        | zero => rfl
        | succ i => exact e5 i (by simpa using hi)
      · intro i hi
        cases i with
        | zero => rfl
        | succ i => exact e6 i (by simpa using hi)
    simp only [aopsT] at h
    split at h <;> try contradiction
    · rename_i hw
      split at h <;> try contradiction
      rename_i v0 S0 h0
      split at h <;> try contradiction
      rename_i tr' E2 S2 h1
      simp only [Option.some.injEq, Prod.mk.injEq] at h
      obtain ⟨rfl, rfl, rfl⟩ := h
      exact go v0 S0 tr' (.inl ⟨hw, h0⟩) h1 rfl
    · rename_i hw
      split at h <;> try contradiction
      rename_i tr' E2 S2 h1
      simp only [Option.some.injEq, Prod.mk.injEq] at h
      obtain ⟨rfl, rfl, rfl⟩ := h
      exact go _ _ tr' (.inr ⟨hw, rfl, rfl⟩) h1 rfl

mutual
theorem avEq_sound : ∀ (a b : AV), avEq a b = true → a = b
  | .bool a, b, h => by cases b <;> simp [avEq] at h ⊢; exact h
  | .int k a, b, h => by cases b <;> simp [avEq] at h ⊢; exact h
  | .str a, b, h => by cases b <;> simp [avEq] at h ⊢; exact h
  | .ptr a c, b, h => by cases b <;> simp [avEq] at h ⊢; exact h
  | .cptr a, b, h => by cases b <;> simp [avEq] at h ⊢; exact avsEq_sound _ _ h
  | .gptr a c, b, h => by cases b <;> simp [avEq] at h ⊢; exact h
  | .nilPtr, b, h => by cases b <;> simp [avEq] at h ⊢
  | .sl _ _ _ _ _, b, h => by cases b <;> simp [avEq] at h ⊢; exact h
  | .sl0, b, h => by cases b <;> simp [avEq] at h ⊢
  | .nilSl, b, h => by cases b <;> simp [avEq] at h ⊢
  | .lst a n, b, h => by cases b <;> simp [avEq] at h ⊢; exact ⟨avsEq_sound _ _ h.2, h.1⟩
  | .map a, b, h => by cases b <;> simp [avEq] at h ⊢; exact h
  | .nilMap, b, h => by cases b <;> simp [avEq] at h ⊢
  | .fn k a c, b, h => by cases b <;> simp [avEq] at h ⊢; exact ⟨h.1.1, avsEq_sound _ _ h.1.2, avsEq_sound _ _ h.2⟩
  | .yl _, b, h => by cases b <;> simp [avEq] at h
  | .nilFn, b, h => by cases b <;> simp [avEq] at h ⊢
  | .iface t a, b, h => by cases b <;> simp [avEq] at h ⊢; exact ⟨h.1, avEq_sound _ _ h.2⟩
  | .nilIface, b, h => by cases b <;> simp [avEq] at h ⊢
  | .agg a, b, h => by cases b <;> simp [avEq] at h ⊢; exact avsEq_sound _ _ h
  | .tup a, b, h => by cases b <;> simp [avEq] at h ⊢; exact avsEq_sound _ _ h
  | .bad, b, h => by cases b <;> simp [avEq] at h
theorem avsEq_sound : ∀ (a b : List AV), avsEq a b = true → a = b
  | [], b, h => by cases b <;> simp [avsEq] at h ⊢
  | x :: r, b, h => by
    cases b with
    | nil => simp [avsEq] at h
    | cons y s =>
      simp [avsEq] at h
      rw [avEq_sound x y h.1, avsEq_sound r s h.2]
end

theorem reading_aop {q : Bool} (hr : o.reading = true) : aoper A R q E S o = aop A.glob E S o := by cases o <;> simp_all [AO.reading, aoper]

/-- What the checks of a region come to. -/
def ChkOk (A : AProg) (l : List AOp) (Es : Nat → Env) (Ss : Nat → AS) (vs : Nat → AV) (chk : List (Nat × Nat)) : Prop :=
  ∀ i j, (i, j) ∈ chk → ∀ a b, l[i]? = some a → l[j]? = some b →
    (a.op.reading = true → wantedA (Es i) a.grd = some true → ∀ S, S = Ss j ∨ S = Ss (j + 1) → ∃ S', aop A.glob (Es i) S a.op = some (vs i, S')) ∧
    (a.op.reading = false → b.op.reading = true → wantedA (Es j) b.grd = some true → ∀ S, S = Ss i ∨ S = Ss (i + 1) → ∃ S', aop A.glob (Es j) S b.op = some (vs j, S'))

theorem sameAt_sound {G : Nat → Option (List AV)} {o : AOp} {E : Env} {S T : AS} {v : AV} (h : sameAt G o (E, S, v) T = true) (hw : wantedA E o.grd = some true) : ∃ S', aop G E T o.op = some (v, S') := by
  unfold sameAt at h
  simp only [hw] at h
  split at h
  · rename_i v' S' h1
    rw [avEq_sound _ _ h] at h1
    exact ⟨S', h1⟩
  · cases h

theorem chkAll_sound {l : List AOp} {Es : Nat → Env} {Ss : Nat → AS} {vs : Nat → AV} {tr : List (Env × AS × AV)} {S1 : AS} (h1 : ∀ i, i < l.length → tr[i]? = some (Es i, Ss i, vs i)) (h2 : ∀ i, i ≤ l.length → stAt tr S1 i = Ss i) :
    ∀ {chk : List (Nat × Nat)}, chkAll A.glob l tr S1 chk = true → ChkOk A l Es Ss vs chk
  | [], _ => fun i j h => by simp at h
  | (p, q) :: r, h => by
    simp only [chkAll, Bool.and_eq_true] at h
    have ih := chkAll_sound h1 h2 h.2
    intro i j hij a b ha hb
    rcases List.mem_cons.1 hij with he | hij
    · simp only [Prod.mk.injEq] at he
      obtain ⟨rfl, rfl⟩ := he
      have hi : i < l.length := (List.getElem?_eq_some_iff.1 ha).1
      have hj : j < l.length := (List.getElem?_eq_some_iff.1 hb).1
      have hc := h.1
      simp only [chk1, ha, hb, h1 i hi, h1 j hj, h2 i (by omega), h2 j (by omega), h2 (i + 1) hi, h2 (j + 1) hj] at hc
      refine ⟨fun hr hw S hS => ?_, fun hr hr2 hw S hS => ?_⟩
      · simp only [hr, if_true, Bool.and_eq_true] at hc
        rcases hS with rfl | rfl
        · exact sameAt_sound hc.1 hw
        · exact sameAt_sound hc.2 hw
      · simp only [hr, hr2, if_true, Bool.false_eq_true, if_false, Bool.and_eq_true] at hc
        rcases hS with rfl | rfl
        · exact sameAt_sound hc.1 hw
        · exact sameAt_sound hc.2 hw
    · exact ih i j hij a b ha hb

/-! A part of the operations -/
def envX (E : Env) (l : List AOp) (vs : Nat → AV) (X : Nat → Bool) : Nat → Env
  | 0 => E
  | i + 1 => if X i then (match l[i]? with | some o => putE (envX E l vs X i) o.dst (vs i) | none => envX E l vs X i) else envX E l vs X i
def stX (S : AS) (l : List AOp) (Ss : Nat → AS) (X : Nat → Bool) : Nat → AS
  | 0 => S
  | i + 1 => if X i then (match l[i]? with | some o => if o.changes then Ss (i + 1) else stX S l Ss X i | none => stX S l Ss X i) else stX S l Ss X i

theorem get_putE {d : Option Nat} {t : Nat} : (putE E d v).get t = if d = some t then v else E.get t := by
  cases d with
  | none => simp [putE]
  | some d => simp [putE, Env.get]

theorem envX_congr {l : List AOp} {vs : Nat → AV} {X Y : Nat → Bool} {i : Nat} (h : ∀ j, j < i → X j = Y j) : envX E l vs X i = envX E l vs Y i := by
  induction i with
  | zero => rfl
  | succ i ih => simp only [envX, h i (Nat.lt_succ_self i), ih fun j hj => h j (Nat.lt_succ_of_lt hj)]
theorem stX_congr {l : List AOp} {Ss : Nat → AS} {X Y : Nat → Bool} {i : Nat} (h : ∀ j, j < i → X j = Y j) : stX S l Ss X i = stX S l Ss Y i := by
  induction i with
  | zero => rfl
  | succ i ih => simp only [stX, h i (Nat.lt_succ_self i), ih fun j hj => h j (Nat.lt_succ_of_lt hj)]

/-- Nothing behind i has written t. -/
theorem envX_get_le {l : List AOp} {vs : Nat → AV} {X : Nat → Bool} {t i : Nat} : ∀ {n : Nat}, i ≤ n → (∀ k o, i ≤ k → k < n → l[k]? = some o → X k = true → o.dst ≠ some t) →
    (envX E l vs X n).get t = (envX E l vs X i).get t := by
  intro n hn h
  induction n with
  | zero => have : i = 0 := by omega
            subst this; rfl
  | succ n ih =>
    rcases Nat.lt_or_ge n i with hlt | hge
    · have : i = n + 1 := by omega
      subst this; rfl
    · rw [← ih hge fun k o h1 h2 h3 h4 => h k o h1 (by omega) h3 h4]
      simp only [envX]
      split
      · rename_i hX
        split
        · rename_i o ho
          rw [get_putE, if_neg (h n o hge (Nat.lt_succ_self n) ho hX)]
        · rfl
      · rfl
/-- What was written before i has been done. -/
theorem envX_get_eq {l : List AOp} {Es : Nat → Env} {Ss : Nat → AS} {vs : Nat → AV} {X : Nat → Bool} {t : Nat} (ht : Trace A R l Es Ss vs) (h0 : Es 0 = E) : ∀ {i : Nat}, i ≤ l.length → (∀ j o, j < i → l[j]? = some o → o.dst = some t → X j = true) →
    (envX E l vs X i).get t = (Es i).get t := by
  intro i hi h
  induction i with
  | zero => rw [h0]; rfl
  | succ i ih =>
    have ih := ih (by omega) fun j o h1 h2 h3 => h j o (by omega) h2 h3
    have hl : l[i]? = some l[i] := List.getElem?_eq_getElem (by omega)
    rw [ht.env i _ hl, get_putE]
    simp only [envX]
    by_cases hd : (l[i]).dst = some t
    · rw [if_pos (h i _ (Nat.lt_succ_self i) hl hd), hl, if_pos hd]
      simp only [get_putE, if_pos hd]
    · rw [if_neg hd, ← ih]
      split
      · rw [hl]; simp only [get_putE, if_neg hd]
      · rfl
theorem stX_ge {l : List AOp} {Ss : Nat → AS} {X : Nat → Bool} {i : Nat} : ∀ {n : Nat}, i ≤ n → (∀ k o, i ≤ k → k < n → l[k]? = some o → X k = true → o.changes = false) →
    stX S l Ss X n = stX S l Ss X i := by
  intro n hn h
  induction n with
  | zero => have : i = 0 := by omega
            subst this; rfl
  | succ n ih =>
    rcases Nat.lt_or_ge n i with hlt | hge
    · have : i = n + 1 := by omega
      subst this; rfl
    · rw [← ih hge fun k o h1 h2 h3 h4 => h k o h1 (by omega) h3 h4]
      simp only [stX]
      split
      · rename_i hX
        split
        · rename_i o ho
          rw [h n o hge (Nat.lt_succ_self n) ho hX]; rfl
        · rfl
      · rfl
/-- The state of a part: that behind the last change in it. -/
theorem stX_prefix {l : List AOp} {Ss : Nat → AS} {X : Nat → Bool} (h0 : Ss 0 = S) : ∀ n, n ≤ l.length → ∃ m, m ≤ n ∧ stX S l Ss X n = Ss m ∧ (m = 0 ∨ ∃ k o, m = k + 1 ∧ l[k]? = some o ∧ X k = true ∧ o.changes = true) ∧
    (∀ k o, m ≤ k → k < n → l[k]? = some o → X k = true → o.changes = false) := by
  intro n
  induction n with
  | zero => intro _; exact ⟨0, Nat.le_refl _, by rw [h0]; rfl, .inl rfl, fun k o h1 h2 => absurd h2 (by omega)⟩
  | succ n ih =>
    intro hn
    obtain ⟨m, h1, h2, h3, h4⟩ := ih (by omega)
    have hl : l[n]? = some l[n] := List.getElem?_eq_getElem (by omega)
    simp only [stX]
    by_cases hX : X n = true
    · rw [if_pos hX, hl]
      simp only
      cases hc : (l[n]).changes with
      | true => exact ⟨n + 1, Nat.le_refl _, rfl, .inr ⟨n, _, rfl, hl, hX, hc⟩, fun k o h5 h6 => absurd h6 (by omega)⟩
      | false =>
        refine ⟨m, by omega, by simpa using h2, h3, fun k o h5 h6 h7 h8 => ?_⟩
        rcases Nat.lt_or_ge k n with hk | hk
        · exact h4 k o h5 hk h7 h8
        · have : k = n := by omega
          subst this
          rw [hl] at h7; injection h7 with h7; rw [← h7]; exact hc
    · rw [if_neg hX]
      refine ⟨m, by omega, h2, h3, fun k o h5 h6 h7 h8 => ?_⟩
      rcases Nat.lt_or_ge k n with hk | hk
      · exact h4 k o h5 hk h7 h8
      · have : k = n := by omega
        subst this
        exact absurd h8 hX

theorem Ss_same (hR : QuietOk A R) {l : List AOp} {Es : Nat → Env} {Ss : Nat → AS} {vs : Nat → AV} (ht : Trace A R l Es Ss vs) {m : Nat} : ∀ {n : Nat}, m ≤ n → n ≤ l.length → (∀ k o, m ≤ k → k < n → l[k]? = some o → o.changes = false) → Ss n = Ss m := by
  intro n hmn hn h
  induction n with
  | zero => have : m = 0 := by omega
            subst this; rfl
  | succ n ih =>
    rcases Nat.lt_or_ge n m with hlt | hge
    · have : m = n + 1 := by omega
      subst this; rfl
    · have hl : l[n]? = some l[n] := List.getElem?_eq_getElem (by omega)
      rw [← ih hge (by omega) fun k o h1 h2 h3 => h k o h1 (by omega) h3]
      rcases ht.step n _ hl with ⟨_, h2⟩ | ⟨_, _, h2⟩
      · exact aoper_still hR (h n _ hge (Nat.lt_succ_self n) hl) h2
      · exact h2

theorem stX_eq (hR : QuietOk A R) {l : List AOp} {Es : Nat → Env} {Ss : Nat → AS} {vs : Nat → AV} {X : Nat → Bool} (ht : Trace A R l Es Ss vs) (h0 : Ss 0 = S) : ∀ {i : Nat}, i ≤ l.length → (∀ j o, j < i → l[j]? = some o → o.changes = true → X j = true) →
    stX S l Ss X i = Ss i := by
  intro i hi h
  induction i with
  | zero => rw [h0]; rfl
  | succ i ih =>
    have ih := ih (by omega) fun j o h1 h2 h3 => h j o (by omega) h2 h3
    have hl : l[i]? = some l[i] := List.getElem?_eq_getElem (by omega)
    simp only [stX]
    cases hc : (l[i]).changes with
    | true => rw [if_pos (h i _ (Nat.lt_succ_self i) hl hc), hl]; simp only [hc, if_true]
    | false =>
      have hs : Ss (i + 1) = Ss i := by
        rcases ht.step i _ hl with ⟨_, h2⟩ | ⟨_, _, h2⟩
        · exact aoper_still hR hc h2
        · exact h2
      rw [hs, ← ih]
      split
      · rw [hl]; simp only [hc]; rfl
      · rfl
end Go.Ab
