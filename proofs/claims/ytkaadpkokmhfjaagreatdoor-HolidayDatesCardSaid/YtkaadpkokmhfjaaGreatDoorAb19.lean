/-
  THE ENGINE, PART 19: regions, whatever their order.
-/
import Derived.Test.YtkaadpkokmhfjaaGreatDoorAb18
import Derived.OrdersIn
namespace Go.Ab
variable {P : Program} {A : AProg} {R : Rec} {K K' : Nat → Option Obj} {ρ ρ' : Nat → Loc} {S S' : AS} {w w' : World} {E : Env} {a : Act} {o : Oper} {v : AV}

theorem lowerOps_get {nt : Nat} {ops : Array Oper} : ∀ {os : List Oper} {l l' : List AOp}, lowerOps P nt ops os l = some l' → os.length = l'.length ∧ ∀ (i : Nat) (o : Oper), os[i]? = some o → ∃ b c, l'[i]? = some b ∧ lowerAOp P nt ops o c = some b
  | [], [], l', h => by simp only [lowerOps, Option.some.injEq] at h; subst h; simp
  | [], _ :: _, _, h => by simp [lowerOps] at h
  | _ :: _, [], _, h => by simp [lowerOps] at h
  | o :: os, a :: l, l', h => by
    simp only [lowerOps] at h
    split at h <;> try contradiction
    rename_i x r h1 h2
    simp only [Option.some.injEq] at h
    subst h
    have ih := lowerOps_get h2
    refine ⟨by simp [ih.1], fun i p hp => ?_⟩
    cases i with
    | zero => simp only [List.getElem?_cons_zero, Option.some.injEq] at hp; subst hp; exact ⟨x, a, rfl, h1⟩
    | succ i => exact ih.2 i p (by simpa using hp)

theorem lowerAOp_inv {nt : Nat} {ops : Array Oper} {c b : AOp} (h : lowerAOp P nt ops o c = some b) :
    lowerOp P o = some b.op ∧ b.dst = o.dst ∧ (∀ d, o.dst = some d → d < nt) ∧
    ((o.guard = none ∧ b.grd = none) ∨ (∃ j w d, o.guard = some (j, w) ∧ (ops[j]?).bind (·.dst) = some d ∧ b.grd = some (d, w))) := by
  unfold lowerAOp at h
  split at h <;> try contradiction
  rename_i x hx
  dsimp only at h
  split at h <;> try contradiction
  rename_i g hg
  have hd : (match o.dst with | some d => decide (d < nt) | none => true) = true ∧ ({ dst := o.dst, grd := g, q := c.q, op := x } : AOp) = b := by
    cases hdd : o.dst with
    | none => rw [hdd] at h; simpa using h
    | some d => rw [hdd] at h; simpa using h
  obtain ⟨hd, rfl⟩ := hd
  refine ⟨hx, rfl, ?_, ?_⟩
  · intro d hd'
    rw [hd'] at hd
    simpa using hd
  · cases hgu : o.guard with
    | none =>
      rw [hgu] at hg
      simp only [Option.some.injEq] at hg
      exact .inl ⟨rfl, hg.symm⟩
    | some p =>
      obtain ⟨j, w⟩ := p
      rw [hgu] at hg
      simp only at hg
      split at hg <;> try contradiction
      rename_i d hd2
      simp only [Option.some.injEq] at hg
      exact .inr ⟨j, w, d, rfl, hd2, hg.symm⟩

/-- A guard is answered as the evaluator says. -/
theorem wanted_ok {ops : Array Oper} {b : AOp} {t : Bool} {tmps : Array Value} (hE : ∀ d w, b.grd = some (d, w) → VRel K ρ (E.get d) (tmps.getD d undef))
    (hg : (o.guard = none ∧ b.grd = none) ∨ (∃ j w d, o.guard = some (j, w) ∧ (ops[j]?).bind (·.dst) = some d ∧ b.grd = some (d, w))) (h : wantedA E b.grd = some t) :
    Region.wanted o (yielded ops tmps) = t := by
  rcases hg with ⟨h1, h2⟩ | ⟨j, w, d, h1, h2, h3⟩
  · rw [h2] at h
    simp only [wantedA, Option.some.injEq] at h
    simp [Region.wanted, h1, h]
  · have hd := hE d w h3
    rw [h3] at h
    simp only [wantedA] at h
    simp only [Region.wanted, h1, yielded, h2, Option.bind_some]
    split at h <;> try contradiction
    · rename_i x hx
      simp only [Option.some.injEq] at h
      rw [hx] at hd
      have hv := hd.bool_inv
      have hs : tmps[d]? = some (.bool x) := by
        cases ht : tmps[d]? with
        | none => simp [ht, undef] at hv
        | some u => simp [ht] at hv; rw [hv]
      rw [hs]
      simp only
      rw [← h]
      cases x <;> cases w <;> rfl
    · rename_i vs hx
      simp only [Option.some.injEq] at h
      subst h
      rw [hx] at hd
      obtain ⟨us, hv, _⟩ := hd.tup_inv
      cases ht : tmps[d]? with
      | none => rfl
      | some u => simp [ht] at hv; rw [hv]; rfl

theorem ERel.put {n : Nat} {E' : Env} {x : AV} {u : Value} {dst : Option Nat} (hE : ERel K ρ n E a.tmps) (hr : VRel K ρ x u) (hb : vb n x) (hd : ∀ d, dst = some d → d < a.tmps.size)
    (hE' : ∀ t, E'.get t = if dst = some t then x else E.get t) : ERel K ρ n E' (a.put dst u).tmps := by
  intro t
  rw [hE' t]
  cases dst with
  | none => simpa [Act.put] using hE t
  | some d =>
    by_cases h : d = t
    · subst h
      have := hd d rfl
      simp [Act.put, this]
      exact ⟨hr, hb⟩
    · have : (a.tmps.setIfInBounds d u).getD t undef = a.tmps.getD t undef := by
        simp [Array.getElem?_setIfInBounds_ne h]
      simp only [Act.put, Option.some.injEq, if_neg h]
      rw [this]
      exact hE t

theorem put_size {dst : Option Nat} {u : Value} : (a.put dst u).tmps.size = a.tmps.size := by
  cases dst <;> simp [Act.put]
theorem put_defers' {dst : Option Nat} {u : Value} : (a.put dst u).defers = a.defers := by
  cases dst <;> simp [Act.put]

def upX (X : Nat → Bool) (i : Nat) : Nat → Bool := fun j => if j = i then true else X j

/-- When operation i may be taken, the operations of X having been taken. -/
structure May (A : AProg) (S : AS) (l : List AOp) (Es : Nat → Env) (Ss : Nat → AS) (vs : Nat → AV) (X : Nat → Bool) (i : Nat) (b : AOp) : Prop where
  no : X i = false
  reads : ∀ t ∈ b.reads, ∀ (j : Nat) (o' : AOp), j < i → l[j]? = some o' → o'.dst = some t → X j = true
  later : ∀ t ∈ b.reads, ∀ (k : Nat) (o' : AOp), i < k → l[k]? = some o' → o'.dst = some t → X k = false
  heap : b.op.pure = false → ((∀ (j : Nat) (o' : AOp), j < i → l[j]? = some o' → o'.changes = true → X j = true) ∧ (∀ (k : Nat) (o' : AOp), i < k → l[k]? = some o' → o'.changes = true → X k = false)) ∨
    (b.op.reading = true ∧ (wantedA (Es i) b.grd = some true → ∃ S', aop A.glob (Es i) (stX S l Ss X l.length) b.op = some (vs i, S')))
  dst : ∀ d, b.dst = some d → ∀ (k : Nat) (o' : AOp), i < k → l[k]? = some o' → X k = true → o'.dst ≠ some d

theorem envX_up_ne {l : List AOp} {vs : Nat → AV} {X : Nat → Bool} {i t : Nat} (hX : X i = false) (h : ∀ o, l[i]? = some o → o.dst ≠ some t) : ∀ n, (envX E l vs (upX X i) n).get t = (envX E l vs X n).get t := by
  intro n
  induction n with
  | zero => rfl
  | succ n ih =>
    simp only [envX]
    by_cases hn : n = i
    · subst hn
      rw [hX]
      simp only [upX, if_true, Bool.false_eq_true, if_false]
      cases ho : l[n]? with
      | none => exact ih
      | some o => simp only [get_putE, if_neg (h o ho)]; exact ih
    · simp only [upX, if_neg hn]
      split
      · cases ho : l[n]? with
        | none => exact ih
        | some o =>
          simp only [get_putE]
          split
          · rfl
          · exact ih
      · exact ih
theorem stX_up_still {l : List AOp} {Ss : Nat → AS} {X : Nat → Bool} {i : Nat} (hX : X i = false) (h : ∀ o, l[i]? = some o → o.changes = false) : ∀ n, stX S l Ss (upX X i) n = stX S l Ss X n := by
  intro n
  induction n with
  | zero => rfl
  | succ n ih =>
    simp only [stX]
    by_cases hn : n = i
    · subst hn
      rw [hX]
      simp only [upX, if_true, Bool.false_eq_true, if_false]
      cases ho : l[n]? with
      | none => exact ih
      | some o => simp only [h o ho, Bool.false_eq_true, if_false]; exact ih
    · simp only [upX, if_neg hn, ih]

section
variable {l : List AOp} {ops : Array Oper} {Es : Nat → Env} {Ss : Nat → AS} {vs : Nat → AV} {nt : Nat} {r : Option Nat} {Q : Exit → Act → World → Prop}

def Inv (P : Program) (nt : Nat) (K : Nat → Option Obj) (ρ : Nat → Loc) (S : AS) (w0 : World) (a0 : Act) (E : Env) (l : List AOp) (Ss : Nat → AS) (vs : Nat → AV) (X : Nat → Bool) (a : Act) (w : World) : Prop :=
  ∃ K' ρ', Sim P K' ρ' (stX S l Ss X l.length) w ∧ ERel K' ρ' (stX S l Ss X l.length).next (envX E l vs X l.length) a.tmps ∧ a.tmps.size = nt ∧ a.defers = a0.defers ∧ Ext K ρ S w0 K' ρ' (stX S l Ss X l.length) w

theorem op_step (hs : Setup P A) (hR : RecOk P A R) {a0 : Act} {w0 : World} (hG : GRel K A.glob) (hlow : ∀ (i : Nat) (o : Oper), ops[i]? = some o → ∃ b c, l[i]? = some b ∧ lowerAOp P nt ops o c = some b)
    (ht : Trace A R l Es Ss vs) (hE0 : Es 0 = E) (hS0 : Ss 0 = S) {X : Nat → Bool} {i : Nat} (hi : ops[i]? = some o) (hm : ∀ b, l[i]? = some b → May A S l Es Ss vs X i b)
    (hI : Inv P nt K ρ S w0 a0 E l Ss vs X a w) : wpOpIn (Fr r) 0 P ops Q i (Inv P nt K ρ S w0 a0 E l Ss vs (upX X i)) a w := by
  obtain ⟨b, c, hb, hl⟩ := hlow i o hi
  obtain ⟨h1, h2, h3, h4⟩ := lowerAOp_inv hl
  have hm := hm b hb
  have hil : i < l.length := (List.getElem?_eq_some_iff.1 hb).1
  obtain ⟨K', ρ', hS', hE', hn, hd, hX⟩ := hI
  generalize hSX : stX S l Ss X l.length = SX at hS' hE' hX
  -- what the operation reads
  have hread : ∀ t ∈ b.reads, (envX E l vs X l.length).get t = (Es i).get t := by
    intro t ht'
    rw [envX_get_le (i := i) (Nat.le_of_lt hil), envX_get_eq ht hE0 (Nat.le_of_lt hil) fun j o' h5 h6 h7 => hm.reads t ht' j o' h5 h6 h7]
    intro k o' h5 h6 h7 h8 h9
    rcases Nat.lt_or_ge i k with hk | hk
    · have := hm.later t ht' k o' hk h7 h9
      rw [this] at h8; cases h8
    · have : k = i := by omega
      subst this
      rw [hm.no] at h8; cases h8
  -- the environment behind it
  have henv : ∀ t, (envX E l vs (upX X i) l.length).get t = if b.dst = some t then vs i else (envX E l vs X l.length).get t := by
    intro t
    by_cases hdt : b.dst = some t
    · rw [if_pos hdt, envX_get_le (i := i + 1) hil]
      · simp only [envX, upX, if_true, hb, get_putE, if_pos hdt]
      · intro k o' h5 h6 h7 h8
        have hk : k ≠ i := by omega
        simp only [upX, if_neg hk] at h8
        exact hm.dst t hdt k o' (by omega) h7 h8
    · rw [if_neg hdt]
      exact envX_up_ne hm.no (fun o' ho' => by rw [hb] at ho'; injection ho' with ho'; subst ho'; exact hdt) _
  -- the state before and behind it
  have hstrict : b.changes = true → (∀ (j : Nat) (o' : AOp), j < i → l[j]? = some o' → o'.changes = true → X j = true) ∧ (∀ (k : Nat) (o' : AOp), i < k → l[k]? = some o' → o'.changes = true → X k = false) := by
    intro hc
    simp only [AOp.changes, Bool.not_eq_true', Bool.or_eq_false_iff] at hc
    rcases hm.heap hc.1 with h | ⟨h, _⟩
    · exact h
    · simp only [AOp.quiet, h, Bool.true_or] at hc
      exact absurd hc.2 (by simp)
  have hbefore : ((∀ (j : Nat) (o' : AOp), j < i → l[j]? = some o' → o'.changes = true → X j = true) ∧ (∀ (k : Nat) (o' : AOp), i < k → l[k]? = some o' → o'.changes = true → X k = false)) → SX = Ss i := by
    intro hp
    rw [← hSX, stX_ge (i := i) (Nat.le_of_lt hil), stX_eq hR.quiet ht hS0 (Nat.le_of_lt hil) fun j o' h5 h6 h7 => hp.1 j o' h5 h6 h7]
    intro k o' h5 h6 h7 h8
    rcases Nat.lt_or_ge i k with hk | hk
    · cases hc : o'.changes with
      | false => rfl
      | true => have := hp.2 k o' hk h7 hc; rw [this] at h8; cases h8
    · have : k = i := by omega
      subst this
      rw [hm.no] at h8; cases h8
  have hbehind : stX S l Ss (upX X i) l.length = if b.changes then Ss (i + 1) else SX := by
    cases hc : b.changes with
    | false => rw [← hSX]; exact stX_up_still hm.no (fun o' ho' => by rw [hb] at ho'; injection ho' with ho'; subst ho'; exact hc) _
    | true =>
      have hp := hstrict hc
      rw [stX_ge (i := i + 1) hil]
      · simp only [stX, upX, if_true, hb, hc]
      · intro k o' h5 h6 h7 h8
        have hk : k ≠ i := by omega
        simp only [upX, if_neg hk] at h8
        cases hc' : o'.changes with
        | false => rfl
        | true => have := hp.2 k o' (by omega) h7 hc'; rw [this] at h8; cases h8
  have hgrd : ∀ t, wantedA (Es i) b.grd = some t → Region.wanted o (yielded ops a.tmps) = t := by
    intro t hwt
    refine wanted_ok (K := K') (ρ := ρ') (E := Es i) (fun d w hg => ?_) h4 hwt
    rw [← hread d (by simp [AOp.reads, hg])]
    exact (hE' d).1
  unfold wpOpIn
  simp only [hi]
  rcases ht.step i b hb with ⟨hw, hop⟩ | ⟨hw, hv, hsame⟩
  · rw [hgrd true hw]
    simp only [if_true]
    have hcong : aoper A R b.q (envX E l vs X l.length) SX b.op = some (vs i, stX S l Ss (upX X i) l.length) := by
      rw [aoper_congr (E' := Es i) fun t ht' => hread t (List.mem_append_left _ ht'), hbehind]
      cases hp : b.op.pure with
      | true =>
        obtain ⟨f, hf⟩ := aoper_pure (A := A) (R := R) (q := b.q) (E := Es i) hp
        rw [hf] at hop ⊢
        obtain ⟨y, hy, he⟩ := Option.map_eq_some_iff.1 hop
        simp only [Prod.mk.injEq] at he
        have hc : b.changes = false := by simp [AOp.changes, hp]
        rw [hy, hc]
        simp [he.1]
      | false =>
        rcases hm.heap hp with hst | ⟨hrd, hst⟩
        · rw [hbefore hst, hop]
          cases hc : b.changes with
          | true => rfl
          | false => rw [aoper_still hR.quiet hc hop]; rfl
        · have hc : b.changes = false := by simp [AOp.changes, AOp.quiet, hrd]
          obtain ⟨S2, hS2⟩ := hst hw
          rw [hSX] at hS2
          rw [reading_aop hrd, hS2, hc]
          have := aoper_reading (A := A) (R := R) (q := b.q) hrd (by rw [reading_aop hrd]; exact hS2)
          rw [this]; rfl
    refine aoper_sound hs hR (hG.mono hX.cellsK) hS' hE' h1 hcong fun v' w' ho => ?_
    obtain ⟨K2, ρ2, g1, g2, g3, g4⟩ := ho
    refine ⟨K2, ρ2, g3, ?_, by rw [put_size]; exact hn, by rw [put_defers']; exact hd, hX.trans g4⟩
    exact (g4.env hE').put g1 g2 (fun d hd' => by rw [hn]; exact h3 d hd') (fun t => by rw [henv t, h2])
  · rw [hgrd false hw]
    simp only [Bool.false_eq_true, if_false]
    have hst : stX S l Ss (upX X i) l.length = SX := by
      rw [hbehind]
      cases hc : b.changes with
      | false => rfl
      | true =>
        simp only [if_true]
        rw [hsame, hbefore (hstrict hc)]
    refine ⟨fun _ _ => trivial, K', ρ', by rw [hst]; exact hS', ?_, by rw [put_size]; exact hn, by rw [put_defers']; exact hd, by rw [hst]; exact hX⟩
    rw [hst]
    refine hE'.put undef_rel trivial (fun d hd' => by rw [hn]; exact h3 d hd') (fun t => ?_)
    rw [henv t, h2, hv]

/-- All have been taken. -/
theorem inv_end (hR : RecOk P A R) {a0 : Act} {w0 : World} (ht : Trace A R l Es Ss vs) (hE0 : Es 0 = E) (hS0 : Ss 0 = S) {X : Nat → Bool} (hX : ∀ i, i < l.length → X i = true)
    (hI : Inv P nt K ρ S w0 a0 E l Ss vs X a w) (keep : List Nat) : codePost P nt K ρ S w0 a0 .normal ((Es l.length).mask keep) (Ss l.length) .normal a w := by
  obtain ⟨K', ρ', hS', hE', hn, hd, hX'⟩ := hI
  have hst : stX S l Ss X l.length = Ss l.length := stX_eq hR.quiet ht hS0 (Nat.le_refl _) fun j o h1 _ _ => hX j h1
  have hen : ∀ t, (envX E l vs X l.length).get t = (Es l.length).get t := fun t => envX_get_eq ht hE0 (Nat.le_refl _) fun j o h1 _ _ => hX j h1
  rw [hst] at hS' hE' hX'
  refine ⟨rfl, K', ρ', hS', ?_, hn, hX', [], by simp [hd], List.nodup_nil, by simp⟩
  have hmask : ∀ (keep : List Nat) t, ((Es l.length).mask keep).get t = (Es l.length).get t ∨ ((Es l.length).mask keep).get t = .bad := by
    intro keep t
    induction keep with
    | nil => exact .inr rfl
    | cons k r ih =>
      simp only [Env.mask, List.map_cons, Env.get]
      by_cases hk : k = t
      · subst hk; rw [if_pos rfl]; exact .inl rfl
      · rw [if_neg hk]; exact ih
  intro t
  rcases hmask keep t with h | h
  · rw [h, ← hen t]; exact hE' t
  · rw [h]; exact ⟨.bad, trivial⟩

end
end Go.Ab
