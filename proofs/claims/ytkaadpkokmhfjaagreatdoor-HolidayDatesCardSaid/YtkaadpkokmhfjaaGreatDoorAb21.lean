/-
  THE ENGINE, PART 21: code.
-/
import Derived.Test.YtkaadpkokmhfjaaGreatDoorAb20
namespace Go.Ab
variable {P : Program} {A : AProg} {R : Rec} {K K' : Nat → Option Obj} {ρ ρ' : Nat → Loc} {S S' : AS} {w w' : World} {E : Env} {a : Act}

/-! ### Two laws of the walk -/
section
variable {F : Fence} {n : Nat} {b : Frame} {k : List Item} {cs : List Frame} {Q : Exit → Act → World → Prop} {c : Code}

theorem exitTo_len {id : Nat} : ∀ {k k' : List Item}, exitTo id k = some k' → k'.length < k.length
  | [], k', h => by simp [exitTo] at h
  | x :: k, k', h => by
    have : exitTo id k = some k' ∨ k = k' := by
      cases x <;> simp only [exitTo] at h <;> first
        | exact .inl h
        | (split at h
           · injection h with h; exact .inr h
           · exact .inl h)
    rcases this with h | rfl
    · have := exitTo_len h; simp; omega
    · simp

def Plain (Q : Exit → Act → World → Prop) : Prop := ∀ e a w, Q e a w → e = .normal ∨ e = .ret ∨ ∃ id, e = .exit id

theorem steps_swap {m m0 m1 x : Machine} {I : Machine → Prop} (h0 : step P m0 = .next x) (h1 : step P m1 = .next x) (hI : I m1) (hne : m ≠ m0) (h : StepsIn I P m0 m) : StepsIn I P m1 m := by
  cases h with
  | refl => exact absurd rfl hne
  | head hI0 hs hr =>
    rw [h0] at hs
    injection hs with hs
    subst hs
    exact .head hI h1 hr

theorem lone_inj {fr fr' : Frame} {w w' : World} (h : lone fr cs w = lone fr' cs w') : fr = fr' := by
  simp only [lone, Machine.mk.injEq, Array.mk.injEq, List.cons.injEq, Goroutine.mk.injEq, and_true] at h
  have := h.2
  simpa using this

theorem wpIn_loop_unroll (hQ : Plain Q) (h : c.wpIn F n P (Exit.then ((Code.loop c).wpIn F n P Q) Q) a w) : (Code.loop c).wpIn F n P Q a w := by
  intro b k cs hro hb hr
  obtain ⟨e, a₁, w₁, hq, harr⟩ := h b (.inLoop c :: k) cs hro hb hr
  have first : StepsIn (Machine.fenced P F) P (lone (b.atR a (.code (.loop c) :: k)) cs w) (lone (b.atR a (.code c :: .inLoop c :: k)) cs w) := .one (fenced_calm hb hr rfl) stepR_loop
  cases e with
  | normal =>
    obtain ⟨e₂, a₂, w₂, hq₂, harr₂⟩ := hq b k cs hro hb hr
    have sw : ∀ m, m ≠ lone (b.atR a₁ (.code (.loop c) :: k)) cs w₁ → StepsIn (Machine.fenced P F) P (lone (b.atR a₁ (.code (.loop c) :: k)) cs w₁) m → StepsIn (Machine.fenced P F) P (lone (b.atR a (.code (.loop c) :: k)) cs w) m := by
      intro m hm hs
      have := steps_swap (m1 := lone (b.atR a₁ (.inLoop c :: k)) cs w₁) stepR_loop stepR_inLoop (fenced_calm hb hr rfl) hm hs
      exact first.trans (StepsIn.trans harr this)
    refine ⟨e₂, a₂, w₂, hq₂, ?_⟩
    rcases hQ _ _ _ hq₂ with rfl | rfl | ⟨id, rfl⟩
    · refine sw _ ?_ harr₂
      intro e
      have := congrArg Frame.todo (lone_inj e)
      simp only [Frame.atR] at this
      have := congrArg List.length this
      simp at this
    · refine ⟨fun hro => ?_, fun hro => ?_⟩
      · obtain ⟨todo, hs⟩ := harr₂.1 hro
        refine ⟨todo, sw _ ?_ hs⟩
        intro e
        have := congrArg Frame.mode (lone_inj e)
        simp [Frame.atR] at this
      · obtain ⟨k₁, hs⟩ := harr₂.2 hro
        refine ⟨k₁, sw _ ?_ hs⟩
        intro e
        have := congrArg Frame.todo (lone_inj e)
        simp [Frame.atR] at this
    · refine ⟨fun k' hk => sw _ ?_ (harr₂.1 k' hk), fun hro hk => ?_⟩
      · intro e
        have h1 := congrArg Frame.todo (lone_inj e)
        simp only [Frame.atR] at h1
        have h2 := exitTo_len hk
        have h3 := congrArg List.length h1
        simp at h3
        omega
      · obtain ⟨k₁, h1, hs⟩ := harr₂.2 hro hk
        refine ⟨k₁, h1, sw _ ?_ hs⟩
        intro e
        have := congrArg Frame.todo (lone_inj e)
        simp [Frame.atR] at this
  | exit id => exact ⟨_, a₁, w₁, hq, .of_steps first (.pass (x := .inLoop c) rfl (fun _ _ => .inl (by simp)) harr)⟩
  | ret => exact ⟨_, a₁, w₁, hq, .of_steps first (.pass (x := .inLoop c) rfl (fun _ _ => .inl (by simp)) harr)⟩
  | goto l => exact ⟨_, a₁, w₁, hq, .of_steps first (.pass (x := .inLoop c) rfl (fun _ _ => .inl (by simp)) harr)⟩
  | panic ch => exact ⟨_, a₁, w₁, hq, .of_steps first (.pass (x := .inLoop c) rfl (fun _ _ => .inl (by simp)) harr)⟩
  | outgrown => exact ⟨_, a₁, w₁, hq, .of_steps first (.pass (x := .inLoop c) rfl (fun _ _ => .inl (by simp)) harr)⟩

theorem stepR_scope : step P (lone (b.atR a (.code (.scope c) :: k)) cs w) = .next (lone (b.atR a (.code c :: .inScope c :: k)) cs w) :=
  step_lone_go (by simp [stepG, stepG.exec, Frame.atR])
theorem stepR_inScope : step P (lone (b.atR a (.inScope c :: k)) cs w) = .next (lone (b.atR a k) cs w) :=
  step_lone_go (by simp [stepG, stepG.exec, Frame.atR])

theorem wpIn_scope (hQ : Plain Q) (h : c.wpIn F n P Q a w) : (Code.scope c).wpIn F n P Q a w := by
  intro b k cs hro hb hr
  obtain ⟨e, a₁, w₁, hq, harr⟩ := h b (.inScope c :: k) cs hro hb hr
  have first : StepsIn (Machine.fenced P F) P (lone (b.atR a (.code (.scope c) :: k)) cs w) (lone (b.atR a (.code c :: .inScope c :: k)) cs w) := .one (fenced_calm hb hr rfl) stepR_scope
  refine ⟨e, a₁, w₁, hq, .of_steps first ?_⟩
  rcases hQ _ _ _ hq with rfl | rfl | ⟨id, rfl⟩
  · exact StepsIn.trans harr (.one (fenced_calm hb hr rfl) stepR_inScope)
  · exact harr
  · exact ⟨fun k' hk => harr.1 k' (by simpa [exitTo] using hk), fun hro hk => harr.2 hro (by simpa [exitTo] using hk)⟩
end

theorem codePost_plain {nt : Nat} {e : AExit} {E1 : Env} {S1 : AS} : Plain (codePost P nt K ρ S w a e E1 S1) := by
  intro ex a' w' h
  rw [h.1]
  cases e with
  | normal => exact .inl rfl
  | ret => exact .inr (.inl rfl)
  | exit id => exact .inr (.inr ⟨id, rfl⟩)

theorem Marks.refl {lo : Nat} : Marks K lo a a := ⟨[], rfl, List.nodup_nil, by simp⟩
theorem Marks.trans {K1 K2 : Nat → Option Obj} {lo : Nat} {a a1 a2 : Act} {w1 : World} (h : Marks K1 lo a a1) (hk : ∀ c o, K1 c = some o → w1.heap[c]? = some o) (hK : ∀ c o, K1 c = some o → K2 c = some o) (hlo : lo ≤ w1.heap.size) (k : Marks K2 w1.heap.size a1 a2) :
    Marks K2 lo a a2 := by
  obtain ⟨rs, h1, h2, h3⟩ := h
  obtain ⟨qs, k1, k2, k3⟩ := k
  refine ⟨qs ++ rs, by rw [k1, h1]; simp, ?_, ?_⟩
  · refine List.nodup_append.2 ⟨k2, h2, fun q hq r hr e => ?_⟩
    subst e
    have h4 := hk _ _ (h3 q hr).1
    have h5 := (k3 q hq).2
    rw [Array.getElem?_eq_none h5] at h4
    cases h4
  · intro r hr
    rcases List.mem_append.1 hr with hr | hr
    · exact ⟨(k3 r hr).1, Nat.le_trans hlo (k3 r hr).2⟩
    · exact ⟨hK _ _ (h3 r hr).1, (h3 r hr).2⟩

theorem codePost_trans {nt : Nat} {K1 : Nat → Option Obj} {ρ1 : Nat → Loc} {S1 : AS} {w1 : World} {a1 : Act} {e : AExit} {E2 : Env} {S2 : AS} {ex : Exit} {a2 : Act} {w2 : World}
    (hX : Ext K ρ S w K1 ρ1 S1 w1) (hS1 : Sim P K1 ρ1 S1 w1) (hm : Marks K1 w.heap.size a a1) (h : codePost P nt K1 ρ1 S1 w1 a1 e E2 S2 ex a2 w2) : codePost P nt K ρ S w a e E2 S2 ex a2 w2 := by
  obtain ⟨h1, K2, ρ2, h2, h3, h4, h5, h6⟩ := h
  exact ⟨h1, K2, ρ2, h2, h3, h4, hX.trans h5, hm.trans hS1.kept h5.keeps hX.size h6⟩

theorem codePost_here {nt : Nat} {e : AExit} (hS : Sim P K ρ S w) (hE : ERel K ρ S.next E a.tmps) (hn : a.tmps.size = nt) : codePost P nt K ρ S w a e E S (toExit e) a w :=
  ⟨rfl, K, ρ, hS, hE, hn, .refl, .refl⟩

theorem mask_rel {n : Nat} {tmps : Array Value} (hE : ERel K ρ n E tmps) (live : List Nat) : ERel K ρ n (E.mask live) tmps := by
  have hmask : ∀ (keep : List Nat) t, (E.mask keep).get t = E.get t ∨ (E.mask keep).get t = .bad := by
    intro keep t
    induction keep with
    | nil => exact .inr rfl
    | cons k r ih =>
      simp only [Env.mask, List.map_cons, Env.get]
      by_cases hk : k = t
      · subst hk; rw [if_pos rfl]; exact .inl rfl
      · rw [if_neg hk]; exact ih
  intro t
  rcases hmask live t with h | h
  · rw [h]; exact hE t
  · rw [h]; exact ⟨.bad, trivial⟩

/-- A new block that is kept. -/
theorem sim_keep (hS : Sim P K ρ S w) (obj : Obj) : ∃ K', Sim P K' ρ S (w.alloc obj) ∧ Ext K ρ S w K' ρ S (w.alloc obj) ∧ K' w.heap.size = some obj := by
  have hheap : (w.alloc obj).heap = w.heap.push obj := rfl
  have hold : ∀ c, c < w.heap.size → (w.alloc obj).heap[c]? = w.heap[c]? := by
    intro c hc
    rw [hheap, Array.getElem?_push, if_neg (by omega)]
  have hlt : ∀ (c : Nat) (o : Obj), w.heap[c]? = some o → c < w.heap.size := fun c o h => (Array.getElem?_eq_some_iff.1 h).1
  have hKn : ∀ c o, K c = some o → c ≠ w.heap.size := fun c o hc e => by have := hlt c o (hS.kept c o hc); omega
  have hmono : ∀ c o, K c = some o → (if c = w.heap.size then some obj else K c) = some o := fun c o hc => by rw [if_neg (hKn c o hc)]; exact hc
  refine ⟨fun c => if c = w.heap.size then some obj else K c, ⟨?_, hS.inj, ?_, hS.ok⟩, ?_, if_pos rfl⟩
  · intro b hb
    obtain ⟨o, h1, h2, h3⟩ := hS.live b hb
    refine ⟨o, by rw [hold _ (hlt _ _ h1)]; exact h1, h2.mono (fun _ _ _ _ h => hmono _ _ h) (fun _ _ => rfl) (Nat.le_refl _), ?_⟩
    have := hlt _ _ h1
    rw [if_neg (by omega)]
    exact h3
  · intro c o hc
    split at hc
    · rename_i h; subst h; injection hc with hc; subst hc; rw [hheap]; simp
    · rw [hold c (hlt c o (hS.kept c o hc))]; exact hS.kept c o hc
  · have := Ext.refl (K := K) (ρ := ρ) (S := S) (w := w)
    exact { this with
      keeps := fun c o hc => hmono c o hc
      size := by rw [hheap]; simp
      frame := fun c hc _ => hold c hc
      newK := fun c o hc => by
        split at hc
        · rename_i h; exact .inr (.inl (by omega))
        · exact .inl hc
      rest := ⟨rfl, rfl, rfl⟩ }


theorem rangeFunc_step (hs : Setup P A) (hR : RecOk P A R) {nt : Nat} {g : Operand} {f : AX} {ps : Array Nat} {as bd : Code} {x y : ACode} {e : AExit} {E1 : Env} {S1 : AS}
    (hf : opdA g = some f) (hx : lowerCode P nt as x = some x) (hy : lowerCode P nt bd y = some y) (hps : ∀ p ∈ ps.toList, p < nt) (hnx : noRF x = true) (hny : noRF y = true)
    (hG : GRel K A.glob) (hS : Sim P K ρ S w) (hE : ERel K ρ S.next E a.tmps) (hn : a.tmps.size = nt)
    (h : stepCode A R (.rangeFunc f ps.toList x y) E S = some (e, E1, S1)) : (Code.rangeFunc g ps as bd).wpIn (Fr none) 0 P (codePost P nt K ρ S w a e E1 S1) a w := by
  subst hn
  simp only [stepCode] at h
  split at h <;> try contradiction
  rename_i k fs cs hfe
  split at h
  · cases h
  rename_i hext
  have hext' : A.ext k = none := by simpa using hext
  split at h <;> try contradiction
  rename_i v2 S2 qt hcall
  refine wpIn_rangeFunc fun fn _ => ?_
  -- the block for the deferred calls
  obtain ⟨K1, hS1, hX1, hK1⟩ := sim_keep hS (.deferred (some []))
  -- the record
  obtain ⟨W2, hW2⟩ : ∃ W2, W2 = (w.alloc (.deferred (some []))).alloc (.loop { state := .ready, pending := none, fn, tmps := a.tmps, params := ps, assign := as, body := bd, defers := w.heap.size }) := ⟨_, rfl⟩
  have hent2 := run_enterLoop_outer (P := P) (w := w) fn a.tmps ps as bd
  rw [← hW2] at hent2
  have hE1 := hX1.env hE
  have hl := sim_alloc (w' := W2) hS1
    (.loop E ps.toList x y .ready .normal) (.loop { state := .ready, pending := none, fn, tmps := a.tmps, params := ps, assign := as, body := bd, defers := w.heap.size }) 0 (by rw [hW2]; rfl) (by rw [hW2]; exact ⟨rfl, rfl, rfl⟩)
    ⟨hE1.mono (fun _ _ _ _ h => h) (fun b hb => upR_lt _ _ hb) (Nat.le_succ _), rfl, rfl, rfl, hx, hy, hps, hnx, hny⟩
  obtain ⟨hS2, hX2⟩ := hl
  have hsz : (w.alloc (.deferred (some []))).heap.size = w.heap.size + 1 := by
    show (w.heap.push _).size = _
    simp
  rw [hsz] at hS2 hX2
  have hX12 := hX1.trans hX2
  have hfr := hX12.val (opd_rel hE hf).1 (opd_rel hE hf).2
  have hyl : VRel K1 (upR ρ S.next ⟨w.heap.size + 1, 0, 0⟩) (.yl S.next) (.func (.yield (w.heap.size + 1)) #[] #[]) := by
    have := VRel.yl (K := K1) (ρ := upR ρ S.next ⟨w.heap.size + 1, 0, 0⟩) (l := S.next)
    rw [upR_same] at this
    exact this
  rw [hfe] at hfr
  obtain ⟨a', b', hfv, _, hcok⟩ := callV_fn hs hR (us := #[.func (.yield (w.heap.size + 1)) #[] #[]]) (hG.mono hX12.cellsK) hS2 hfr.1 hfr.2 (VRels.cons hyl .nil) (by simp [vbs, vb, AS.alloc]) hcall
  obtain ⟨hent, hreach⟩ := hcok hext'
  refine ⟨w.heap.size + 1, [markOf w.heap.size], W2, { target := .fn (.func k) b', args := a' ++ #[.func (.yield (w.heap.size + 1)) #[] #[]] }, W2, k, _, W2, hent2, ?_, fun _ _ => trivial, run_callFunc hent _, fun h => (by cases h), ?_⟩
  · have hm : (#[Operand.const (.func (.yield (w.heap.size + 1)) #[] #[])] : Array Operand).map a.eval = #[Value.func (.yield (w.heap.size + 1)) #[] #[]] := by
      simp only [List.map_toArray, List.map_cons, List.map_nil]
      rfl
    simp only [resolve, hm, hfv, Deferred.ofValue]
    rfl
  refine CallsIn.mono (F := Fr none) hreach fun ex w3 he => ?_
  cases ex with
  | returned v' =>
    obtain ⟨K3, ρ3, g1, g2, hS3, hX3⟩ := he
    have hX03 := hX12.trans hX3
    split at h <;> try contradiction
    rename_i E' ps' as' bd' st' pend' hnb hlk
    simp only [Option.some.injEq, Prod.mk.injEq] at h
    obtain ⟨rfl, rfl, rfl⟩ := h
    obtain ⟨r, hw, hB⟩ := loop_of_live hS3 hlk
    have hρ : (ρ3 S.next).blk = w.heap.size + 1 := by rw [hX3.names S.next (by simp [AS.alloc])]; simp
    have hst : r.state ≠ .busy := by
      rw [← hB.2.2.1]
      intro e
      subst e
      exact hnb rfl
    have hk := loop_kill hS3 hlk hw (r' := { r with state := .exhausted })
    rw [hρ] at hw hk
    have hpend := hB.2.2.2.1
    have hX04 := hX03.trans hk.2
    have post : codePost P a.tmps.size K ρ S w a pend' E (S2.write S.next .dead false) (toExit pend') { a with defers := [markOf w.heap.size] ++ a.defers } (w3.putObj (w.heap.size + 1) (.loop { r with state := .exhausted })) := by
      refine ⟨rfl, K3, ρ3, hk.1, hX04.env hE, rfl, hX04, [w.heap.size], rfl, by simp, fun q hq => ?_⟩
      simp only [List.mem_singleton] at hq
      subst hq
      exact ⟨hX3.keeps _ _ (hX2.keeps _ _ hK1), Nat.le_refl _⟩
    refine ⟨_, _, run_endLoop hw hst, ?_⟩
    rw [← hpend] at post ⊢
    cases pend' with
    | normal => simp only [exitCode, toExit] at post ⊢; exact post
    | ret => simp only [exitCode, toExit] at post ⊢; exact wpIn_ret post
    | exit id => simp only [exitCode, toExit] at post ⊢; exact wpIn_exit post
  | _ => exact he.elim

theorem code_step (hs : Setup P A) (hR : RecOk P A R) {nt : Nat} {c : Code} {ac : ACode} {r : Option Nat} {e : AExit} {E1 : Env} {S1 : AS} (hlow : lowerCode P nt c ac = some ac) (hrf : r ≠ none → noRF ac = true)
    (hG : GRel K A.glob) (hS : Sim P K ρ S w) (hE : ERel K ρ S.next E a.tmps) (hn : a.tmps.size = nt) (h : stepCode A R ac E S = some (e, E1, S1)) :
    c.wpIn (Fr r) 0 P (codePost P nt K ρ S w a e E1 S1) a w := by
  unfold lowerCode at hlow
  split at hlow <;> try contradiction
  · -- skip
    simp only [stepCode, Option.some.injEq, Prod.mk.injEq] at h
    obtain ⟨rfl, rfl, rfl⟩ := h
    exact wpIn_skip (codePost_here hS hE hn)
  · -- ret
    simp only [stepCode, Option.some.injEq, Prod.mk.injEq] at h
    obtain ⟨rfl, rfl, rfl⟩ := h
    exact wpIn_ret (codePost_here hS hE hn)
  · -- exit
    injection hlow with hlow
    injection hlow with hlow
    subst hlow
    simp only [stepCode, Option.some.injEq, Prod.mk.injEq] at h
    obtain ⟨rfl, rfl, rfl⟩ := h
    exact wpIn_exit (codePost_here hS hE hn)
  · -- seq
    rename_i p q x y
    split at hlow <;> try contradiction
    rename_i x' y' hx hy
    injection hlow with hlow
    injection hlow with h1 h2
    subst h1; subst h2
    simp only [noRF, Bool.and_eq_true] at hrf
    refine wpIn_seq ?_
    simp only [stepCode] at h
    split at h
    · rename_i E2 S2 h1
      refine wpIn_mono (hR.code nt p x' r K ρ E S a w _ _ _ hx (fun hr => (hrf hr).1) hG hS hE hn h1) fun ex a1 w1 hp => ?_
      obtain ⟨rfl, K1, ρ1, g1, g2, g3, g4, g5⟩ := hp
      exact wpIn_mono (hR.code nt q y' r K1 ρ1 E2 S2 a1 w1 _ _ _ hy (fun hr => (hrf hr).2) (hG.mono g4.cellsK) g1 g2 g3 h) fun ex a2 w2 hp => codePost_trans g4 g1 g5 hp
    · rename_i hne
      refine wpIn_mono (hR.code nt p x' r K ρ E S a w _ _ _ hx (fun hr => (hrf hr).1) hG hS hE hn h) fun ex a1 w1 hp => ?_
      have he := hp.1
      cases e with
      | normal => exact absurd h (hne _ _)
      | ret => subst he; exact hp
      | exit id => subst he; exact hp
  · -- cond
    rename_i g p q c0 x y
    split at hlow <;> try contradiction
    rename_i f x' y' hf hx hy
    injection hlow with hlow
    injection hlow with h0 h1 h2
    subst h0; subst h1; subst h2
    simp only [noRF, Bool.and_eq_true] at hrf
    simp only [stepCode] at h
    split at h <;> try contradiction
    rename_i t ht
    have hv := (opd_rel hE hf).1
    rw [ht] at hv
    refine wpIn_cond hv.bool_inv ?_
    cases t with
    | true => exact hR.code nt p x' r K ρ E S a w _ _ _ hx (fun hr => (hrf hr).1) hG hS hE hn h
    | false => exact hR.code nt q y' r K ρ E S a w _ _ _ hy (fun hr => (hrf hr).2) hG hS hE hn h
  · -- block
    rename_i i p i' x
    obtain ⟨x', hx, he⟩ := Option.map_eq_some_iff.1 hlow
    injection he with h1 h2
    subst h1; subst h2
    simp only [noRF] at hrf
    refine wpIn_block ?_
    simp only [stepCode] at h
    split at h
    · rename_i id E2 S2 h1
      refine wpIn_mono (hR.code nt p x' r K ρ E S a w _ _ _ hx hrf hG hS hE hn h1) fun ex a1 w1 hp => ?_
      obtain ⟨rfl, hp⟩ := hp
      simp only [toExit, Exit.inBlock]
      split at h
      · rename_i hi
        rw [if_pos hi]
        simp only [Option.some.injEq, Prod.mk.injEq] at h
        obtain ⟨rfl, rfl, rfl⟩ := h
        exact ⟨rfl, hp⟩
      · rename_i hi
        rw [if_neg hi]
        simp only [Option.some.injEq, Prod.mk.injEq] at h
        obtain ⟨rfl, rfl, rfl⟩ := h
        exact ⟨rfl, hp⟩
    · rename_i hne
      refine wpIn_mono (hR.code nt p x' r K ρ E S a w _ _ _ hx hrf hG hS hE hn h) fun ex a1 w1 hp => ?_
      have he := hp.1
      cases e with
      | normal => subst he; exact hp
      | ret => subst he; exact hp
      | exit id => exact absurd h (hne _ _ _)
  · -- label
    simp only [stepCode, Option.some.injEq, Prod.mk.injEq] at h
    obtain ⟨rfl, rfl, rfl⟩ := h
    exact wpIn_label (codePost_here hS hE hn)
  · -- scope
    rename_i p x
    obtain ⟨x', hx, he⟩ := Option.map_eq_some_iff.1 hlow
    injection he with h1
    subst h1
    simp only [noRF] at hrf
    simp only [stepCode] at h
    exact wpIn_scope codePost_plain (hR.code nt p x' r K ρ E S a w _ _ _ hx hrf hG hS hE hn h)
  · -- loop
    rename_i p live x
    have hlow' := hlow
    obtain ⟨x', hx, he⟩ := Option.map_eq_some_iff.1 hlow
    injection he with h0 h1
    subst h1
    have hrf' := hrf
    simp only [noRF] at hrf
    simp only [stepCode] at h
    refine wpIn_loop_unroll codePost_plain ?_
    split at h
    · rename_i E2 S2 h1
      refine wpIn_mono (hR.code nt p x' r K ρ _ S a w _ _ _ hx hrf hG hS (mask_rel hE live) hn h1) fun ex a1 w1 hp => ?_
      obtain ⟨rfl, K1, ρ1, g1, g2, g3, g4, g5⟩ := hp
      exact wpIn_mono (hR.code nt (.loop p) (.loop live x') r K1 ρ1 E2 S2 a1 w1 _ _ _ (by simp only [lowerCode, hx, Option.map_some]) hrf' (hG.mono g4.cellsK) g1 g2 g3 h) fun ex a2 w2 hp => codePost_trans g4 g1 g5 hp
    · rename_i hne
      refine wpIn_mono (hR.code nt p x' r K ρ _ S a w _ _ _ hx hrf hG hS (mask_rel hE live) hn h) fun ex a1 w1 hp => ?_
      have he := hp.1
      cases e with
      | normal => exact absurd h (hne _ _)
      | ret => subst he; exact hp
      | exit id => subst he; exact hp
  · -- region
    rename_i id ops d d0 keep chk l
    split at hlow <;> try contradiction
    rename_i l' hl
    split at hlow
    · cases hlow
    rename_i hd
    injection hlow with hlow
    injection hlow with h1 h2 h2' h3
    subst h3
    have hg := lowerOps_get hl
    have hlen : ops.size = l'.length := by simpa using hg.1
    have hlowi : ∀ (i : Nat) (o : Oper), ops[i]? = some o → ∃ b c, l'[i]? = some b ∧ lowerAOp P nt ops o c = some b := fun i o ho => hg.2 i o (by rw [Array.getElem?_toList]; exact ho)
    have hall : ∃ Es Ss vs E2, Trace A R l' Es Ss vs ∧ Es 0 = E ∧ Ss 0 = S ∧ Es l'.length = E2 ∧ Ss l'.length = S1 ∧ E1 = E2.mask keep ∧ e = .normal ∧ ChkOk A l' Es Ss vs chk := by
      simp only [stepCode] at h
      split at h
      · split at h <;> try contradiction
        rename_i E2 S2 h4
        simp only [Option.some.injEq, Prod.mk.injEq] at h
        obtain ⟨rfl, rfl, rfl⟩ := h
        obtain ⟨Es, Ss, vs, ht, e1, e2, e3, e4⟩ := trace_of l' E S h4
        exact ⟨Es, Ss, vs, E2, ht, e1, e2, e3, e4, rfl, rfl, fun i j h => by simp at h⟩
      · split at h <;> try contradiction
        rename_i tr E2 S2 h4
        split at h <;> try contradiction
        rename_i hc
        simp only [Option.some.injEq, Prod.mk.injEq] at h
        obtain ⟨rfl, rfl, rfl⟩ := h
        obtain ⟨Es, Ss, vs, ht, e1, e2, e3, e4, e5, e6⟩ := traceT_of l' E S h4
        exact ⟨Es, Ss, vs, E2, ht, e1, e2, e3, e4, rfl, rfl, chkAll_sound e5 e6 hc⟩
    obtain ⟨Es, Ss, vs, E2, ht, e1, e2, e3, e4, rfl, rfl, hchk⟩ := hall
    rw [← e3, ← e4]
    cases d with
    | false => exact seq_region hs hR hG hlowi hlen ht e1 e2 hS hE hn keep
    | true => exact draw_region hs hR hG hlowi hlen (by simpa using hd) hchk ht e1 e2 hS hE hn keep
  · -- a range over a function
    rename_i g ps p q c0 ps0 x y
    split at hlow <;> try contradiction
    rename_i f x' y' hf hx hy
    split at hlow <;> try contradiction
    rename_i hc
    injection hlow with hlow
    injection hlow with h0 h1 h2 h3
    subst h0; subst h1; subst h2; subst h3
    simp only [Bool.and_eq_true] at hc
    have hr : r = none := by
      cases r with
      | none => rfl
      | some l => have := hrf (by simp); simp [noRF] at this
    subst hr
    refine rangeFunc_step hs hR hf hx hy (fun p hp => ?_) hc.1.2 hc.2 hG hS hE hn h
    have := Array.all_eq_true_iff_forall_mem.1 hc.1.1 p (by simpa using hp)
    simpa using this
end Go.Ab
