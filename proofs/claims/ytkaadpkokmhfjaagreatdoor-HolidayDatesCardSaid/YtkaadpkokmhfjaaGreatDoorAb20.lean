/-
  THE ENGINE, PART 20: regions in the text's order and regions that draw theirs.
-/
import Derived.Test.YtkaadpkokmhfjaaGreatDoorAb19
namespace Go.Ab
variable {P : Program} {A : AProg} {R : Rec} {K : Nat → Option Obj} {ρ : Nat → Loc} {S : AS} {w : World} {E : Env} {a : Act}
variable {l : List AOp} {ops : Array Oper} {Es : Nat → Env} {Ss : Nat → AS} {vs : Nat → AV} {nt : Nat} {r : Option Nat} {Q : Exit → Act → World → Prop}

theorem inv_start {X : Nat → Bool} (hX : ∀ i, X i = false) (hS : Sim P K ρ S w) (hE : ERel K ρ S.next E a.tmps) (hn : a.tmps.size = nt) {w1 : World} (hw : w1.heap = w.heap) (hr : rest w w1) :
    Inv P nt K ρ S w a E l Ss vs X a w1 := by
  have h1 : ∀ n, stX S l Ss X n = S := by
    intro n
    induction n with
    | zero => rfl
    | succ n ih => simp only [stX, hX n, ih]; rfl
  have h2 : ∀ n, envX E l vs X n = E := by
    intro n
    induction n with
    | zero => rfl
    | succ n ih => simp only [envX, hX n, ih]; rfl
  refine ⟨K, ρ, by rw [h1]; exact hS.heapEq hw, by rw [h1, h2]; exact hE, hn, rfl, ?_⟩
  rw [h1]
  have := Ext.refl (K := K) (ρ := ρ) (S := S) (w := w)
  exact { this with size := by rw [hw]; exact Nat.le_refl _, frame := fun c _ _ => by rw [hw], rest := hr }

theorem seq_region (hs : Setup P A) (hR : RecOk P A R) {id : Nat} (hG : GRel K A.glob) (hlow : ∀ (i : Nat) (o : Oper), ops[i]? = some o → ∃ b c, l[i]? = some b ∧ lowerAOp P nt ops o c = some b) (hlen : ops.size = l.length)
    (ht : Trace A R l Es Ss vs) (hE0 : Es 0 = E) (hS0 : Ss 0 = S) (hS : Sim P K ρ S w) (hE : ERel K ρ S.next E a.tmps) (hn : a.tmps.size = nt) (keep : List Nat) :
    (Code.region id ops false).wpIn (Fr r) 0 P (codePost P nt K ρ S w a .normal ((Es l.length).mask keep) (Ss l.length)) a w := by
  refine wpIn_region ?_
  have key : ∀ (m i : Nat), i + m = l.length → ∀ a1 w1, Inv P nt K ρ S w a E l Ss vs (fun j => decide (j < i)) a1 w1 →
      wpOpsIn (Fr r) 0 P ops (codePost P nt K ρ S w a .normal ((Es l.length).mask keep) (Ss l.length)) (List.range' i m) a1 w1 := by
    intro m
    induction m with
    | zero =>
      intro i hi a1 w1 hI
      simp only [List.range'_zero, wpOpsIn]
      exact inv_end hR ht hE0 hS0 (fun j hj => by simp; omega) hI keep
    | succ m ih =>
      intro i hi a1 w1 hI
      rw [List.range'_succ, wpOpsIn_cons]
      have hio : ops[i]? = some (ops[i]'(by omega)) := Array.getElem?_eq_getElem (by omega)
      have hup : upX (fun j => decide (j < i)) i = fun j => decide (j < i + 1) := by
        funext j
        simp only [upX]
        split
        · rename_i h; subst h; simp
        · rename_i h; rw [decide_eq_decide]; omega
      refine wpOpIn_mono (fun a2 w2 h2 => ih (i + 1) (by omega) a2 w2 (by rw [← hup]; exact h2)) (op_step hs hR hG hlow ht hE0 hS0 hio (fun b hb => ?_) hI)
      refine ⟨by simp, fun t _ j o' hj _ _ => by simpa using hj, fun t _ k o' hk _ _ => by simp; omega, fun _ => .inl ⟨fun j o' hj _ _ => by simpa using hj, fun k o' hk _ _ => by simp; omega⟩, fun d _ k o' hk _ hX => ?_⟩
      simp at hX
      omega
  rw [List.range_eq_range', hlen]
  exact key l.length 0 (by omega) a w (inv_start (fun i => by simp) hS hE hn rfl ⟨rfl, rfl, rfl⟩)

/-! ### What stands before what -/
def befStep (acc : Array Nat) (o : Oper) : Array Nat := acc.push (o.after.foldl (fun s e => if Region.binds .any e then s ||| 2 ^ e.on ||| acc.getD e.on 0 else s) 0)

theorem before_eq (ops : Array Oper) : Region.before ops = ops.toList.foldl befStep #[] := by
  rw [Array.foldl_toList]; rfl

theorem fold_size : ∀ (os : List Oper) (acc : Array Nat), (os.foldl befStep acc).size = acc.size + os.length
  | [], acc => rfl
  | o :: os, acc => by simp only [List.foldl_cons]; rw [fold_size os]; simp [befStep]; omega
theorem fold_keep : ∀ (os : List Oper) (acc : Array Nat) (k : Nat), k < acc.size → (os.foldl befStep acc).getD k 0 = acc.getD k 0
  | [], acc, k, _ => rfl
  | o :: os, acc, k, h => by
    simp only [List.foldl_cons]
    rw [fold_keep os _ k (by simp [befStep]; omega)]
    simp [befStep, Array.getElem?_push, show k ≠ acc.size by omega]

theorem bit_fold (acc : Array Nat) (j : Nat) : ∀ (es : List Edge) (s : Nat), (es.foldl (fun s e => if Region.binds .any e then s ||| 2 ^ e.on ||| acc.getD e.on 0 else s) s).testBit j = true →
    s.testBit j = true ∨ ∃ e ∈ es, Region.binds .any e = true ∧ (j = e.on ∨ (acc.getD e.on 0).testBit j = true)
  | [], s, h => .inl h
  | e :: es, s, h => by
    simp only [List.foldl_cons] at h
    rcases bit_fold acc j es _ h with h1 | ⟨e', h2, h3⟩
    · split at h1
      · rename_i hb
        simp only [Nat.testBit_or, Bool.or_eq_true] at h1
        rcases h1 with (h1 | h1) | h1
        · exact .inl h1
        · exact .inr ⟨e, List.mem_cons_self .., hb, .inl (by
            rw [Nat.testBit_two_pow] at h1; simpa using (of_decide_eq_true h1).symm)⟩
        · exact .inr ⟨e, List.mem_cons_self .., hb, .inr h1⟩
      · exact .inl h1
    · exact .inr ⟨e', List.mem_cons_of_mem _ h2, h3⟩

theorem before_bit {i j : Nat} (h : ((Region.before ops).getD i 0).testBit j = true) :
    ∃ o e, ops[i]? = some o ∧ e ∈ o.after ∧ Region.binds .any e = true ∧ (j = e.on ∨ (e.on < i ∧ ((Region.before ops).getD e.on 0).testBit j = true)) := by
  rw [before_eq] at h ⊢
  have hi : i < ops.toList.length := by
    rcases Nat.lt_or_ge i ops.toList.length with h' | h'
    · exact h'
    · have : (ops.toList.foldl befStep #[]).getD i 0 = 0 := by
        have := fold_size ops.toList #[]
        simp only [Array.getD_eq_getD_getElem?]
        rw [Array.getElem?_eq_none (by rw [this]; simpa using h')]
        rfl
      rw [this] at h
      simp at h
  have hsplit : ops.toList = ops.toList.take i ++ ops.toList[i] :: ops.toList.drop (i + 1) := by
    rw [List.getElem_cons_drop, List.take_append_drop]
  have hpre : ∀ k, k < i + 1 → (ops.toList.foldl befStep #[]).getD k 0 = (befStep ((ops.toList.take i).foldl befStep #[]) ops.toList[i]).getD k 0 := by
    intro k hk
    conv => lhs; rw [hsplit]
    rw [List.foldl_append, List.foldl_cons, fold_keep]
    simp only [befStep, Array.size_push, fold_size, List.length_take]
    have : (#[] : Array Nat).size = 0 := rfl
    omega
  have hsz : ((ops.toList.take i).foldl befStep #[]).size = i := by rw [fold_size, List.length_take]; have : (#[] : Array Nat).size = 0 := rfl; omega
  rw [hpre i (Nat.lt_succ_self i)] at h
  have hat : (befStep ((ops.toList.take i).foldl befStep #[]) ops.toList[i]).getD i 0 = (ops.toList[i]).after.foldl (fun s e => if Region.binds .any e then s ||| 2 ^ e.on ||| ((ops.toList.take i).foldl befStep #[]).getD e.on 0 else s) 0 := by
    simp only [befStep, Array.getD_eq_getD_getElem?, Array.getElem?_push]
    rw [if_pos (by rw [hsz])]
    rfl
  rw [hat, ← Array.foldl_toList] at h
  rcases bit_fold _ j _ _ h with h1 | ⟨e, h2, h3, h4⟩
  · simp at h1
  · refine ⟨ops.toList[i], e, ?_, by simpa using h2, h3, ?_⟩
    · rw [← Array.getElem?_toList]; exact List.getElem?_eq_getElem hi
    · rcases h4 with h4 | h4
      · exact .inl h4
      · have hlt : e.on < i := by
          rcases Nat.lt_or_ge e.on i with h' | h'
          · exact h'
          · simp only [Array.getD_eq_getD_getElem?] at h4
            rw [Array.getElem?_eq_none (by rw [hsz]; exact h')] at h4
            simp at h4
        refine .inr ⟨hlt, ?_⟩
        rw [hpre e.on (by omega)]
        have : (befStep ((ops.toList.take i).foldl befStep #[]) ops.toList[i]).getD e.on 0 = ((ops.toList.take i).foldl befStep #[]).getD e.on 0 := by
          simp only [befStep, Array.getD_eq_getD_getElem?, Array.getElem?_push]
          rw [if_neg (by rw [hsz]; omega)]
        rw [this]; exact h4

theorem edgesDown_spec : ∀ {os : List Oper} {k : Nat}, edgesDown k os = true → ∀ (i : Nat) (o : Oper) (e : Edge), os[i]? = some o → e ∈ o.after → Region.binds .any e = true → e.on < k + i
  | [], _, _, i, o, e, h, _, _ => by simp at h
  | p :: os, k, hd, i, o, e, h, he, hb => by
    simp only [edgesDown, Bool.and_eq_true] at hd
    cases i with
    | zero =>
      simp only [List.getElem?_cons_zero, Option.some.injEq] at h
      subst h
      have := (Array.all_eq_true_iff_forall_mem.1 hd.1) e he
      simp only [hb, Bool.not_true, Bool.false_or, decide_eq_true_eq] at this
      omega
    | succ i =>
      have := edgesDown_spec hd.2 i o e (by simpa using h) he hb
      omega

theorem pairsOk_spec {chk : List (Nat × Nat)} {bj j : Nat} {b : AOp} : ∀ {l : List AOp} {k : Nat}, pairsOk chk bj j b k l = true → ∀ (i : Nat) (a : AOp), l[i]? = some a → pairOk chk bj (k + i) j a b = true
  | [], _, _, i, a, h => by simp at h
  | x :: l, k, hp, i, a, h => by
    simp only [pairsOk, Bool.and_eq_true] at hp
    cases i with
    | zero => simp only [List.getElem?_cons_zero, Option.some.injEq] at h; subst h; exact hp.1
    | succ i =>
      have := pairsOk_spec hp.2 i a (by simpa using h)
      rw [show k + (i + 1) = k + 1 + i by omega]; exact this
theorem drawOkFrom_spec {chk : List (Nat × Nat)} {bf : List Nat} {all : List AOp} : ∀ {l : List AOp} {k : Nat}, drawOkFrom chk bf all k l = true → ∀ (j : Nat) (b : AOp), l[j]? = some b → pairsOk chk (bf.getD (k + j) 0) (k + j) b 0 (all.take (k + j)) = true
  | [], _, _, j, b, h => by simp at h
  | x :: l, k, hd, j, b, h => by
    simp only [drawOkFrom, Bool.and_eq_true] at hd
    cases j with
    | zero => simp only [List.getElem?_cons_zero, Option.some.injEq] at h; subst h; exact hd.1
    | succ j =>
      have := drawOkFrom_spec hd.2 j b (by simpa using h)
      rw [show k + (j + 1) = k + 1 + j by omega]; exact this
theorem drawOk_spec {chk : List (Nat × Nat)} (h : drawOk chk ops l = true) {i j : Nat} (hij : i < j) {a b : AOp} (hi : l[i]? = some a) (hj : l[j]? = some b) : pairOk chk ((Region.before ops).getD j 0) i j a b = true := by
  simp only [drawOk, Bool.and_eq_true] at h
  have h1 := drawOkFrom_spec h.2 j b hj
  have h2 := pairsOk_spec h1 i a (by rw [List.getElem?_take]; simp [hij, hi])
  simp only [Nat.zero_add] at h2
  simpa [List.getD_eq_getElem?_getD] using h2

theorem countP_lt {α : Type} {p p' : α → Bool} : ∀ {l : List α}, (∀ x ∈ l, p' x = true → p x = true) → (∃ x ∈ l, p x = true ∧ p' x = false) → l.countP p' < l.countP p
  | [], _, ⟨x, hx, _⟩ => by simp at hx
  | y :: l, h, ⟨x, hx, h1, h2⟩ => by
    have hle : l.countP p' ≤ l.countP p := by
      have : ∀ {l : List α}, (∀ x ∈ l, p' x = true → p x = true) → l.countP p' ≤ l.countP p := fun h => List.countP_mono_left h
      exact this fun x hx => h x (List.mem_cons_of_mem _ hx)
    rw [List.countP_cons, List.countP_cons]
    rcases List.mem_cons.1 hx with rfl | hx
    · simp [h1, h2]; omega
    · have := countP_lt (p := p) (p' := p') (l := l) (fun x hx => h x (List.mem_cons_of_mem _ hx)) ⟨x, hx, h1, h2⟩
      have hy := h y (List.mem_cons_self ..)
      cases hp : p' y with
      | false => simp; split <;> omega
      | true => simp [hy hp]; omega

theorem least {p : Nat → Prop} (h : ∃ n, p n) : ∃ n, p n ∧ ∀ m, m < n → ¬ p m := by
  obtain ⟨n, hn⟩ := h
  induction n using Nat.strongRecOn with
  | _ n ih =>
    by_cases hm : ∃ m, m < n ∧ p m
    · obtain ⟨m, h1, h2⟩ := hm
      exact ih m h1 h2
    · exact ⟨n, hn, fun m h1 h2 => hm ⟨m, h1, h2⟩⟩

theorem draw_region (hs : Setup P A) (hR : RecOk P A R) {id : Nat} (hG : GRel K A.glob) (hlow : ∀ (i : Nat) (o : Oper), ops[i]? = some o → ∃ b c, l[i]? = some b ∧ lowerAOp P nt ops o c = some b) (hlen : ops.size = l.length) {chk : List (Nat × Nat)} (hdraw : drawOk chk ops l = true) (hchk : ChkOk A l Es Ss vs chk)
    (ht : Trace A R l Es Ss vs) (hE0 : Es 0 = E) (hS0 : Ss 0 = S) (hS : Sim P K ρ S w) (hE : ERel K ρ S.next E a.tmps) (hn : a.tmps.size = nt) (keep : List Nat) :
    (Code.region id ops true).wpIn (Fr r) 0 P (codePost P nt K ρ S w a .normal ((Es l.length).mask keep) (Ss l.length)) a w := by
  refine wpIn_region_any hs.mixed ?_
  have hedge : ∀ (i : Nat) (o : Oper) (e : Edge), ops[i]? = some o → e ∈ o.after → Region.binds .any e = true → e.on < i := by
    intro i o e h1 h2 h3
    have := edgesDown_spec (by have := hdraw; simp only [drawOk, Bool.and_eq_true] at this; exact this.1) i o e (by rw [Array.getElem?_toList]; exact h1) h2 h3
    omega
  -- what has been taken is closed under 'before'
  have hclosed : ∀ (X : Nat → Bool), (∀ i o e, X i = true → ops[i]? = some o → e ∈ o.after → Region.binds .any e = true → X e.on = true) →
      ∀ i, (X i = true ∨ ∀ o e, ops[i]? = some o → e ∈ o.after → Region.binds .any e = true → X e.on = true) → ∀ j, ((Region.before ops).getD i 0).testBit j = true → X j = true := by
    intro X hX i
    induction i using Nat.strongRecOn with
    | _ i ih =>
      intro hi j hj
      obtain ⟨o, e, h1, h2, h3, h4⟩ := before_bit hj
      have he : X e.on = true := by
        rcases hi with hi | hi
        · exact hX i o e hi h1 h2 h3
        · exact hi o e h1 h2 h3
      rcases h4 with rfl | ⟨h4, h5⟩
      · exact he
      · exact ih e.on h4 (.inl he) j h5
  have key : ∀ (fuel : Nat) (listed : Array Bool) (a1 : Act) (w1 : World), listed.size = ops.size → (List.range ops.size).countP (fun i => !listed.getD i false) ≤ fuel →
      (∀ i o e, listed.getD i false = true → ops[i]? = some o → e ∈ o.after → Region.binds .any e = true → listed.getD e.on false = true) →
      Inv P nt K ρ S w a E l Ss vs (fun j => listed.getD j false) a1 w1 →
      wpAnyIn (Fr r) 0 P .any ops (codePost P nt K ρ S w a .normal ((Es l.length).mask keep) (Ss l.length)) fuel listed a1 w1 := by
    intro fuel
    have hall : ∀ (listed : Array Bool), listed.size = ops.size → Region.ready .any ops listed = [] → ∀ i, i < l.length → listed.getD i false = true := by
      intro listed hsz hr i
      induction i using Nat.strongRecOn with
      | _ i ih =>
        intro hi
        cases hli : listed.getD i false with
        | true => rfl
        | false =>
          exfalso
          have hio : ops[i]? = some (ops[i]'(by omega)) := Array.getElem?_eq_getElem (by omega)
          have hmem : i ∈ Region.ready .any ops listed := by
            refine mem_ready.2 ⟨?_, _, hio, fun e he hb => ?_⟩
            · have : listed[i]? = some listed[i] := Array.getElem?_eq_getElem (by omega)
              simp only [Array.getD_eq_getD_getElem?, this, Option.getD_some] at hli ⊢
              exact hli
            · have := hedge i _ e hio he hb
              exact ih e.on this (by omega)
          rw [hr] at hmem
          cases hmem
    induction fuel with
    | zero =>
      intro listed a1 w1 hsz hc hX hI
      have hnone : ∀ i, i < ops.size → listed.getD i false = true := by
        intro i hi
        have := List.countP_eq_zero.1 (Nat.le_zero.1 hc) i (List.mem_range.2 hi)
        simpa using this
      refine ⟨?_, inv_end hR ht hE0 hS0 (fun i hi => hnone i (by omega)) hI keep⟩
      cases hr : Region.ready .any ops listed with
      | nil => rfl
      | cons i rs =>
        exfalso
        have hm : i ∈ Region.ready .any ops listed := by rw [hr]; exact List.mem_cons_self ..
        obtain ⟨h0, o, ho, _⟩ := mem_ready.1 hm
        have hi : i < ops.size := (Array.getElem?_eq_some_iff.1 ho).1
        have h1 := hnone i hi
        have : listed[i]? = some listed[i] := Array.getElem?_eq_getElem (by omega)
        simp only [Array.getD_eq_getD_getElem?, this, Option.getD_some] at h0 h1
        rw [h0] at h1; cases h1
    | succ fuel ih =>
      intro listed a1 w1 hsz hc hX hI
      refine ⟨fun hr => inv_end hR ht hE0 hS0 (hall listed hsz hr) hI keep, fun i hi => ?_⟩
      obtain ⟨h0, o, ho, hed⟩ := mem_ready.1 hi
      have hlt : i < ops.size := (Array.getElem?_eq_some_iff.1 ho).1
      have hli : listed.getD i false = false := by
        have : listed[i]? = some listed[i] := Array.getElem?_eq_getElem (by omega)
        simp only [Array.getD_eq_getD_getElem?, this, Option.getD_some] at h0 ⊢
        exact h0
      have hup : ∀ j, upX (fun j => listed.getD j false) i j = (listed.setIfInBounds i true).getD j false := by
        intro j
        simp only [upX]
        by_cases hj : j = i
        · subst hj
          have : j < listed.size := by omega
          simp [this]
        · rw [if_neg hj, getD_set_ne false (Ne.symm hj)]
      refine wpOpIn_mono (fun a2 w2 h2 => ih _ a2 w2 (by simpa using hsz) ?_ ?_ (by
        have : upX (fun j => listed.getD j false) i = fun j => (listed.setIfInBounds i true).getD j false := funext hup
        rw [← this]; exact h2)) (op_step hs hR hG hlow ht hE0 hS0 ho (fun b hb => ?_) hI)
      · have := countP_lt (l := List.range ops.size) (p := fun i => !listed.getD i false) (p' := fun j => !(listed.setIfInBounds i true).getD j false) (fun x _ hx => by
          simp only [← hup x, upX] at hx
          split at hx
          · cases hx
          · exact hx) ⟨i, List.mem_range.2 hlt, by simp only [hli, Bool.not_false], by simp only [← hup i, upX, if_true, Bool.not_true]⟩
        omega
      · intro k ok e hk hko he hb
        rw [← hup] at hk ⊢
        simp only [upX] at hk ⊢
        split
        · rfl
        · split at hk
          · rename_i hki
            subst hki
            rw [ho] at hko; injection hko with hko; subst hko
            exact hed e he hb
          · exact hX k ok e hk hko he hb
      · have hcl := hclosed (fun j => listed.getD j false) hX
        have hcli := hcl i (.inr fun o' e h1 h2 h3 => by rw [ho] at h1; injection h1 with h1; subst h1; exact hed e h2 h3)
        have hno : ∀ k, listed.getD k false = true → ((Region.before ops).getD k 0).testBit i = true → False := by
          intro k hk hb
          have := hcl k (.inl hk) i hb
          simp only [hli] at this
          cases this
        refine ⟨hli, ?_, ?_, ?_, ?_⟩
        · intro t htr j o' hj ho' hd
          have := drawOk_spec hdraw hj ho' hb
          simp only [pairOk, Bool.or_eq_true, Bool.and_eq_true] at this
          rcases this with h1 | ⟨⟨_, h1⟩, _⟩
          · exact hcli j h1
          · rw [hd] at h1
            simp only [Bool.and_eq_true, Bool.not_eq_true', List.contains_eq_mem, decide_eq_false_iff_not] at h1
            exact absurd htr h1.1
        · intro t htr k o' hk ho' hd
          have := drawOk_spec hdraw hk hb ho'
          simp only [pairOk, Bool.or_eq_true, Bool.and_eq_true] at this
          rcases this with h1 | ⟨_, h1⟩
          · cases hlk : listed.getD k false with
            | false => rfl
            | true => exact (hno k hlk h1).elim
          · rw [hd] at h1
            simp only [Bool.not_eq_true', List.contains_eq_mem, decide_eq_false_iff_not] at h1
            exact absurd htr h1
        · intro hp
          cases hrd : b.op.reading with
          | false =>
            refine .inl ⟨fun j o' hj ho' hc' => ?_, fun k o' hk ho' hc' => ?_⟩
            · have := drawOk_spec hdraw hj ho' hb
              simp only [pairOk, Bool.or_eq_true, Bool.and_eq_true] at this
              simp only [AOp.changes, Bool.not_eq_true', Bool.or_eq_false_iff] at hc'
              have hor : o'.op.reading = false := by
                cases h : o'.op.reading with
                | false => rfl
                | true => simp [AOp.quiet, h] at hc'
              rcases this with h1 | ⟨⟨((h1 | h1) | ⟨h1, _⟩) | ⟨h1 | h1, _⟩, _⟩, _⟩
              · exact hcli j h1
              · rw [hc'.1] at h1; cases h1
              · rw [hp] at h1; cases h1
              · rw [hc'.2] at h1; cases h1
              · rw [hor] at h1; cases h1
              · rw [hrd] at h1; cases h1
            · have := drawOk_spec hdraw hk hb ho'
              simp only [pairOk, Bool.or_eq_true, Bool.and_eq_true] at this
              simp only [AOp.changes, Bool.not_eq_true', Bool.or_eq_false_iff] at hc'
              have hor : o'.op.reading = false := by
                cases h : o'.op.reading with
                | false => rfl
                | true => simp [AOp.quiet, h] at hc'
              rcases this with h1 | ⟨⟨((h1 | h1) | ⟨_, h1⟩) | ⟨h1 | h1, _⟩, _⟩, _⟩
              · cases hlk : listed.getD k false with
                | false => rfl
                | true => exact (hno k hlk h1).elim
              · rw [hp] at h1; cases h1
              · rw [hc'.1] at h1; cases h1
              · rw [hc'.2] at h1; cases h1
              · rw [hrd] at h1; cases h1
              · rw [hor] at h1; cases h1
          | true =>
            refine .inr ⟨rfl, fun hw => ?_⟩
            have hil : i < l.length := (List.getElem?_eq_some_iff.1 hb).1
            obtain ⟨m, m1, m2, m3, m4⟩ := stX_prefix (S := S) (Ss := Ss) (X := fun j => listed.getD j false) hS0 l.length (Nat.le_refl _)
            rw [m2]
            have hbc : b.changes = false := by simp [AOp.changes, AOp.quiet, hrd]
            -- what the pair says, if they are not in order
            have hpair : ∀ (p q : Nat) (x y : AOp), p < q → l[p]? = some x → l[q]? = some y → (x.changes = true ∨ y.changes = true) → x.op.pure = false → y.op.pure = false → ((Region.before ops).getD q 0).testBit p = true ∨ (p, q) ∈ chk := by
              intro p q x y hpq hx hy hc hpx hpy
              have := drawOk_spec hdraw hpq hx hy
              simp only [pairOk, Bool.or_eq_true, Bool.and_eq_true] at this
              rcases this with h1 | ⟨⟨((h1 | h1) | ⟨h1, h2⟩) | ⟨_, h1⟩, _⟩, _⟩
              · exact .inl h1
              · rw [hpx] at h1; cases h1
              · rw [hpy] at h1; cases h1
              · rcases hc with hc | hc
                · simp only [AOp.changes, h1, Bool.or_true, Bool.not_true] at hc; cases hc
                · simp only [AOp.changes, h2, Bool.or_true, Bool.not_true] at hc; cases hc
              · exact .inr (by simpa using h1)
            have hnp : ∀ (x : AOp), x.changes = true → x.op.pure = false ∧ x.op.reading = false := by
              intro x hx
              simp only [AOp.changes, Bool.not_eq_true', Bool.or_eq_false_iff, AOp.quiet] at hx
              exact ⟨hx.1, hx.2.1⟩
            rcases Nat.lt_or_ge i m with him | him
            · rcases m3 with m3 | ⟨k, o', rfl, hk, hXk, hck⟩
              · omega
              · have hne : k ≠ i := fun e => by subst e; rw [hb] at hk; injection hk with hk; rw [← hk, hbc] at hck; cases hck
                have hik : i < k := by omega
                rcases hpair i k b o' hik hb hk (.inr hck) hp (hnp o' hck).1 with h1 | h1
                · exact (hno k hXk h1).elim
                · exact (hchk i k h1 b o' hb hk).1 hrd hw _ (.inr rfl)
            · by_cases hex : ∃ k, m ≤ k ∧ k < i ∧ ∃ o', l[k]? = some o' ∧ o'.changes = true
              · obtain ⟨k, ⟨k1, k2, o', k3, k4⟩, hmin⟩ := least hex
                have hXk : listed.getD k false = false := by
                  cases h : listed.getD k false with
                  | false => rfl
                  | true => have := m4 k o' k1 (by omega) k3 h; rw [k4] at this; cases this
                have hsame : Ss k = Ss m := Ss_same hR.quiet ht k1 (by omega) fun p x h1 h2 h3 => by
                  cases hc : x.changes with
                  | false => rfl
                  | true => exact absurd ⟨h1, by omega, x, h3, hc⟩ (hmin p h2)
                rcases hpair k i o' b k2 k3 hb (.inl k4) (hnp o' k4).1 hp with h1 | h1
                · have := hcli k h1
                  simp only [hXk] at this; cases this
                · exact (hchk k i h1 o' b k3 hb).2 (hnp o' k4).2 hrd hw _ (.inl hsame.symm)
              · have hsame : Ss i = Ss m := Ss_same hR.quiet ht him (by omega) fun p x h1 h2 h3 => by
                  cases hc : x.changes with
                  | false => rfl
                  | true => exact absurd ⟨p, h1, h2, x, h3, hc⟩ hex
                rw [← hsame]
                rcases ht.step i b hb with ⟨_, h2⟩ | ⟨h1, _⟩
                · rw [reading_aop hrd] at h2; exact ⟨_, h2⟩
                · rw [hw] at h1; cases h1
        · intro d hd k o' hk ho' hXk hd'
          have := drawOk_spec hdraw hk hb ho'
          simp only [pairOk, Bool.or_eq_true, Bool.and_eq_true] at this
          rcases this with h1 | ⟨⟨_, h1⟩, _⟩
          · exact hno k hXk h1
          · rw [hd] at h1
            simp only [Bool.and_eq_true] at h1
            rw [hd'] at h1
            simp at h1
  refine key ops.size (Array.replicate ops.size false) a _ (by simp) ?_ ?_ (inv_start (fun i => ?_) hS hE hn rfl ⟨rfl, rfl, rfl⟩)
  · have := List.countP_le_length (p := fun i => !(Array.replicate ops.size false).getD i false) (l := List.range ops.size)
    simpa using this
  · intro i o e h1
    exfalso
    simp [Array.getElem?_replicate] at h1
    split at h1 <;> simp at h1
  · simp [Array.getElem?_replicate]
    split <;> rfl
end Go.Ab
