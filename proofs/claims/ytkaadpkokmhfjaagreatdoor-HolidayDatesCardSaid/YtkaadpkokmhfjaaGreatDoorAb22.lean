/-
  THE ENGINE, PART 22: functions: results, marks, what is kept of a call's blocks; the whole.
-/
import Derived.Test.YtkaadpkokmhfjaaGreatDoorAb21
namespace Go.Ab
variable {P : Program} {A : AProg} {R : Rec} {K K1 K2 : Nat → Option Obj} {ρ ρ1 : Nat → Loc} {S S0 S1 : AS} {w w1 : World} {E : Env} {a : Act}

/-! ### Results -/
theorem getRes_ok (hG : GRel K A.glob) (hS : Sim P K ρ S w) {tmps : Array Value} (hE : ERel K ρ S.next E tmps) {f : ResultVar → Sem Value} (f1 : ∀ t, f (.tmp t) = pure (tmps.getD t undef))
    (f2 : ∀ a t, f (.cell a t) = do loadVar t (← asAddr (tmps.getD a undef))) : ∀ {rs : List ResultVar} {ars : List ARes} {vs : List AV}, lowerRes P rs = some ars → getRes A.glob E S ars = some vs →
    ∃ us, (rs.mapM f).run P w = .ok us w ∧ VRels K ρ vs us ∧ vbs S.next vs
  | [], ars, vs, hl, hv => by
    simp only [lowerRes, Option.some.injEq] at hl
    subst hl
    simp only [getRes, Option.some.injEq] at hv
    subst hv
    exact ⟨[], by simp, .nil, trivial⟩
  | .tmp t :: rs, ars, vs, hl, hv => by
    simp only [lowerRes] at hl
    obtain ⟨l, hl2, rfl⟩ := Option.map_eq_some_iff.1 hl
    simp only [getRes] at hv
    obtain ⟨vs', hv', rfl⟩ := Option.map_eq_some_iff.1 hv
    obtain ⟨us, h1, h2, h3⟩ := getRes_ok hG hS hE f1 f2 hl2 hv'
    refine ⟨tmps.getD t undef :: us, ?_, .cons (hE t).1 h2, ⟨(hE t).2, h3⟩⟩
    simp only [List.mapM_cons, f1, Sem.run_bind, Sem.run_pure, Result.andThen_ok, h1]
  | .cell c t :: rs, ars, vs, hl, hv => by
    simp only [lowerRes] at hl
    split at hl <;> try contradiction
    rename_i g s l hg hs hl'
    injection hl with hl; subst hl
    simp only [getRes] at hv
    split at hv <;> try contradiction
    rename_i v hld
    obtain ⟨vs', hv', rfl⟩ := Option.map_eq_some_iff.1 hv
    obtain ⟨us, h1, h2, h3⟩ := getRes_ok hG hS hE f1 f2 hl' hv'
    obtain ⟨ad, x, g1, g2, g3, g4⟩ := S_load_rel hG hS hg hs (hE c).1 hld
    refine ⟨x :: us, ?_, .cons g3 h2, ⟨g4, h3⟩⟩
    simp only [List.mapM_cons, f2, Sem.run_bind, Sem.run_pure, g1, asAddr, Result.andThen_ok, g2, h1]

theorem results_ok (hG : GRel K A.glob) (hS : Sim P K ρ S w) {tmps : Array Value} (hE : ERel K ρ S.next E tmps) {fn : Func} {ars : List ARes} {vs : List AV} (hl : lowerRes P fn.results.toList = some ars) (hv : getRes A.glob E S ars = some vs) :
    ∃ u, (results fn tmps).run P w = .ok u w ∧ VRel K ρ (oneOf vs) u ∧ vb S.next (oneOf vs) := by
  unfold results
  rw [Array.mapM_eq_mapM_toList]
  generalize hf : (fun x : ResultVar => (match x with
    | .tmp t => pure (tmps.getD t undef)
    | .cell a t => do loadVar t (← asAddr (tmps.getD a undef)) : Sem Value)) = f
  obtain ⟨us, h1, h2, h3⟩ := getRes_ok hG hS hE (f := f) (fun t => by rw [← hf]) (fun a t => by rw [← hf]) hl hv
  refine ⟨if h : us.toArray.size = 1 then us.toArray[0] else .tuple us.toArray, ?_, ?_⟩
  · simp only [map_eq_pure_bind, bind_assoc, Sem.run_bind, h1, Result.andThen_ok, pure_bind, Sem.run_pure]
  · cases vs with
    | nil =>
      have := h2.nil_inv; subst this
      exact ⟨.tup rfl fun i x v hx => by simp at hx, trivial⟩
    | cons v r =>
      obtain ⟨u, us', rfl, g1, g2⟩ := h2.cons_inv
      cases r with
      | nil =>
        have := g2.nil_inv; subst this
        exact ⟨g1, h3.1⟩
      | cons v2 r =>
        obtain ⟨u2, us2, rfl, g3, g4⟩ := g2.cons_inv
        refine ⟨?_, h3⟩
        rw [dif_neg (by simp)]
        exact VRels.tup (by simpa using h2)

/-! ### Marks -/
def shut : List Nat → World → World
  | [], w => w
  | r :: rs, w => shut rs (w.putObj r (.deferred none))
theorem shut_size : ∀ (rs : List Nat) (w : World), (shut rs w).heap.size = w.heap.size
  | [], _ => rfl
  | r :: rs, w => by simp [shut, shut_size rs]
theorem shut_other : ∀ (rs : List Nat) (w : World) (c : Nat), c ∉ rs → (shut rs w).heap[c]? = w.heap[c]?
  | [], _, _, _ => rfl
  | r :: rs, w, c, h => by
    simp only [List.mem_cons, not_or] at h
    rw [shut, shut_other rs _ c h.2, World.putObj_heap_other h.1]
theorem shut_rest : ∀ (rs : List Nat) (w : World), rest w (shut rs w)
  | [], _ => ⟨rfl, rfl, rfl⟩
  | r :: rs, w => shut_rest rs (w.putObj r (.deferred none))

theorem leaves_marks {F : Fence} {n : Nat} {fn : Func} {tmps : Array Value} {POST : Ending → World → Prop} : ∀ (rs : List Nat) (w : World), (∀ r ∈ rs, w.heap[r]? = some (.deferred (some []))) → rs.Nodup →
    (∃ v, (results fn tmps).run P (shut rs w) = .ok v (shut rs w) ∧ POST (.returned v) (shut rs w)) → LeavesInM F n P fn tmps POST (rs.map markOf) .returning w
  | [], w, _, _, h => h
  | r :: rs, w, hr, hn, h => by
    have hn := List.nodup_cons.1 hn
    refine ⟨by simp, .inl ⟨r, _, rfl, run_takeDeferred (hr r (List.mem_cons_self ..)), leaves_marks rs _ (fun q hq => ?_) hn.2 h⟩⟩
    have hqr : q ≠ r := fun e => hn.1 (by rw [← e]; exact hq)
    rw [World.putObj_heap_other hqr]
    exact hr q (List.mem_cons_of_mem _ hq)

def unmark (K : Nat → Option Obj) (rs : List Nat) : Nat → Option Obj := fun c => if c ∈ rs then none else K c

theorem sim_shut {rs : List Nat} (hS : Sim P K1 ρ1 S1 w1) (hX : Ext K ρ S w K1 ρ1 S1 w1) (hK : ∀ c o, K c = some o → c < w.heap.size) (hr : ∀ r ∈ rs, K1 r = some (.deferred (some [])) ∧ w.heap.size ≤ r) :
    Sim P (unmark K1 rs) ρ1 S1 (shut rs w1) ∧ Ext K ρ S w (unmark K1 rs) ρ1 S1 (shut rs w1) ∧ (∀ c cs e fr, K1 c = some (.cells cs e fr) → unmark K1 rs c = some (.cells cs e fr)) := by
  have hcell : ∀ c cs e fr, K1 c = some (.cells cs e fr) → unmark K1 rs c = some (.cells cs e fr) := by
    intro c cs e fr hc
    unfold unmark
    rw [if_neg]
    · exact hc
    · intro hm; rw [(hr c hm).1] at hc; cases hc
  refine ⟨⟨?_, hS.inj, ?_, hS.ok⟩, ?_, hcell⟩
  · intro b hb
    obtain ⟨o, h1, h2, h3⟩ := hS.live b hb
    have hm : (ρ1 b).blk ∉ rs := fun hm => by rw [(hr _ hm).1] at h3; cases h3
    exact ⟨o, by rw [shut_other rs _ _ hm]; exact h1, h2.mono hcell (fun _ _ => rfl) (Nat.le_refl _), by unfold unmark; rw [if_neg hm]; exact h3⟩
  · intro c o hc
    unfold unmark at hc
    split at hc
    · cases hc
    · rename_i hm
      rw [shut_other rs _ _ hm]
      exact hS.kept c o hc
  · exact { hX with
      keeps := fun c o hc => by
        unfold unmark
        rw [if_neg fun hm => by have := hK c o hc; have := (hr c hm).2; omega]
        exact hX.keeps c o hc
      size := by rw [shut_size]; exact hX.size
      frame := fun c hc hb => by
        rw [shut_other rs _ _ fun hm => by have := (hr c hm).2; omega]
        exact hX.frame c hc hb
      newK := fun c o hc => by
        unfold unmark at hc
        split at hc
        · cases hc
        · exact hX.newK c o hc
      rest := by
        obtain ⟨a1, a2, a3⟩ := shut_rest rs w1
        exact ⟨a1.trans hX.rest.1, a2.trans hX.rest.2.1, a3.trans hX.rest.2.2⟩ }

/-! ### What is kept of a call's blocks -/
theorem noName_any {v : AV} {u : Value} (hn : noName v = true) (h : VRel K ρ v u) (ρ' : Nat → Loc) : VRel K ρ' v u := h.congr (n := 0) (vb_of_noName _ hn) (fun b hb => absurd hb (Nat.not_lt_zero b))

open Classical in
/-- What was kept, and the blocks from n0 on. -/
noncomputable def keepK (K1 : Nat → Option Obj) (ρ1 : Nat → Loc) (S1 : AS) (n0 : Nat) (w1 : World) : Nat → Option Obj := fun c =>
  if ∃ b, n0 ≤ b ∧ look S1.heap b ≠ .dead ∧ (ρ1 b).blk = c then w1.heap[c]? else K1 c

theorem keepK_old {n0 : Nat} {c : Nat} (h : ¬ ∃ b, n0 ≤ b ∧ look S1.heap b ≠ .dead ∧ (ρ1 b).blk = c) : keepK K1 ρ1 S1 n0 w1 c = K1 c := if_neg h
theorem keepK_new {n0 : Nat} {b : Nat} (hb : n0 ≤ b) (hl : look S1.heap b ≠ .dead) : keepK K1 ρ1 S1 n0 w1 (ρ1 b).blk = w1.heap[(ρ1 b).blk]? := if_pos ⟨b, hb, hl, rfl⟩
theorem keepK_mono (hS : Sim P K1 ρ1 S1 w1) {n0 c : Nat} {o : Obj} (h : K1 c = some o) : keepK K1 ρ1 S1 n0 w1 c = some o := by
  rw [keepK_old]
  · exact h
  · rintro ⟨b, _, hl, rfl⟩
    obtain ⟨_, _, _, h3⟩ := hS.live b hl
    rw [h] at h3; cases h3

theorem freeze_rel (hS : Sim P K1 ρ1 S1 w1) {n0 : Nat} : ∀ d, (∀ v u, VRel (keepK K1 ρ1 S1 n0 w1) ρ1 v u → VRel (keepK K1 ρ1 S1 n0 w1) ρ1 (freeze n0 S1.heap d v) u) ∧
    (∀ vs us, VRels (keepK K1 ρ1 S1 n0 w1) ρ1 vs us → VRels (keepK K1 ρ1 S1 n0 w1) ρ1 (freezes n0 S1.heap d vs) us) := by
  intro d
  induction d with
  | zero => exact ⟨fun v u h => by simpa only [freeze] using h, fun vs us h => by simpa only [freezes] using h⟩
  | succ d ih =>
    refine ⟨fun v u h => ?_, fun vs us h => ?_⟩
    · cases v with
      | sl b off len cap sz =>
        simp only [freeze]
        split
        · rename_i hb
          split
          · rename_i c hlk
            split
            · rename_i hc
              obtain ⟨hle, hnn⟩ := hc
              obtain ⟨o, cap', rfl, h1, h2, h3, h4, h5⟩ := h.sl_inv
              obtain ⟨arr, e, fr, g1, g2, g3, g4, g5, g6⟩ := cells_of_live hS hlk
              have hlive : look S1.heap b ≠ .dead := by rw [hlk]; simp
              have g5' := (g5.mono fun c cs e fr h => keepK_mono (w1 := w1) hS (n0 := n0) h)
              have hf := ih.2 _ _ ((g5'.drop off).take (len * sz))
              have hfl : (freezes n0 S1.heap d ((c.drop off).take (len * sz))).length = len * sz := by
                have := hf.1
                have e2 := ((g5'.drop off).take (len * sz)).1
                rw [← e2] at this
                rw [this]; simp; omega
              rcases h3 with h3 | h3
              · subst h3
                refine .lst h2 (by rw [keepK_new hb hlive]; exact g1) hnn (by rw [hfl]; omega) fun i a v ha hv ρ' => ?_
                have hi : i < len * sz := by
                  rw [← hfl]
                  rcases Nat.lt_or_ge i (freezes n0 S1.heap d ((c.drop off).take (len * sz))).length with h' | h'
                  · exact h'
                  · rw [List.getElem?_eq_none h'] at ha; cases ha
                refine noName_any (noNames_iff.1 hnn a (List.mem_of_getElem? ha)) (hf.2 i a v ha ?_) ρ'
                rw [List.getElem?_take, if_pos hi, List.getElem?_drop, List.getElem?_take, if_pos (by omega), List.getElem?_drop]
                rw [show (ρ1 b).off + (off + i) = (ρ1 b).off + off + i by omega]
                simpa using hv
              · subst h3
                have : len = 0 := by omega
                subst this
                have hnil : freezes n0 S1.heap d ((c.drop off).take (0 * sz)) = [] := List.length_eq_zero_iff.1 (by rw [hfl]; simp)
                rw [hnil]
                exact .lst0 (Nat.le_refl _)
            · exact h
          · exact h
        · exact h
      | agg cs =>
        simp only [freeze]
        obtain ⟨vs, rfl, hr⟩ := h.agg_inv
        exact (ih.2 _ _ hr).agg
      | tup cs =>
        simp only [freeze]
        obtain ⟨vs, rfl, hr⟩ := h.tup_inv
        exact (ih.2 _ _ hr).tup
      | iface t v =>
        simp only [freeze]
        cases h with
        | iface h => exact .iface (ih.1 _ _ h)
      | _ => simpa only [freeze] using h
    · simp only [freezes]
      refine ⟨by simpa using h.1, fun i x y hx hy => ?_⟩
      rw [List.getElem?_map] at hx
      obtain ⟨x', hx', rfl⟩ := Option.map_eq_some_iff.1 hx
      exact ih.1 _ _ (h.2 i x' y hx' hy)

theorem BRel.toBb {n : Nat} {L : Loc} {o : AB} {obj : Obj} (h : BRel P K ρ n L o obj) : bb n o := by
  cases o with
  | cells c => cases obj <;> first | exact h.2.2.2.2 | exact h.elim
  | map es => exact h.mapbb
  | loop E ps a b st pend => cases obj <;> first | exact fun t => (h.1 t).2 | exact h.elim
  | dead => trivial
theorem BRel.cut {n n0 : Nat} {L : Loc} {o : AB} {obj : Obj} (hK : ∀ c cs e fr, K1 c = some (.cells cs e fr) → K2 c = some (.cells cs e fr)) (hρ : ∀ b, b < n0 → ρ b = ρ1 b) (hb : bb n0 o) (h : BRel P K1 ρ1 n L o obj) : BRel P K2 ρ n0 L o obj := by
  cases o with
  | cells c =>
    cases obj <;> try exact h
    obtain ⟨h1, h2, h3, h4, h5⟩ := h
    exact ⟨h1, h2, h3, (h4.mono hK).congr hb hρ, hb⟩
  | map es =>
    cases obj <;> try exact h
    obtain ⟨h1, h2⟩ := h
    refine ⟨h1, fun i p e hp he => ?_⟩
    obtain ⟨a, b, c, d⟩ := h2 i p e hp he
    have := hb p (List.mem_of_getElem? hp)
    exact ⟨(a.mono hK).congr this.1 hρ, (b.mono hK).congr this.2 hρ, this.1, this.2⟩
  | loop E ps a b st pend =>
    cases obj <;> try exact h
    obtain ⟨h1, h2⟩ := h
    exact ⟨fun t => ⟨((h1 t).1.mono hK).congr (hb t) hρ, hb t⟩, h2⟩
  | dead => trivial

theorem fin_ok {frz : Bool} {v v2 : AV} {u : Value} {S2 : AS} {qt : Bool} (hS0 : Sim P K ρ S0 w) (hS : Sim P K1 ρ1 S1 w1) (hX : Ext K ρ { S0 with wm := S0.next, nm := S0.next } w K1 ρ1 S1 w1) (hv : VRel K1 ρ1 v u) (hb : vb S1.next v)
    (h : fin frz S0 v S1 = (v2, S2, qt)) : Out P K ρ S0 w v2 S2 u w1 := by
  have hnext : S0.next ≤ S1.next := hX.next
  have hlookS1 : ∀ b, b < S0.next → look S1.heap b ≠ .dead → look S0.heap b ≠ .dead := fun b hb hl => hX.dies b hb hl
  -- what comes of a state that holds the old names alone
  have key : ∀ (v' : AV) (S' : AS), noName v' = true → S0.next ≤ S1.nm → VRel (keepK K1 ρ1 S1 S0.next w1) ρ1 v' u → S'.next = S0.next → heapOk S'.heap S0.next → (∀ b, b < S0.next → look S'.heap b = look S1.heap b) →
      S'.wm ≤ S0.wm → S'.nm ≤ S0.nm → (∀ b, b < S0.next → b < S'.wm → look S'.heap b = look S0.heap b) → Out P K ρ S0 w v' S' u w1 := by
    intro v' S' hn hnm hv' e1 e2 e3 e4 e5 e6
    have hlt : ∀ b, look S'.heap b ≠ .dead → b < S0.next := fun b hl => by
      rcases Nat.lt_or_ge b S0.next with h' | h'
      · exact h'
      · exact absurd (heapOk_look e2 h') hl
    have hno : ∀ b, b < S0.next → look S1.heap b ≠ .dead → ¬ ∃ b', S0.next ≤ b' ∧ look S1.heap b' ≠ .dead ∧ (ρ1 b').blk = (ρ b).blk := by
      rintro b hb hl ⟨b', h1, h2, h3⟩
      rw [← hX.names b hb] at h3
      have := hS.inj b' b h2 hl h3
      omega
    have hcell : ∀ c cs e fr, K1 c = some (.cells cs e fr) → keepK K1 ρ1 S1 S0.next w1 c = some (.cells cs e fr) := fun c cs e fr h => keepK_mono hS h
    refine ⟨keepK K1 ρ1 S1 S0.next w1, ρ, noName_any hn hv' ρ, vb_of_noName _ hn, ⟨?_, ?_, ?_, by rw [e1]; exact e2⟩, ?_⟩
    · intro b hl
      have hbn := hlt b hl
      have hl1 : look S1.heap b ≠ .dead := by rw [← e3 b hbn]; exact hl
      obtain ⟨o, h1, h2, h3⟩ := hS.live b hl1
      have hρ := hX.names b hbn
      rw [hρ] at h1 h2 h3
      refine ⟨o, h1, ?_, by rw [keepK_old (hno b hbn hl1)]; exact h3⟩
      rw [e3 b hbn, e1]
      refine h2.cut hcell (fun c hc => (hX.names c hc).symm) ?_
      obtain ⟨o0, _, h5, _⟩ := hS0.live b (hlookS1 b hbn hl1)
      exact hX.nmb b S0.next hbn (Nat.lt_of_lt_of_le hbn hnm) h5.toBb
    · intro b b' hl hl' he
      have hbn := hlt b hl
      have hbn' := hlt b' hl'
      exact hS.inj b b' (by rw [← e3 b hbn]; exact hl) (by rw [← e3 b' hbn']; exact hl') (by rw [hX.names b hbn, hX.names b' hbn']; exact he)
    · intro c o hc
      unfold keepK at hc
      split at hc
      · exact hc
      · exact hS.kept c o hc
    · exact {
        names := fun _ _ => rfl
        keeps := fun c o hc => keepK_mono hS (hX.keeps c o hc)
        next := by rw [e1]; exact Nat.le_refl _
        size := hX.size
        frame := fun c hc hb => hX.frame c hc hb
        dies := fun b hb hl => hlookS1 b hb (by rw [← e3 b hb]; exact hl)
        newLoc := fun b hb hl => absurd (hlt b hl) (by omega)
        newK := fun c o hc => by
          unfold keepK at hc
          split at hc
          · rename_i hex
            obtain ⟨b, h1, h2, rfl⟩ := hex
            rcases hX.newLoc b h1 h2 with h3 | ⟨b0, h3, h4⟩
            · exact .inr (.inl h3)
            · exact .inr (.inr ⟨b0, h3, h4⟩)
          · exact hX.newK c o hc
        rest := hX.rest
        wm := e4
        unch := e6
        nm := e5
        nmb := fun b n hb _ hbb => by
          rw [e3 b hb]
          exact hX.nmb b n hb (Nat.lt_of_lt_of_le hb hnm) hbb }
  have hv' := hv.mono fun c cs e fr (h : K1 c = some (.cells cs e fr)) => keepK_mono (w1 := w1) hS (n0 := S0.next) h
  have hfz : VRel (keepK K1 ρ1 S1 S0.next w1) ρ1 (if (frz && decide (S0.next ≤ S1.nm)) = true then freeze S0.next S1.heap 12 v else v) u := by
    split
    · exact (freeze_rel hS 12).1 v u hv'
    · exact hv'
  unfold fin at h
  dsimp only at h
  generalize hvv : (if (frz && decide (S0.next ≤ S1.nm)) = true then freeze S0.next S1.heap 12 v else v) = vv at h hfz
  split at h
  · rename_i hc
    obtain ⟨hnm, hn⟩ := hc
    split at h
    · rename_i hwm
      simp only [Prod.mk.injEq] at h
      obtain ⟨rfl, rfl, rfl⟩ := h
      exact key _ _ hn hnm hfz rfl hS0.ok (fun b hb => (hX.unch b hb (Nat.lt_of_lt_of_le hb hwm)).symm) (Nat.le_refl _) (Nat.le_refl _) (fun _ _ _ => rfl)
    · rename_i hwm
      simp only [Prod.mk.injEq] at h
      obtain ⟨rfl, rfl, rfl⟩ := h
      have hd : S1.next - (S1.next - S0.next) = S0.next := by omega
      refine key _ _ hn hnm hfz rfl ?_ (fun b hb => ?_) (Nat.min_le_left _ _) (Nat.le_refl _) (fun b hb hw => ?_)
      · have := heapOk_drop hS.ok (Nat.sub_le S1.next S0.next)
        rw [hd] at this; exact this
      · exact look_drop hS.ok (Nat.sub_le _ _) (by omega)
      · show look (S1.heap.drop (S1.next - S0.next)) b = _
        rw [look_drop hS.ok (Nat.sub_le _ _) (by omega)]
        refine hX.unch b hb ?_
        have : b < min S0.wm S1.wm := hw
        omega
  · simp only [Prod.mk.injEq] at h
    obtain ⟨rfl, rfl, rfl⟩ := h
    refine ⟨K1, ρ1, hv, hb, ⟨hS.live, hS.inj, hS.kept, hS.ok⟩, ?_⟩
    exact { hX with
      wm := Nat.min_le_left _ _
      unch := fun b hb hw => hX.unch b hb (by
        have : b < min S0.wm S1.wm := hw
        omega)
      nm := Nat.min_le_left _ _
      nmb := fun b n hb hw hbb => hX.nmb b n hb (by
        have : b < min S0.nm S1.nm := hw
        omega) hbb }


/-! ### A call -/
theorem argEnv_get : ∀ (l : List AV) (i t : Nat), (argEnv i l).get t = if i ≤ t then (l[t - i]?).getD .bad else .bad
  | [], i, t => by simp [argEnv, Env.get]
  | v :: r, i, t => by
    simp only [argEnv, Env.get]
    by_cases h : i = t
    · subst h; simp
    · rw [if_neg h, argEnv_get r (i + 1) t]
      by_cases h2 : i ≤ t
      · rw [if_pos (by omega), if_pos h2]
        rw [show t - i = (t - (i + 1)) + 1 by omega]
        simp
      · rw [if_neg (by omega), if_neg h2]

theorem args_rel {n : Nat} {args : List AV} {us : Array Value} (hr : VRels K ρ args us.toList) (hb : vbs n args) (k : Nat) : ERel K ρ n (argEnv 0 args) (us ++ Array.replicate k undef) := by
  intro t
  rw [argEnv_get]
  simp only [Nat.zero_le, if_true, Nat.sub_zero]
  cases ht : args[t]? with
  | none => exact ⟨.bad, trivial⟩
  | some x =>
    obtain ⟨u, h1, h2⟩ := hr.get ht
    have hu : us[t]? = some u := by simpa using h1
    have hlt : t < us.size := (Array.getElem?_eq_some_iff.1 hu).1
    have : (us ++ Array.replicate k undef).getD t undef = u := by
      have e : (us ++ Array.replicate k undef)[t]? = some u := by rw [Array.getElem?_append_left hlt]; exact hu
      rw [Array.getD_eq_getD_getElem?, e]; rfl
    rw [this]
    exact ⟨h2, vbs_iff.1 hb x (List.mem_of_getElem? ht)⟩

theorem call_step (hs : Setup P A) (hR : RecOk P A R) {k : Nat} {args : List AV} {us : Array Value} {v : AV} {S' : AS} {qt : Bool} (hG : GRel K A.glob) (hS : Sim P K ρ S w) (hr : VRels K ρ args us.toList) (hb : vbs S.next args)
    (h : stepCall A R k args S = some (v, S', qt)) : CallOk P k K ρ S w us v S' := by
  unfold stepCall at h
  split at h
  · cases h
  rename_i f hf
  split at h
  case isFalse => cases h
  rename_i hlen
  obtain ⟨fn, c, g1, g2, g3, g4, g5, g6⟩ := hs.fn k f hf
  refine ⟨⟨fn, g1, g3, by rw [g2]; rfl⟩, ?_⟩
  have hus : us.size = args.length := by have := hr.1; simp at this; omega
  have hS0 : Sim P K ρ { S with wm := S.next, nm := S.next } w := ⟨hS.live, hS.inj, hS.kept, hS.ok⟩
  have hKlt : ∀ c o, K c = some o → c < w.heap.size := fun c o hc => (Array.getElem?_eq_some_iff.1 (hS.kept c o hc)).1
  have go : ∀ (e : AExit) (E1 : Env) (S1 : AS), (e = .normal ∨ e = .ret) → R.code f.body (argEnv 0 args) { S with wm := S.next, nm := S.next } = some (e, E1, S1) →
      (match getRes A.glob E1 S1 f.res with | some vs => some (fin f.frz S (oneOf vs) S1) | none => none) = some (v, S', qt) →
      CallsIn Fence.wide 0 P k us w (callPost P K ρ S w v S') := by
    intro e E1 S1 he hrun hres
    split at hres <;> try contradiction
    rename_i vs hvs
    injection hres with hres
    refine callsIn_of_wp_marks g1 g2 trivial ?_
    have hE := args_rel (n := S.next) hr hb (fn.ntmps - us.size)
    have hsz : (us ++ Array.replicate (fn.ntmps - us.size) undef).size = f.nt := by
      rw [Array.size_append, Array.size_replicate, g4]; omega
    have hwp := hR.code f.nt c f.body none K ρ (argEnv 0 args) _ { tmps := us ++ Array.replicate (fn.ntmps - us.size) undef, defers := [] } w e E1 S1 g6 (fun h => absurd rfl h) hG hS0 hE hsz hrun
    refine wpIn_mono (F := Fence.wide) hwp fun ex a1 w1 hp => ?_
    obtain ⟨hex, K1, ρ1, h1, h2, h3, h4, rs, h5, h6, h7⟩ := hp
    obtain ⟨j1, j2, j3⟩ := sim_shut h1 h4 hKlt h7
    have hE1 : ERel (unmark K1 rs) ρ1 S1.next E1 a1.tmps := h2.mono j3 (fun _ _ => rfl) (Nat.le_refl _)
    obtain ⟨u, i1, i2, i3⟩ := results_ok ((hG.mono h4.cellsK).mono j3) j1 hE1 g5 hvs
    have hleave : LeavesInM Fence.wide 0 P fn a1.tmps (callPost P K ρ S w v S') a1.defers .returning w1 := by
      rw [h5]
      simp only [List.append_nil]
      exact leaves_marks rs w1 (fun r hr => h1.kept r _ (h7 r hr).1) h6 ⟨u, i1, fin_ok hS j1 j2 i2 i3 hres⟩
    rcases he with rfl | rfl
    · rw [hex]; exact hleave
    · rw [hex]; exact hleave
  split at h
  · rename_i E1 S1 hrun
    exact go _ _ _ (.inl rfl) hrun h
  · rename_i E1 S1 hrun
    exact go _ _ _ (.inr rfl) hrun h
  · cases h

theorem quiet_step (hs : Setup P A) : QuietOk A (stepR A R) := by
  refine ⟨?_, hs.quiet⟩
  intro k args S v S' h
  change stepCall A R k args S = some (v, S', true) at h
  unfold stepCall at h
  split at h
  · cases h
  split at h
  case isFalse => cases h
  have go : ∀ (f : AFun) (E1 : Env) (S1 : AS), (match getRes A.glob E1 S1 f.res with | some vs => some (fin f.frz S (oneOf vs) S1) | none => none) = some (v, S', true) → S' = S := by
    intro f E1 S1 h
    split at h <;> try contradiction
    injection h with h
    unfold fin at h
    dsimp only at h
    generalize (if (f.frz && decide (S.next ≤ S1.nm)) = true then freeze S.next S1.heap 12 _ else _) = vv at h
    split at h
    · split at h
      · simp only [Prod.mk.injEq] at h; exact h.2.1.symm
      · injection h with _ h; injection h with _ h; cases h
    · injection h with _ h; injection h with _ h; cases h
  split at h
  · exact go _ _ _ h
  · exact go _ _ _ h
  · cases h

theorem rec_step (hs : Setup P A) (hR : RecOk P A R) : RecOk P A (stepR A R) where
  quiet := quiet_step hs
  call := fun _ _ _ _ _ _ _ _ _ _ hG hS hr hb h => call_step hs hR hG hS hr hb h
  code := fun _ _ _ _ _ _ _ _ _ _ _ _ _ hlow hrf hG hS hE hn h => code_step hs hR hlow hrf hG hS hE hn h

/-- THE ENGINE IS SOUND. -/
theorem evN_ok (hs : Setup P A) : ∀ n, RecOk P A (evN A n)
  | 0 => ⟨⟨fun _ _ _ _ _ h => (by cases h), hs.quiet⟩, fun _ _ _ _ _ _ _ _ _ _ _ _ _ _ h => (by cases h), fun _ _ _ _ _ _ _ _ _ _ _ _ _ _ _ _ _ _ _ h => (by cases h)⟩
  | n + 1 => rec_step hs (evN_ok hs n)

/-- A function, from an empty state, of arguments without names: what the evaluator says. -/
theorem calls_of_ev (hs : Setup P A) {n k : Nat} {args : List AV} {us : Array Value} {v : AV} {qt : Bool} (hG : GRel K A.glob) (hK : ∀ c o, K c = some o → w.heap[c]? = some o) (hr : VRels K ρ args us.toList) (hb : vbs 0 args)
    (h : (evN A n).call k args ⟨[], 0, 0, 0⟩ = some (v, ⟨[], 0, 0, 0⟩, qt)) :
    canEnter P k ∧ Calls P k us w fun e w' => ∃ u K', e = .returned u ∧ VRel K' ρ v u ∧ (∀ c o, K c = some o → K' c = some o) ∧ (∀ c o, K' c = some o → w'.heap[c]? = some o) ∧
      w.heap.size ≤ w'.heap.size ∧ (∀ c, c < w.heap.size → w'.heap[c]? = w.heap[c]?) ∧ w'.tape = w.tape ∧ w'.os = w.os ∧ w'.output = w.output := by
  have hS : Sim P K ρ ⟨[], 0, 0, 0⟩ w := ⟨fun b hb => absurd rfl hb, fun b _ hb => absurd rfl hb, hK, rfl⟩
  obtain ⟨h1, h2⟩ := (evN_ok hs n).call k args us _ w K ρ v _ qt hG hS hr hb h
  refine ⟨h1, callsIn_wide.1 (CallsIn.mono h2 fun e w' he => ?_)⟩
  cases e with
  | returned u =>
    obtain ⟨K', ρ', g1, g2, g3, g4⟩ := he
    exact ⟨u, K', rfl, g1.congr g2 (fun b hb => absurd hb (Nat.not_lt_zero b)), g4.keeps, g3.kept, g4.size, fun c hc => g4.frame c hc (fun b hb => absurd rfl hb), g4.rest⟩
  | _ => exact he.elim
end Go.Ab
