/-
  THE ENGINE, PART 4: blocks: a new one, a store; operands; rows of cells.
-/
import Derived.Test.YtkaadpkokmhfjaaGreatDoorAb3
namespace Go.Ab
variable {P : Program} {K K' : Nat → Option Obj} {ρ ρ' : Nat → Loc} {S : AS} {w w' : World}

theorem ERel.mono {n n' : Nat} (hK : ∀ c cs e fr, K c = some (.cells cs e fr) → K' c = some (.cells cs e fr)) (hρ : ∀ b, b < n → ρ' b = ρ b) (hn : n ≤ n') {E : Env} {tmps : Array Value}
    (h : ERel K ρ n E tmps) : ERel K' ρ' n' E tmps := fun t => ⟨((h t).1.mono hK).congr (h t).2 hρ, vb_mono hn _ (h t).2⟩

theorem BRel.mono {n n' : Nat} {L : Loc} (hK : ∀ c cs e fr, K c = some (.cells cs e fr) → K' c = some (.cells cs e fr)) (hρ : ∀ b, b < n → ρ' b = ρ b) (hn : n ≤ n')
    {o : AB} {obj : Obj} (h : BRel P K ρ n L o obj) : BRel P K' ρ' n' L o obj := by
  cases o with
  | cells c =>
    cases obj <;> try exact h
    obtain ⟨h1, h2, h3, h4, h5⟩ := h
    exact ⟨h1, h2, h3, (h4.mono hK).congr h5 hρ, vbs_mono hn c h5⟩
  | map es =>
    cases obj <;> try exact h
    obtain ⟨h1, h2⟩ := h
    refine ⟨h1, fun i p e hp he => ?_⟩
    obtain ⟨a, b, c, d⟩ := h2 i p e hp he
    exact ⟨(a.mono hK).congr c hρ, (b.mono hK).congr d hρ, vb_mono hn _ c, vb_mono hn _ d⟩
  | loop E ps a b st pend =>
    cases obj <;> try exact h
    obtain ⟨h1, h2⟩ := h
    exact ⟨h1.mono hK hρ hn, h2⟩
  | dead => trivial

theorem BRel.mapbb {n : Nat} {L : Loc} {es : List (AV × AV)} {obj : Obj} (h : BRel P K ρ n L (.map es) obj) : bb n (.map es) := by
  cases obj <;> try exact h.elim
  obtain ⟨h1, h2⟩ := h
  intro p hp
  obtain ⟨i, hi, rfl⟩ := List.mem_iff_getElem.1 hp
  rename_i es' _
  have := h2 i es[i] es'[i] (List.getElem?_eq_getElem hi) (Array.getElem?_eq_getElem (h1 ▸ hi))
  exact ⟨this.2.2.1, this.2.2.2⟩

def upR (ρ : Nat → Loc) (b : Nat) (L : Loc) : Nat → Loc := fun c => if c = b then L else ρ c
@[simp] theorem upR_same (ρ : Nat → Loc) (b : Nat) (L : Loc) : upR ρ b L b = L := by simp [upR]
theorem upR_lt (ρ : Nat → Loc) {b c : Nat} (L : Loc) (h : c < b) : upR ρ b L c = ρ c := by simp [upR]; omega
theorem upR_ne (ρ : Nat → Loc) {b c : Nat} (L : Loc) (h : c ≠ b) : upR ρ b L c = ρ c := by simp [upR, h]

/-- The streams and the tape. -/
def rest (w w' : World) : Prop := w'.tape = w.tape ∧ w'.os = w.os ∧ w'.output = w.output

theorem look_cons {k : Nat} {o : AB} {h : AHeap} {b : Nat} : look ((k, o) :: h) b = if k = b then o else look h b := rfl

/-- A new block. -/
theorem sim_alloc (hS : Sim P K ρ S w) (o : AB) (obj : Obj) (sz : Nat) (hw : w'.heap = w.heap.push obj) (hr : rest w w')
    (hB : BRel P K (upR ρ S.next ⟨w.heap.size, 0, sz⟩) (S.next + 1) ⟨w.heap.size, 0, sz⟩ o obj) :
    Sim P K (upR ρ S.next ⟨w.heap.size, 0, sz⟩) (S.alloc o) w' ∧ Ext K ρ S w K (upR ρ S.next ⟨w.heap.size, 0, sz⟩) (S.alloc o) w' := by
  have hold : ∀ c, c < w.heap.size → w'.heap[c]? = w.heap[c]? := by
    intro c hc
    rw [hw, Array.getElem?_push, if_neg (by omega)]
  have hsz : ∀ b, look S.heap b ≠ .dead → (ρ b).blk < w.heap.size := by
    intro b hb
    obtain ⟨o, ho, _⟩ := hS.live b hb
    rcases Nat.lt_or_ge (ρ b).blk w.heap.size with h | h
    · exact h
    · rw [Array.getElem?_eq_none h] at ho; cases ho
  have hKsz : ∀ c o, K c = some o → c < w.heap.size := by
    intro c o hc
    have := hS.kept c o hc
    rcases Nat.lt_or_ge c w.heap.size with h | h
    · exact h
    · rw [Array.getElem?_eq_none h] at this; cases this
  have hlook : ∀ b, look (S.alloc o).heap b = if S.next = b then o else look S.heap b := fun b => rfl
  refine ⟨⟨?_, ?_, ?_, ?_⟩, ?_⟩
  · intro b hb
    rw [hlook] at hb ⊢
    by_cases h : S.next = b
    · subst h
      rw [if_pos rfl, upR_same]
      refine ⟨obj, by rw [hw]; simp, hB, ?_⟩
      cases hk : K w.heap.size with
      | none => rfl
      | some o => exact absurd (hKsz _ _ hk) (Nat.lt_irrefl _)
    · rw [if_neg h] at hb ⊢
      have hlt := hS.lt hb
      rw [upR_lt _ _ hlt]
      obtain ⟨o1, h1, h2, h3⟩ := hS.live b hb
      exact ⟨o1, by rw [hold _ (hsz b hb)]; exact h1, h2.mono (fun _ _ _ _ h => h) (fun c hc => upR_lt _ _ hc) (Nat.le_succ _), h3⟩
  · intro b b' hb hb' he
    rw [hlook] at hb hb'
    by_cases h : S.next = b
    · by_cases h' : S.next = b'
      · omega
      · rw [if_neg h'] at hb'
        subst h
        rw [upR_same, upR_lt _ _ (hS.lt hb')] at he
        have := hsz b' hb'
        simp only at he
        omega
    · rw [if_neg h] at hb
      by_cases h' : S.next = b'
      · subst h'
        rw [upR_same, upR_lt _ _ (hS.lt hb)] at he
        have := hsz b hb
        simp only at he
        omega
      · rw [if_neg h'] at hb'
        rw [upR_lt _ _ (hS.lt hb), upR_lt _ _ (hS.lt hb')] at he
        exact hS.inj b b' hb hb' he
  · intro c o1 hc
    rw [hold c (hKsz c o1 hc)]
    exact hS.kept c o1 hc
  · exact ⟨rfl, hS.ok⟩
  · exact {
      names := fun b hb => upR_lt _ _ hb
      keeps := fun _ _ h => h
      next := Nat.le_succ _
      size := by rw [hw]; simp
      frame := fun c hc _ => hold c hc
      dies := fun b hb hl => by rw [hlook, if_neg (by omega)] at hl; exact hl
      newLoc := fun b hb hl => by
        rw [hlook] at hl
        by_cases h : S.next = b
        · subst h; rw [upR_same]; exact .inl (Nat.le_refl _)
        · rw [if_neg h] at hl; exact absurd (hS.lt hl) (by omega)
      newK := fun _ _ h => .inl h
      rest := hr
      wm := Nat.le_refl _
      unch := fun b hb _ => by rw [hlook, if_neg (by omega)]
      nm := Nat.le_refl _
      nmb := fun b n hb _ h => by rw [hlook, if_neg (by omega)]; exact h }

/-- A store into a live block. -/
theorem sim_write (hS : Sim P K ρ S w) {b : Nat} (hb : look S.heap b ≠ .dead) (o : AB) (named : Bool) (obj : Obj) (hw : w'.heap[(ρ b).blk]? = some obj)
    (hne : ∀ c, c ≠ (ρ b).blk → w'.heap[c]? = w.heap[c]?) (hsz : w'.heap.size = w.heap.size) (hr : rest w w')
    (hB : BRel P K ρ S.next (ρ b) o obj) (hn : named = false → ∀ n, bb n (look S.heap b) → bb n o) :
    Sim P K ρ (S.write b o named) w' ∧ Ext K ρ S w K ρ (S.write b o named) w' := by
  have hlt := hS.lt hb
  have hsame : look (S.write b o named).heap b = o := look_upd_same hS.ok hlt
  have hother : ∀ c, c ≠ b → look (S.write b o named).heap c = look S.heap c := fun c hc => look_upd_ne hc
  refine ⟨⟨?_, ?_, ?_, ?_⟩, ?_⟩
  · intro c hc
    by_cases h : c = b
    · subst h
      rw [hsame] at hc ⊢
      obtain ⟨_, _, _, hk⟩ := hS.live c hb
      exact ⟨obj, hw, hB, hk⟩
    · rw [hother c h] at hc ⊢
      obtain ⟨o1, h1, h2, h3⟩ := hS.live c hc
      refine ⟨o1, ?_, h2, h3⟩
      rw [hne _ fun e => h (hS.inj c b hc hb e)]
      exact h1
  · intro c c' hc hc' he
    have l1 : look S.heap c ≠ .dead := by
      by_cases h : c = b
      · rw [h]; exact hb
      · rw [hother c h] at hc; exact hc
    have l2 : look S.heap c' ≠ .dead := by
      by_cases h : c' = b
      · rw [h]; exact hb
      · rw [hother c' h] at hc'; exact hc'
    exact hS.inj c c' l1 l2 he
  · intro c o1 hc
    rw [hne c fun e => ?_]
    · exact hS.kept c o1 hc
    · obtain ⟨_, _, _, hk⟩ := hS.live b hb
      rw [← e, hc] at hk; cases hk
  · exact heapOk_upd hS.ok
  · exact {
      names := fun _ _ => rfl
      keeps := fun _ _ h => h
      next := Nat.le_refl _
      size := by rw [hsz]; exact Nat.le_refl _
      frame := fun c _ hc => hne c fun e => hc b hb e.symm
      dies := fun c _ hl => by
        by_cases h : c = b
        · rw [h]; exact hb
        · rw [hother c h] at hl; exact hl
      newLoc := fun c hc hl => by
        have : c ≠ b := by omega
        rw [hother c this] at hl
        exact absurd (hS.lt hl) (by omega)
      newK := fun _ _ h => .inl h
      rest := hr
      wm := Nat.min_le_left _ _
      unch := fun c _ hw' => hother c (by have : (S.write b o named).wm = min S.wm b := rfl; omega)
      nm := by
        show (if named then min S.nm b else S.nm) ≤ S.nm
        split
        · exact Nat.min_le_left _ _
        · exact Nat.le_refl _
      nmb := fun c n _ hc hv => by
        by_cases h : c = b
        · subst h
          rw [hsame]
          cases named with
          | false => exact hn rfl n hv
          | true =>
            have : (S.write c o true).nm = min S.nm c := rfl
            omega
        · rw [hother c h]; exact hv }

/-! Constants and operands -/
theorem valS_rel {v : Value} {a : AV} (h : valS v = some a) : VRel K ρ a v ∧ noName a = true := by
  unfold valS at h
  split at h <;> first
    | (injection h with h; subst h; first
        | exact ⟨.bool, rfl⟩ | exact ⟨.int, rfl⟩ | exact ⟨.str rfl, rfl⟩ | exact ⟨.nilPtr, rfl⟩ | exact ⟨.nilSl, rfl⟩ | exact ⟨.nilMap, rfl⟩ | exact ⟨.nilFn, rfl⟩ | exact ⟨.nilIface, rfl⟩)
    | cases h
theorem valsS_rel : ∀ {l : List Value} {as : List AV}, valsS l = some as → VRels K ρ as l ∧ noNames as = true
  | [], as, h => by simp only [valsS, Option.some.injEq] at h; subst h; exact ⟨.nil, rfl⟩
  | v :: r, as, h => by
    simp only [valsS] at h
    split at h
    · rename_i a l h1 h2
      simp only [Option.some.injEq] at h
      subst h
      have := valS_rel (K := K) (ρ := ρ) h1
      have hr := valsS_rel h2
      exact ⟨.cons this.1 hr.1, by simp [noNames, this.2, hr.2]⟩
    · cases h
theorem valA_rel {v : Value} {a : AV} (h : valA v = some a) : VRel K ρ a v ∧ noName a = true := by
  unfold valA at h
  split at h
  · rename_i cs
    cases hc : valsS cs.toList with
    | none => simp [hc] at h
    | some as =>
      simp only [hc, Option.map_some, Option.some.injEq] at h
      subst h
      have := valsS_rel (K := K) (ρ := ρ) hc
      exact ⟨this.1.agg, by simpa [noName] using this.2⟩
  · rename_i vs
    split at h
    · rename_i he
      simp only [Option.some.injEq] at h
      subst h
      have : vs = #[] := by simpa using he
      subst this
      exact ⟨.tup rfl fun i x v hx => by simp at hx, rfl⟩
    · cases h
  · exact valS_rel h

theorem opd_rel {n : Nat} {E : Env} {a : Act} (hE : ERel K ρ n E a.tmps) {x : Operand} {ax : AX} (h : opdA x = some ax) : VRel K ρ (ax.ev E) (a.eval x) ∧ vb n (ax.ev E) := by
  cases x with
  | tmp t => simp only [opdA, Option.some.injEq] at h; subst h; exact hE t
  | const v =>
    simp only [opdA] at h
    cases hv : valA v with
    | none => simp [hv] at h
    | some c =>
      simp only [hv, Option.map_some, Option.some.injEq] at h
      subst h
      have := valA_rel (K := K) (ρ := ρ) hv
      exact ⟨this.1, vb_of_noName _ this.2⟩
  | global g => simp only [opdA, Option.some.injEq] at h; subst h; exact ⟨.gptr, trivial⟩
  | func f =>
    simp only [opdA, Option.some.injEq] at h; subst h
    exact ⟨.fn rfl rfl (fun i x v hx => by simp at hx) (fun i x v hx => by simp at hx), by simp [AX.ev, vb, vbs]⟩

theorem opds_rel {n : Nat} {E : Env} {a : Act} (hE : ERel K ρ n E a.tmps) : ∀ {l : List Operand} {as : List AX}, opdsA l = some as → VRels K ρ (as.map (AX.ev E)) (l.map a.eval) ∧ vbs n (as.map (AX.ev E))
  | [], as, h => by simp only [opdsA, Option.some.injEq] at h; subst h; exact ⟨.nil, trivial⟩
  | x :: r, as, h => by
    simp only [opdsA] at h
    split at h
    · rename_i a1 l h1 h2
      simp only [Option.some.injEq] at h
      subst h
      have := opd_rel hE h1
      have hr := opds_rel hE h2
      exact ⟨.cons this.1 hr.1, by simp only [List.map_cons, vbs]; exact ⟨this.2, hr.2⟩⟩
    · cases h

/-! The cells of a value -/
theorem cells_rel {n : Nat} {a : AV} {v : Value} {cs : List AV} (h : VRel K ρ a v) (hb : vb n a) (hc : a.cells? = some cs) :
    VRels K ρ cs v.cells.toList ∧ vbs n cs ∧ allCells cs = true := by
  cases a with
  | agg l =>
    simp only [AV.cells?] at hc
    split at hc
    · rename_i ha
      injection hc with hc; subst hc
      obtain ⟨vs, rfl, hr⟩ := h.agg_inv
      exact ⟨hr, by simpa [vb] using hb, ha⟩
    · cases hc
  | tup _ => cases hc
  | bad => cases hc
  | _ =>
    injection hc with hc; subst hc
    have hv : v.cells = #[v] := by cases h <;> rfl
    rw [hv]
    exact ⟨.cons h .nil, ⟨hb, trivial⟩, by simp [allCells, AV.isCell]⟩

/-- Cells are one-cell values in the model, too. -/
theorem oneCell_of {a : AV} {v : Value} (h : VRel K ρ a v) (hc : a.isCell = true) : v.oneCell' = true := by
  cases h <;> first | rfl | (simp [AV.isCell] at hc)

end Go.Ab
