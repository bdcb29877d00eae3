/-
  THE ENGINE, PART 5: each operation but calls does what the evaluator says (first half: what touches no more than cells).
-/
import Derived.Test.YtkaadpkokmhfjaaGreatDoorAb4
namespace Go.Ab
variable {P : Program} {K K' : Nat → Option Obj} {ρ ρ' : Nat → Loc} {S S' : AS} {w w' : World}

/-- What an operation must come to. -/
def OpOk (P : Program) (K : Nat → Option Obj) (ρ : Nat → Loc) (S : AS) (w : World) (v : AV) (S' : AS) (r : Result Next) : Prop :=
  ∃ v' w' K' ρ', (r = .ok (.value v') w' ∨ (r = .ok .skip w' ∧ v' = undef)) ∧ VRel K' ρ' v v' ∧ vb S'.next v ∧ Sim P K' ρ' S' w' ∧ Ext K ρ S w K' ρ' S' w'

theorem OpOk.pure {r : Result Next} {v : AV} {v' : Value} (hS : Sim P K ρ S w) (hr : r = .ok (.value v') w) (hv : VRel K ρ v v') (hb : vb S.next v) : OpOk P K ρ S w v S r :=
  ⟨v', w, K, ρ, .inl hr, hv, hb, hS, .refl⟩

theorem undef_rel : VRel K ρ (.tup []) undef := .tup rfl fun i x v hx => by simp at hx

/-! Runs of small things -/
theorem run_typeInfo' {t : TypeId} {i : TypeInfo} (h : P.info? t = some i) : (typeInfo t).run P w = .ok i w := by
  simp [typeInfo, h]
theorem sizeT_info {t : TypeId} {s : Nat} (h : sizeT P t = some s) : ∃ i, P.info? t = some i ∧ i.size = s := by
  unfold sizeT at h
  cases hi : P.info? t with
  | none => simp [hi] at h
  | some i => exact ⟨i, rfl, by simpa [hi] using h⟩
theorem run_sizeOf' {t : TypeId} {s : Nat} (h : sizeT P t = some s) : (Go.sizeOf t).run P w = .ok s w := by
  obtain ⟨i, hi, rfl⟩ := sizeT_info h
  simp [Go.sizeOf, run_typeInfo' hi]
theorem run_isAgg' {t : TypeId} {g : Bool} (h : isAggT P t = some g) : (isAgg t).run P w = .ok g w := by
  unfold isAggT at h
  cases hu : P.underlying t with
  | none => simp [hu] at h
  | some d =>
    simp only [hu, Option.map_some, Option.some.injEq] at h
    subst h
    cases d <;> simp [isAgg, run_underlying hu]
theorem zeroT_info {t : TypeId} {z : AV} (h : zeroT P t = some z) : ∃ i v, P.info? t = some i ∧ i.zero = some v ∧ valA v = some z := by
  unfold zeroT at h
  cases hi : P.info? t with
  | none => simp [hi] at h
  | some i =>
    cases hz : i.zero with
    | none => simp [hi, hz] at h
    | some v => exact ⟨i, v, rfl, hz, by simpa [hi, hz] using h⟩
theorem run_zeroValue' {t : TypeId} {z : AV} (h : zeroT P t = some z) : ∃ v, (zeroValue t).run P w = .ok v w ∧ VRel K ρ z v ∧ noName z = true := by
  obtain ⟨i, v, hi, hz, hv⟩ := zeroT_info h
  have := valA_rel (K := K) (ρ := ρ) hv
  exact ⟨v, by simp [zeroValue, run_typeInfo' hi, hz], this.1, this.2⟩

theorem zero_cells {z : AV} {v : Value} (h : VRel K ρ z v) (hn : noName z = true) : VRels K ρ (cellsV z) v.cells.toList ∧ noNames (cellsV z) = true := by
  cases z with
  | agg l =>
    obtain ⟨vs, rfl, hr⟩ := h.agg_inv
    exact ⟨hr, by simpa [noName, cellsV] using hn⟩
  | bad => simp [noName] at hn
  | _ =>
    have hv : v.cells = #[v] := by cases h <;> rfl
    rw [hv]
    exact ⟨.cons h .nil, by simp [cellsV, noNames, hn]⟩

/-- A part of a row of cells. -/
theorem part_rel {n : Nat} {t : TypeId} {g : Bool} {sz off : Nat} {as : List AV} {cs : Array Value} {a : AV} (hg : isAggT P t = some g) (hs : sizeT P t = some sz)
    (h : VRels K ρ as cs.toList) (hb : vbs n as) (ha : apart g off sz as = some a) : ∃ v, (part t cs off).run P w = .ok v w ∧ VRel K ρ a v ∧ vb n a := by
  unfold apart at ha
  cases g with
  | true =>
    simp only [if_true] at ha
    split at ha
    · rename_i hle
      injection ha with ha; subst ha
      refine ⟨.agg (cs.extract off (off + sz)), by simp [part, run_isAgg' hg, run_sizeOf' hs], ?_, ?_⟩
      · refine VRels.agg ?_
        have := (h.drop off).take sz
        have e : (cs.extract off (off + sz)).toList = (cs.toList.drop off).take sz := by
          rw [Array.toList_extract]; simp [List.extract]
        rw [e]; exact this
      · simp only [vb]
        exact vbs_iff.2 fun v hv => vbs_iff.1 hb v (List.drop_subset _ _ (List.take_subset _ _ hv))
    · cases ha
  | false =>
    simp only [Bool.false_eq_true, if_false] at ha
    obtain ⟨v, hv, hr⟩ := h.get ha
    exact ⟨v, by simp [part, run_isAgg' hg]; rw [show cs[off]? = some v by simpa using hv]; simp, hr, vbs_iff.1 hb a (mem_of_getElem?' ha)⟩

/-- Loading from a block of cells. -/
theorem load_rel {n : Nat} {t : TypeId} {g : Bool} {sz off base blk : Nat} {as : List AV} {cs : Array Value} {e : TypeId} {fr : Nat × Nat} {a : AV} (hg : isAggT P t = some g) (hs : sizeT P t = some sz)
    (hw : w.heap[blk]? = some (.cells cs e fr)) (h : VRels K ρ as ((cs.toList.drop base).take as.length)) (hb : vbs n as) (ha : apart g off sz as = some a) :
    ∃ v, (loadVar t ⟨blk, base + off, none⟩).run P w = .ok v w ∧ VRel K ρ a v ∧ vb n a := by
  have hcell : ∀ j v, as.length > j → ((cs.toList.drop base).take as.length)[j]? = some v → w.cell? ⟨blk, base + j, none⟩ = some v := by
    intro j v hj hv
    rw [cell_of_row w blk (base + j) cs e fr hw]
    rw [List.getElem?_take, if_pos hj, List.getElem?_drop] at hv
    simpa using hv
  unfold apart at ha
  cases g with
  | true =>
    simp only [if_true] at ha
    split at ha
    · rename_i hle
      injection ha with ha; subst ha
      have h2 := (h.drop off).take sz
      have hl : ((((cs.toList.drop base).take as.length).drop off).take sz).length = sz := by
        have := h2.1; rw [← this]; simp; omega
      have hrun := run_loadCells_list (P := P) (w := w) ⟨blk, base + off, none⟩ ((((cs.toList.drop base).take as.length).drop off).take sz) (by
        intro j v hv
        have hj : j < sz := by
          rcases Nat.lt_or_ge j sz with h' | h'
          · exact h'
          · rw [List.getElem?_eq_none (by omega)] at hv; cases hv
        rw [List.getElem?_take, if_pos hj, List.getElem?_drop] at hv
        have := hcell (off + j) v (by omega) hv
        rw [show (Addr.add ⟨blk, base + off, none⟩ j) = ⟨blk, base + (off + j), none⟩ by
          unfold Addr.add; split
          · rename_i h0; subst h0; simp
          · simp [Nat.add_assoc]]
        exact this)
      rw [hl] at hrun
      refine ⟨.agg ((((cs.toList.drop base).take as.length).drop off).take sz).toArray, by simp only [loadVar, Sem.run_bind, run_isAgg' hg, Result.andThen_ok, if_true, run_sizeOf' hs, hrun, Sem.run_pure], ?_, ?_⟩
      · exact VRels.agg (by simpa using h2)
      · simp only [vb]
        exact vbs_iff.2 fun v hv => vbs_iff.1 hb v (List.drop_subset _ _ (List.take_subset _ _ hv))
    · cases ha
  | false =>
    simp only [Bool.false_eq_true, if_false] at ha
    obtain ⟨v, hv, hr⟩ := h.get ha
    have hlt : off < as.length := by
      rcases Nat.lt_or_ge off as.length with h' | h'
      · exact h'
      · rw [List.getElem?_eq_none h'] at ha; cases ha
    have := hcell off v hlt hv
    exact ⟨v, by simp [loadVar, run_isAgg' hg, this], hr, vbs_iff.1 hb a (mem_of_getElem?' ha)⟩

/-- The package-level variables that the evaluator knows. -/
def GRel (K : Nat → Option Obj) (G : Nat → Option (List AV)) : Prop :=
  ∀ g as, G g = some as → noNames as = true ∧ ∃ cs e fr, K g = some (.cells cs e fr) ∧ ∀ ρ, VRels K ρ as ((cs.toList.drop 0).take as.length)

theorem GRel.mono {G : Nat → Option (List AV)} (hK : ∀ c cs e fr, K c = some (.cells cs e fr) → K' c = some (.cells cs e fr)) (h : GRel K G) : GRel K' G := by
  intro g as hg
  obtain ⟨h1, cs, e, fr, h2, h3⟩ := h g as hg
  exact ⟨h1, cs, e, fr, hK _ _ _ _ h2, fun ρ => (h3 ρ).mono hK⟩

theorem cells_of_live (hS : Sim P K ρ S w) {b : Nat} {c : List AV} (h : look S.heap b = .cells c) :
    ∃ cs e fr, w.heap[(ρ b).blk]? = some (.cells cs e fr) ∧ cs.size = (ρ b).size ∧ (ρ b).off + c.length ≤ cs.size ∧ (∀ i, i < cs.size → ¬ (fr.1 ≤ i ∧ i < fr.2)) ∧
      VRels K ρ c ((cs.toList.drop (ρ b).off).take c.length) ∧ vbs S.next c := by
  obtain ⟨o, ho, hB, _⟩ := hS.live b (by rw [h]; simp)
  rw [h] at hB
  cases o <;> try exact hB.elim
  obtain ⟨h1, h2, h3, h4, h5⟩ := hB
  exact ⟨_, _, _, ho, h1, h2, h3, h4, h5⟩

theorem cptr_rows {cells : List AV} {o : Nat} {cs : Array Value}
    (hl : o + cells.length ≤ cs.size) (h : ∀ (i : Nat) (a : AV) (v : Value), cells[i]? = some a → cs[o + i]? = some v → ∀ ρ', VRel K ρ' a v) :
    VRels K ρ cells ((cs.toList.drop o).take cells.length) := by
  refine ⟨by simp; omega, fun i a v ha hv => ?_⟩
  rw [List.getElem?_take] at hv
  split at hv
  · rw [List.getElem?_drop] at hv
    exact h i a v ha (by simpa using hv) ρ
  · cases hv

/-- The cells behind a pointer. -/
theorem S_load_rel {G : Nat → Option (List AV)} (hG : GRel K G) (hS : Sim P K ρ S w) {t : TypeId} {g : Bool} {sz : Nat} (hg : isAggT P t = some g) (hs : sizeT P t = some sz)
    {p : AV} {v : Value} (hp : VRel K ρ p v) {a : AV} (h : S.load G g sz p = some a) :
    ∃ ad x, v = .pointer (some ad) ∧ (loadVar t ad).run P w = .ok x w ∧ VRel K ρ a x ∧ vb S.next a := by
  cases hp with
  | @ptr _ b off o ho =>
    simp only [AS.load] at h
    split at h
    · rename_i c hl
      obtain ⟨cs, e, fr, h1, _, _, _, h4, h5⟩ := cells_of_live hS hl
      obtain ⟨x, hx, hr, hb⟩ := load_rel (off := off) hg hs h1 h4 h5 h
      exact ⟨_, x, rfl, by rw [ho]; exact hx, hr, hb⟩
    · cases h
  | @cptr _ cells c o cs e fr hk hn hl hh =>
    simp only [AS.load] at h
    have hw := hS.kept _ _ hk
    obtain ⟨x, hx, hr, hb⟩ := load_rel (n := S.next) (off := 0) hg hs hw (cptr_rows hl hh) (vbs_of_noNames _ hn) h
    exact ⟨_, x, rfl, hx, hr, hb⟩
  | @gptr _ gi off =>
    simp only [AS.load] at h
    split at h
    · rename_i as hgi
      obtain ⟨hn, cs, e, fr, hk, hv⟩ := hG gi as hgi
      have hw := hS.kept _ _ hk
      obtain ⟨x, hx, hr, hb⟩ := load_rel (n := S.next) (base := 0) (off := off) hg hs hw (hv ρ) (vbs_of_noNames _ hn) h
      exact ⟨_, x, rfl, by simpa using hx, hr, hb⟩
    · cases h
  | _ => simp [AS.load] at h
end Go.Ab
