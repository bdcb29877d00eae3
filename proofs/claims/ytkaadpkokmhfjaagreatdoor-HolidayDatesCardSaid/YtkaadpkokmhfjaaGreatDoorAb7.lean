/-
  THE ENGINE, PART 7: the operations, one by one: aggregates, loads, stores, fields, elements, numbers.
-/
import Derived.Test.YtkaadpkokmhfjaaGreatDoorAb6
namespace Go.Ab
variable {P : Program} {K K' : Nat → Option Obj} {ρ ρ' : Nat → Loc} {S S' : AS} {w w' : World} {G : Nat → Option (List AV)} {E : Env} {a : Act} {o : Oper} {ao : AO} {v : AV}

theorem VRel.ptr_inv {b off : Nat} {v : Value} (h : VRel K ρ (.ptr b off) v) : v = .pointer (some ⟨(ρ b).blk, (ρ b).off + off, none⟩) := by
  cases h with
  | ptr ho => rw [ho]

theorem op_build {t : TypeId} {parts : Array (Nat × Operand)} (hop : o.op = .build t parts) (hS : Sim P K ρ S w) (hE : ERel K ρ S.next E a.tmps)
    (hlow : lowerOp P o = some ao) (h : aop G E S ao = some (v, S')) : OpOk P K ρ S w v S' ((execOp a.eval o).run P w) := by
  simp only [lowerOp, hop] at hlow
  split at hlow
  · rename_i z fs hz hu
    split at hlow
    · rename_i places hpl
      obtain ⟨ps, hps, rfl⟩ := Option.map_eq_some_iff.1 hlow
      simp only [aop] at h
      obtain ⟨cs, hcs, he⟩ := Option.map_eq_some_iff.1 h
      simp only [Prod.mk.injEq] at he
      obtain ⟨rfl, rfl⟩ := he
      obtain ⟨zv, hzv, hr, hn⟩ := run_zeroValue' (K := K) (ρ := ρ) (w := w) hz
      obtain ⟨zs, rfl, hzr⟩ := hr.agg_inv
      obtain ⟨cs', h1, h2, h3⟩ := fill_rel hE (fun i => places[i]?) parts.toList hps hzr (vbs_of_noNames _ (by simpa [noName] using hn)) hcs
      refine OpOk.pure hS (v' := .agg cs') ?_ h2.agg (by simpa [vb] using h3)
      have e : (parts.map fun (i, x) => (i, a.eval x)).toList = parts.toList.map fun p => (p.1, a.eval p.2) := by simp
      simp [execOp, hop, Instr.build, hzv, run_underlying hu, Array.mapM_eq_mapM_toList, run_places w _ _ hpl, Value.cells, h1]
    · cases hlow
  · rename_i z n e hz hu
    split at hlow
    · rename_i s hs
      obtain ⟨ps, hps, rfl⟩ := Option.map_eq_some_iff.1 hlow
      simp only [aop] at h
      obtain ⟨cs, hcs, he⟩ := Option.map_eq_some_iff.1 h
      simp only [Prod.mk.injEq] at he
      obtain ⟨rfl, rfl⟩ := he
      obtain ⟨zv, hzv, hr, hn⟩ := run_zeroValue' (K := K) (ρ := ρ) (w := w) hz
      obtain ⟨zs, rfl, hzr⟩ := hr.agg_inv
      obtain ⟨cs', h1, h2, h3⟩ := fill_rel hE (fun i => some (i * s, s)) parts.toList hps hzr (vbs_of_noNames _ (by simpa [noName] using hn)) hcs
      refine OpOk.pure hS (v' := .agg cs') ?_ h2.agg (by simpa [vb] using h3)
      simp [execOp, hop, Instr.build, hzv, run_underlying hu, run_sizeOf' hs, Value.cells, h1]
    · cases hlow
  · cases hlow

theorem op_load {t : TypeId} {x : Operand} (hop : o.op = .load t x) (hG : GRel K G) (hS : Sim P K ρ S w) (hE : ERel K ρ S.next E a.tmps)
    (hlow : lowerOp P o = some ao) (h : aop G E S ao = some (v, S')) : OpOk P K ρ S w v S' ((execOp a.eval o).run P w) := by
  simp only [lowerOp, hop] at hlow
  split at hlow
  · rename_i g s ax hg hs hx
    injection hlow with hlow; subst hlow
    simp only [aop] at h
    obtain ⟨y, hy, he⟩ := Option.map_eq_some_iff.1 h
    simp only [Prod.mk.injEq] at he
    obtain ⟨rfl, rfl⟩ := he
    have rx := opd_rel hE hx
    obtain ⟨ad, xv, h1, h2, h3, h4⟩ := S_load_rel hG hS hg hs rx.1 hy
    exact OpOk.pure hS (v' := xv) (by simp [execOp, hop, Instr.loadAt, h1, Instr.sureAddr, h2]) h3 h4
  · cases hlow

/-- A run of stores into one block. -/
theorem run_storeCells {t : TypeId} {fr : Nat × Nat} : ∀ (vs : List Value) (b off i : Nat) (cs : Array Value) (w : World), w.heap[b]? = some (.cells cs t fr) →
    off + i + vs.length ≤ cs.size → (∀ j, j < cs.size → ¬ (fr.1 ≤ j ∧ j < fr.2)) → (∀ v ∈ vs, v.oneCell' = true) →
    ∃ w' cs', (storeCells ⟨b, off, none⟩ vs i).run P w = .ok () w' ∧ w'.heap[b]? = some (.cells cs' t fr) ∧
      cs'.toList = cs.toList.take (off + i) ++ vs ++ cs.toList.drop (off + i + vs.length) ∧ (∀ c, c ≠ b → w'.heap[c]? = w.heap[c]?) ∧ w'.heap.size = w.heap.size ∧ rest w w'
  | [], b, off, i, cs, w, hw, hl, hf, hv => ⟨w, cs, by simp [storeCells], hw, by simp, fun _ _ => rfl, rfl, rfl, rfl, rfl⟩
  | x :: r, b, off, i, cs, w, hw, hl, hf, hv => by
    simp only [List.length_cons] at hl
    have hadd : (Addr.add ⟨b, off, none⟩ i) = ⟨b, off + i, none⟩ := by
      unfold Addr.add; split
      · rename_i h0; subst h0; simp
      · rfl
    have hlt : off + i < cs.size := by omega
    have hcell : w.cell? ⟨b, off + i, none⟩ = some cs[off + i] := by
      rw [cell_of_row w b (off + i) cs t fr hw]; simp [hlt]
    have hfro : w.frozen? ⟨b, off + i, none⟩ = false := by
      have := hf (off + i) hlt
      simp only [World.frozen?, hw]
      obtain ⟨lo, hi⟩ := fr
      simp only [decide_eq_false_iff_not, Bool.and_eq_false_iff] at this ⊢
      simp at this
      by_cases h1 : lo ≤ off + i
      · right; simpa using this h1
      · left; simpa using h1
    have hset : (w.setCell ⟨b, off + i, none⟩ x).heap[b]? = some (.cells (cs.setIfInBounds (off + i) x) t fr) := by
      simp [World.setCell, Array.getElem?_modify, hw]
    obtain ⟨w', cs', h1, h2, h3, h4, h5, h6⟩ := run_storeCells r b off (i + 1) (cs.setIfInBounds (off + i) x) (w.setCell ⟨b, off + i, none⟩ x) hset (by simp; omega)
      (by simpa using hf) (fun v hv' => hv v (List.mem_cons_of_mem _ hv'))
    refine ⟨w', cs', ?_, h2, ?_, ?_, ?_, ?_⟩
    · simp only [storeCells, Sem.run_bind, hadd, run_store P w _ x .plain (hv x (List.mem_cons_self ..)), hcell, hfro]
      simpa using h1
    · rw [h3, Array.toList_setIfInBounds]
      have := foldl_put (x :: r) (off + i) cs (by simp; omega)
      apply List.ext_getElem?
      intro j
      simp only [List.getElem?_append, List.getElem?_take, List.getElem?_set, List.getElem?_drop, List.length_append, List.length_take, List.length_set, List.length_cons, Array.length_toList]
      by_cases g1 : j < off + i
      · have e1 : j < off + (i + 1) := by omega
        have e2 : j < min (off + (i + 1)) cs.size + r.length := by omega
        have e3 : j < min (off + (i + 1)) cs.size := by omega
        have e4 : j < min (off + i) cs.size + (r.length + 1) := by omega
        have e5 : j < min (off + i) cs.size := by omega
        have e6 : ¬ off + i = j := by omega
        simp [g1, e1, e2, e3, e4, e5, e6]
      · by_cases g2 : j = off + i
        · subst g2
          have e2 : off + i < min (off + (i + 1)) cs.size + r.length := by omega
          have e3 : off + i < min (off + (i + 1)) cs.size := by omega
          have e4 : off + i < min (off + i) cs.size + (r.length + 1) := by omega
          have e5 : ¬ off + i < min (off + i) cs.size := by omega
          have e6 : off + i - min (off + i) cs.size = 0 := by omega
          have e7 : off + i < off + (i + 1) := by omega
          simp [e2, e3, e4, e5, e6, e7, hlt]
        · by_cases g3 : j < off + i + 1 + r.length
          · have e2 : j < min (off + (i + 1)) cs.size + r.length := by omega
            have e3 : ¬ j < min (off + (i + 1)) cs.size := by omega
            have e4 : j < min (off + i) cs.size + (r.length + 1) := by omega
            have e5 : ¬ j < min (off + i) cs.size := by omega
            have e6 : j - min (off + (i + 1)) cs.size = j - (off + i + 1) := by omega
            have e7 : j - min (off + i) cs.size = (j - (off + i + 1)) + 1 := by omega
            simp [e2, e3, e4, e5, e6, e7]
          · have e2 : ¬ j < min (off + (i + 1)) cs.size + r.length := by omega
            have e4 : ¬ j < min (off + i) cs.size + (r.length + 1) := by omega
            have e6 : off + (i + 1) + r.length + (j - (min (off + (i + 1)) cs.size + r.length)) = off + i + (r.length + 1) + (j - (min (off + i) cs.size + (r.length + 1))) := by omega
            have e7 : ¬ off + i = off + i + (r.length + 1) + (j - (min (off + i) cs.size + (r.length + 1))) := by omega
            simp [e2, e4, e6, e7]
    · intro c hc; rw [h4 c hc]; exact heap_setCell_other w _ c x hc
    · rw [h5]; simp
    · exact ⟨h6.1, h6.2.1, h6.2.2⟩

theorem take_drop_put {α : Type} (cs vs : List α) (base n off : Nat) (h : base + n ≤ cs.length) (hl : off + vs.length ≤ n) :
    ((cs.take (base + off) ++ vs ++ cs.drop (base + off + vs.length)).drop base).take n = ((cs.drop base).take n).take off ++ vs ++ ((cs.drop base).take n).drop (off + vs.length) := by
  apply List.ext_getElem?
  intro j
  simp only [List.getElem?_append, List.getElem?_take, List.getElem?_drop, List.length_append, List.length_take, List.length_drop]
  by_cases h1 : j < off
  · have e1 : j < n := by omega
    have e2 : base + j < min (base + off) cs.length + vs.length := by omega
    have e3 : base + j < min (base + off) cs.length := by omega
    have e4 : base + j < base + off := by omega
    have e5 : j < min off (min n (cs.length - base)) + vs.length := by omega
    have e6 : j < min off (min n (cs.length - base)) := by omega
    simp [h1, e1, e2, e3, e4, e5, e6]
  · by_cases h2 : j < off + vs.length
    · have e1 : j < n := by omega
      have e2 : base + j < min (base + off) cs.length + vs.length := by omega
      have e3 : ¬ base + j < min (base + off) cs.length := by omega
      have e5 : j < min off (min n (cs.length - base)) + vs.length := by omega
      have e6 : ¬ j < min off (min n (cs.length - base)) := by omega
      have e7 : base + j - min (base + off) cs.length = j - min off (min n (cs.length - base)) := by omega
      simp [e1, e2, e3, e5, e6, e7]
    · have e2 : ¬ base + j < min (base + off) cs.length + vs.length := by omega
      have e5 : ¬ j < min off (min n (cs.length - base)) + vs.length := by omega
      have e8 : base + off + vs.length + (base + j - (min (base + off) cs.length + vs.length)) = base + (off + vs.length + (j - (min off (min n (cs.length - base)) + vs.length))) := by omega
      have e9 : off + vs.length + (j - (min off (min n (cs.length - base)) + vs.length)) = j := by omega
      simp [e2, e5, e8, e9]

/-- A store of cells into a live block: the state and the world behind it. -/
theorem write_cells (hS : Sim P K ρ S w) {b off : Nat} {c new : List AV} (hl : look S.heap b = .cells c) {vs : List Value} (hv : VRels K ρ new vs) (hb : vbs S.next new)
    (hc : allCells new = true) (hle : off + new.length ≤ c.length) :
    ∃ w', (storeCells ⟨(ρ b).blk, (ρ b).off + off, none⟩ vs).run P w = .ok () w' ∧
      Sim P K ρ (S.write b (.cells (putAt c off new)) (!noNames new)) w' ∧ Ext K ρ S w K ρ (S.write b (.cells (putAt c off new)) (!noNames new)) w' := by
  obtain ⟨cs, e, fr, h1, h2, h3, h4, h5, h6⟩ := cells_of_live hS hl
  have hlen : new.length = vs.length := hv.1
  obtain ⟨w', cs', k1, k2, k3, k4, k5, k6⟩ := run_storeCells (P := P) vs (ρ b).blk ((ρ b).off + off) 0 cs w h1 (by omega) h4 (by
    intro x hx
    obtain ⟨i, hi, rfl⟩ := List.mem_iff_getElem.1 hx
    have hi' : i < new.length := by omega
    exact oneCell_of (hv.2 i new[i] vs[i] (List.getElem?_eq_getElem hi') (List.getElem?_eq_getElem hi)) (allCells_iff.1 hc _ (List.getElem_mem hi')))
  have hsz : cs'.size = cs.size := by
    have := congrArg List.length k3
    simp at this
    omega
  refine ⟨w', k1, ?_⟩
  refine sim_write hS (by rw [hl]; simp) _ _ _ k2 k4 k5 k6 ⟨by rw [hsz]; exact h2, by rw [putAt_length hle, hsz]; exact h3, by rw [hsz]; exact h4, ?_, putAt_vbs h6 hb⟩ ?_
  · rw [putAt_length hle, k3]
    simp only [Nat.add_zero]
    have ht := take_drop_put cs.toList vs (ρ b).off c.length off (by simp; omega) (by omega)
    rw [ht]
    exact putAt_rel h5 hv
  · intro hn n hbb
    rw [hl] at hbb
    simp only [bb] at hbb ⊢
    exact putAt_vbs hbb (vbs_of_noNames _ (by simpa using hn))

theorem op_store {t : TypeId} {x y : Operand} (hop : o.op = .store t x y) (hS : Sim P K ρ S w) (hE : ERel K ρ S.next E a.tmps)
    (hlow : lowerOp P o = some ao) (h : aop G E S ao = some (v, S')) : OpOk P K ρ S w v S' ((execOp a.eval o).run P w) := by
  simp only [lowerOp, hop] at hlow
  split at hlow
  · rename_i s ax ay hs hx hy
    injection hlow with hlow; subst hlow
    simp only [aop] at h
    split at h
    · rename_i b off new hp hnew
      split at h
      · rename_i c hl
        split at h
        · rename_i hle
          simp only [Option.some.injEq, Prod.mk.injEq] at h
          obtain ⟨rfl, rfl⟩ := h
          have rx := opd_rel hE hx
          have ry := opd_rel hE hy
          obtain ⟨hc, hb, hcell⟩ := cells_rel ry.1 ry.2 hnew
          rw [hp] at rx
          have hpv := rx.1.ptr_inv
          obtain ⟨w', k1, k2, k3⟩ := write_cells (P := P) (off := off) hS hl hc hb hcell (by omega)
          have hsz : (a.eval y).cells.size = s := by have := hc.1; simp at this; omega
          refine ⟨undef, w', K, ρ, .inr ⟨?_, rfl⟩, undef_rel, by simp [vb, vbs], k2, k3⟩
          simp [execOp, hop, Instr.storeAt, hpv, Instr.sureAddr, storeVar, run_sizeOf' hs, hsz, k1]
        · cases h
      · cases h
    · cases h
  · cases hlow
end Go.Ab
