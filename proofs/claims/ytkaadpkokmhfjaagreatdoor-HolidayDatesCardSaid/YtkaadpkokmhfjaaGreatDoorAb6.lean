/-
  THE ENGINE, PART 6: the operations, one by one: moves, numbers, aggregates, loads and stores.
-/
import Derived.Test.YtkaadpkokmhfjaaGreatDoorAb5
namespace Go.Ab
variable {P : Program} {K K' : Nat → Option Obj} {ρ ρ' : Nat → Loc} {S S' : AS} {w w' : World} {G : Nat → Option (List AV)} {E : Env} {a : Act} {o : Oper} {ao : AO} {v : AV}

theorem VRel.bool_inv {b : Bool} {v : Value} (h : VRel K ρ (.bool b) v) : v = .bool b := by cases h; rfl
theorem VRel.int_inv {k : IntKind} {n : Int} {v : Value} (h : VRel K ρ (.int k n) v) : v = .int k n := by cases h; rfl
theorem VRel.str_inv {s : List UInt8} {v : Value} (h : VRel K ρ (.str s) v) : ∃ b, v = .string b ∧ b.data.toList = s := by cases h with | str h => exact ⟨_, rfl, h⟩

theorem op_move {x : Operand} (hop : o.op = .move x ∨ o.op = .assign x) (hS : Sim P K ρ S w) (hE : ERel K ρ S.next E a.tmps)
    (hlow : lowerOp P o = some ao) (h : aop G E S ao = some (v, S')) : OpOk P K ρ S w v S' ((execOp a.eval o).run P w) := by
  have hl : (opdA x).map .mv = some ao := by rcases hop with hop | hop <;> simpa only [lowerOp, hop] using hlow
  obtain ⟨ax, hx, rfl⟩ := Option.map_eq_some_iff.1 hl
  simp only [aop, Option.some.injEq, Prod.mk.injEq] at h
  obtain ⟨rfl, rfl⟩ := h
  have := opd_rel hE hx
  exact OpOk.pure hS (by rcases hop with hop | hop <;> simp [execOp, hop]) this.1 this.2

theorem op_pick {c x y : Operand} (hop : o.op = .pick c x y) (hS : Sim P K ρ S w) (hE : ERel K ρ S.next E a.tmps)
    (hlow : lowerOp P o = some ao) (h : aop G E S ao = some (v, S')) : OpOk P K ρ S w v S' ((execOp a.eval o).run P w) := by
  simp only [lowerOp, hop] at hlow
  split at hlow
  · rename_i c' x' y' hc hx hy
    injection hlow with hlow; subst hlow
    have rc := opd_rel hE hc
    have rx := opd_rel hE hx
    have ry := opd_rel hE hy
    simp only [aop] at h
    split at h
    · rename_i t ht
      simp only [Option.some.injEq, Prod.mk.injEq] at h
      obtain ⟨rfl, rfl⟩ := h
      rw [ht] at rc
      have hcv : a.eval c = .bool t := rc.1.bool_inv
      cases t with
      | true => exact OpOk.pure (v' := a.eval x) hS (by simp [execOp, hop, hcv, asBool]) (by simpa using rx.1) (by simpa using rx.2)
      | false => exact OpOk.pure (v' := a.eval y) hS (by simp [execOp, hop, hcv, asBool]) (by simpa using ry.1) (by simpa using ry.2)
    · cases h
  · cases hlow

theorem newVar_ok (hS : Sim P K ρ S w) {t : TypeId} {x : Value} {cs : List AV} (hr : VRels K ρ cs x.cells.toList) (hb : vbs S.next cs) :
    ∃ w' K' ρ', (newVar t x).run P w = .ok ⟨w.heap.size, 0, none⟩ w' ∧
      VRel K' ρ' (.ptr S.next 0) (.pointer (some ⟨w.heap.size, 0, none⟩)) ∧ Sim P K' ρ' (S.alloc (.cells cs)) w' ∧ Ext K ρ S w K' ρ' (S.alloc (.cells cs)) w' := by
  have hlen : cs.length = x.cells.size := by have := hr.1; simpa using this
  have := sim_alloc (w' := w.alloc (.cells x.cells t)) hS (.cells cs) (.cells x.cells t) x.cells.size rfl ⟨rfl, rfl, rfl⟩ (by
    refine ⟨rfl, by simp [hlen], fun i _ => by simp, ?_, vbs_mono (Nat.le_succ _) _ hb⟩
    have hr' : VRels K (upR ρ S.next ⟨w.heap.size, 0, x.cells.size⟩) cs x.cells.toList := hr.congr hb fun b hb => upR_lt _ _ hb
    simpa [hlen, List.take_of_length_le] using hr')
  refine ⟨w.alloc (.cells x.cells t), K, _, by simp [newVar, newRow], ?_, this⟩
  have e : (upR ρ S.next ⟨w.heap.size, 0, x.cells.size⟩ S.next).blk = w.heap.size := by simp
  have := VRel.ptr (K := K) (ρ := upR ρ S.next ⟨w.heap.size, 0, x.cells.size⟩) (b := S.next) (off := 0) rfl
  rw [e] at this
  simpa using this

theorem op_alloc {t : TypeId} (hop : o.op = .alloc t) (hS : Sim P K ρ S w)
    (hlow : lowerOp P o = some ao) (h : aop G E S ao = some (v, S')) : OpOk P K ρ S w v S' ((execOp a.eval o).run P w) := by
  simp only [lowerOp, hop] at hlow
  obtain ⟨z, hz, rfl⟩ := Option.map_eq_some_iff.1 hlow
  simp only [aop, Option.some.injEq, Prod.mk.injEq] at h
  obtain ⟨rfl, rfl⟩ := h
  obtain ⟨x, hx, hr, hn⟩ := run_zeroValue' (K := K) (ρ := ρ) (w := w) hz
  obtain ⟨hc, hnc⟩ := zero_cells hr hn
  obtain ⟨w', K', ρ', h1, h2, h3, h4⟩ := newVar_ok (t := t) hS hc (vbs_of_noNames _ hnc)
  refine ⟨_, w', K', ρ', .inl ?_, h2, by simp [vb, AS.alloc], h3, h4⟩
  simp only [execOp, hop, Sem.run_bind, Instr.alloc, hx, Result.andThen_ok, h1, Sem.run_pure]

theorem op_box {t : TypeId} {x : Operand} (hop : o.op = .box t x) (hS : Sim P K ρ S w) (hE : ERel K ρ S.next E a.tmps)
    (hlow : lowerOp P o = some ao) (h : aop G E S ao = some (v, S')) : OpOk P K ρ S w v S' ((execOp a.eval o).run P w) := by
  simp only [lowerOp, hop] at hlow
  obtain ⟨ax, hx, rfl⟩ := Option.map_eq_some_iff.1 hlow
  simp only [aop] at h
  split at h
  · rename_i cs hcs
    simp only [Option.some.injEq, Prod.mk.injEq] at h
    obtain ⟨rfl, rfl⟩ := h
    have rx := opd_rel hE hx
    obtain ⟨hc, hb, _⟩ := cells_rel rx.1 rx.2 hcs
    obtain ⟨w', K', ρ', h1, h2, h3, h4⟩ := newVar_ok (t := t) hS hc hb
    refine ⟨_, w', K', ρ', .inl ?_, h2, by simp [vb, AS.alloc], h3, h4⟩
    simp only [execOp, hop, Sem.run_bind, Instr.box, h1, Result.andThen_ok, Sem.run_pure]
  · cases h

/-! Aggregates -/
theorem foldl_set (new : List Value) : ∀ (off : Nat) (cs : Array Value) (k : Nat),
    (new.zipIdx k).foldl (fun cs (c, j) => cs.setIfInBounds (off + j) c) cs = ((new.zipIdx 0).foldl (fun cs (c, j) => cs.setIfInBounds (off + k + j) c) cs) := by
  induction new with
  | nil => intros; rfl
  | cons x r ih =>
    intro off cs k
    simp only [List.zipIdx_cons, List.foldl_cons, Nat.add_zero]
    rw [ih off, ih (off + k)]
    congr 1
    try (funext cs p; simp [Nat.add_assoc, Nat.add_comm, Nat.add_left_comm])

theorem foldl_put : ∀ (new : List Value) (off : Nat) (cs : Array Value), off + new.length ≤ cs.size →
    ((new.zipIdx 0).foldl (fun cs (c, j) => cs.setIfInBounds (off + j) c) cs).toList = cs.toList.take off ++ new ++ cs.toList.drop (off + new.length)
  | [], off, cs, h => by simp
  | x :: r, off, cs, h => by
    simp only [List.zipIdx_cons, List.foldl_cons, Nat.add_zero, Nat.zero_add]
    rw [foldl_set, foldl_put r (off + 1) (cs.setIfInBounds off x) (by simp at h ⊢; omega)]
    simp at h
    have hlt : off < cs.toList.length := by simp; omega
    rw [Array.toList_setIfInBounds]
    apply List.ext_getElem?
    intro i
    simp only [List.getElem?_append, List.getElem?_take, List.getElem?_set, List.getElem?_drop, List.length_append, List.length_take, List.length_set, List.length_cons, Array.length_toList]
    by_cases h1 : i < off
    · have h2 : i < off + 1 := by omega
      have h3 : i < min (off + 1) cs.size + r.length := by omega
      have h4 : i < min (off + 1) cs.size := by omega
      have h5 : i < min off cs.size + (r.length + 1) := by omega
      have h6 : i < min off cs.size := by omega
      have h7 : ¬ off = i := by omega
      simp [h1, h2, h3, h4, h5, h6, h7]
    · by_cases h2 : i = off
      · subst h2
        have h3 : i < min (i + 1) cs.size + r.length := by omega
        have h4 : i < min (i + 1) cs.size := by omega
        have h5 : i < min i cs.size + (r.length + 1) := by omega
        have h6 : ¬ i < min i cs.size := by omega
        have h7 : i - min i cs.size = 0 := by omega
        have h8 : i < cs.size := by omega
        simp [h3, h4, h5, h6, h7, h8]
      · by_cases h3 : i < off + 1 + r.length
        · have e1 : i < min (off + 1) cs.size + r.length := by omega
          have e2 : ¬ i < min (off + 1) cs.size := by omega
          have e3 : i < min off cs.size + (r.length + 1) := by omega
          have e4 : ¬ i < min off cs.size := by omega
          have e5 : i - min (off + 1) cs.size = i - (off + 1) := by omega
          have e6 : i - min off cs.size = (i - (off + 1)) + 1 := by omega
          simp [e1, e2, e3, e4, e5, e6]
        · have e1 : ¬ i < min (off + 1) cs.size + r.length := by omega
          have e3 : ¬ i < min off cs.size + (r.length + 1) := by omega
          have e5 : off + 1 + r.length + (i - (min (off + 1) cs.size + r.length)) = off + (r.length + 1) + (i - (min off cs.size + (r.length + 1))) := by omega
          have e7 : ¬ off = off + (r.length + 1) + (i - (min off cs.size + (r.length + 1))) := by omega
          simp [e1, e3, e5, e7]

theorem putAt_rel {as new : List AV} {vs us : List Value} {off : Nat} (h : VRels K ρ as vs) (hn : VRels K ρ new us) :
    VRels K ρ (putAt as off new) (vs.take off ++ us ++ vs.drop (off + us.length)) := by
  unfold putAt
  rw [hn.1]
  exact ((h.take off).append hn).append (h.drop _)

theorem putAt_vbs {n : Nat} {as new : List AV} {off : Nat} (h : vbs n as) (hn : vbs n new) : vbs n (putAt as off new) := by
  refine vbs_iff.2 fun v hv => ?_
  simp only [putAt, List.mem_append] at hv
  rcases hv with (hv | hv) | hv
  · exact vbs_iff.1 h v (List.take_subset _ _ hv)
  · exact vbs_iff.1 hn v hv
  · exact vbs_iff.1 h v (List.drop_subset _ _ hv)

theorem putAt_length {as new : List AV} {off : Nat} (h : off + new.length ≤ as.length) : (putAt as off new).length = as.length := by
  simp [putAt]; omega

theorem fill_rel {n : Nat} (hE : ERel K ρ n E a.tmps) (place : Nat → Option (Nat × Nat)) : ∀ (parts : List (Nat × Operand)) {ps : List (Nat × Nat × AX)} {as : List AV} {cs : Array Value} {out : List AV},
    partsA place parts = some ps → VRels K ρ as cs.toList → vbs n as → fillA E as ps = some out →
    ∃ cs', Instr.fill place cs (parts.map fun p => (p.1, a.eval p.2)) = some cs' ∧ VRels K ρ out cs'.toList ∧ vbs n out
  | [], ps, as, cs, out, hp, hr, hb, hf => by
    simp only [partsA, Option.some.injEq] at hp
    subst hp
    simp only [fillA, Option.some.injEq] at hf
    subst hf
    exact ⟨cs, rfl, hr, hb⟩
  | (i, x) :: r, ps, as, cs, out, hp, hr, hb, hf => by
    simp only [partsA] at hp
    split at hp
    · rename_i off sz ax l h1 h2 h3
      injection hp with hp; subst hp
      simp only [fillA] at hf
      split at hf
      · rename_i new hnew
        split at hf
        · rename_i hlen
          have rx := opd_rel hE h2
          obtain ⟨hc, hbn, _⟩ := cells_rel rx.1 rx.2 hnew
          have hl1 : new.length = (a.eval x).cells.size := by have := hc.1; simpa using this
          have hl2 : as.length = cs.size := by have := hr.1; simpa using this
          have hput := foldl_put (a.eval x).cells.toList off cs (by simp; omega)
          obtain ⟨cs', h4, h5, h6⟩ := fill_rel hE place r (as := putAt as off new) (cs := (a.eval x).cells.zipIdx.foldl (fun cs (c, j) => cs.setIfInBounds (off + j) c) cs) h3
            (by
              have e : ((a.eval x).cells.zipIdx.foldl (fun cs (c, j) => cs.setIfInBounds (off + j) c) cs).toList = cs.toList.take off ++ (a.eval x).cells.toList ++ cs.toList.drop (off + (a.eval x).cells.toList.length) := by
                rw [← hput, ← Array.foldl_toList, Array.toList_zipIdx]
              rw [e]
              exact putAt_rel hr hc)
            (putAt_vbs hb hbn) hf
          refine ⟨cs', ?_, h5, h6⟩
          simp only [List.map_cons, Instr.fill, h1]
          rw [if_neg (by simp; omega)]
          exact h4
        · cases hf
      · cases hf
    · cases hp

/-! Numbers and texts -/
theorem wrapI_eq (k : IntKind) (n : Int) : wrapI k n = k.wrap n := by
  cases k <;> simp only [wrapI, IntKind.wrap, IntKind.bits, IntKind.signed] <;> (split <;> simp <;> omega)

end Go.Ab
