/-
  THE ENGINE, PART 15: built-in functions, one by one.
-/
import Derived.Test.YtkaadpkokmhfjaaGreatDoorAb14
namespace Go.Ab
variable {P : Program} {K K' : Nat → Option Obj} {ρ ρ' : Nat → Loc} {S S' : AS} {w w' : World} {G : Nat → Option (List AV)} {E : Env} {a : Act} {o : Oper} {ao : AO} {v : AV}

theorem Sim.heapEq (hS : Sim P K ρ S w) (h : w'.heap = w.heap) : Sim P K ρ S w' :=
  ⟨fun b hb => by rw [h]; exact hS.live b hb, hS.inj, fun c o hc => by rw [h]; exact hS.kept c o hc, hS.ok⟩

/-- What a built-in function must come to. -/
def BiOk (P : Program) (K : Nat → Option Obj) (ρ : Nat → Loc) (S : AS) (w : World) (v : AV) (S' : AS) (r : Result Value) : Prop :=
  ∃ v' w' K' ρ', r = .ok v' w' ∧ VRel K' ρ' v v' ∧ vb S'.next v ∧ Sim P K' ρ' S' w' ∧ Ext K ρ S w K' ρ' S' w'

theorem BiOk.pure {r : Result Value} {v : AV} {v' : Value} (hS : Sim P K ρ S w) (hr : r = .ok v' w) (hv : VRel K ρ v v') (hb : vb S.next v) : BiOk P K ρ S w v S r :=
  ⟨v', w, K, ρ, hr, hv, hb, hS, .refl⟩

theorem bi_len {k : Nat} {ts : Array TypeId} {t ty : TypeId} {x : AV} {u : Value} (ht0 : ts[0]? = some t) (hS : Sim P K ρ S w) (hx : VRel K ρ x u)
    (ht : (k = 0 ∧ P.underlying t = some .string) ∨ (k = 1 ∧ ∃ e, P.underlying t = some (.slice e)) ∨ (k = 2 ∧ ∃ a b, P.underlying t = some (.map a b))) {n : Nat} (h : lenK S.heap k x = some n) :
    (Builtin.len_ ts ty #[u]).run P w = .ok (.int .i64 n) w := by
  unfold lenK at h
  split at h <;> try contradiction
  · obtain ⟨b, rfl, rfl⟩ := hx.str_inv
    injection h with h; subst h
    rcases ht with ⟨_, hu⟩ | ⟨h0, _⟩ | ⟨h0, _⟩ <;> try contradiction
    simp [Builtin.len_, ht0, run_underlying hu, goInt]
  · injection h with h; subst h; cases hx
    rcases ht with ⟨h0, _⟩ | ⟨_, e, hu⟩ | ⟨h0, _⟩ <;> try contradiction
    simp [Builtin.len_, ht0, run_underlying hu, goInt]
  · injection h with h; subst h; cases hx
    rcases ht with ⟨h0, _⟩ | ⟨_, e, hu⟩ | ⟨h0, _⟩ <;> try contradiction
    simp [Builtin.len_, ht0, run_underlying hu, goInt]
  · injection h with h; subst h
    rcases ht with ⟨h0, _⟩ | ⟨_, e, hu⟩ | ⟨h0, _⟩ <;> try contradiction
    cases hx <;> simp [Builtin.len_, ht0, run_underlying hu, goInt]
  · injection h with h; subst h; cases hx
    rcases ht with ⟨h0, _⟩ | ⟨_, e, hu⟩ | ⟨h0, _⟩ <;> try contradiction
    simp [Builtin.len_, ht0, run_underlying hu, goInt]
  · injection h with h; subst h; cases hx
    rcases ht with ⟨h0, _⟩ | ⟨h0, _⟩ | ⟨_, p, q, hu⟩ <;> try contradiction
    simp [Builtin.len_, ht0, run_underlying hu, goInt]
  · rename_i b
    split at h <;> try contradiction
    rename_i es hl
    injection h with h; subst h
    obtain ⟨es', clock, hw, hm, _⟩ := map_of_live hS hl
    cases hx
    rcases ht with ⟨h0, _⟩ | ⟨h0, _⟩ | ⟨_, p, q, hu⟩ <;> try contradiction
    have : es.length = es'.size := by have := hm.1; simpa using this
    simp [Builtin.len_, ht0, run_underlying hu, goInt, run_getObj_map hw, this]

theorem aminF_ok {k : IntKind} : ∀ (xs : List AV) (us : List Value) (n : Int) {r : AV}, VRels K ρ xs us → aminF k n xs = some r →
    ∃ m, (us.foldlM Builtin.min2 (.int k n) : Sem Value).run P w = .ok (.int k m) w ∧ r = .int k m
  | [], us, n, r, h, hr => by
    have := h.nil_inv; subst this
    simp only [aminF, Option.some.injEq] at hr
    exact ⟨n, rfl, hr.symm⟩
  | x :: xs, us, n, r, h, hr => by
    obtain ⟨u, us, rfl, h1, h2⟩ := h.cons_inv
    unfold aminF at hr
    split at hr <;> try contradiction
    · rename_i k' y r' he
      injection he with he1 he2; subst he1; subst he2
      split at hr
      · rename_i hk; subst hk
        obtain ⟨m, h3, h4⟩ := aminF_ok xs us _ h2 hr
        exact ⟨m, by rw [h1.int_inv]; simpa [Builtin.min2] using h3, h4⟩
      · cases hr
theorem amaxF_ok {k : IntKind} : ∀ (xs : List AV) (us : List Value) (n : Int) {r : AV}, VRels K ρ xs us → amaxF k n xs = some r →
    ∃ m, (us.foldlM Builtin.max2 (.int k n) : Sem Value).run P w = .ok (.int k m) w ∧ r = .int k m
  | [], us, n, r, h, hr => by
    have := h.nil_inv; subst this
    simp only [amaxF, Option.some.injEq] at hr
    exact ⟨n, rfl, hr.symm⟩
  | x :: xs, us, n, r, h, hr => by
    obtain ⟨u, us, rfl, h1, h2⟩ := h.cons_inv
    unfold amaxF at hr
    split at hr <;> try contradiction
    · rename_i k' y r' he
      injection he with he1 he2; subst he1; subst he2
      split at hr
      · rename_i hk; subst hk
        obtain ⟨m, h3, h4⟩ := amaxF_ok xs us _ h2 hr
        exact ⟨m, by rw [h1.int_inv]; simpa [Builtin.max2] using h3, h4⟩
      · cases hr

theorem bi_min {ts : Array TypeId} {ty : TypeId} {xs : List AV} {us : Array Value} {r : AV} (hx : VRels K ρ xs us.toList) (h : amin xs = some r) :
    ∃ u, (Builtin.min_ ts ty us).run P w = .ok u w ∧ VRel K ρ r u ∧ noName r = true := by
  unfold amin at h
  split at h <;> try contradiction
  rename_i k n rs
  obtain ⟨u, us', hu, h1, h2⟩ := hx.cons_inv
  obtain ⟨m, h3, rfl⟩ := aminF_ok (P := P) (w := w) _ _ _ h2 h
  exact ⟨_, by simp only [Builtin.min_, hu, h1.int_inv]; exact h3, .int, rfl⟩
theorem bi_max {ts : Array TypeId} {ty : TypeId} {xs : List AV} {us : Array Value} {r : AV} (hx : VRels K ρ xs us.toList) (h : amax xs = some r) :
    ∃ u, (Builtin.max_ ts ty us).run P w = .ok u w ∧ VRel K ρ r u ∧ noName r = true := by
  unfold amax at h
  split at h <;> try contradiction
  rename_i k n rs
  obtain ⟨u, us', hu, h1, h2⟩ := hx.cons_inv
  obtain ⟨m, h3, rfl⟩ := amaxF_ok (P := P) (w := w) _ _ _ h2 h
  exact ⟨_, by simp only [Builtin.max_, hu, h1.int_inv]; exact h3, .int, rfl⟩

theorem VRel.sl_inv {b off len cap sz : Nat} {u : Value} (h : VRel K ρ (.sl b off len cap sz) u) :
    ∃ o cap', u = .slice (some ⟨(ρ b).blk, o, none⟩) len cap' ∧ cap ≤ cap' ∧ len ≤ cap' ∧ (o = (ρ b).off + off ∨ cap' = 0) ∧ 0 < sz ∧ (ρ b).off + off + cap' * sz ≤ (ρ b).size := by
  cases h
  exact ⟨_, _, rfl, by assumption, by assumption, by assumption, by assumption, by assumption⟩

theorem bi_append {t0 t1 ty e : TypeId} {i : TypeInfo} {zv : Value} {z : AV} (hu : P.underlying t0 = some (.slice e)) (hu1 : (∃ e', P.underlying t1 = some (.slice e')) ∨ P.underlying t1 = some .string) (hi : P.info? e = some i) (hz : i.zero = some zv)
    (hza : valA zv = some z) (hzs : (cellsV z).length = i.size) (hs0 : i.size ≠ 0) (hS : Sim P K ρ S w) {x y : AV} {u uy : Value} (hx : VRel K ρ x u) (hxb : vb S.next x) (hy : VRel K ρ y uy)
    (h : aappend S i.size i.bytes x y = some (v, S')) : BiOk P K ρ S w v S' ((Builtin.append_ #[t0, t1] ty #[u, uy]).run P w) := by
  simp only [aappend, Option.bind_eq_bind, Option.bind_eq_some_iff] at h
  obtain ⟨n, hn, new, hnew, sl, hsl, h⟩ := h
  split at h
  · cases h
  rename_i hsize
  simp only [not_or, Nat.not_lt, maxStr] at hsize
  split at h
  · cases h
  rename_i hcells
  have hcells' : allCells new = true := by simpa using hcells
  have hlen := lenOf_ok (P := P) (w := w) hy hn hnew
  obtain ⟨nv, f1, f2, f3, f4, _⟩ := firstCells_ok hS hy hnew
  have hSd := hS.heapEq (w' := w.drew) rfl
  obtain ⟨nd, g1, g2, g3, g4, _⟩ := firstCells_ok hSd hy hnew
  have hlend := lenOf_ok (P := P) (w := w.drew) hy hn hnew
  have hzr := valA_rel (K := K) (ρ := ρ) hza
  have hzc := zero_cells hzr.1 hzr.2
  have hzsize : zv.cells.size = i.size := by have := hzc.1.1; simp at this; omega
  -- a new row
  have grow : ∀ (base : Option Addr) (sCap : Nat) (olds : List AV) (ov : Array Value), u = .slice base sl sCap → sCap < sl + n →
      (Builtin.firstCells i.size sl (.slice base sl sCap)).run P w.drew = .ok ov w.drew → VRels K ρ olds ov.toList → vbs S.next olds → olds.length = sl * i.size →
      ∃ w' ρ' cap, (Builtin.append_ #[t0, t1] ty #[u, uy]).run P w = .ok (.slice (some ⟨w.heap.size, 0, none⟩) (sl + n) cap) w' ∧
        VRel K ρ' (.sl S.next 0 (sl + n) (sl + n) i.size) (.slice (some ⟨w.heap.size, 0, none⟩) (sl + n) cap) ∧ ρ' = upR ρ S.next ⟨w.heap.size, 0, cap * i.size⟩ ∧
        w'.heap = w.heap.push (.cells (ov ++ nd ++ Builtin.zeroCells zv.cells (cap - (sl + n))) e) ∧ rest w w' ∧
        BRel P K ρ' (S.next + 1) ⟨w.heap.size, 0, cap * i.size⟩ (.cells (olds ++ new)) (.cells (ov ++ nd ++ Builtin.zeroCells zv.cells (cap - (sl + n))) e) := by
    intro base sCap olds ov hub hlt hold hro hbo hlo
    have hrun := run_append_out (P := P) (w := w) (ty := ty) hu hu1 hi hz hlen g1 hold hlt hsize.1 hsize.2
    have hcap : sl + n ≤ grownCap w (sl + n) sCap e := by unfold grownCap Question.cut; exact Nat.le_add_right _ _
    have hmul : (sl + n) * i.size ≤ grownCap w (sl + n) sCap e * i.size := Nat.mul_le_mul_right _ hcap
    have hovs : ov.size = sl * i.size := by have := hro.1; simp at this; omega
    have hnds : nd.size = n * i.size := by have := g2.1; simp at this; omega
    have hobj : (ov ++ nd ++ Builtin.zeroCells zv.cells (grownCap w (sl + n) sCap e - (sl + n))).size = grownCap w (sl + n) sCap e * i.size := by
      simp only [Array.size_append, zeroCells_size, hovs, hnds, hzsize]
      have : (grownCap w (sl + n) sCap e - (sl + n)) * i.size + (sl + n) * i.size = grownCap w (sl + n) sCap e * i.size := by rw [← Nat.add_mul]; congr 1; omega
      have h2 : (sl + n) * i.size = sl * i.size + n * i.size := Nat.add_mul _ _ _
      omega
    refine ⟨w.drew.alloc (.cells (ov ++ nd ++ Builtin.zeroCells zv.cells (grownCap w (sl + n) sCap e - (sl + n))) e), upR ρ S.next ⟨w.heap.size, 0, grownCap w (sl + n) sCap e * i.size⟩, grownCap w (sl + n) sCap e, by rw [hub]; exact hrun, ?_, rfl, rfl, ⟨rfl, rfl, rfl⟩, ?_⟩
    · have e1 : (upR ρ S.next ⟨w.heap.size, 0, grownCap w (sl + n) sCap e * i.size⟩ S.next) = ⟨w.heap.size, 0, grownCap w (sl + n) sCap e * i.size⟩ := by simp
      have r := VRel.sl (K := K) (ρ := upR ρ S.next ⟨w.heap.size, 0, grownCap w (sl + n) sCap e * i.size⟩) (b := S.next) (off := 0) (len := sl + n) (cap := sl + n) (sz := i.size) (o := 0) (cap' := grownCap w (sl + n) sCap e)
        hcap hcap (.inl (by rw [e1])) (by omega) (by rw [e1]; simp)
      rw [e1] at r
      exact r
    · have hon : (olds ++ new).length = (sl + n) * i.size := by rw [List.length_append, hlo, g4, Nat.add_mul]
      refine ⟨hobj, by rw [hon, hobj]; simpa using hmul, fun i _ => by simp, ?_, ?_⟩
      · have hb : vbs S.next (olds ++ new) := vbs_iff.2 fun q hq => by
          rcases List.mem_append.1 hq with hq | hq
          · exact vbs_iff.1 hbo q hq
          · exact vbs_iff.1 g3 q hq
        have := (hro.append g2).congr hb (ρ' := upR ρ S.next ⟨w.heap.size, 0, grownCap w (sl + n) sCap e * i.size⟩) fun b hb => upR_lt _ _ hb
        have e3 : (((ov ++ nd ++ Builtin.zeroCells zv.cells (grownCap w (sl + n) sCap e - (sl + n))).toList.drop 0).take (olds ++ new).length) = ov.toList ++ nd.toList := by
          have h2 : (sl + n) * i.size = sl * i.size + n * i.size := Nat.add_mul _ _ _
          rw [hon, List.drop_zero, Array.toList_append, Array.toList_append, List.take_append_of_le_length (by simp; omega), List.take_of_length_le (by simp; omega)]
        rw [e3]
        exact this
      · exact vbs_mono (Nat.le_succ _) _ (vbs_iff.2 fun q hq => by
          rcases List.mem_append.1 hq with hq | hq
          · exact vbs_iff.1 hbo q hq
          · exact vbs_iff.1 g3 q hq)
  have hnil : n = 0 → new = [] := fun h0 => by subst h0; exact List.length_eq_zero_iff.1 (by simpa using f4)
  split at h
  · -- nil
    simp only [lenA, Option.some.injEq] at hsl
    subst hsl
    cases hx
    split at h
    · rename_i h0
      simp only [Option.some.injEq, Prod.mk.injEq] at h
      obtain ⟨rfl, rfl⟩ := h
      subst h0
      exact BiOk.pure hS (by rw [run_append_in hu hu1 hi hlen f1 (by omega)]) .nilSl trivial
    · rename_i h0
      simp only [Option.some.injEq, Prod.mk.injEq] at h
      obtain ⟨rfl, rfl⟩ := h
      obtain ⟨w', ρ', cap, k1, k2, k3, k4, k5, k6⟩ := grow none 0 [] #[] rfl (by omega) (by simp [Builtin.firstCells]) .nil trivial (by simp)
      subst k3
      simp only [Nat.zero_add, List.nil_append] at k1 k2 k4 k6
      have := sim_alloc hS _ _ _ k4 k5 k6
      exact ⟨_, w', K, _, k1, k2, by simp [vb, AS.alloc], this.1, this.2⟩
  · -- empty
    simp only [lenA, Option.some.injEq] at hsl
    subst hsl
    cases hx
    rename_i ad
    split at h
    · rename_i h0
      simp only [Option.some.injEq, Prod.mk.injEq] at h
      obtain ⟨rfl, rfl⟩ := h
      subst h0
      have hnv : nv.toList = [] := by have := f2.1; rw [hnil rfl] at this; exact List.length_eq_zero_iff.1 (by simpa using this.symm)
      exact BiOk.pure hS (by rw [run_append_in hu hu1 hi hlen f1 (by omega)]; simp [hnv, storeCells]; rfl) .sl0 trivial
    · rename_i h0
      simp only [Option.some.injEq, Prod.mk.injEq] at h
      obtain ⟨rfl, rfl⟩ := h
      obtain ⟨w', ρ', cap, k1, k2, k3, k4, k5, k6⟩ := grow (some ad) 0 [] #[] rfl (by omega) (by simp [Builtin.firstCells, loadCells, loadCellsFrom]) .nil trivial (by simp)
      subst k3
      simp only [Nat.zero_add, List.nil_append] at k1 k2 k4 k6
      have := sim_alloc hS _ _ _ k4 k5 k6
      exact ⟨_, w', K, _, k1, k2, by simp [vb, AS.alloc], this.1, this.2⟩
  · -- a live block
    rename_i b off len cap sz'
    simp only [lenA, Option.some.injEq] at hsl
    subst hsl
    obtain ⟨ofs, cap', rfl, hc, hl, ho, hz, hs⟩ := hx.sl_inv
    split at h
    · rename_i h0
      simp only [Option.some.injEq, Prod.mk.injEq] at h
      obtain ⟨rfl, rfl⟩ := h
      subst h0
      have hnv : nv.toList = [] := by have := f2.1; rw [hnil rfl] at this; exact List.length_eq_zero_iff.1 (by simpa using this.symm)
      exact BiOk.pure hS (by rw [run_append_in hu hu1 hi hlen f1 (by omega)]; simp [hnv, storeCells]) (.sl hc hl ho hz hs) hxb
    · rename_i h0
      split at h <;> try contradiction
      rename_i c hlk
      split at h
      · cases h
      rename_i hsz
      have hszz : sz' = i.size := by omega
      subst hszz
      obtain ⟨arr, e', fr, q1, q2, q3, q4, q5, q6⟩ := cells_of_live hS hlk
      split at h
      · -- room that is known
        rename_i hroom
        split at h <;> try contradiction
        rename_i hcl
        simp only [Option.some.injEq, Prod.mk.injEq] at h
        obtain ⟨rfl, rfl⟩ := h
        have hofs : ofs = (ρ b).off + off := by rcases ho with ho | ho <;> omega
        subst hofs
        have hmul : (len + n) * i.size = len * i.size + n * i.size := Nat.add_mul _ _ _
        obtain ⟨w', k1, k2, k3⟩ := write_cells (P := P) (off := off + len * i.size) hS hlk f2 f3 hcells' (by omega)
        refine ⟨.slice (some ⟨(ρ b).blk, (ρ b).off + off, none⟩) (len + n) cap', w', K, ρ, ?_, .sl hc (by omega) (.inl rfl) hz hs, by simpa [vb, AS.write] using hxb, k2, k3⟩
        rw [run_append_in hu hu1 hi hlen f1 (by omega)]
        simp only [addr_add]
        rw [show (ρ b).off + off + len * i.size = (ρ b).off + (off + len * i.size) by omega, k1]
        rfl
      · rename_i hroom
        split at h <;> try contradiction
        rename_i htip
        simp only [Option.some.injEq, Prod.mk.injEq] at h
        obtain ⟨rfl, rfl⟩ := h
        have hvnew : vbs S.next (c.drop off ++ new) := vbs_iff.2 fun q hq => by
          rcases List.mem_append.1 hq with hq | hq
          · exact vbs_iff.1 q6 q (List.drop_subset _ _ hq)
          · exact vbs_iff.1 f3 q hq
        by_cases hin : len + n ≤ cap'
        · -- room that the model has
          have hofs : ofs = (ρ b).off + off := by rcases ho with ho | ho <;> omega
          subst hofs
          have hmul : (len + n) * i.size = len * i.size + n * i.size := Nat.add_mul _ _ _
          have hmul2 : (len + n) * i.size ≤ cap' * i.size := Nat.mul_le_mul_right _ hin
          have hnvl : nv.toList.length = n * i.size := by have := f2.1; omega
          obtain ⟨w', arr', k1, k2, k3, k4, k5, k6⟩ := run_storeCells (P := P) nv.toList (ρ b).blk ((ρ b).off + off + len * i.size) 0 arr w q1 (by omega) q4 (by
            intro q hq
            obtain ⟨j, hj, rfl⟩ := List.mem_iff_getElem.1 hq
            have hj' : j < new.length := by have := f2.1; omega
            exact oneCell_of (f2.2 j new[j] nv.toList[j] (List.getElem?_eq_getElem hj') (List.getElem?_eq_getElem hj)) (allCells_iff.1 hcells' _ (List.getElem_mem hj')))
          have harr' : arr'.size = arr.size := by have := congrArg List.length k3; simp at this; simp at hnvl; omega
          have hdl : (c.drop off ++ new).length = (len + n) * i.size := by simp; omega
          have := sim_take (w' := w') (c' := c.drop off ++ new) (L := ⟨(ρ b).blk, (ρ b).off + off, (ρ b).size⟩) hS (b := b) (by rw [hlk]; simp) rfl k2 k4 k5 k6 (by
            refine ⟨by rw [harr', q2], by rw [hdl, harr']; show (ρ b).off + off + (len + n) * i.size ≤ arr.size; omega, by rw [harr']; exact q4, ?_, vbs_mono (Nat.le_succ _) _ hvnew⟩
            have hold : VRels K ρ (c.drop off) ((arr.toList.drop ((ρ b).off + off)).take (len * i.size)) := by
              have := q5.drop off
              have e2 : ((arr.toList.drop (ρ b).off).take c.length).drop off = (arr.toList.drop ((ρ b).off + off)).take (len * i.size) := by
                rw [List.drop_take, List.drop_drop]; congr 1; omega
              rw [e2] at this; exact this
            have hall := (hold.append f2).congr hvnew (ρ' := upR ρ S.next ⟨(ρ b).blk, (ρ b).off + off, (ρ b).size⟩) fun b hb => upR_lt _ _ hb
            have e3 : (arr'.toList.drop ((ρ b).off + off)).take (c.drop off ++ new).length = (arr.toList.drop ((ρ b).off + off)).take (len * i.size) ++ nv.toList := by
              rw [hdl, k3]
              apply List.ext_getElem?
              intro j
              simp only [Nat.add_zero, List.getElem?_append, List.getElem?_take, List.getElem?_drop, List.length_append, List.length_take, List.length_drop, Array.length_toList]
              by_cases h1 : j < len * i.size
              · have a1 : j < (len + n) * i.size := by omega
                have a2 : (ρ b).off + off + j < min ((ρ b).off + off + len * i.size) arr.size + nv.size := by omega
                have a3 : (ρ b).off + off + j < min ((ρ b).off + off + len * i.size) arr.size := by omega
                have a4 : (ρ b).off + off + j < (ρ b).off + off + len * i.size := by omega
                have a5 : j < min (len * i.size) (arr.size - ((ρ b).off + off)) := by omega
                simp [h1, a1, a2, a3, a4, a5]
              · by_cases h2 : j < (len + n) * i.size
                · have a2 : (ρ b).off + off + j < min ((ρ b).off + off + len * i.size) arr.size + nv.size := by simp at hnvl; omega
                  have a3 : ¬ (ρ b).off + off + j < min ((ρ b).off + off + len * i.size) arr.size := by omega
                  have a5 : ¬ j < min (len * i.size) (arr.size - ((ρ b).off + off)) := by omega
                  have a6 : (ρ b).off + off + j - min ((ρ b).off + off + len * i.size) arr.size = j - min (len * i.size) (arr.size - ((ρ b).off + off)) := by omega
                  simp [h2, a2, a3, a5, a6]
                · have a5 : ¬ j < min (len * i.size) (arr.size - ((ρ b).off + off)) := by omega
                  have a7 : nv.toList[j - min (len * i.size) (arr.size - ((ρ b).off + off))]? = none := by
                    rw [List.getElem?_eq_none]; omega
                  simp only [h2, a5, a7, if_false]
            rw [e3]
            exact hall)
          refine ⟨.slice (some ⟨(ρ b).blk, (ρ b).off + off, none⟩) (len + n) cap', w', K, _, ?_, ?_, by simp [vb, AS.alloc, AS.write], this.1, this.2⟩
          · rw [run_append_in hu hu1 hi hlen f1 hin]
            simp only [addr_add, k1]
            rfl
          · have e1 : (upR ρ S.next ⟨(ρ b).blk, (ρ b).off + off, (ρ b).size⟩ S.next) = ⟨(ρ b).blk, (ρ b).off + off, (ρ b).size⟩ := by simp
            have r := VRel.sl (K := K) (ρ := upR ρ S.next ⟨(ρ b).blk, (ρ b).off + off, (ρ b).size⟩) (b := S.next) (off := 0) (len := len + n) (cap := len + n) (sz := i.size) (o := (ρ b).off + off) (cap' := cap')
              hin hin (.inl (by rw [e1]; simp)) hz (by rw [e1]; simpa using hs)
            rw [e1] at r
            exact r
        · -- a new row
          obtain ⟨hK1, hE1⟩ := sim_kill hS (b := b) (by rw [hlk]; simp)
          have hold : ∃ ov : Array Value, (Builtin.firstCells i.size len (.slice (some ⟨(ρ b).blk, ofs, none⟩) len cap')).run P w.drew = .ok ov w.drew ∧ VRels K ρ (c.drop off) ov.toList := by
            have hcs : cellsOfSl S.heap (.sl b off len cap i.size) i.size len = some ((c.drop off).take (len * i.size)) := by
              simp only [cellsOfSl, hlk]
              rw [if_pos ⟨Nat.le_refl _, trivial, by omega⟩]
            obtain ⟨ov, r1, r2, _⟩ := firstCells_ok hSd (.sl hc hl ho hz hs) hcs
            refine ⟨ov, r1, ?_⟩
            rw [List.take_of_length_le (by simp; omega)] at r2
            exact r2
          obtain ⟨ov, r1, r2⟩ := hold
          obtain ⟨w', ρ', cap2, k1, k2, k3, k4, k5, k6⟩ := grow (some ⟨(ρ b).blk, ofs, none⟩) cap' (c.drop off) ov rfl (by omega) r1 r2 (vbs_iff.2 fun q hq => vbs_iff.1 q6 q (List.drop_subset _ _ hq)) (by simp; omega)
          subst k3
          have := sim_alloc hK1 (.cells (c.drop off ++ new)) _ (cap2 * i.size) k4 k5 k6
          exact ⟨_, w', K, _, k1, k2, by simp [vb, AS.alloc, AS.write], this.1, hE1.trans this.2⟩
  · cases h
end Go.Ab
