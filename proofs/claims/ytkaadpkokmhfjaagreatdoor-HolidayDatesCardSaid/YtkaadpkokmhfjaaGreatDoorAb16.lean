/-
  THE ENGINE, PART 16: the other built-in functions; every operation that is no call.
-/
import Derived.Test.YtkaadpkokmhfjaaGreatDoorAb15
namespace Go.Ab
variable {P : Program} {K K' : Nat → Option Obj} {ρ ρ' : Nat → Loc} {S S' : AS} {w w' : World} {G : Nat → Option (List AV)} {E : Env} {a : Act} {o : Oper} {ao : AO} {v : AV}

theorem lenK1_ok {h : AHeap} {x : AV} {u : Value} {m : Nat} (hx : VRel K ρ x u) (hm : lenK h 1 x = some m) : ∃ base cap, u = .slice base m cap := by
  unfold lenK at hm
  split at hm <;> try contradiction
  all_goals first
    | (injection hm with hm; subst hm; cases hx <;> exact ⟨_, _, rfl⟩)
    | (rename_i h0 _; exact absurd h0 (by decide))
    | skip

theorem bi_copy {ts : Array TypeId} {t0 ty e : TypeId} {sz : Nat} (ht0 : ts[0]? = some t0) (hu : P.underlying t0 = some (.slice e)) (hsz : sizeT P e = some sz) (hS : Sim P K ρ S w) {x y : AV} {u uy : Value} (hx : VRel K ρ x u) (hxb : vb S.next x)
    (hy : VRel K ρ y uy) (h : acopy S sz x y = some (v, S')) : BiOk P K ρ S w v S' ((Builtin.copy_ ts ty #[u, uy]).run P w) := by
  simp only [acopy, Option.bind_eq_bind, Option.bind_eq_some_iff] at h
  obtain ⟨n, hn, m, hm, new, hnew, h⟩ := h
  have hlen := lenOf_ok (P := P) (w := w) hy hn hnew
  obtain ⟨nv, f1, f2, f3, f4, _⟩ := firstCells_ok hS hy hnew
  obtain ⟨base, cap, rfl⟩ := lenK1_ok hx hm
  have hsome : ∀ ad, base = some ad → (Builtin.copy_ ts ty #[.slice base m cap, uy]).run P w = ((storeCells ad nv.toList).run P w).andThen fun _ w' => .ok (goInt ((min n m : Nat) : Int)) w' := by
    intro ad hb
    subst hb
    have e : Nat.min n m = min n m := rfl
    simp [Builtin.copy_, ht0, run_underlying hu, hlen, run_sizeOf' hsz, e, f1, Sem.run_bind]
  have hnone : base = none → (Builtin.copy_ ts ty #[.slice base m cap, uy]).run P w = .ok (goInt ((min n m : Nat) : Int)) w := by
    intro hb
    subst hb
    have e : Nat.min n m = min n m := rfl
    simp [Builtin.copy_, ht0, run_underlying hu, hlen, run_sizeOf' hsz, e, f1, Sem.run_bind]
  split at h
  · cases h
  rename_i hcells
  have hcells' : allCells new = true := by simpa using hcells
  split at h
  · rename_i hk
    simp only [Option.some.injEq, Prod.mk.injEq] at h
    obtain ⟨rfl, rfl⟩ := h
    have hnv : nv.toList = [] := by
      have := f2.1
      rw [f4, hk, Nat.zero_mul] at this
      exact List.length_eq_zero_iff.1 this.symm
    refine BiOk.pure hS ?_ .int trivial
    cases base with
    | none => rw [hnone rfl, hk]; rfl
    | some ad => rw [hsome ad rfl, hk]; simp [hnv, storeCells, goInt, Result.andThen]
  · rename_i hk
    split at h <;> try contradiction
    rename_i b off len cap' sz'
    split at h <;> try contradiction
    rename_i c hlk
    split at h <;> try contradiction
    rename_i hc
    obtain ⟨rfl, hle, hoff⟩ := hc
    simp only [Option.some.injEq, Prod.mk.injEq] at h
    obtain ⟨rfl, rfl⟩ := h
    obtain ⟨ofs, cap2, he, h1, h2, ho, h3, h4⟩ := hx.sl_inv
    injection he with he1 he2 he3
    subst he1; subst he2; subst he3
    have hofs : ofs = (ρ b).off + off := by rcases ho with ho | ho <;> omega
    subst hofs
    obtain ⟨w', k1, k2, k3⟩ := write_cells (P := P) (off := off) hS hlk f2 f3 hcells' (by omega)
    refine ⟨_, w', K, ρ, ?_, .int, trivial, k2, k3⟩
    rw [hsome _ rfl, k1]
    rfl

theorem bi_clear {ts : Array TypeId} {t0 ty e : TypeId} {sz : Nat} {z : AV} (ht0 : ts[0]? = some t0) (hu : P.underlying t0 = some (.slice e)) (hz : zeroT P e = some z) (hzs : (cellsV z).length = sz) (hS : Sim P K ρ S w) {x : AV} {u : Value} (hx : VRel K ρ x u) (hxb : vb S.next x)
    (h : aclear S (cellsV z) x = some (v, S')) : BiOk P K ρ S w v S' ((Builtin.clear_ ts ty #[u]).run P w) := by
  unfold aclear at h
  split at h <;> try contradiction
  · simp only [Option.some.injEq, Prod.mk.injEq] at h
    obtain ⟨rfl, rfl⟩ := h
    cases hx
    exact BiOk.pure hS (by simp [Builtin.clear_, ht0, run_underlying hu]; rfl) undef_rel trivial
  · simp only [Option.some.injEq, Prod.mk.injEq] at h
    obtain ⟨rfl, rfl⟩ := h
    cases hx
    exact BiOk.pure hS (by simp [Builtin.clear_, ht0, run_underlying hu]; rfl) undef_rel trivial
  · simp only [Option.some.injEq, Prod.mk.injEq] at h
    obtain ⟨rfl, rfl⟩ := h
    cases hx <;> exact BiOk.pure hS (by simp [Builtin.clear_, ht0, run_underlying hu]; rfl) undef_rel trivial
  · rename_i b off len cap sz'
    obtain ⟨ofs, cap2, rfl, h1, h2, ho, h3, h4⟩ := hx.sl_inv
    split at h
    · rename_i h0
      simp only [Option.some.injEq, Prod.mk.injEq] at h
      obtain ⟨rfl, rfl⟩ := h
      subst h0
      exact BiOk.pure hS (by simp [Builtin.clear_, ht0, run_underlying hu]; rfl) undef_rel trivial
    · rename_i h0
      split at h <;> try contradiction
      rename_i c hlk
      split at h <;> try contradiction
      rename_i hc
      obtain ⟨hzl, hoff, hcells⟩ := hc
      simp only [Option.some.injEq, Prod.mk.injEq] at h
      obtain ⟨rfl, rfl⟩ := h
      obtain ⟨zv, r1, r2, r3⟩ := run_zeroValue' (P := P) (w := w) (K := K) (ρ := ρ) hz
      have hzc := zero_cells r2 r3
      have hzvs : zv.cells.size = sz := by have := hzc.1.1; simp at this; omega
      have hofs : ofs = (ρ b).off + off := by rcases ho with ho | ho <;> omega
      subst hofs
      have hrep : (Builtin.zeroCells zv.cells len).toList = (List.replicate len zv.cells.toList).flatten := range_rep zv.cells (by omega) len
      have hrel : VRels K ρ (List.replicate len (cellsV z)).flatten (Builtin.zeroCells zv.cells len).toList := by rw [hrep]; exact hzc.1.repl len
      have hmem : ∀ q ∈ (List.replicate len (cellsV z)).flatten, q ∈ cellsV z := by
        intro q hq
        obtain ⟨l, hl, hq⟩ := List.mem_flatten.1 hq
        rw [List.eq_of_mem_replicate hl] at hq
        exact hq
      have hlen : (List.replicate len (cellsV z)).flatten.length = len * sz' := by simp [hzl]
      obtain ⟨w', k1, k2, k3⟩ := write_cells (P := P) (off := off) hS hlk hrel (vbs_iff.2 fun q hq => vb_of_noName q (noNames_iff.1 hzc.2 q (hmem q hq)))
        (allCells_iff.2 fun q hq => allCells_iff.1 hcells q (hmem q hq)) (by rw [hlen]; omega)
      have hnn : noNames (List.replicate len (cellsV z)).flatten = noNames (cellsV z) := by
        rw [hzc.2]
        exact noNames_iff.2 fun q hq => noNames_iff.1 hzc.2 q (hmem q hq)
      rw [hnn] at k2 k3
      refine ⟨_, w', K, ρ, ?_, undef_rel, trivial, k2, k3⟩
      obtain ⟨len', rfl⟩ : ∃ k, len = k + 1 := ⟨len - 1, by omega⟩
      simp [Builtin.clear_, ht0, run_underlying hu, r1, k1, undef]

theorem VRels.one_inv {x : AV} {us : Array Value} (h : VRels K ρ [x] us.toList) : ∃ u, us = #[u] ∧ VRel K ρ x u := by
  obtain ⟨u, r, hu, h1, h2⟩ := h.cons_inv
  have := h2.nil_inv; subst this
  exact ⟨u, by rw [← Array.toList_inj, hu], h1⟩
theorem VRels.two_inv {x y : AV} {us : Array Value} (h : VRels K ρ [x, y] us.toList) : ∃ u v, us = #[u, v] ∧ VRel K ρ x u ∧ VRel K ρ y v := by
  obtain ⟨u, r, hu, h1, h2⟩ := h.cons_inv
  obtain ⟨v, r', hv, h3, h4⟩ := h2.cons_inv
  have := h4.nil_inv; subst this; subst hv
  exact ⟨u, v, by rw [← Array.toList_inj, hu], h1, h3⟩

theorem builtin_ok {b : Builtin} {ts : Array TypeId} {ty : TypeId} {ab : ABi} {args : List AX} {us : Array Value} (hlow : lowerBi P b ts = some ab) (hS : Sim P K ρ S w)
    (hr : VRels K ρ (args.map (AX.ev E)) us.toList) (hb : vbs S.next (args.map (AX.ev E))) (h : aop G E S (.bi ab args) = some (v, S')) :
    ∃ f : Sem Value, (∀ cs, builtin b ts ty cs us = (do pure (.value (← f)))) ∧ BiOk P K ρ S w v S' (f.run P w) := by
  unfold lowerBi at hlow
  split at hlow <;> try contradiction
  · -- len
    refine ⟨_, fun _ => rfl, ?_⟩
    have hcase : ∀ t k, ts[0]? = some t → ab = .len k → ((k = 0 ∧ P.underlying t = some .string) ∨ (k = 1 ∧ ∃ e, P.underlying t = some (.slice e)) ∨ (k = 2 ∧ ∃ a b, P.underlying t = some (.map a b))) →
        BiOk P K ρ S w v S' ((Builtin.len_ ts ty us).run P w) := by
      intro t k ht hab hk
      subst hab
      obtain ⟨x, rfl, h⟩ : ∃ x, args = [x] ∧ aop G E S (.bi (.len k) args) = some (v, S') := by
        cases args with
        | nil => simp [aop] at h
        | cons x r => cases r with
          | nil => exact ⟨x, rfl, h⟩
          | cons _ _ => simp [aop] at h
      simp only [aop] at h
      obtain ⟨n, hn, he⟩ := Option.map_eq_some_iff.1 h
      simp only [Prod.mk.injEq] at he
      obtain ⟨rfl, rfl⟩ := he
      obtain ⟨n', hn', hn2⟩ := Option.bind_eq_some_iff.1 hn
      injection hn2 with hn2; subst hn2
      obtain ⟨u, rfl, hu⟩ := VRels.one_inv hr
      exact BiOk.pure hS (bi_len ht hS hu hk hn') .int trivial
    have harr : ∀ n, ab = .lenArr n → (∀ u, us = #[u] → (Builtin.len_ ts ty #[u]).run P w = .ok (.int .i64 n) w) → BiOk P K ρ S w v S' ((Builtin.len_ ts ty us).run P w) := by
      intro n hab hrun
      subst hab
      obtain ⟨x, rfl, h⟩ : ∃ x, args = [x] ∧ aop G E S (.bi (.lenArr n) args) = some (v, S') := by
        cases args with
        | nil => simp [aop] at h
        | cons x r => cases r with
          | nil => exact ⟨x, rfl, h⟩
          | cons _ _ => simp [aop] at h
      simp only [aop] at h
      simp only [Option.some.injEq, Prod.mk.injEq] at h
      obtain ⟨rfl, rfl⟩ := h
      obtain ⟨u, rfl, hu⟩ := VRels.one_inv hr
      exact BiOk.pure hS (hrun u rfl) .int trivial
    split at hlow <;> try contradiction
    · rename_i n e ht
      injection hlow with hlow; subst hlow
      obtain ⟨t, ht0, hu⟩ := Option.bind_eq_some_iff.1 ht
      exact harr n rfl fun u _ => by simp [Builtin.len_, ht0, run_underlying hu, goInt]
    · rename_i arr ht
      obtain ⟨t, ht0, hu⟩ := Option.bind_eq_some_iff.1 ht
      split at hlow <;> try contradiction
      rename_i n e hu2
      injection hlow with hlow; subst hlow
      exact harr n rfl fun u _ => by simp [Builtin.len_, ht0, run_underlying hu, run_underlying hu2, goInt]
    · rename_i ht
      injection hlow with hlow; subst hlow
      obtain ⟨t, ht0, hu⟩ := Option.bind_eq_some_iff.1 ht
      exact hcase t 0 ht0 rfl (.inl ⟨rfl, hu⟩)
    · rename_i e ht
      injection hlow with hlow; subst hlow
      obtain ⟨t, ht0, hu⟩ := Option.bind_eq_some_iff.1 ht
      exact hcase t 1 ht0 rfl (.inr (.inl ⟨rfl, e, hu⟩))
    · rename_i e1 e2 ht
      injection hlow with hlow; subst hlow
      obtain ⟨t, ht0, hu⟩ := Option.bind_eq_some_iff.1 ht
      exact hcase t 2 ht0 rfl (.inr (.inr ⟨rfl, e1, e2, hu⟩))
  · -- min
    refine ⟨_, fun _ => rfl, ?_⟩
    injection hlow with hlow; subst hlow
    simp only [aop] at h
    obtain ⟨n, hn, he⟩ := Option.map_eq_some_iff.1 h
    simp only [Prod.mk.injEq] at he
    obtain ⟨rfl, rfl⟩ := he
    obtain ⟨u, h1, h2, h3⟩ := bi_min (P := P) (w := w) (ts := ts) (ty := ty) hr hn
    exact BiOk.pure hS h1 h2 (vb_of_noName _ h3)
  · -- max
    refine ⟨_, fun _ => rfl, ?_⟩
    injection hlow with hlow; subst hlow
    simp only [aop] at h
    obtain ⟨n, hn, he⟩ := Option.map_eq_some_iff.1 h
    simp only [Prod.mk.injEq] at he
    obtain ⟨rfl, rfl⟩ := he
    obtain ⟨u, h1, h2, h3⟩ := bi_max (P := P) (w := w) (ts := ts) (ty := ty) hr hn
    exact BiOk.pure hS h1 h2 (vb_of_noName _ h3)
  · -- append
    refine ⟨_, fun _ => rfl, ?_⟩
    split at hlow <;> try contradiction
    rename_i t0 t1 hts
    have hts' : ts = #[t0, t1] := by rw [← Array.toList_inj, hts]
    subst hts'
    have key : ∀ e, P.underlying t0 = some (.slice e) → ((∃ e', P.underlying t1 = some (.slice e')) ∨ P.underlying t1 = some .string) →
        (match P.info? e, zeroT P e with
          | some i, some z => if i.size = 0 ∨ (cellsV z).length ≠ i.size then none else some (ABi.append i.size i.bytes)
          | _, _ => none) = some ab → BiOk P K ρ S w v S' ((Builtin.append_ #[t0, t1] ty us).run P w) := by
      intro e hu hu1 hm
      split at hm <;> try contradiction
      rename_i i z hi hz
      split at hm <;> try contradiction
      rename_i hc
      simp only [not_or, Decidable.not_not] at hc
      injection hm with hm; subst hm
      obtain ⟨i', zv, hi', hzv, hza⟩ := zeroT_info hz
      rw [hi] at hi'; injection hi' with hi'; subst hi'
      obtain ⟨x, y, rfl, h⟩ : ∃ x y, args = [x, y] ∧ aop G E S (.bi (.append i.size i.bytes) args) = some (v, S') := by
        cases args with
        | nil => simp [aop] at h
        | cons x r => cases r with
          | nil => simp [aop] at h
          | cons y r => cases r with
            | nil => exact ⟨x, y, rfl, h⟩
            | cons _ _ => simp [aop] at h
      simp only [aop] at h
      obtain ⟨u, u2, rfl, hux, huy⟩ := VRels.two_inv hr
      simp only [List.map_cons, List.map_nil, vbs] at hb
      exact bi_append hu hu1 hi hzv hza hc.2 hc.1 hS hux hb.1 huy h
    split at hlow <;> try contradiction
    · rename_i e e' hu hu1
      exact key e hu (.inl ⟨e', hu1⟩) hlow
    · rename_i e hu hu1
      exact key e hu (.inr hu1) hlow
  · -- clear
    refine ⟨_, fun _ => rfl, ?_⟩
    split at hlow <;> try contradiction
    rename_i e ht
    obtain ⟨t, ht0, hu⟩ := Option.bind_eq_some_iff.1 ht
    split at hlow <;> try contradiction
    rename_i s z hs hz
    split at hlow <;> try contradiction
    rename_i hc
    simp only [not_or, Decidable.not_not] at hc
    injection hlow with hlow; subst hlow
    obtain ⟨x, rfl, h⟩ : ∃ x, args = [x] ∧ aop G E S (.bi (.clear (cellsV z)) args) = some (v, S') := by
      cases args with
      | nil => simp [aop] at h
      | cons x r => cases r with
        | nil => exact ⟨x, rfl, h⟩
        | cons _ _ => simp [aop] at h
    simp only [aop] at h
    obtain ⟨u, rfl, hux⟩ := VRels.one_inv hr
    simp only [List.map_cons, List.map_nil, vbs] at hb
    exact bi_clear ht0 hu hz hc.2 hS hux hb.1 h
  · -- copy
    refine ⟨_, fun _ => rfl, ?_⟩
    split at hlow <;> try contradiction
    rename_i e ht
    obtain ⟨t, ht0, hu⟩ := Option.bind_eq_some_iff.1 ht
    obtain ⟨s, hs, hlow⟩ := Option.bind_eq_some_iff.1 hlow
    split at hlow <;> try contradiction
    injection hlow with hlow; subst hlow
    obtain ⟨x, y, rfl, h⟩ : ∃ x y, args = [x, y] ∧ aop G E S (.bi (.copy s) args) = some (v, S') := by
      cases args with
      | nil => simp [aop] at h
      | cons x r => cases r with
        | nil => simp [aop] at h
        | cons y r => cases r with
          | nil => exact ⟨x, y, rfl, h⟩
          | cons _ _ => simp [aop] at h
    simp only [aop] at h
    obtain ⟨u, u2, rfl, hux, huy⟩ := VRels.two_inv hr
    simp only [List.map_cons, List.map_nil, vbs] at hb
    exact bi_copy ht0 hu hs hS hux hb.1 huy h

theorem op_builtin {c : Call} {b : Builtin} (hop : o.op = .call c) (hc : c.callee = .builtin b) (hS : Sim P K ρ S w) (hE : ERel K ρ S.next E a.tmps)
    (hlow : lowerOp P o = some ao) (h : aop G E S ao = some (v, S')) : OpOk P K ρ S w v S' ((execOp a.eval o).run P w) := by
  simp only [lowerOp, hop] at hlow
  split at hlow <;> try contradiction
  rename_i args hargs
  simp only [hc] at hlow
  obtain ⟨ab, hb, rfl⟩ := Option.map_eq_some_iff.1 hlow
  have hr := opds_rel hE hargs
  obtain ⟨f, hf, v', w', K', ρ', k1, k2⟩ := builtin_ok (ty := o.type) (us := c.args.map a.eval) hb hS (by simpa using hr.1) hr.2 h
  refine ⟨v', w', K', ρ', .inl ?_, k2⟩
  simp only [execOp, hop, resolve, hc, Sem.run_bind, Sem.run_pure, Result.andThen_ok, invoke, hf, k1]

/-- Every operation that is no call. -/
theorem aop_sound (hG : GRel K G) (hS : Sim P K ρ S w) (hE : ERel K ρ S.next E a.tmps) (hlow : lowerOp P o = some ao) (h : aop G E S ao = some (v, S')) :
    OpOk P K ρ S w v S' ((execOp a.eval o).run P w) := by
  cases hop : o.op with
  | move x => exact op_move (.inl hop) hS hE hlow h
  | assign x => exact op_move (.inr hop) hS hE hlow h
  | pick c x y => exact op_pick hop hS hE hlow h
  | alloc t => exact op_alloc hop hS hlow h
  | box t x => exact op_box hop hS hE hlow h
  | build t ps => exact op_build hop hS hE hlow h
  | buildSlice t n ps => exact op_buildSlice hop hS hE hlow h
  | load t x => exact op_load hop hG hS hE hlow h
  | store t x y => exact op_store hop hS hE hlow h
  | nilCheck x => exact op_nilCheck hop hS hE hlow h
  | binOp op t x y u => exact op_binOp hop hS hE hlow h
  | unOp op t x => exact op_unOp hop hS hE hlow h
  | convert t u x => exact op_convert hop hS hE hlow h
  | makeInterface t x => exact op_makeInterface hop hS hE hlow h
  | typeAssert x t u ok => exact op_typeAssert hop hS hE hlow h
  | makeFunc f xs ys =>
    cases f with
    | func f => exact op_makeFunc hop hS hE hlow h
    | _ => simp only [lowerOp, hop] at hlow; cases hlow
  | makeMap t r =>
    cases r with
    | none => exact op_makeMap hop hS hlow h
    | some r => simp only [lowerOp, hop] at hlow; cases hlow
  | lookup t m k ok => exact op_lookup hop hS hE hlow h
  | mapUpdate t m k x => exact op_mapUpdate (.inl hop) hS hE hlow h
  | insert t m k x => exact op_mapUpdate (.inr hop) hS hE hlow h
  | makeSlice t l c => exact op_makeSlice hop hS hE hlow h
  | slice t x lo hi mx => exact op_slice hop hS hE hlow h
  | fieldAddr t x f => exact op_fieldAddr hop hS hE hlow h
  | field t x f => exact op_field hop hS hE hlow h
  | indexAddr t x i => exact op_indexAddr hop hS hE hlow h
  | index t x i => exact op_index hop hS hE hlow h
  | extract x i => exact op_extract hop hS hE hlow h
  | call c =>
    cases hc : c.callee with
    | builtin b => exact op_builtin hop hc hS hE hlow h
    | value f =>
      simp only [lowerOp, hop, hc] at hlow
      split at hlow <;> try contradiction
      obtain ⟨f', hf, rfl⟩ := Option.map_eq_some_iff.1 hlow
      simp [aop] at h
    | invoke r m =>
      simp only [lowerOp, hop, hc] at hlow
      split at hlow <;> try contradiction
      obtain ⟨f', hf, rfl⟩ := Option.map_eq_some_iff.1 hlow
      simp [aop] at h
  | _ => simp only [lowerOp, hop] at hlow; cases hlow

end Go.Ab
