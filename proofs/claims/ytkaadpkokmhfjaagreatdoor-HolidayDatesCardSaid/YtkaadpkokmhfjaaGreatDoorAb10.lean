/-
  THE ENGINE, PART 10: the operations, one by one: comparisons, conversions, interfaces, functions, elements, maps.
-/
import Derived.Test.YtkaadpkokmhfjaaGreatDoorAb9
namespace Go.Ab
variable {P : Program} {K K' : Nat → Option Obj} {ρ ρ' : Nat → Loc} {S S' : AS} {w w' : World} {G : Nat → Option (List AV)} {E : Env} {a : Act} {o : Oper} {ao : AO} {v : AV}

theorem etyOf_flat {t : TypeId} {ks : List Nat} (h : etyOf P t = some (.flat ks)) : P.eqGuardType P.depth t = false ∧ flatN P 20 t = some ks ∧ isAggT P t = some true := by
  unfold etyOf at h
  split at h <;> first | cases h | skip
  rename_i fs hu
  split at h
  · cases h
  · rename_i hg
    obtain ⟨k, hk, he⟩ := Option.map_eq_some_iff.1 h
    injection he with he; subst he
    exact ⟨by simpa using hg, hk, by simp [isAggT, hu]⟩

set_option maxHeartbeats 2000000 in
/-- Two values compared, and the guard ahead of it. -/
theorem aeq_ok {e : ETy} {t : TypeId} {x y : AV} {u v : Value} {r : Bool} (ht : etyOf P t = some e) (hx : VRel K ρ x u) (hy : VRel K ρ y v) (h : aeq e x y = some r) (X Y : Operand) :
    (do eqGuard .eql t X Y u v; binOp .eql t u v : Sem Value).run P w = .ok (.bool r) w ∧ (do eqGuard .neq t X Y u v; binOp .neq t u v : Sem Value).run P w = .ok (.bool (!r)) w := by
  have mk : ∀ {u v : Value}, (∀ op, (eqGuard op t X Y u v).run P w = .ok () w) → binOp .eql t u v = (do pure (.bool (← Op.equal t u v))) → binOp .neq t u v = (do pure (.bool (!(← Op.equal t u v)))) →
      (Op.equal t u v).run P w = .ok r w →
      (do eqGuard .eql t X Y u v; binOp .eql t u v : Sem Value).run P w = .ok (.bool r) w ∧ (do eqGuard .neq t X Y u v; binOp .neq t u v : Sem Value).run P w = .ok (.bool (!r)) w := by
    intro u v h1 h2 h3 h4
    constructor
    · simp only [Sem.run_bind, h1, Result.andThen_ok, h2, h4, Sem.run_pure]
    · simp only [Sem.run_bind, h1, Result.andThen_ok, h3, h4, Sem.run_pure]
  have unf : ∀ u v : Value, Op.equal t u v = Op.equalIn (9999 + 1) t u v := fun _ _ => rfl
  cases e with
  | flat ks =>
    obtain ⟨hg, hf, hagg⟩ := etyOf_flat ht
    unfold aeq at h
    split at h <;> try contradiction
    rename_i ks' as bs he
    injection he with he; subst he
    split at h <;> try contradiction
    rename_i hlen
    obtain ⟨us, rfl, ha⟩ := hx.agg_inv
    obtain ⟨vs, rfl, hb⟩ := hy.agg_inv
    have hl : us.toList.length = ks.length ∧ vs.toList.length = ks.length := by
      have h1 := ha.1
      have h2 := hb.1
      omega
    have := flat_ok (w := w) 20 t ks true hf hagg 10000 as bs us.toList vs.toList r (by omega) ha hb hl.1 hl.2 h
    exact mk (fun op => run_eqGuard_agg w op t X Y us vs hg) rfl rfl (by simpa [ofCells, Op.equal, Op.maxDepth] using this)
  | bool =>
    have hu : P.underlying t = some .bool := by
      unfold etyOf at ht; split at ht <;> first | (cases ht; done) | skip
      all_goals first | assumption | (split at ht <;> simp at ht)
    unfold aeq at h
    split at h <;> try contradiction
    rw [hx.bool_inv, hy.bool_inv]
    injection h with h; subst h
    exact mk (fun op => by cases op <;> rfl) rfl rfl (by rw [unf]; exact run_equalIn_bool' w _ t _ _ hu)
  | ptr =>
    obtain ⟨el, hu⟩ : ∃ el, P.underlying t = some (.pointer el) := by
      unfold etyOf at ht; split at ht <;> first | (cases ht; done) | skip
      all_goals first | exact ⟨_, by assumption⟩ | (split at ht <;> simp at ht)
    unfold aeq at h
    split at h <;> try contradiction
    · injection h with h; subst h; cases hx; cases hy
      exact mk (fun op => by cases op <;> rfl) rfl rfl (by rw [unf]; generalize 9999 = D; simp [Op.equalIn, run_underlying hu])
    · injection h with h; subst h; cases hx; rw [hy.ptr_inv]
      exact mk (fun op => by cases op <;> rfl) rfl rfl (by rw [unf]; generalize 9999 = D; simp [Op.equalIn, run_underlying hu])
    · injection h with h; subst h; cases hy; rw [hx.ptr_inv]
      exact mk (fun op => by cases op <;> rfl) rfl rfl (by rw [unf]; generalize 9999 = D; simp [Op.equalIn, run_underlying hu])
  | slice =>
    obtain ⟨el, hu⟩ : ∃ el, P.underlying t = some (.slice el) := by
      unfold etyOf at ht; split at ht <;> first | (cases ht; done) | skip
      all_goals first | exact ⟨_, by assumption⟩ | (split at ht <;> simp at ht)
    unfold aeq at h
    split at h <;> try contradiction
    all_goals (injection h with h; subst h; cases hx <;> cases hy <;> exact mk (fun op => by cases op <;> rfl) rfl rfl (by rw [unf]; generalize 9999 = D; simp [Op.equalIn, run_underlying hu]))
  | map =>
    obtain ⟨k, el, hu⟩ : ∃ k el, P.underlying t = some (.map k el) := by
      unfold etyOf at ht; split at ht <;> first | (cases ht; done) | skip
      all_goals first | exact ⟨_, _, by assumption⟩ | (split at ht <;> simp at ht)
    unfold aeq at h
    split at h <;> try contradiction
    all_goals (injection h with h; subst h; cases hx <;> cases hy <;> exact mk (fun op => by cases op <;> rfl) rfl rfl (by rw [unf]; generalize 9999 = D; simp [Op.equalIn, run_underlying hu]))
  | func =>
    obtain ⟨p, q, vr, hu⟩ : ∃ p q vr, P.underlying t = some (.func p q vr) := by
      unfold etyOf at ht; split at ht <;> first | (cases ht; done) | skip
      all_goals first | exact ⟨_, _, _, by assumption⟩ | (split at ht <;> simp at ht)
    unfold aeq at h
    split at h <;> try contradiction
    all_goals (injection h with h; subst h; cases hx <;> cases hy <;> exact mk (fun op => by cases op <;> rfl) rfl rfl (by rw [unf]; generalize 9999 = D; simp [Op.equalIn, run_underlying hu]))
  | iface =>
    obtain ⟨ms, hu⟩ : ∃ ms, P.underlying t = some (.interface ms) := by
      unfold etyOf at ht; split at ht <;> first | (cases ht; done) | skip
      all_goals first | exact ⟨_, by assumption⟩ | (split at ht <;> simp at ht)
    unfold aeq at h
    split at h <;> try contradiction
    all_goals (injection h with h; subst h; cases hx <;> cases hy <;> exact mk (fun op => by cases op <;> rfl) rfl rfl (by rw [unf]; generalize 9999 = D; simp [Op.equalIn, run_underlying hu]))

theorem op_binOp {op : BinOp} {t t' : TypeId} {x y : Operand} (hop : o.op = .binOp op t x y t') (hS : Sim P K ρ S w) (hE : ERel K ρ S.next E a.tmps)
    (hlow : lowerOp P o = some ao) (h : aop G E S ao = some (v, S')) : OpOk P K ρ S w v S' ((execOp a.eval o).run P w) := by
  simp only [lowerOp, hop] at hlow
  have bin : ∀ ax ay, opdA x = some ax → opdA y = some ay → ao = .bin op ax ay → OpOk P K ρ S w v S' ((execOp a.eval o).run P w) := by
    rintro ax ay hx hy rfl
    simp only [aop] at h
    obtain ⟨z, hz, he⟩ := Option.map_eq_some_iff.1 h
    simp only [Prod.mk.injEq] at he
    obtain ⟨rfl, rfl⟩ := he
    obtain ⟨u, h1, h2, h3⟩ := abin_ok (P := P) (w := w) (X := x) (Y := y) (opd_rel hE hx).1 (opd_rel hE hy).1 hz t
    refine OpOk.pure hS ?_ h2 (vb_of_noName _ h3)
    simp only [Sem.run_bind] at h1
    simp only [execOp, hop, Sem.run_bind, h1, Result.andThen_ok, Sem.run_pure]
  split at hlow
  · rename_i hx hy; injection hlow with hlow; exact bin _ _ hx hy hlow.symm
  · rename_i hx hy; injection hlow with hlow; exact bin _ _ hx hy hlow.symm
  · rename_i ax ay _ _ _ hx hy
    split at hlow
    · obtain ⟨e, he, rfl⟩ := Option.map_eq_some_iff.1 hlow
      simp only [aop] at h
      obtain ⟨b, hb, he'⟩ := Option.map_eq_some_iff.1 h
      simp only [Prod.mk.injEq] at he'
      obtain ⟨rfl, rfl⟩ := he'
      have := (aeq_ok (w := w) he (opd_rel hE hx).1 (opd_rel hE hy).1 hb x y).1
      refine OpOk.pure (v' := .bool b) hS ?_ .bool trivial
      simp only [Sem.run_bind] at this
      simp only [execOp, hop, Sem.run_bind, this, Result.andThen_ok, Sem.run_pure]
    · obtain ⟨e, he, rfl⟩ := Option.map_eq_some_iff.1 hlow
      simp only [aop] at h
      obtain ⟨b, hb, he'⟩ := Option.map_eq_some_iff.1 h
      simp only [Prod.mk.injEq] at he'
      obtain ⟨rfl, rfl⟩ := he'
      have := (aeq_ok (w := w) he (opd_rel hE hx).1 (opd_rel hE hy).1 hb x y).2
      refine OpOk.pure (v' := .bool (!b)) hS ?_ .bool trivial
      simp only [Sem.run_bind] at this
      simp only [execOp, hop, Sem.run_bind, this, Result.andThen_ok, Sem.run_pure]
    · cases hlow
  · cases hlow

theorem op_makeInterface {t : TypeId} {x : Operand} (hop : o.op = .makeInterface t x) (hS : Sim P K ρ S w) (hE : ERel K ρ S.next E a.tmps)
    (hlow : lowerOp P o = some ao) (h : aop G E S ao = some (v, S')) : OpOk P K ρ S w v S' ((execOp a.eval o).run P w) := by
  simp only [lowerOp, hop] at hlow
  split at hlow
  · cases hlow
  · rename_i d ax hni hu hx
    injection hlow with hlow; subst hlow
    have rx := opd_rel hE hx
    have hrun : (execOp a.eval o).run P w = .ok (.value (.iface t (a.eval x))) w := by
      simp only [execOp, hop, Sem.run_bind, Instr.makeInterface, run_underlying hu, Result.andThen_ok]
      cases d <;> first | rfl | (exact absurd rfl (hni _))
    have key : ∀ r : Option (AV × AS), aop G E S (.mkif t ax) = r → r = some (v, S') → v = .iface t (ax.ev E) ∧ S' = S := by
      intro r hr hr'
      subst hr'
      simp only [aop] at hr
      split at hr
      · cases hr
      · simp only [Option.some.injEq, Prod.mk.injEq] at hr
        exact ⟨hr.1.symm, hr.2.symm⟩
    obtain ⟨rfl, rfl⟩ := key _ rfl h
    exact OpOk.pure hS hrun (.iface rx.1) (by simpa [vb] using rx.2)
  · cases hlow

theorem op_typeAssert {t xt : TypeId} {x : Operand} {ok : Bool} (hop : o.op = .typeAssert x xt t ok) (hS : Sim P K ρ S w) (hE : ERel K ρ S.next E a.tmps)
    (hlow : lowerOp P o = some ao) (h : aop G E S ao = some (v, S')) : OpOk P K ρ S w v S' ((execOp a.eval o).run P w) := by
  simp only [lowerOp, hop] at hlow
  split at hlow
  · cases hlow
  · rename_i d z ax hni hu hz hx
    injection hlow with hlow; subst hlow
    have rx := opd_rel hE hx
    obtain ⟨zv, hzv, hzr, hzn⟩ := run_zeroValue' (K := K) (ρ := ρ) (w := w) hz
    have zrel : VRel K ρ (.tup [z, .bool false]) (.tuple #[zv, .bool false]) := VRels.tup (.cons hzr (.cons .bool .nil))
    have zvb : vb S.next (.tup [z, .bool false]) := by simp [vb, vbs, vb_of_noName z hzn]
    simp only [aop] at h
    split at h
    · rename_i u y hy
      rw [hy] at rx
      obtain ⟨yv, hyv, hyr⟩ : ∃ yv, a.eval x = .iface u yv ∧ VRel K ρ y yv := by
        have := rx.1
        generalize a.eval x = q at this
        cases this with
        | iface hh => exact ⟨_, rfl, hh⟩
      have hyb : vb S.next y := by simpa [vb] using rx.2
      split at h
      · rename_i hut
        subst hut
        simp only [Option.some.injEq, Prod.mk.injEq] at h
        obtain ⟨rfl, rfl⟩ := h
        cases ok with
        | true =>
          refine OpOk.pure (v' := .tuple #[yv, .bool true]) hS ?_ (VRels.tup (.cons hyr (.cons .bool .nil))) (by simp [ofOk, vb, vbs, hyb])
          simp only [execOp, hop, Sem.run_bind, Instr.typeAssert, run_underlying hu, Result.andThen_ok, hyv]
          cases d <;> first | (simp; done) | (exact absurd rfl (hni _))
        | false =>
          refine OpOk.pure (v' := yv) hS ?_ hyr (by simpa [ofOk] using hyb)
          simp only [execOp, hop, Sem.run_bind, Instr.typeAssert, run_underlying hu, Result.andThen_ok, hyv]
          cases d <;> first | (simp; done) | (exact absurd rfl (hni _))
      · rename_i hut
        split at h
        · rename_i hok
          subst hok
          simp only [Option.some.injEq, Prod.mk.injEq] at h
          obtain ⟨rfl, rfl⟩ := h
          refine OpOk.pure hS ?_ zrel zvb
          simp only [execOp, hop, Sem.run_bind, Instr.typeAssert, run_underlying hu, Result.andThen_ok, hyv]
          cases d <;> first | (simp [hut, hzv]; done) | (exact absurd rfl (hni _))
        · cases h
    · rename_i hy
      rw [hy] at rx
      have hyv : a.eval x = .nilIface := by
        have := rx.1
        generalize a.eval x = q at this
        cases this; rfl
      split at h
      · rename_i hok
        subst hok
        simp only [Option.some.injEq, Prod.mk.injEq] at h
        obtain ⟨rfl, rfl⟩ := h
        refine OpOk.pure hS ?_ zrel zvb
        simp only [execOp, hop, Sem.run_bind, Instr.typeAssert, run_underlying hu, Result.andThen_ok, hyv]
        cases d <;> first | (simp [hzv]; done) | (exact absurd rfl (hni _))
      · cases h
    · cases h
  · cases hlow

theorem op_makeFunc {f : Nat} {first captured : Array Operand} (hop : o.op = .makeFunc (.func f) first captured) (hS : Sim P K ρ S w) (hE : ERel K ρ S.next E a.tmps)
    (hlow : lowerOp P o = some ao) (h : aop G E S ao = some (v, S')) : OpOk P K ρ S w v S' ((execOp a.eval o).run P w) := by
  simp only [lowerOp, hop] at hlow
  split at hlow
  · rename_i l1 l2 h1 h2
    injection hlow with hlow; subst hlow
    simp only [aop, Option.some.injEq, Prod.mk.injEq] at h
    obtain ⟨rfl, rfl⟩ := h
    have r1 := opds_rel hE h1
    have r2 := opds_rel hE h2
    refine OpOk.pure (v' := .func (.func f) (first.map a.eval) (captured.map a.eval)) hS (by simp [execOp, hop, Instr.makeFunc]) ?_ (by simp only [vb]; exact ⟨r1.2, r2.2⟩)
    exact .fn (by have := r1.1.1; simpa using this) (by have := r2.1.1; simpa using this)
      (fun i x u hx hu => r1.1.2 i x u hx (by rw [← hu]; simp)) (fun i x u hx hu => r2.1.2 i x u hx (by rw [← hu]; simp))
  · cases hlow

theorem op_makeMap {t : TypeId} (hop : o.op = .makeMap t none) (hS : Sim P K ρ S w)
    (hlow : lowerOp P o = some ao) (h : aop G E S ao = some (v, S')) : OpOk P K ρ S w v S' ((execOp a.eval o).run P w) := by
  simp only [lowerOp, hop, Option.some.injEq] at hlow
  subst hlow
  simp only [aop, Option.some.injEq, Prod.mk.injEq] at h
  obtain ⟨rfl, rfl⟩ := h
  have := sim_alloc (w' := w.alloc (.map #[] 0)) hS (.map []) (.map #[] 0) 0 rfl ⟨rfl, rfl, rfl⟩ ⟨rfl, fun i p e hp => by simp at hp⟩
  refine ⟨.map (some w.heap.size), w.alloc (.map #[] 0), K, _, .inl ?_, ?_, by simp [vb, AS.alloc], this.1, this.2⟩
  · simp [execOp, hop, Instr.makeMap]
  · have e : (upR ρ S.next ⟨w.heap.size, 0, 0⟩ S.next).blk = w.heap.size := by simp
    have r := VRel.map (K := K) (ρ := upR ρ S.next ⟨w.heap.size, 0, 0⟩) (b := S.next)
    rw [e] at r
    exact r

theorem op_extract {x : Operand} {i : Nat} (hop : o.op = .extract x i) (hS : Sim P K ρ S w) (hE : ERel K ρ S.next E a.tmps)
    (hlow : lowerOp P o = some ao) (h : aop G E S ao = some (v, S')) : OpOk P K ρ S w v S' ((execOp a.eval o).run P w) := by
  simp only [lowerOp, hop] at hlow
  obtain ⟨ax, hx, rfl⟩ := Option.map_eq_some_iff.1 hlow
  have rx := opd_rel hE hx
  simp only [aop] at h
  split at h
  · rename_i vs hvs
    obtain ⟨y, hy, he⟩ := Option.map_eq_some_iff.1 h
    simp only [Prod.mk.injEq] at he
    obtain ⟨rfl, rfl⟩ := he
    rw [hvs] at rx
    obtain ⟨us, hu, hr⟩ := rx.1.tup_inv
    obtain ⟨z, hz, hrz⟩ := hr.get hy
    have hz' : us[i]? = some z := by simpa using hz
    exact OpOk.pure (v' := z) hS (by simp [execOp, hop, Instr.extract, hu, hz']) hrz (vbs_iff.1 (by simpa [vb] using rx.2) y (mem_of_getElem?' hy))
  · cases h

theorem asIntOf_int {k : IntKind} {n : Int} : asIntOf (.int k n) = Pure.pure (k, n) := rfl

theorem op_index {t : TypeId} {x i : Operand} (hop : o.op = .index t x i) (hS : Sim P K ρ S w) (hE : ERel K ρ S.next E a.tmps)
    (hlow : lowerOp P o = some ao) (h : aop G E S ao = some (v, S')) : OpOk P K ρ S w v S' ((execOp a.eval o).run P w) := by
  simp only [lowerOp, hop] at hlow
  split at hlow
  · rename_i n e ax ai hu hx hi
    split at hlow
    · rename_i g s hg hs
      injection hlow with hlow; subst hlow
      have rx := opd_rel hE hx
      have ri := opd_rel hE hi
      simp only [aop] at h
      split at h
      · rename_i cs hcs
        split at h
        · rename_i k hk
          obtain ⟨y, hy, he⟩ := Option.map_eq_some_iff.1 h
          simp only [Prod.mk.injEq] at he
          obtain ⟨rfl, rfl⟩ := he
          rw [hcs] at rx
          obtain ⟨us, hus, hr⟩ := rx.1.agg_inv
          obtain ⟨z, h1, h2, h3⟩ := part_rel (w := w) hg hs hr (by simpa [vb] using rx.2) hy
          unfold idxA at hk
          split at hk
          · rename_i ik iv hiv
            split at hk
            · rename_i hb
              injection hk with hk; subst hk
              rw [hiv] at ri
              have hie := ri.1.int_inv
              exact OpOk.pure (v' := z) hS (by simp only [execOp, hop, Sem.run_bind, Instr.index, hie, asIntOf_int, Sem.run_pure, Result.andThen_ok, run_underlying hu, hus, Sem.run_ite, if_pos hb, run_sizeOf' hs, h1]) h2 h3
            · cases hk
          · cases hk
        · cases h
      · cases h
    · cases hlow
  · rename_i ax ai hu hx hi
    injection hlow with hlow; subst hlow
    have rx := opd_rel hE hx
    have ri := opd_rel hE hi
    simp only [aop] at h
    split at h
    · rename_i s hs
      split at h
      · rename_i k hk
        obtain ⟨y, hy, he⟩ := Option.map_eq_some_iff.1 h
        simp only [Prod.mk.injEq] at he
        obtain ⟨rfl, rfl⟩ := he
        rw [hs] at rx
        obtain ⟨b, hb, rfl⟩ := rx.1.str_inv
        unfold idxA at hk
        split at hk
        · rename_i ik iv hiv
          split at hk
          · rename_i hbd
            injection hk with hk; subst hk
            rw [hiv] at ri
            have hie := ri.1.int_inv
            have hlt : iv.toNat < b.size := by
              have : b.size = b.data.toList.length := rfl
              omega
            have hget : b[iv.toNat]? = some y := by
              rw [ByteArray.getElem?_lt' b _ hlt]
              have : b.data.toList[iv.toNat]? = some (b[iv.toNat]) := by
                rw [List.getElem?_eq_getElem (by exact hlt)]; rfl
              rw [this] at hy
              exact hy
            exact OpOk.pure (v' := .int .u8 y.toNat) hS (by simp only [execOp, hop, Sem.run_bind, Instr.index, hie, asIntOf_int, Sem.run_pure, Result.andThen_ok, run_underlying hu, hb, if_pos hbd.1, hget]) .int trivial
          · cases hk
        · cases hk
      · cases h
    · cases h
  · cases hlow

theorem op_indexAddr {t : TypeId} {x i : Operand} (hop : o.op = .indexAddr t x i) (hS : Sim P K ρ S w) (hE : ERel K ρ S.next E a.tmps)
    (hlow : lowerOp P o = some ao) (h : aop G E S ao = some (v, S')) : OpOk P K ρ S w v S' ((execOp a.eval o).run P w) := by
  have hadd : ∀ (B k n : Nat), (Addr.add ⟨B, k, none⟩ n) = ⟨B, k + n, none⟩ := by
    intro B k n; unfold Addr.add; split
    · rename_i h0; rw [h0]; rfl
    · rfl
  have idx : ∀ {n : Nat} {ai : AX} {k : Nat}, opdA i = some ai → idxA n (ai.ev E) = some k → ∃ ik iv, a.eval i = .int ik iv ∧ (0 ≤ iv ∧ iv < (n : Int)) ∧ k = iv.toNat := by
    intro n ai k hi hk
    have ri := opd_rel hE hi
    unfold idxA at hk
    split at hk
    · rename_i ik iv hiv
      split at hk
      · rename_i hb
        injection hk with hk
        rw [hiv] at ri
        exact ⟨ik, iv, ri.1.int_inv, hb, hk.symm⟩
      · cases hk
    · cases hk
  simp only [lowerOp, hop] at hlow
  split at hlow
  · rename_i n e ax ai hu hx hi
    obtain ⟨s, hs, rfl⟩ := Option.map_eq_some_iff.1 hlow
    have rx := opd_rel hE hx
    have run : ∀ ad k, a.eval x = .pointer (some ad) → idxA n (ai.ev E) = some k → (execOp a.eval o).run P w = .ok (.value (.pointer (some (ad.add (k * s))))) w := by
      intro ad k had hk
      obtain ⟨ik, iv, hie, hb, rfl⟩ := idx hi hk
      simp only [execOp, hop, Sem.run_bind, Instr.indexAt, hie, asIntOf_int, Sem.run_pure, Result.andThen_ok, run_underlying hu, had, Instr.sureAddr, Sem.run_ite, if_pos hb, run_sizeOf' hs]
    simp only [aop] at h
    generalize hax : ax.ev E = y at h rx
    generalize hv : a.eval x = u at rx run
    obtain ⟨r1, r2⟩ := rx
    cases r1 <;> simp only [reduceCtorEq] at h
    · rename_i b off ofs hh
      obtain ⟨k, hk, he⟩ := Option.map_eq_some_iff.1 h
      simp only [Prod.mk.injEq] at he
      obtain ⟨rfl, rfl⟩ := he
      exact OpOk.pure hS (run _ k rfl hk) (by rw [hadd]; exact .ptr (by omega)) (by simpa [vb] using r2)
    · rename_i cells c ofs cs e fr hk hn hl hh
      split at h
      · rename_i k hki
        split at h
        · rename_i hle
          simp only [Option.some.injEq, Prod.mk.injEq] at h
          obtain ⟨rfl, rfl⟩ := h
          exact OpOk.pure hS (run _ k rfl hki) (by rw [hadd]; exact cptr_drop hk hn hl hh hle) (by simp [vb])
        · cases h
      · cases h
    · obtain ⟨k, hk, he⟩ := Option.map_eq_some_iff.1 h
      simp only [Prod.mk.injEq] at he
      obtain ⟨rfl, rfl⟩ := he
      exact OpOk.pure hS (run _ k rfl hk) (by rw [hadd]; exact .gptr) (by simp [vb])
  · rename_i e ax ai hu hx hi
    cases hs : sizeT P e with
    | none => simp [hs] at hlow
    | some s =>
      simp only [hs, Option.bind_some] at hlow
      split at hlow
      · cases hlow
      · rename_i hs0
        injection hlow with hlow; subst hlow
        have rx := opd_rel hE hx
        have run : ∀ ad k len cap, a.eval x = .slice (some ad) len cap → idxA len (ai.ev E) = some k → (execOp a.eval o).run P w = .ok (.value (.pointer (some (ad.add (k * s))))) w := by
          intro ad k len cap had hk
          obtain ⟨ik, iv, hie, hb, rfl⟩ := idx hi hk
          simp only [execOp, hop, Sem.run_bind, Instr.indexAt, hie, asIntOf_int, Sem.run_pure, Result.andThen_ok, run_underlying hu, had, Sem.run_ite, if_pos hb, run_sizeOf' hs]
        simp only [aop] at h
        generalize hax : ax.ev E = y at h rx
        generalize hv : a.eval x = u at rx run
        obtain ⟨r1, r2⟩ := rx
        have lt : ∀ {len k : Nat}, idxA len (ai.ev E) = some k → k < len := by
          intro len k hk
          obtain ⟨_, _, _, hb, rfl⟩ := idx hi hk
          omega
        cases r1 <;> simp only [reduceCtorEq] at h
        · rename_i b off len cap sz ofs cap' hc hl ho hz hsz
          split at h
          · rename_i hsz'
            subst hsz'
            obtain ⟨k, hk, he⟩ := Option.map_eq_some_iff.1 h
            simp only [Prod.mk.injEq] at he
            obtain ⟨rfl, rfl⟩ := he
            have := lt hk
            refine OpOk.pure hS (run _ k _ _ rfl hk) (by rw [hadd]; exact .ptr (by omega)) (by simpa [vb] using r2)
          · cases h
        · rename_i len ad cap hl
          split at h
          · rename_i k hk
            have := lt hk
            split at h
            · rename_i hle
              simp at hle
              omega
            · cases h
          · cases h
        · rename_i cells len cap c ofs cs e fr hc hk hn hl hh
          split at h
          · rename_i k hki
            split at h
            · rename_i hle
              simp only [Option.some.injEq, Prod.mk.injEq] at h
              obtain ⟨rfl, rfl⟩ := h
              exact OpOk.pure hS (run _ k _ _ rfl hki) (by rw [hadd]; exact cptr_take (cptr_drop hk hn hl hh (by omega)) _) (by simp [vb])
            · cases h
          · cases h
  · cases hlow
end Go.Ab
