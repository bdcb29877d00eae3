/-
  THE ENGINE, PART 8: the operations, one by one: slices made, fields, elements, numbers, conversions, interfaces.
-/
import Derived.Test.YtkaadpkokmhfjaaGreatDoorAb7
namespace Go.Ab
variable {P : Program} {K K' : Nat → Option Obj} {ρ ρ' : Nat → Loc} {S S' : AS} {w w' : World} {G : Nat → Option (List AV)} {E : Env} {a : Act} {o : Oper} {ao : AO} {v : AV}

/-- A new row of cells behind a slice. -/
theorem newRow_ok (hS : Sim P K ρ S w) (t : TypeId) (x : Array Value) {cs : List AV} (hr : VRels K ρ cs x.toList) (hb : vbs S.next cs) (wd : World) (hwd : wd.heap = w.heap ∧ rest w wd) :
    ∃ w' K' ρ', (newRow t x).run P wd = .ok ⟨w.heap.size, 0, none⟩ w' ∧ (ρ' S.next) = ⟨w.heap.size, 0, x.size⟩ ∧
      Sim P K' ρ' (S.alloc (.cells cs)) w' ∧ Ext K ρ S w K' ρ' (S.alloc (.cells cs)) w' := by
  have hlen : cs.length = x.size := by have := hr.1; simpa using this
  have := sim_alloc (w' := wd.alloc (.cells x t)) hS (.cells cs) (.cells x t) x.size (by simp [World.alloc, hwd.1]) (by
      obtain ⟨_, h1, h2, h3⟩ := hwd
      exact ⟨h1, h2, h3⟩) (by
    refine ⟨rfl, by simp [hlen], fun i _ => by simp, ?_, vbs_mono (Nat.le_succ _) _ hb⟩
    have hr' : VRels K (upR ρ S.next ⟨w.heap.size, 0, x.size⟩) cs x.toList := hr.congr hb fun b hb => upR_lt _ _ hb
    simpa [hlen, List.take_of_length_le] using hr')
  exact ⟨wd.alloc (.cells x t), K, _, by simp [newRow, hwd.1], by simp, this⟩

theorem VRel.sl_new {b off len cap sz blk o : Nat} {L : Loc} (h : ρ b = L) (hblk : blk = L.blk) (ho : o = L.off + off) (hl : len ≤ cap) (hz : 0 < sz) (hs : L.off + off + cap * sz ≤ L.size) :
    VRel K ρ (.sl b off len cap sz) (.slice (some ⟨blk, o, none⟩) len cap) := by
  subst h; subst hblk
  exact .sl (Nat.le_refl _) hl (.inl ho) hz hs

theorem repL_eq (zero : List AV) : ∀ n, repL n zero = (List.replicate n zero).flatten
  | 0 => rfl
  | n + 1 => by simp [repL, repL_eq zero n, List.replicate_succ]

theorem VRels.repl {zero : List AV} {zs : List Value} (h : VRels K ρ zero zs) : ∀ n, VRels K ρ (List.replicate n zero).flatten (List.replicate n zs).flatten
  | 0 => .nil
  | n + 1 => by simp only [List.replicate_succ, List.flatten_cons]; exact h.append (h.repl n)

theorem range_rep (zs : Array Value) (hz : 0 < zs.size) : ∀ n, ((Array.range (n * zs.size)).map (fun i => zs[i % zs.size]!)).toList = (List.replicate n zs.toList).flatten
  | 0 => by simp
  | n + 1 => by
    have ih := range_rep zs hz n
    simp only [Array.toList_map, Array.toList_range] at ih ⊢
    rw [List.replicate_succ', List.flatten_append, ← ih, show (n + 1) * zs.size = n * zs.size + zs.size by rw [Nat.add_mul]; omega, List.range_add, List.map_append]
    congr 1
    simp only [List.map_map, List.flatten_cons, List.flatten_nil, List.append_nil]
    apply List.ext_getElem?
    intro i
    simp only [List.getElem?_map]
    by_cases h : i < zs.size
    · simp [h, Nat.mod_eq_of_lt h, Nat.add_comm]
    · have : zs.toList[i]? = none := by simp; omega
      simp [this]; omega

theorem op_buildSlice {t : TypeId} {len : Nat} {parts : Array (Nat × Operand)} (hop : o.op = .buildSlice t len parts) (hS : Sim P K ρ S w) (hE : ERel K ρ S.next E a.tmps)
    (hlow : lowerOp P o = some ao) (h : aop G E S ao = some (v, S')) : OpOk P K ρ S w v S' ((execOp a.eval o).run P w) := by
  simp only [lowerOp, hop] at hlow
  split at hlow
  · rename_i e hu
    split at hlow
    · rename_i s z hs hz
      split at hlow
      · cases hlow
      · rename_i hcond
        obtain ⟨ps, hps, rfl⟩ := Option.map_eq_some_iff.1 hlow
        simp only [aop] at h
        obtain ⟨cs, hcs, he⟩ := Option.map_eq_some_iff.1 h
        simp only [Prod.mk.injEq] at he
        obtain ⟨rfl, rfl⟩ := he
        simp only [not_or, Nat.not_lt, Decidable.not_not] at hcond
        obtain ⟨hs0, hlen, hzl⟩ := hcond
        obtain ⟨zv, hzv, hr, hn⟩ := run_zeroValue' (K := K) (ρ := ρ) (w := w) hz
        obtain ⟨hzc, hznn⟩ := zero_cells hr hn
        have hzs : zv.cells.size = s := by have := hzc.1; simp at this; omega
        have hrep : VRels K ρ (repL len (cellsV z)) ((Array.range (len * s)).map (fun i => zv.cells[i % zv.cells.size]!)).toList := by
          rw [repL_eq, ← hzs, range_rep zv.cells (by omega) len]
          exact hzc.repl len
        have hrepn : noNames (repL len (cellsV z)) = true := by
          rw [repL_eq]
          refine noNames_iff.2 fun x hx => ?_
          simp only [List.mem_flatten, List.mem_replicate] at hx
          obtain ⟨l, ⟨_, rfl⟩, hx⟩ := hx
          exact noNames_iff.1 hznn x hx
        obtain ⟨cs', h1, h2, h3⟩ := fill_rel hE (fun i => some (i * s, s)) parts.toList hps hrep (vbs_of_noNames _ hrepn) hcs
        obtain ⟨w', K', ρ', k1, k2, k3, k4⟩ := newRow_ok hS e cs' h2 h3 w ⟨rfl, rfl, rfl, rfl⟩
        have hcl : cs.length = len * s := by
          have := h2.1
          have hf : ∀ {ps : List (Nat × Nat × AX)} {x y : List AV}, fillA E x ps = some y → y.length = x.length := by
            intro ps
            induction ps with
            | nil => intro x y hxy; simp only [fillA, Option.some.injEq] at hxy; rw [hxy]
            | cons p r ih =>
              intro x y hxy
              obtain ⟨off, sz, q⟩ := p
              simp only [fillA] at hxy
              split at hxy
              · split at hxy
                · rename_i hh
                  rw [ih hxy, putAt_length (by omega)]
                · cases hxy
              · cases hxy
          rw [hf hcs, repL_eq]
          simp [hzl]
        have hcs' : cs'.size = len * s := by have := h2.1; simp at this; omega
        have hrow : (Instr.buildSlice t len (parts.map fun (i, x) => (i, a.eval x))).run P w = .ok (.slice (some ⟨w.heap.size, 0, none⟩) len len) w' := by
          have hbig : ¬ (len * s > 2 ^ 24) := by simp; omega
          simp only [Instr.buildSlice, Sem.run_bind, run_underlying hu, Result.andThen_ok, run_sizeOf' hs, Sem.run_ite, if_neg hbig, Sem.run_pure]
          by_cases h0 : len * s = 0
          · rw [if_pos h0]
            have h1' : Instr.fill (fun i => some (i * s, s)) ((Array.range (len * s)).map fun x => (#[] : Array Value)[x % (#[] : Array Value).size]!) (parts.map fun (i, x) => (i, a.eval x)).toList = some cs' := by
              have e1 : ((Array.range (len * s)).map fun x => (#[] : Array Value)[x % (#[] : Array Value).size]!) = ((Array.range (len * s)).map fun i => zv.cells[i % zv.cells.size]!) := by rw [h0]; simp
              rw [e1]; simpa using h1
            rw [h1']
            simp [k1]
          · rw [if_neg h0]
            simp only [hzv, Result.andThen_ok]
            have h1' : Instr.fill (fun i => some (i * s, s)) ((Array.range (len * s)).map fun x => zv.cells[x % zv.cells.size]!) (parts.map fun (i, x) => (i, a.eval x)).toList = some cs' := by simpa using h1
            rw [h1']
            simp [k1]
        refine ⟨_, w', K', ρ', .inl ?_, VRel.sl_new k2 rfl rfl (Nat.le_refl _) (by omega) (by simp [hcs']), by simp [vb, AS.alloc], k3, k4⟩
        simp only [execOp, hop, Sem.run_bind, hrow, Result.andThen_ok, Sem.run_pure]
    · cases hlow
  · cases hlow

theorem op_nilCheck {x : Operand} (hop : o.op = .nilCheck x) (hS : Sim P K ρ S w) (hE : ERel K ρ S.next E a.tmps)
    (hlow : lowerOp P o = some ao) (h : aop G E S ao = some (v, S')) : OpOk P K ρ S w v S' ((execOp a.eval o).run P w) := by
  simp only [lowerOp, hop] at hlow
  obtain ⟨ax, hx, rfl⟩ := Option.map_eq_some_iff.1 hlow
  have rx := opd_rel hE hx
  simp only [aop] at h
  generalize hax : ax.ev E = y at h rx
  generalize hv : a.eval x = u at rx
  obtain ⟨r1, r2⟩ := rx
  cases r1 <;> simp only [Option.some.injEq, Prod.mk.injEq, reduceCtorEq] at h <;> obtain ⟨rfl, rfl⟩ := h
  · rename_i hh; exact OpOk.pure hS (by simp [execOp, hop, hv]) (.ptr hh) r2
  · rename_i hk hn hl hh; exact OpOk.pure hS (by simp [execOp, hop, hv]) (.cptr hk hn hl hh) r2
  · exact OpOk.pure hS (by simp [execOp, hop, hv]) .gptr r2
  · rename_i ha hb h1 h2; exact OpOk.pure hS (by simp [execOp, hop, hv]) (.fn ha hb h1 h2) r2
  · exact OpOk.pure hS (by simp [execOp, hop, hv]) .yl r2
  · rename_i hh; exact OpOk.pure hS (by simp [execOp, hop, hv]) (.iface hh) r2

/-! Numbers and texts -/
theorem aint_ok {op : BinOp} {k : IntKind} {x y : Int} {r : AV} (h : aint op k x y = some r) (t : TypeId) (X Y : Operand) : ∃ u, (do eqGuard op t X Y (.int k x) (.int k y); binOp op t (.int k x) (.int k y) : Sem Value).run P w = .ok u w ∧ VRel K ρ r u ∧ noName r = true := by
  have hg : eqGuard op t X Y (.int k x) (.int k y) = Pure.pure () := by cases op <;> rfl
  rw [hg]
  cases op <;> simp only [aint, bitsI, reduceCtorEq] at h
  · injection h with h; subst h; exact ⟨_, by simp [binOp, Op.intArith]; rfl, by rw [wrapI_eq]; exact .int, rfl⟩
  · injection h with h; subst h; exact ⟨_, by simp [binOp, Op.intArith]; rfl, by rw [wrapI_eq]; exact .int, rfl⟩
  · injection h with h; subst h; exact ⟨_, by simp [binOp, Op.intArith]; rfl, by rw [wrapI_eq]; exact .int, rfl⟩
  · split at h
    · cases h
    · rename_i h0; injection h with h; subst h; exact ⟨_, by simp [binOp, Op.intDiv, h0]; rfl, by rw [wrapI_eq]; exact .int, rfl⟩
  · split at h
    · cases h
    · rename_i h0; injection h with h; subst h; exact ⟨_, by simp [binOp, Op.intDiv, h0], .int, rfl⟩
  · injection h with h; subst h; exact ⟨.int k (k.wrap (BitVec.ofInt k.bits x &&& BitVec.ofInt k.bits y).toNat), by simp only [Sem.run_bind, Sem.run_pure, Result.andThen_ok, binOp_and, Op.intBits], by rw [wrapI_eq]; exact .int, rfl⟩
  · injection h with h; subst h; exact ⟨.int k (k.wrap (BitVec.ofInt k.bits x ||| BitVec.ofInt k.bits y).toNat), by simp only [Sem.run_bind, Sem.run_pure, Result.andThen_ok, binOp_or, Op.intBits], by rw [wrapI_eq]; exact .int, rfl⟩
  · injection h with h; subst h; exact ⟨.int k (k.wrap (BitVec.ofInt k.bits x ^^^ BitVec.ofInt k.bits y).toNat), by simp only [Sem.run_bind, Sem.run_pure, Result.andThen_ok, binOp_xor, Op.intBits], by rw [wrapI_eq]; exact .int, rfl⟩
  · injection h with h; subst h; exact ⟨.int k (k.wrap (BitVec.ofInt k.bits x &&& ~~~BitVec.ofInt k.bits y).toNat), by simp only [Sem.run_bind, Sem.run_pure, Result.andThen_ok, binOp_andNot, Op.intBits], by rw [wrapI_eq]; exact .int, rfl⟩
  · injection h with h; subst h; exact ⟨_, by simp [binOp, Op.intCmp], .bool, rfl⟩
  · injection h with h; subst h; exact ⟨_, by simp [binOp, Op.intCmp], .bool, rfl⟩
  · injection h with h; subst h; exact ⟨_, by simp [binOp, Op.intCmp], .bool, rfl⟩
  · injection h with h; subst h; exact ⟨_, by simp [binOp, Op.intCmp], .bool, rfl⟩
  · injection h with h; subst h; exact ⟨_, by simp [binOp, Op.intCmp], .bool, rfl⟩
  · injection h with h; subst h; exact ⟨_, by simp [binOp, Op.intCmp], .bool, rfl⟩

theorem ashift_ok {op : BinOp} {k k' : IntKind} {x y : Int} {r : AV} (ho : op = .shl ∨ op = .shr) (h : ashift op k x y = some r) (t : TypeId) (X Y : Operand) :
    ∃ u, (do eqGuard op t X Y (.int k x) (.int k' y); binOp op t (.int k x) (.int k' y) : Sem Value).run P w = .ok u w ∧ VRel K ρ r u ∧ noName r = true := by
  unfold ashift at h
  split at h
  · cases h
  · rename_i h0
    have hg : ∀ op, (op = .shl ∨ op = .shr) → eqGuard op t X Y (.int k x) (.int k' y) = Pure.pure () := by intro op h; rcases h with rfl | rfl <;> rfl
    rcases ho with rfl | rfl
    · injection h with h; subst h
      exact ⟨.int k (k.wrap (x * 2 ^ (min y.toNat k.bits))), by simp only [hg _ (.inl rfl), Sem.run_bind, Sem.run_pure, Result.andThen_ok, binOp_shl, Op.shift, if_neg h0], by rw [wrapI_eq]; exact .int, rfl⟩
    · injection h with h; subst h
      exact ⟨.int k (x.fdiv (2 ^ (min y.toNat k.bits))), by simp only [hg _ (.inr rfl), Sem.run_bind, Sem.run_pure, Result.andThen_ok, binOp_shr, Op.shift, if_neg h0], .int, rfl⟩

theorem toList_data (s : ByteArray) : s.toList = s.data.toList := ByteArray.toList_eq s

theorem astr_ok {op : BinOp} {x y : ByteArray} {r : AV} (h : astr op x.data.toList y.data.toList = some r) (t : TypeId) (X Y : Operand) :
    ∃ u, (do eqGuard op t X Y (.string x) (.string y); binOp op t (.string x) (.string y) : Sem Value).run P w = .ok u w ∧ VRel K ρ r u ∧ noName r = true := by
  have hg : eqGuard op t X Y (.string x) (.string y) = Pure.pure () := by cases op <;> rfl
  rw [hg]
  cases op <;> simp only [astr, reduceCtorEq] at h
  · split at h
    · rename_i hle
      injection h with h; subst h
      have hs : ¬ (((x.size + y.size : Nat) : Int) > IntKind.i64.max) := by
        have e1 : x.size = x.data.toList.length := rfl
        have e2 : y.size = y.data.toList.length := rfl
        have : IntKind.i64.max = 9223372036854775807 := by decide
        rw [this, e1, e2]
        unfold maxStr at hle
        omega
      exact ⟨.string (x ++ y), by simp only [binOp, Sem.run_bind, Sem.run_pure, Result.andThen_ok, Op.stringOp, if_neg hs], .str (by simp [ByteArray.data_append]), rfl⟩
    · cases h
  · injection h with h; subst h; exact ⟨_, by simp [binOp, Op.stringOp, toList_data], .bool, rfl⟩
  · injection h with h; subst h; exact ⟨_, by simp [binOp, Op.stringOp, toList_data], .bool, rfl⟩
  · injection h with h; subst h; exact ⟨_, by simp [binOp, Op.stringOp, toList_data], .bool, rfl⟩
  · injection h with h; subst h; exact ⟨_, by simp [binOp, Op.stringOp, toList_data], .bool, rfl⟩
  · injection h with h; subst h; exact ⟨_, by simp [binOp, Op.stringOp, toList_data], .bool, rfl⟩
  · injection h with h; subst h; exact ⟨_, by simp [binOp, Op.stringOp, toList_data], .bool, rfl⟩

theorem abin_ok {op : BinOp} {x y r : AV} {X Y : Operand} {u v : Value} (hx : VRel K ρ x u) (hy : VRel K ρ y v) (h : abin op x y = some r) (t : TypeId) :
    ∃ z, (do eqGuard op t X Y u v; binOp op t u v : Sem Value).run P w = .ok z w ∧ VRel K ρ r z ∧ noName r = true := by
  unfold abin at h
  split at h
  · rename_i k n k' m
    rw [hx.int_inv, hy.int_inv]
    split at h
    · exact ashift_ok (.inl rfl) h t X Y
    · exact ashift_ok (.inr rfl) h t X Y
    · split at h
      · rename_i hk; subst hk; exact aint_ok h t X Y
      · cases h
  · obtain ⟨b, rfl, rfl⟩ := hx.str_inv
    obtain ⟨c, rfl, rfl⟩ := hy.str_inv
    exact astr_ok h t X Y
  · cases h

theorem aun_ok {op : UnOp} {x r : AV} {u : Value} (hx : VRel K ρ x u) (h : aun op x = some r) : ∃ z, (Op.unary op u).run P w = .ok z w ∧ VRel K ρ r z ∧ noName r = true := by
  unfold aun at h
  split at h
  · rename_i k n
    rw [hx.int_inv]; injection h with h; subst h; exact ⟨.int k (k.wrap (0 - n)), rfl, by rw [wrapI_eq]; exact .int, rfl⟩
  · rename_i k n
    rw [hx.int_inv]; simp only [bitsI] at h; injection h with h; subst h
    exact ⟨.int k (k.wrap (BitVec.ofInt k.bits (if k.signed then -1 else k.max) ^^^ BitVec.ofInt k.bits n).toNat), rfl, by rw [wrapI_eq]; exact .int, rfl⟩
  · rename_i b
    rw [hx.bool_inv]; injection h with h; subst h; exact ⟨.bool (!b), rfl, .bool, rfl⟩
  · cases h

theorem op_unOp {op : UnOp} {t : TypeId} {x : Operand} (hop : o.op = .unOp op t x) (hS : Sim P K ρ S w) (hE : ERel K ρ S.next E a.tmps)
    (hlow : lowerOp P o = some ao) (h : aop G E S ao = some (v, S')) : OpOk P K ρ S w v S' ((execOp a.eval o).run P w) := by
  simp only [lowerOp, hop] at hlow
  obtain ⟨ax, hx, rfl⟩ := Option.map_eq_some_iff.1 hlow
  simp only [aop] at h
  obtain ⟨y, hy, he⟩ := Option.map_eq_some_iff.1 h
  simp only [Prod.mk.injEq] at he
  obtain ⟨rfl, rfl⟩ := he
  obtain ⟨z, h1, h2, h3⟩ := aun_ok (P := P) (w := w) (opd_rel hE hx).1 hy
  exact OpOk.pure hS (by simp only [execOp, hop, Sem.run_bind, h1, Result.andThen_ok, Sem.run_pure]) h2 (vb_of_noName _ h3)

theorem op_field {t : TypeId} {x : Operand} {f : Nat} (hop : o.op = .field t x f) (hS : Sim P K ρ S w) (hE : ERel K ρ S.next E a.tmps)
    (hlow : lowerOp P o = some ao) (h : aop G E S ao = some (v, S')) : OpOk P K ρ S w v S' ((execOp a.eval o).run P w) := by
  simp only [lowerOp, hop] at hlow
  split at hlow
  · rename_i fs hu
    split at hlow
    · rename_i fd hf
      split at hlow
      · rename_i g s ax hg hs hx
        injection hlow with hlow; subst hlow
        have rx := opd_rel hE hx
        simp only [aop] at h
        split at h
        · rename_i cs hcs
          obtain ⟨y, hy, he⟩ := Option.map_eq_some_iff.1 h
          simp only [Prod.mk.injEq] at he
          obtain ⟨rfl, rfl⟩ := he
          rw [hcs] at rx
          obtain ⟨vs, hv, hr⟩ := rx.1.agg_inv
          obtain ⟨z, h1, h2, h3⟩ := part_rel (w := w) hg hs hr (by simpa [vb] using rx.2) hy
          exact OpOk.pure hS (by simp only [execOp, hop, Sem.run_bind, Instr.field, run_underlying hu, Result.andThen_ok, hf, hv, asAgg, Sem.run_pure, h1]) h2 h3
        · cases h
      · cases hlow
    · cases hlow
  · cases hlow

theorem cptr_drop {cells : List AV} {c o : Nat} {cs : Array Value} {e : TypeId} {fr : Nat × Nat} (hk : K c = some (.cells cs e fr)) (hn : noNames cells = true) (hl : o + cells.length ≤ cs.size)
    (hh : ∀ (i : Nat) (a : AV) (v : Value), cells[i]? = some a → cs[o + i]? = some v → ∀ ρ', VRel K ρ' a v) {d : Nat} (hd : d ≤ cells.length) :
    VRel K ρ (.cptr (cells.drop d)) (.pointer (some ⟨c, o + d, none⟩)) :=
  .cptr hk (noNames_iff.2 fun z hz => noNames_iff.1 hn z (List.drop_subset _ _ hz)) (by simp; omega) fun i p q hp hq ρ' => hh (d + i) p q (by rw [List.getElem?_drop] at hp; exact hp) (by rw [Nat.add_assoc] at hq; exact hq) ρ'

theorem cptr_take {cells : List AV} {v : Value} (h : VRel K ρ (.cptr cells) v) (n : Nat) : VRel K ρ (.cptr (cells.take n)) v := by
  cases h with
  | cptr hk hn hl hh =>
    exact .cptr hk (noNames_iff.2 fun z hz => noNames_iff.1 hn z (List.take_subset _ _ hz)) (by simp; omega) fun i p q hp hq ρ' => by
      rw [List.getElem?_take] at hp
      split at hp
      · exact hh i p q hp hq ρ'
      · cases hp

theorem op_fieldAddr {t : TypeId} {x : Operand} {f : Nat} (hop : o.op = .fieldAddr t x f) (hS : Sim P K ρ S w) (hE : ERel K ρ S.next E a.tmps)
    (hlow : lowerOp P o = some ao) (h : aop G E S ao = some (v, S')) : OpOk P K ρ S w v S' ((execOp a.eval o).run P w) := by
  simp only [lowerOp, hop] at hlow
  split at hlow
  · rename_i fs hu
    split at hlow
    · rename_i fd hf
      split at hlow
      · rename_i s ax hs hx
        split at hlow
        · cases hlow
        · rename_i hs0
          injection hlow with hlow; subst hlow
          have rx := opd_rel hE hx
          have run : ∀ ad, a.eval x = .pointer (some ad) → (execOp a.eval o).run P w = .ok (.value (.pointer (some (ad.add fd.offset)))) w := by
            intro ad had
            simp only [execOp, hop, Sem.run_bind, Instr.fieldAt, run_underlying hu, Result.andThen_ok, hf, had, Instr.sureAddr, Sem.run_pure, fieldPlace, run_sizeOf' hs, Sem.run_ite, if_neg hs0]
          have hadd : ∀ (B : Nat) (k : Nat), (Addr.add ⟨B, k, none⟩ fd.offset) = ⟨B, k + fd.offset, none⟩ := by
            intro B k; unfold Addr.add; split
            · rename_i h0; rw [h0]; rfl
            · rfl
          simp only [aop] at h
          generalize hax : ax.ev E = y at h rx
          generalize hv : a.eval x = u at rx run
          obtain ⟨r1, r2⟩ := rx
          cases r1 <;> simp only [Option.some.injEq, Prod.mk.injEq, reduceCtorEq] at h
          · rename_i b off ofs hh
            obtain ⟨rfl, rfl⟩ := h
            exact OpOk.pure hS (run _ rfl) (by rw [hadd]; exact .ptr (by omega)) (by simpa [vb] using r2)
          · rename_i cells c ofs cs e fr hk hn hl hh
            split at h
            · rename_i hle
              simp only [Option.some.injEq, Prod.mk.injEq] at h
              obtain ⟨rfl, rfl⟩ := h
              refine OpOk.pure hS (run _ rfl) ?_ (by simp [vb])
              rw [hadd]
              exact cptr_drop hk hn hl hh hle
            · cases h
          · obtain ⟨rfl, rfl⟩ := h
            exact OpOk.pure hS (run _ rfl) (by rw [hadd]; exact .gptr) (by simp [vb])
      · cases hlow
    · cases hlow
  · cases hlow
end Go.Ab
