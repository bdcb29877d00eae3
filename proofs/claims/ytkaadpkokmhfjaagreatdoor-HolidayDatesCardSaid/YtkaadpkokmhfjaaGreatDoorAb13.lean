/-
  THE ENGINE, PART 13: conversions and built-in functions.
-/
import Derived.Test.YtkaadpkokmhfjaaGreatDoorAb12
namespace Go.Ab
variable {P : Program} {K K' : Nat → Option Obj} {ρ ρ' : Nat → Loc} {S S' : AS} {w w' : World} {G : Nat → Option (List AV)} {E : Env} {a : Act} {o : Oper} {ao : AO} {v : AV}

/-- The cells of the first n elements of a slice or a text. -/
theorem firstCells_ok (hS : Sim P K ρ S w) {x : AV} {u : Value} (hx : VRel K ρ x u) {sz n : Nat} {cs : List AV} (h : cellsOfSl S.heap x sz n = some cs) :
    ∃ vs : Array Value, (Builtin.firstCells sz n u).run P w = .ok vs w ∧ VRels K ρ cs vs.toList ∧ vbs S.next cs ∧ cs.length = n * sz ∧
      (∀ ad len cap, u = .slice (some ad) len cap → (loadCells ad (n * sz)).run P w = .ok vs w) := by
  have rows : ∀ (blk o : Nat) (cells : List AV) (arr : Array Value) (e : TypeId) (fr : Nat × Nat) (len cap : Nat), w.heap[blk]? = some (.cells arr e fr) →
      VRels K ρ cells ((arr.toList.drop o).take cells.length) → vbs S.next cells → n * sz ≤ cells.length →
      ∃ vs : Array Value, (Builtin.firstCells sz n (.slice (some ⟨blk, o, none⟩) len cap)).run P w = .ok vs w ∧ VRels K ρ (cells.take (n * sz)) vs.toList ∧ vbs S.next (cells.take (n * sz)) ∧ (cells.take (n * sz)).length = n * sz ∧
        (loadCells ⟨blk, o, none⟩ (n * sz)).run P w = .ok vs w := by
    intro blk o cells arr e fr len cap hw hr hb hle
    have hl : (((arr.toList.drop o).take cells.length).take (n * sz)).length = n * sz := by
      have := hr.1; rw [List.length_take, ← this]; omega
    have hload := run_loadCells_list (P := P) (w := w) ⟨blk, o, none⟩ (((arr.toList.drop o).take cells.length).take (n * sz)) (by
      intro j z hz
      rw [addr_add, cell_of_row w blk (o + j) arr e fr hw]
      rw [List.getElem?_take] at hz
      split at hz
      · rw [List.getElem?_take] at hz
        split at hz
        · rw [List.getElem?_drop] at hz; simpa using hz
        · cases hz
      · cases hz)
    rw [hl] at hload
    refine ⟨_, by simp only [Builtin.firstCells, hload], by simpa using hr.take (n * sz), ?_, by simp; omega, hload⟩
    exact vbs_iff.2 fun z hz => vbs_iff.1 hb z (List.take_subset _ _ hz)
  have none0 : ∀ (base : Option Addr) (len cap : Nat), n = 0 → cs = [] → u = .slice base len cap →
      ∃ vs : Array Value, (Builtin.firstCells sz n u).run P w = .ok vs w ∧ VRels K ρ cs vs.toList ∧ vbs S.next cs ∧ cs.length = n * sz ∧
      (∀ ad len cap, u = .slice (some ad) len cap → (loadCells ad (n * sz)).run P w = .ok vs w) := by
    rintro base len cap rfl rfl rfl
    refine ⟨#[], ?_, .nil, trivial, by simp, ?_⟩
    · cases base <;> simp [Builtin.firstCells, loadCells, loadCellsFrom]
    · intros; simp [loadCells, loadCellsFrom]
  cases hx <;> simp only [cellsOfSl, reduceCtorEq] at h
  · -- a text
    rename_i b l hb
    split at h
    · rename_i hc
      injection h with h; subst h
      obtain ⟨hn, rfl⟩ := hc
      subst hb
      refine ⟨((b.extract 0 n).data.map fun c => Value.int .u8 c.toNat), by simp [Builtin.firstCells], ?_, ?_, by simp only [List.length_map, List.length_take, Nat.mul_one]; omega, fun ad len cap h => by cases h⟩
      · refine ⟨by simp [ByteArray.data_extract], fun i x z hx hz => ?_⟩
        simp only [ByteArray.data_extract, Array.toList_map, List.getElem?_map] at hx hz
        have e : (b.data.extract 0 n).toList = b.data.toList.take n := by rw [Array.toList_extract]; simp [List.extract]
        rw [e] at hz
        cases hq : (b.data.toList.take n)[i]? with
        | none => rw [hq] at hx; simp at hx
        | some c =>
          rw [hq] at hx hz
          simp only [Option.map_some, Option.some.injEq] at hx hz
          subst hx; subst hz
          exact .int
      · refine vbs_iff.2 fun z hz => ?_
        simp only [List.mem_map] at hz
        obtain ⟨c, _, rfl⟩ := hz
        trivial
    · cases h
  · -- a live block
    rename_i b off len cap sz' ofs cap' hc hl hz ho hs
    split at h
    · rename_i c hlk
      split at h
      · rename_i hcond
        obtain ⟨hn, rfl, hle⟩ := hcond
        injection h with h; subst h
        obtain ⟨arr, e, fr, g1, g2, g3, g4, g5, g6⟩ := cells_of_live hS hlk
        by_cases h0 : n = 0
        · exact none0 _ _ _ h0 (by subst h0; simp) rfl
        · have hofs : ofs = (ρ b).off + off := by
            rcases ho with ho | ho
            · exact ho
            · omega
          subst hofs
          obtain ⟨vs, r1, r2, r3, r4, r5⟩ := rows (ρ b).blk ((ρ b).off + off) (c.drop off) arr e fr len cap' g1 (by
            have := g5.drop off
            have e2 : ((arr.toList.drop (ρ b).off).take c.length).drop off = (arr.toList.drop ((ρ b).off + off)).take (c.drop off).length := by
              rw [List.drop_take, List.drop_drop]; simp
            rw [e2] at this
            exact this) (vbs_iff.2 fun z hz => vbs_iff.1 g6 z (List.drop_subset _ _ hz)) (by simp; omega)
          exact ⟨vs, r1, r2, r3, r4, fun ad len cap h => by cases h; exact r5⟩
      · cases h
    · cases h
  · split at h
    · rename_i h0; injection h with h; exact none0 _ _ _ h0 h.symm rfl
    · cases h
  · split at h
    · rename_i h0; injection h with h; exact none0 _ _ _ h0 h.symm rfl
    · cases h
  · -- an empty list
    rename_i len ad cap hl
    split at h
    · rename_i hc
      injection h with h
      have h0 : n * sz = 0 := by have := hc.2; simp at this; simpa using this
      refine ⟨#[], ?_, by rw [← h]; simpa using VRels.nil, by rw [← h]; simp [vbs], by rw [← h, h0]; simp, ?_⟩
      · simp [Builtin.firstCells, h0, loadCells, loadCellsFrom]
      · intros; rw [h0]; simp [loadCells, loadCellsFrom]
    · cases h
  · -- a list
    rename_i cells len cap c ofs arr e fr hc hk hn hl hh
    split at h
    · rename_i hcond
      injection h with h; subst h
      obtain ⟨vs, r1, r2, r3, r4, r5⟩ := rows c ofs cells arr e fr len cap (hS.kept _ _ hk) (cptr_rows hl hh) (vbs_of_noNames _ hn) hcond.2
      exact ⟨vs, r1, r2, r3, r4, fun ad len cap h => by cases h; exact r5⟩
    · cases h

theorem lenOf_ok {x : AV} {u : Value} (hx : VRel K ρ x u) {n : Nat} {sz m : Nat} {cs : List AV} (h : lenA S.heap x = some n) (hc : cellsOfSl S.heap x sz m = some cs) : (Builtin.lenOf u).run P w = .ok n w := by
  cases hx <;> simp only [lenA, reduceCtorEq, Option.some.injEq] at h <;> (try (subst h; rfl))
  · rename_i b l hb; subst hb; subst h; rfl
  · simp [cellsOfSl] at hc
  · simp [cellsOfSl] at hc

theorem bytes_ok {cs : List AV} {vs : List Value} {s : List UInt8} (h : VRels K ρ cs vs) (hb : bytesOf cs = some s) : ∃ ns : List Int, vs = ns.map (Value.int .u8) ∧ s = ns.map fun n => UInt8.ofNat n.toNat := by
  induction cs generalizing vs s with
  | nil => have := h.nil_inv; subst this; simp only [bytesOf, Option.some.injEq] at hb; subst hb; exact ⟨[], rfl, rfl⟩
  | cons c r ih =>
    obtain ⟨v, vr, rfl, h1, h2⟩ := h.cons_inv
    unfold bytesOf at hb
    split at hb
    · cases ‹_ :: _ = []›
    · rename_i n r' he
      injection he with he1 he2; subst he1; subst he2
      obtain ⟨s', hs', rfl⟩ := Option.map_eq_some_iff.1 hb
      obtain ⟨ns, rfl, rfl⟩ := ih h2 hs'
      exact ⟨n :: ns, by rw [h1.int_inv]; rfl, rfl⟩
    · cases hb

theorem push_all : ∀ (ns : List Int) (b : ByteArray), (ns.foldl (fun (r : ByteArray) n => r.push (UInt8.ofNat n.toNat)) b).data.toList = b.data.toList ++ ns.map fun n => UInt8.ofNat n.toNat
  | [], b => by simp
  | n :: ns, b => by simp only [List.foldl_cons]; rw [push_all ns]; simp [ByteArray.data_push]

theorem op_convert {t t' : TypeId} {x : Operand} (hop : o.op = .convert t t' x) (hS : Sim P K ρ S w) (hE : ERel K ρ S.next E a.tmps)
    (hlow : lowerOp P o = some ao) (h : aop G E S ao = some (v, S')) : OpOk P K ρ S w v S' ((execOp a.eval o).run P w) := by
  have hexec : ∀ r w', (convert t t' (a.eval x)).run P w = .ok r w' → (execOp a.eval o).run P w = .ok (.value r) w' := by
    intro r w' hr
    simp only [execOp, hop, Sem.run_bind, hr, Result.andThen_ok, Sem.run_pure]
  simp only [lowerOp, hop] at hlow
  split at hlow
  · rename_i k0 k ax hu hu' hx
    injection hlow with hlow; subst hlow
    have rx := opd_rel hE hx
    simp only [aop] at h
    split at h <;> try (first | contradiction | (cases h; done))
    · rename_i k1 k2 n e1 e2
      injection e1 with e1; subst e1
      simp only [Option.some.injEq, Prod.mk.injEq] at h
      obtain ⟨rfl, rfl⟩ := h
      rw [e2] at rx
      refine OpOk.pure hS (hexec (.int k (k.wrap n)) w ?_) (by rw [wrapI_eq]; exact .int) trivial
      simp only [convert, Sem.run_bind, run_underlying hu, run_underlying hu', Result.andThen_ok, rx.1.int_inv, Conv.intToInt, Sem.run_pure]
  · rename_i ax hu hu' hx
    injection hlow with hlow; subst hlow
    have rx := opd_rel hE hx
    simp only [aop] at h
    split at h <;> try (first | contradiction | (cases h; done))
    · rename_i s _ e2
      simp only [Option.some.injEq, Prod.mk.injEq] at h
      obtain ⟨rfl, rfl⟩ := h
      rw [e2] at rx
      obtain ⟨b, hb, rfl⟩ := rx.1.str_inv
      refine OpOk.pure hS (hexec (.string b) w ?_) (.str rfl) trivial
      simp only [convert, Sem.run_bind, run_underlying hu, run_underlying hu', Result.andThen_ok, hb, Sem.run_pure]
  · rename_i e ax hu hu' hx
    split at hlow
    · rename_i hue
      injection hlow with hlow; subst hlow
      have rx := opd_rel hE hx
      simp only [aop] at h
      split at h <;> try (first | contradiction | (cases h; done))
      · rename_i s _ e2
        split at h
        · rename_i hle
          simp only [Option.some.injEq, Prod.mk.injEq] at h
          obtain ⟨rfl, rfl⟩ := h
          rw [e2] at rx
          obtain ⟨b, hb, rfl⟩ := rx.1.str_inv
          have hbs : b.data.toList.length = b.size := rfl
          have hcap : b.size ≤ grownCap w b.size 0 e := by unfold grownCap Question.cut; exact Nat.le_add_right _ _
          have hcells : VRels K ρ (b.data.toList.map fun c => AV.int .u8 c.toNat) (b.data.map fun c => Value.int .u8 c.toNat).toList := by
            refine ⟨by simp, fun i y z hy hz => ?_⟩
            simp only [Array.toList_map, List.getElem?_map] at hy hz
            cases hq : b.data.toList[i]? with
            | none => rw [hq] at hy; simp at hy
            | some c => rw [hq] at hy hz; simp only [Option.map_some, Option.some.injEq] at hy hz; subst hy; subst hz; exact .int
          have hvb : vbs S.next (b.data.toList.map fun c => AV.int .u8 c.toNat) := by
            refine vbs_iff.2 fun z hz => ?_
            simp only [List.mem_map] at hz
            obtain ⟨c, _, rfl⟩ := hz
            trivial
          obtain ⟨X, hX⟩ : ∃ X : Array Value, X = (b.data.map fun c => Value.int .u8 c.toNat) ++ Array.replicate (grownCap w b.size 0 e - b.size) (.int .u8 0) := ⟨_, rfl⟩
          have hXs : X.size = grownCap w b.size 0 e := by
            have : b.data.size = b.size := rfl
            rw [hX]; simp; omega
          obtain ⟨w2, hw2⟩ : ∃ w2 : World, w2 = (w.drew.alloc (.cells X e)).freeze { block := w.heap.size, off := X.size } 1 := ⟨_, rfl⟩
          have hheap : w2.heap = w.heap.push (.cells X e (X.size, X.size + 1)) := by
            rw [hw2]
            simp only [World.freeze, World.alloc, World.drew]
            apply Array.ext_getElem?
            intro i
            simp only [Nat.one_ne_zero, if_false, Array.getElem?_modify, Array.getElem?_push]
            by_cases h1 : i = w.heap.size
            · subst h1; simp
            · rw [if_neg (fun e => h1 e.symm), if_neg h1, if_neg h1]
          have hrest : rest w w2 := by rw [hw2]; exact ⟨rfl, rfl, rfl⟩
          have := sim_alloc (w' := w2) hS (.cells (b.data.toList.map fun c => AV.int .u8 c.toNat)) (.cells X e (X.size, X.size + 1)) X.size hheap hrest (by
            refine ⟨rfl, by simp [hXs]; omega, fun i hi => by omega, ?_, vbs_mono (Nat.le_succ _) _ hvb⟩
            have e2 : ((X.toList.drop 0).take (b.data.toList.map fun c => AV.int .u8 c.toNat).length) = (b.data.map fun c => Value.int .u8 c.toNat).toList := by
              rw [hX]; simp
            rw [e2]
            exact hcells.congr hvb fun c hc => upR_lt _ _ hc)
          refine ⟨.slice (some ⟨w.heap.size, 0, none⟩) b.size (grownCap w b.size 0 e), w2, K, _, .inl (hexec _ _ ?_), ?_, by simp [vb, AS.alloc], this.1, this.2⟩
          · have hsh : (w.drew.alloc (.cells X e)).shape? w.heap.size = some (e, X.size) := by
              have : (w.drew.alloc (.cells X e)).heap[w.heap.size]? = some (.cells X e) := heap_alloc_new w.drew _
              simp only [World.shape?, this]
            simp only [convert, Sem.run_bind, run_underlying hu, run_underlying hu', Result.andThen_ok, hb, run_underlying hue, Conv.stringToBytes, run_choose, Question.forced, Bool.false_eq_true, if_false]
            have hnr : (newRow e ((b.data.map fun c => Value.int .u8 c.toNat) ++ Array.replicate ((Question.appendCap b.size 0 e).cut (w.tape w.drawn (.appendCap b.size 0 e)) - b.size) (.int .u8 0))).run P { w with drawn := w.drawn + 1 } = .ok ⟨w.heap.size, 0, none⟩ (w.drew.alloc (.cells X e)) := by
              rw [hX]; simp [newRow, grownCap]
            rw [hnr]
            simp only [Result.andThen_ok, markStringish, Sem.run_bind, run_shape, hsh, run_freeze, Sem.run_pure, hw2]
            rfl
          · have e1 : (upR ρ S.next ⟨w.heap.size, 0, X.size⟩ S.next) = ⟨w.heap.size, 0, X.size⟩ := by simp
            have r := VRel.sl (K := K) (ρ := upR ρ S.next ⟨w.heap.size, 0, X.size⟩) (b := S.next) (off := 0) (len := b.size) (cap := b.size) (sz := 1) (o := 0) (cap' := grownCap w b.size 0 e) hcap hcap (.inl (by rw [e1])) (by omega) (by rw [e1]; simp [hXs])
            rw [e1] at r
            exact r
        · cases h
    · cases hlow
  · rename_i e ax hu hu' hx
    split at hlow
    · rename_i hue
      injection hlow with hlow; subst hlow
      have rx := opd_rel hE hx
      simp only [aop] at h
      split at h
      · cases h
      rename_i hstr
      split at h
      · rename_i n hn
        split at h
        · rename_i cs hcs
          obtain ⟨vs, f1, f2, f3, f4, f5⟩ := firstCells_ok hS rx.1 hcs
          have hl := lenOf_ok (P := P) (w := w) rx.1 hn hcs
          have fin : ∀ s, bytesOf cs = some s → (∀ b, a.eval x ≠ .string b) → OpOk P K ρ S w (.str s) S ((execOp a.eval o).run P w) := by
            intro s hs hnb
            obtain ⟨ns, hns, hse⟩ := bytes_ok f2 hs
            generalize hux : a.eval x = u at *
            have hsl : ∃ base cap, u = .slice base n cap := by
              obtain ⟨r1, _⟩ := rx
              generalize hz : ax.ev E = z at *
              cases r1 <;> simp only [lenA, reduceCtorEq, Option.some.injEq] at hn <;> first
                | exact absurd rfl (hnb _)
                | (subst hn; exact ⟨_, _, rfl⟩)
                | (simp [cellsOfSl] at hcs)
            obtain ⟨base, cap, rfl⟩ := hsl
            cases base with
            | none =>
              have : vs = #[] := by simp [Builtin.firstCells] at f1; exact f1
              subst this
              have h0 : ns = [] := by simpa using hns.symm
              subst h0
              subst hse
              refine OpOk.pure hS (hexec (.string .empty) w ?_) (.str rfl) trivial
              simp only [convert, Sem.run_bind, run_underlying hu, run_underlying hu', Result.andThen_ok, run_underlying hue, Conv.bytesToString, Sem.run_pure]
            | some ad =>
              have hld := f5 ad n cap rfl
              have hvs : vs = (ns.map (Value.int .u8)).toArray := by rw [← hns]
              rw [Nat.mul_one, hvs] at hld
              refine OpOk.pure hS (hexec (.string (ns.foldl (fun (r : ByteArray) n => r.push (UInt8.ofNat n.toNat)) ByteArray.empty)) w ?_) (.str (by rw [push_all, hse]; rfl)) trivial
              · rw [run_convert_bytes_string w t t' e (some ad) n cap hu hue hu', run_bytesToString w ad n cap ns hld]
          obtain ⟨s, hs, he⟩ := Option.map_eq_some_iff.1 h
          simp only [Prod.mk.injEq] at he
          obtain ⟨rfl, rfl⟩ := he
          refine fin s hs fun b hb => hstr ?_
          have := rx.1
          rw [hb] at this
          generalize ax.ev E = q at this hn
          cases this
          · rfl
          · simp [lenA] at hn
        · cases h
      · cases h
    · cases hlow
  · cases hlow
end Go.Ab
