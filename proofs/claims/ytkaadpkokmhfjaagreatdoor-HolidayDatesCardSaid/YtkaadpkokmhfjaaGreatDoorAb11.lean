/-
  THE ENGINE, PART 11: the operations, one by one: maps, slices, conversions, built-in functions.
-/
import Derived.Test.YtkaadpkokmhfjaaGreatDoorAb10
import Derived.Laws.BytesString
namespace Go.Ab
variable {P : Program} {K K' : Nat → Option Obj} {ρ ρ' : Nat → Loc} {S S' : AS} {w w' : World} {G : Nat → Option (List AV)} {E : Env} {a : Act} {o : Oper} {ao : AO} {v : AV}

/-! Maps -/
theorem key_kind {kt : TypeId} {str : Bool} {x : AV} {u : Value} (hb : basicKey P kt = some str) (hx : VRel K ρ x u) (hk : keyOk str x = true) :
    (∃ kd k n, P.underlying kt = some (.int kd) ∧ x = .int k n ∧ u = .int k n ∧ str = false) ∨ (∃ b, P.underlying kt = some .string ∧ x = .str b.data.toList ∧ u = .string b ∧ str = true) := by
  cases x <;> simp only [keyOk, reduceCtorEq] at hk
  · rename_i k n
    unfold basicKey at hb
    split at hb
    · rename_i kd hu; exact .inl ⟨kd, k, n, hu, rfl, hx.int_inv, by simpa using hk⟩
    · injection hb with hb; subst hb; simp at hk
    · cases hb
  · obtain ⟨b, rfl, rfl⟩ := hx.str_inv
    unfold basicKey at hb
    split at hb
    · injection hb with hb; subst hb; simp at hk
    · rename_i hu; exact .inr ⟨b, hu, rfl, rfl, by simpa using hk⟩
    · cases hb

theorem run_checkKey_basic {kt : TypeId} {d : TypeDesc} (hu : P.underlying kt = some d) (hd : (∃ k, d = .int k) ∨ d = .string) (empty : Bool) (n : Nat) (u : Value) :
    (Instr.checkKey empty (n + 1) kt u).run P w = .ok () w := by
  rcases hd with ⟨k, rfl⟩ | rfl
  · simp only [Instr.checkKey, Sem.run_bind, run_underlying hu, Result.andThen_ok]; cases u <;> rfl
  · simp only [Instr.checkKey, Sem.run_bind, run_underlying hu, Result.andThen_ok]; cases u <;> rfl

theorem sameNow_of {x y : AV} {u v : Value} {r : Bool} {d : TypeDesc} (hx : VRel K ρ x u) (hy : VRel K ρ y v) (h : eqS x y = some r)
    (hd : (∃ kd k n, d = .int kd ∧ x = .int k n) ∨ (∃ s, d = .string ∧ x = .str s)) : Instr.sameNow d u v = some r := by
  rcases hd with ⟨kd, k, n, rfl, rfl⟩ | ⟨s, rfl, rfl⟩
  · cases y <;> simp only [eqS, reduceCtorEq] at h
    rw [hx.int_inv, hy.int_inv]
    simp only [Instr.sameNow]
    exact h
  · cases y <;> simp only [eqS, reduceCtorEq] at h
    obtain ⟨p, rfl, rfl⟩ := hx.str_inv
    obtain ⟨q, rfl, rfl⟩ := hy.str_inv
    injection h with h; subst h
    simp only [Instr.sameNow]
    rw [beq_toListBytes, toList_data, toList_data]

/-- Entries of a map, related. -/
def MRel (K : Nat → Option Obj) (ρ : Nat → Loc) (es : List (AV × AV)) (es' : List MapEntry) : Prop :=
  es.length = es'.length ∧ ∀ (i : Nat) (p : AV × AV) (e : MapEntry), es[i]? = some p → es'[i]? = some e → VRel K ρ p.1 e.key ∧ VRel K ρ p.2 e.val

theorem MRel.cons_inv {p : AV × AV} {es : List (AV × AV)} {es' : List MapEntry} (h : MRel K ρ (p :: es) es') : ∃ e r, es' = e :: r ∧ VRel K ρ p.1 e.key ∧ VRel K ρ p.2 e.val ∧ MRel K ρ es r := by
  cases es' with
  | nil => have := h.1; simp at this
  | cons e r =>
    refine ⟨e, r, rfl, (h.2 0 p e rfl rfl).1, (h.2 0 p e rfl rfl).2, by have := h.1; simpa using this, fun i q f hq hf => h.2 (i + 1) q f (by simpa using hq) (by simpa using hf)⟩

theorem find_ok {x : AV} {u : Value} {d : TypeDesc} (hx : VRel K ρ x u) (hd : (∃ kd k n, d = .int kd ∧ x = .int k n) ∨ (∃ s, d = .string ∧ x = .str s)) :
    ∀ {es : List (AV × AV)} {es' : List MapEntry} {r : Option AV} (i : Nat), MRel K ρ es es' → findA x es = some r →
      match r with
      | none => Instr.findNow d u es' i = some none
      | some y => ∃ j z e, Instr.findNow d u es' i = some (some (i + j, z)) ∧ es'[j]? = some e ∧ e.val = z ∧ VRel K ρ y z ∧ ∃ k, es[j]? = some (k, y)
  | [], es', r, i, hm, h => by
    simp only [findA, Option.some.injEq] at h
    subst h
    have : es' = [] := List.length_eq_zero_iff.1 hm.1.symm
    subst this
    rfl
  | (k, y) :: es, es', r, i, hm, h => by
    obtain ⟨e, rs, rfl, h1, h2, h3⟩ := hm.cons_inv
    simp only [findA] at h
    split at h
    · rename_i he
      injection h with h; subst h
      refine ⟨0, e.val, e, ?_, rfl, rfl, h2, k, rfl⟩
      simp only [Instr.findNow, sameNow_of hx h1 he hd, Nat.add_zero]
    · rename_i he
      have := find_ok hx hd (i + 1) h3 h
      cases r with
      | none => simpa only [Instr.findNow, sameNow_of hx h1 he hd] using this
      | some y' =>
        obtain ⟨j, z, e', a1, a2, a3, a4, k', a5⟩ := this
        exact ⟨j + 1, z, e', by simp only [Instr.findNow, sameNow_of hx h1 he hd]; rw [a1]; congr 3; omega, a2, a3, a4, k', a5⟩
    · cases h

theorem map_of_live (hS : Sim P K ρ S w) {b : Nat} {es : List (AV × AV)} (h : look S.heap b = .map es) :
    ∃ es' clock, w.heap[(ρ b).blk]? = some (.map es' clock) ∧ MRel K ρ es es'.toList ∧ ∀ p ∈ es, vb S.next p.1 ∧ vb S.next p.2 := by
  obtain ⟨o, ho, hB, _⟩ := hS.live b (by rw [h]; simp)
  rw [h] at hB
  have hbb := BRel.mapbb hB
  cases o <;> try exact hB.elim
  obtain ⟨h1, h2⟩ := hB
  exact ⟨_, _, ho, ⟨by simpa using h1, fun i p e hp he => by have := h2 i p e hp (by simpa using he); exact ⟨this.1, this.2.1⟩⟩, hbb⟩

theorem run_getObj_map {r : Nat} {es : Array MapEntry} {c : Nat} (h : w.heap[r]? = some (.map es c)) : (getObj r).run P w = .ok (.map es c) w := by
  simp [getObj, Sem.run, h]

theorem ofOk_rel {ok b : Bool} {y : AV} {z : Value} (h : VRel K ρ y z) : VRel K ρ (ofOk ok y b) (if ok then .tuple #[z, .bool b] else z) := by
  cases ok with
  | true => exact VRels.tup (.cons h (.cons .bool .nil))
  | false => exact h
theorem ofOk_vb {ok b : Bool} {y : AV} {n : Nat} (h : vb n y) : vb n (ofOk ok y b) := by
  cases ok <;> simp [ofOk, vb, vbs, h]

theorem op_lookup {t : TypeId} {m k : Operand} {ok : Bool} (hop : o.op = .lookup t m k ok) (hS : Sim P K ρ S w) (hE : ERel K ρ S.next E a.tmps)
    (hlow : lowerOp P o = some ao) (h : aop G E S ao = some (v, S')) : OpOk P K ρ S w v S' ((execOp a.eval o).run P w) := by
  simp only [lowerOp, hop] at hlow
  split at hlow
  · rename_i kt e hu
    split at hlow
    · rename_i str z am ak hbk hz hm hk
      injection hlow with hlow; subst hlow
      have rm := opd_rel hE hm
      have rk := opd_rel hE hk
      obtain ⟨zv, hzv, hzr, hzn⟩ := run_zeroValue' (K := K) (ρ := ρ) (w := w) hz
      simp only [aop] at h
      split at h
      · cases h
      · rename_i hkey
        have hkey' : keyOk str (ak.ev E) = true := by simpa using hkey
        have hkk := key_kind hbk rk.1 hkey'
        have hd : ∃ d, P.underlying kt = some d ∧ ((∃ k, d = .int k) ∨ d = .string) ∧ ((∃ kd k n, d = .int kd ∧ ak.ev E = .int k n) ∨ (∃ s, d = .string ∧ ak.ev E = .str s)) := by
          rcases hkk with ⟨kd, k', n, h1, h2, _⟩ | ⟨b, h1, h2, _⟩
          · exact ⟨_, h1, .inl ⟨kd, rfl⟩, .inl ⟨kd, k', n, rfl, h2⟩⟩
          · exact ⟨_, h1, .inr rfl, .inr ⟨_, rfl, h2⟩⟩
        obtain ⟨d, hud, hdk, hdx⟩ := hd
        split at h
        · rename_i hmn
          simp only [Option.some.injEq, Prod.mk.injEq] at h
          obtain ⟨rfl, rfl⟩ := h
          rw [hmn] at rm
          have hme : a.eval m = .map none := by
            have := rm.1
            generalize a.eval m = q at this
            cases this; rfl
          refine OpOk.pure hS ?_ (ofOk_rel (ok := ok) (b := false) hzr) (ofOk_vb (vb_of_noName _ hzn))
          simp only [execOp, hop, Sem.run_bind, Instr.lookup, run_underlying hu, Result.andThen_ok, hme, Sem.run_pure, run_checkKey_basic (n := 9999) hud hdk]
          simp [Instr.findKey, run_underlying hud, Instr.findNow, hzv]
        · rename_i b hmb
          rw [hmb] at rm
          have hme : a.eval m = .map (some (ρ b).blk) := by
            have := rm.1
            generalize a.eval m = q at this
            cases this; rfl
          split at h
          · rename_i es hl
            obtain ⟨r, hr, he⟩ := Option.map_eq_some_iff.1 h
            simp only [Prod.mk.injEq] at he
            obtain ⟨rfl, rfl⟩ := he
            obtain ⟨es', clock, hw, hmr, hvb⟩ := map_of_live hS hl
            have hf := find_ok rk.1 hdx 0 hmr hr
            cases r with
            | none =>
              refine OpOk.pure hS ?_ (ofOk_rel (ok := ok) (b := false) hzr) (ofOk_vb (vb_of_noName _ hzn))
              simp only [execOp, hop, Sem.run_bind, Instr.lookup, run_underlying hu, Result.andThen_ok, hme, Sem.run_pure, run_getObj_map hw, run_checkKey_basic (n := 9999) hud hdk]
              simp only [Instr.findKey, Sem.run_bind, run_underlying hud, Result.andThen_ok, hf, Sem.run_pure, hzv]
            | some y =>
              obtain ⟨j, zz, en, f1, f2, f3, f4, k', f5⟩ := hf
              refine OpOk.pure hS ?_ (ofOk_rel (ok := ok) (b := true) f4) (ofOk_vb (hvb _ (mem_of_getElem?' f5)).2)
              simp only [execOp, hop, Sem.run_bind, Instr.lookup, run_underlying hu, Result.andThen_ok, hme, Sem.run_pure, run_getObj_map hw, run_checkKey_basic (n := 9999) hud hdk]
              simp only [Instr.findKey, Sem.run_bind, run_underlying hud, Result.andThen_ok, f1, Sem.run_pure]
          · cases h
        · cases h
    · cases hlow
  · cases hlow

theorem set_ok {x y : AV} {u z : Value} {d : TypeDesc} (hx : VRel K ρ x u) (hy : VRel K ρ y z) (hd : (∃ kd k n, d = .int kd ∧ x = .int k n) ∨ (∃ s, d = .string ∧ x = .str s)) :
    ∀ {es : List (AV × AV)} {es' : List MapEntry} {out : List (AV × AV)} (i : Nat), MRel K ρ es es' → setA x y es = some out →
      (∀ n, vb n x → vb n y → (∀ p ∈ es, vb n p.1 ∧ vb n p.2) → ∀ p ∈ out, vb n p.1 ∧ vb n p.2) ∧
      ((Instr.findNow d u es' i = some none ∧ ∀ born, MRel K ρ out (es' ++ [{ key := u, val := z, born }])) ∨
       (∃ j w e, Instr.findNow d u es' i = some (some (i + j, w)) ∧ es'[j]? = some e ∧ e.key = u ∧ MRel K ρ out (es'.modify j fun e => { e with key := u, val := z })))
  | [], es', out, i, hm, h => by
    simp only [setA, Option.some.injEq] at h
    subst h
    have : es' = [] := List.length_eq_zero_iff.1 hm.1.symm
    subst this
    refine ⟨fun n h1 h2 _ p hp => by simp at hp; subst hp; exact ⟨h1, h2⟩, .inl ⟨rfl, fun born => ⟨rfl, fun i p e hp he => ?_⟩⟩⟩
    cases i with
    | zero => simp at hp he; subst hp; subst he; exact ⟨hx, hy⟩
    | succ i => simp at hp
  | (k, y') :: es, es', out, i, hm, h => by
    obtain ⟨e, rs, rfl, h1, h2, h3⟩ := hm.cons_inv
    simp only [setA] at h
    split at h
    · rename_i he
      injection h with h; subst h
      refine ⟨fun n a1 a2 a3 p hp => ?_, .inr ⟨0, e.val, e, ?_, rfl, ?_, ?_⟩⟩
      · rcases List.mem_cons.1 hp with rfl | hp
        · exact ⟨a1, a2⟩
        · exact a3 p (List.mem_cons_of_mem _ hp)
      · simp only [Instr.findNow, sameNow_of hx h1 he hd, Nat.add_zero]
      · -- equal keys are equal values
        rcases hd with ⟨kd, k', n, rfl, rfl⟩ | ⟨s, rfl, rfl⟩
        · cases k <;> simp only [eqS, reduceCtorEq] at he
          rw [hx.int_inv, h1.int_inv]
          split at he
          · rename_i hk; subst hk; simp at he; rw [he]
          · cases he
        · cases k <;> simp only [eqS, reduceCtorEq] at he
          obtain ⟨p, rfl, rfl⟩ := hx.str_inv
          obtain ⟨q, hq, rfl⟩ := h1.str_inv
          rw [hq]
          simp at he
          obtain ⟨p⟩ := p; obtain ⟨q⟩ := q
          simp at he; rw [he]
      · refine ⟨by have := h3.1; simp [this], fun i p f hp hf => ?_⟩
        cases i with
        | zero => simp at hp hf; subst hp; subst hf; exact ⟨hx, hy⟩
        | succ i => simp at hp hf; exact h3.2 i p f hp hf
    · rename_i he
      obtain ⟨o', ho', rfl⟩ := Option.map_eq_some_iff.1 h
      obtain ⟨b1, b2⟩ := set_ok hx hy hd (i + 1) h3 ho'
      refine ⟨fun n a1 a2 a3 p hp => ?_, ?_⟩
      · rcases List.mem_cons.1 hp with rfl | hp
        · exact a3 _ (List.mem_cons_self ..)
        · exact b1 n a1 a2 (fun q hq => a3 q (List.mem_cons_of_mem _ hq)) p hp
      · rcases b2 with ⟨c1, c2⟩ | ⟨j, w', f, c1, c2, c3, c4⟩
        · left
          refine ⟨by simpa only [Instr.findNow, sameNow_of hx h1 he hd] using c1, fun born => ?_⟩
          obtain ⟨d1, d2⟩ := c2 born
          refine ⟨by simpa using d1, fun i p f hp hf => ?_⟩
          cases i with
          | zero => simp at hp hf; subst hp; subst hf; exact ⟨h1, h2⟩
          | succ i => exact d2 i p f (by simpa using hp) (by simpa using hf)
        · right
          refine ⟨j + 1, w', f, by simp only [Instr.findNow, sameNow_of hx h1 he hd]; rw [c1]; congr 3; omega, c2, c3, ?_⟩
          obtain ⟨d1, d2⟩ := c4
          refine ⟨by simpa using d1, fun i p f hp hf => ?_⟩
          cases i with
          | zero => simp at hp hf; subst hp; subst hf; exact ⟨h1, h2⟩
          | succ i => exact d2 i p f (by simpa using hp) (by simpa using hf)
    · cases h

theorem run_setObj_map {r : Nat} {es es2 : Array MapEntry} {c c2 : Nat} (h : w.heap[r]? = some (.map es c)) :
    (setObj r (.map es2 c2)).run P w = .ok () { w with heap := w.heap.setIfInBounds r (.map es2 c2) } := by
  simp [setObj, Sem.run, h]

theorem sameBits_key {u : Value} (h : (∃ k n, u = .int k n) ∨ ∃ b, u = .string b) (n : Nat) : Instr.sameBits n u u = true := by
  rcases h with ⟨k, m, rfl⟩ | ⟨b, rfl⟩ <;> cases n <;> simp [Instr.sameBits, beq_toListBytes]

theorem op_mapUpdate {t : TypeId} {m k x : Operand} (hop : o.op = .mapUpdate t m k x ∨ o.op = .insert t m k x) (hS : Sim P K ρ S w) (hE : ERel K ρ S.next E a.tmps)
    (hlow : lowerOp P o = some ao) (h : aop G E S ao = some (v, S')) : OpOk P K ρ S w v S' ((execOp a.eval o).run P w) := by
  have hexec : (execOp a.eval o).run P w = ((Instr.mapUpdate t (a.eval m) (a.eval k) (a.eval x)).run P w).andThen fun _ w' => .ok .skip w' := by
    rcases hop with hop | hop <;> simp [execOp, hop]
  rw [show lowerOp P o = (match P.underlying t with
    | some (.map kt _) => match basicKey P kt, opdA m, opdA k, opdA x with
      | some b, some m, some k, some v => some (AO.mapset b m k v)
      | _, _, _, _ => none
    | _ => none) by rcases hop with hop | hop <;> (unfold lowerOp; rw [hop]; rfl)] at hlow
  split at hlow
  · rename_i kt e hu
    split at hlow
    · rename_i str am ak ax hbk hm hk hx
      injection hlow with hlow; subst hlow
      have rm := opd_rel hE hm
      have rk := opd_rel hE hk
      have rx := opd_rel hE hx
      simp only [aop] at h
      split at h
      · cases h
      · rename_i hcond
        simp only [not_or] at hcond
        obtain ⟨hkey, hkn⟩ := hcond
        have hkey' : keyOk str (ak.ev E) = true := by simpa using hkey
        have hkk := key_kind hbk rk.1 hkey'
        have hd : ∃ d, P.underlying kt = some d ∧ ((∃ k, d = .int k) ∨ d = .string) ∧ ((∃ kd k n, d = .int kd ∧ ak.ev E = .int k n) ∨ (∃ s, d = .string ∧ ak.ev E = .str s)) ∧ ((∃ kk n, a.eval k = .int kk n) ∨ ∃ b, a.eval k = .string b) := by
          rcases hkk with ⟨kd, k', n, h1, h2, h3, _⟩ | ⟨b, h1, h2, h3, _⟩
          · exact ⟨_, h1, .inl ⟨kd, rfl⟩, .inl ⟨kd, k', n, rfl, h2⟩, .inl ⟨k', n, h3⟩⟩
          · exact ⟨_, h1, .inr rfl, .inr ⟨_, rfl, h2⟩, .inr ⟨b, h3⟩⟩
        obtain ⟨d, hud, hdk, hdx, huk⟩ := hd
        split at h
        · rename_i b hmb
          rw [hmb] at rm
          have hme : a.eval m = .map (some (ρ b).blk) := by
            have := rm.1
            generalize a.eval m = q at this
            cases this; rfl
          split at h
          · rename_i es hl
            obtain ⟨out, hout, he⟩ := Option.map_eq_some_iff.1 h
            simp only [Prod.mk.injEq] at he
            obtain ⟨rfl, rfl⟩ := he
            obtain ⟨es', clock, hw, hmr, hvb⟩ := map_of_live hS hl
            obtain ⟨b1, b2⟩ := set_ok rk.1 rx.1 hdx 0 hmr hout
            have hlt : (ρ b).blk < w.heap.size := by
              rcases Nat.lt_or_ge (ρ b).blk w.heap.size with h | h
              · exact h
              · rw [Array.getElem?_eq_none h] at hw; cases hw
            have fin : ∀ (es2 : Array MapEntry) (c2 : Nat), MRel K ρ out es2.toList → (Instr.mapUpdate t (a.eval m) (a.eval k) (a.eval x)).run P w = .ok () { w with heap := w.heap.setIfInBounds (ρ b).blk (.map es2 c2) } →
                OpOk P K ρ S w (.tup []) (S.write b (.map out) (!noName (ax.ev E))) ((execOp a.eval o).run P w) := by
              intro es2 c2 hmr2 hrun
              have hvb2 := b1 S.next rk.2 rx.2 hvb
              have := sim_write (w' := { w with heap := w.heap.setIfInBounds (ρ b).blk (.map es2 c2) }) hS (b := b) (by rw [hl]; simp) (.map out) (!noName (ax.ev E)) (.map es2 c2)
                (by simp [hlt]) (fun c hc => by simp only [Array.getElem?_setIfInBounds]; rw [if_neg (fun e => hc e.symm)]) (by simp) ⟨rfl, rfl, rfl⟩
                ⟨by simpa using hmr2.1, fun i p e hp he => by
                  have := hmr2.2 i p e hp (by simpa using he)
                  have hv := hvb2 p (mem_of_getElem?' hp)
                  exact ⟨this.1, this.2, hv.1, hv.2⟩⟩
                (fun hn n hbb => by
                  rw [hl] at hbb
                  refine b1 n ?_ (vb_of_noName _ (by simpa using hn)) hbb
                  rcases hdx with ⟨_, _, _, _, h2⟩ | ⟨_, _, h2⟩ <;> rw [h2] <;> trivial)
              exact ⟨undef, _, K, ρ, .inr ⟨by rw [hexec, hrun]; rfl, rfl⟩, undef_rel, by simp [vb, vbs], this.1, this.2⟩
            rcases b2 with ⟨c1, c2⟩ | ⟨j, w0, en, c1, c2, c3, c4⟩
            · refine fin (es'.push { key := a.eval k, val := a.eval x, born := clock }) (clock + 1) (by simpa using c2 clock) ?_
              simp only [Instr.mapUpdate, Sem.run_bind, run_underlying hu, Result.andThen_ok, hme, run_getObj_map hw, run_checkKey_basic (n := 9999) hud hdk, Instr.findKey, run_underlying hud, c1, Sem.run_pure, run_setObj_map hw]
            · refine fin (es'.modify (0 + j) fun e => { e with key := a.eval k, val := a.eval x }) clock (by simpa using c4) ?_
              have hkey : (((es'[0 + j]?).map (·.key)).getD (a.eval k)) = a.eval k := by
                have : es'[0 + j]? = some en := by simpa using c2
                rw [this]; exact c3
              simp only [Instr.mapUpdate, Sem.run_bind, run_underlying hu, Result.andThen_ok, hme, run_getObj_map hw, run_checkKey_basic (n := 9999) hud hdk, Instr.findKey, run_underlying hud, c1, Sem.run_pure, hkey, Instr.keyThatStays]
              rw [if_pos (sameBits_key huk 10000)]
              simp only [Sem.run_pure, Result.andThen_ok, run_setObj_map hw]
          · cases h
        · cases h
    · cases hlow
  · cases hlow
end Go.Ab
