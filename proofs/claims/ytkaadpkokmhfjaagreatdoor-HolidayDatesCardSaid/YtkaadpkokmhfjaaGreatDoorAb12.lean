/-
  THE ENGINE, PART 12: the operations, one by one: slices, conversions, built-in functions.
-/
import Derived.Test.YtkaadpkokmhfjaaGreatDoorAb11
namespace Go.Ab
variable {P : Program} {K K' : Nat → Option Obj} {ρ ρ' : Nat → Loc} {S S' : AS} {w w' : World} {G : Nat → Option (List AV)} {E : Env} {a : Act} {o : Oper} {ao : AO} {v : AV}

theorem wrapI_i64 {n : Int} (h1 : -9223372036854775808 ≤ n) (h2 : n ≤ 9223372036854775807) : wrapI .i64 n = n := if_pos ⟨h1, h2⟩

theorem op_makeSlice {t : TypeId} {l c : Operand} (hop : o.op = .makeSlice t l c) (hS : Sim P K ρ S w) (hE : ERel K ρ S.next E a.tmps)
    (hlow : lowerOp P o = some ao) (h : aop G E S ao = some (v, S')) : OpOk P K ρ S w v S' ((execOp a.eval o).run P w) := by
  simp only [lowerOp, hop] at hlow
  split at hlow
  · rename_i e hu
    split at hlow
    · rename_i i z al ac hi hz hl hc
      split at hlow
      · cases hlow
      · rename_i hcond
        injection hlow with hlow; subst hlow
        simp only [not_or, Decidable.not_not] at hcond
        obtain ⟨hs0, hzl⟩ := hcond
        simp only [aop] at h
        split at h
        · rename_i kl nl kc nc hal hac
          split at h
          · rename_i hb
            simp only [Option.some.injEq, Prod.mk.injEq] at h
            obtain ⟨rfl, rfl⟩ := h
            obtain ⟨h0, hle, hbytes, hmax, hzne⟩ := hb
            have rl := opd_rel hE hl
            have rc := opd_rel hE hc
            rw [hal] at rl; rw [hac] at rc
            have el := rl.1.int_inv
            have ec := rc.1.int_inv
            obtain ⟨zv, hzv, hr, hn⟩ := run_zeroValue' (K := K) (ρ := ρ) (w := w) hz
            obtain ⟨hzc, hznn⟩ := zero_cells hr hn
            have hsz : zv.cells.size = i.size := by have := hzc.1; simp at this; omega
            have hsT : sizeT P e = some i.size := by simp [sizeT, hi]
            obtain ⟨n, rfl⟩ := Int.eq_ofNat_of_zero_le (show 0 ≤ nc by omega)
            obtain ⟨m, rfl⟩ := Int.eq_ofNat_of_zero_le h0
            have w1 : IntKind.i64.wrap (m : Int) = m := by rw [← wrapI_eq]; unfold maxStr at hmax; exact wrapI_i64 (by omega) (by omega)
            have w2 : IntKind.i64.wrap (n : Int) = n := by rw [← wrapI_eq]; unfold maxStr at hmax; exact wrapI_i64 (by omega) (by omega)
            have hbytes' : (i.bytes : Int) * (n : Int) ≤ 1099511627776 := by
              have : (n : Int) * (i.bytes : Int) ≤ (maxStr : Int) := hbytes
              rw [Int.mul_comm]; unfold maxStr at this; exact this
            have hcells : VRels K ρ ((List.replicate n (cellsV z)).flatten) ((Array.range (n * i.size)).map (fun j => zv.cells[j % zv.cells.size]!)).toList := by
              rw [← hsz, range_rep zv.cells (by omega) n]; exact hzc.repl n
            have hvb : vbs S.next ((List.replicate n (cellsV z)).flatten) := by
              refine vbs_iff.2 fun x hx => ?_
              simp only [List.mem_flatten, List.mem_replicate] at hx
              obtain ⟨l, ⟨_, rfl⟩, hx⟩ := hx
              exact vb_of_noName _ (noNames_iff.1 hznn x hx)
            obtain ⟨w', K', ρ', k1, k2, k3, k4⟩ := newRow_ok hS e _ hcells hvb w ⟨rfl, rfl, rfl, rfl⟩
            have hrun : (Instr.makeSlice t (a.eval l) (a.eval c)).run P w = .ok (.slice (some ⟨w.heap.size, 0, none⟩) m n) w' := by
              have c1 : ¬ ((i.bytes : Int) * (n : Int) > 2 ^ 48) := by simp; omega
              have c2 : ¬ ((n : Int) < 0) := by omega
              have c3 : ¬ ((m : Int) < 0) := by omega
              have c4 : ¬ ((m : Int) > (n : Int)) := by omega
              simp only [Instr.makeSlice, Sem.run_bind, run_underlying hu, Result.andThen_ok, asInt, el, ec, asIntOf_int, Sem.run_pure, run_typeInfo' hi, w1, w2]
              simp only [c1, c2, c3, c4, decide_false, Bool.or_false, Bool.false_or, Bool.false_eq_true, if_false, Sem.run_bind, run_askRoom, Result.andThen_ok, run_sizeOf' hsT, Int.toNat_natCast, Sem.run_ite]
              by_cases hz0 : n * i.size = 0
              · have e1 : ((Array.range (n * i.size)).map fun j => (#[] : Array Value)[j % (#[] : Array Value).size]!) = ((Array.range (n * i.size)).map fun j => zv.cells[j % zv.cells.size]!) := by rw [hz0]; simp
                rw [if_pos hz0]
                simp only [Sem.run_pure, Result.andThen_ok, e1, k1]
              · rw [if_neg hz0]
                simp only [hzv, Result.andThen_ok, Sem.run_pure, k1]
            refine ⟨_, w', K', ρ', .inl ?_, VRel.sl_new k2 rfl rfl (by simpa using hle) (by
              have : 0 < (cellsV z).length := List.length_pos_iff.2 hzne
              exact this) (by simp [hzl]), by simp [vb, AS.alloc], by simpa using k3, by simpa using k4⟩
            simp only [execOp, hop, Sem.run_bind, hrun, Result.andThen_ok, Sem.run_pure, Int.toNat_natCast]
          · cases h
        · cases h
    · cases hlow
  · cases hlow

/-! Slices of slices and texts -/
theorem bnd_ok {x : AV} {u : Value} {hi n : Nat} (hx : VRel K ρ x u) (h : bnd x hi = some n) (code : BoundsCode) : (Instr.sliceBound u hi code).run P w = .ok n w ∧ n ≤ hi := by
  unfold bnd at h
  split at h
  · rename_i k m
    split at h
    · rename_i hb
      injection h with h; subst h
      rw [hx.int_inv]
      exact ⟨by simp only [Instr.sliceBound, Sem.run_bind, asIntOf_int, Sem.run_pure, Result.andThen_ok, if_pos hb], by omega⟩
    · cases h
  · cases h

theorem opdO_rel {n : Nat} (hE : ERel K ρ n E a.tmps) {x : Option Operand} {ax : Option AX} (h : opdO x = some ax) :
    (x = none ∧ ax = none) ∨ ∃ y ay, x = some y ∧ ax = some ay ∧ VRel K ρ (ay.ev E) (a.eval y) ∧ vb n (ay.ev E) := by
  cases x with
  | none => simp only [opdO, Option.some.injEq] at h; exact .inl ⟨rfl, h.symm⟩
  | some y =>
    simp only [opdO] at h
    obtain ⟨ay, hy, rfl⟩ := Option.map_eq_some_iff.1 h
    exact .inr ⟨y, ay, rfl, rfl, (opd_rel hE hy).1, (opd_rel hE hy).2⟩

/-- The two bounds of a slice expression without a third. -/
theorem bounds_ok {n : Nat} (hE : ERel K ρ n E a.tmps) {lo hi : Option Operand} {al ah : Option AX} (hl : opdO lo = some al) (hh : opdO hi = some ah) {isSlice : Bool} {len cap cap' h l : Nat}
    (hc : cap ≤ cap') (hlc : len ≤ cap') (h1 : loHi (al.map (AX.ev E)) (ah.map (AX.ev E)) cap len = some (l, h)) :
    (Instr.sliceBounds isSlice len cap' (lo.map a.eval) (hi.map a.eval) none).run P w = .ok (l, h, cap') w ∧ l ≤ h ∧ h ≤ cap' := by
  have up : ∀ {x : AV} {u : Value} {m : Nat}, VRel K ρ x u → bnd x cap = some m → bnd x cap' = some m := by
    intro x u m _ hb
    unfold bnd at hb ⊢
    split at hb
    · rename_i k i
      split at hb
      · rename_i hi'
        injection hb with hb
        rw [if_pos (by omega), hb]
      · cases hb
    · cases hb
  unfold loHi at h1
  rcases opdO_rel hE hh with ⟨rfl, rfl⟩ | ⟨y, ay, rfl, rfl, hr, _⟩
  · simp only [Option.map_none] at h1
    rcases opdO_rel hE hl with ⟨rfl, rfl⟩ | ⟨z, az, rfl, rfl, hrz, _⟩
    · simp only [Option.map_none, Option.some.injEq, Prod.mk.injEq] at h1
      obtain ⟨rfl, rfl⟩ := h1
      exact ⟨by simp [Instr.sliceBounds], Nat.zero_le _, hlc⟩
    · simp only [Option.map_some] at h1
      split at h1
      · cases h1
      · rename_i l' hl'
        simp only [Option.some.injEq, Prod.mk.injEq] at h1
        obtain ⟨rfl, rfl⟩ := h1
        have := bnd_ok (P := P) (w := w) hrz hl' .sliceB
        exact ⟨by simp [Instr.sliceBounds, this.1], this.2, hlc⟩
  · simp only [Option.map_some] at h1
    split at h1
    · cases h1
    · rename_i h' hh'
      have hb := up hr hh'
      have b1 := bnd_ok (P := P) (w := w) hr hb .sliceAcap
      have b2 := bnd_ok (P := P) (w := w) hr hb .sliceAlen
      have b3 : (Instr.sliceBound (a.eval y) cap' (if isSlice = true then BoundsCode.sliceAcap else BoundsCode.sliceAlen)).run P w = .ok h' w := by
        split
        · exact b1.1
        · exact b2.1
      rcases opdO_rel hE hl with ⟨rfl, rfl⟩ | ⟨z, az, rfl, rfl, hrz, _⟩
      · simp only [Option.map_none, Option.some.injEq, Prod.mk.injEq] at h1
        obtain ⟨rfl, rfl⟩ := h1
        exact ⟨by simp [Instr.sliceBounds, b3], Nat.zero_le _, b1.2⟩
      · simp only [Option.map_some] at h1
        split at h1
        · cases h1
        · rename_i l' hl'
          simp only [Option.some.injEq, Prod.mk.injEq] at h1
          obtain ⟨rfl, rfl⟩ := h1
          have := bnd_ok (P := P) (w := w) hrz hl' .sliceB
          exact ⟨by simp [Instr.sliceBounds, b3, this.1], this.2, b1.2⟩

theorem lst_sub {cells : List AV} {c o : Nat} {cs : Array Value} {e : TypeId} {fr : Nat × Nat} (hk : K c = some (.cells cs e fr)) (hn : noNames cells = true) (hl : o + cells.length ≤ cs.size)
    (hh : ∀ (i : Nat) (a : AV) (v : Value), cells[i]? = some a → cs[o + i]? = some v → ∀ ρ', VRel K ρ' a v) {d n len cap : Nat} (hd : d ≤ cells.length) (hc : len ≤ cap) :
    VRel K ρ (.lst ((cells.take n).drop d) len) (.slice (some ⟨c, o + d, none⟩) len cap) :=
  .lst hc hk (noNames_iff.2 fun z hz => noNames_iff.1 hn z (List.take_subset _ _ (List.drop_subset _ _ hz))) (by simp; omega) fun i p q hp hq ρ' => by
    rw [List.getElem?_drop, List.getElem?_take] at hp
    split at hp
    · exact hh (d + i) p q hp (by rw [Nat.add_assoc] at hq; exact hq) ρ'
    · cases hp

theorem addr_add (B k n : Nat) : (Addr.add ⟨B, k, none⟩ n) = ⟨B, k + n, none⟩ := by
  unfold Addr.add; split
  · rename_i h0; rw [h0]; rfl
  · rfl


theorem op_slice {t : TypeId} {x : Operand} {lo hi mx : Option Operand} (hop : o.op = .slice t x lo hi mx) (hS : Sim P K ρ S w) (hE : ERel K ρ S.next E a.tmps)
    (hlow : lowerOp P o = some ao) (h : aop G E S ao = some (v, S')) : OpOk P K ρ S w v S' ((execOp a.eval o).run P w) := by
  have hexec : ∀ r, (Instr.sliceAt t (a.eval x) (lo.map a.eval) (hi.map a.eval) (mx.map a.eval)).run P w = .ok r w → (execOp a.eval o).run P w = .ok (.value r) w := by
    intro r hr
    simp only [execOp, hop, Sem.run_bind, hr, Result.andThen_ok, Sem.run_pure]
  simp only [lowerOp, hop] at hlow
  split at hlow
  · -- a text
    rename_i ax al ah hu hx hl hh hm
    injection hlow with hlow; subst hlow
    have hmx : mx = none := by cases mx with | none => rfl | some y => simp [opdO] at hm
    subst hmx
    have rx := opd_rel hE hx
    simp only [aop] at h
    obtain ⟨y, hy, he⟩ := Option.map_eq_some_iff.1 h
    simp only [Prod.mk.injEq] at he
    obtain ⟨rfl, rfl⟩ := he
    simp only [sliceA, Option.map_none] at hy
    generalize hax : ax.ev E = z at hy rx
    split at hy <;> try (first | contradiction | (cases hy; done))
    · rename_i s _
      split at hy
      · rename_i l' h' hlh
        injection hy with hy; subst hy
        obtain ⟨b, hb, rfl⟩ := rx.1.str_inv
        have hbs : b.size = b.data.toList.length := rfl
        obtain ⟨k1, k2, k3⟩ := bounds_ok (P := P) (w := w) hE hl hh (isSlice := false) (len := b.size) (cap := b.size) (cap' := b.size) (Nat.le_refl _) (Nat.le_refl _) hlh
        refine OpOk.pure (v' := .string (b.extract l' h')) hS (hexec _ ?_) (.str ?_) trivial
        · simp only [Instr.sliceAt, Sem.run_bind, run_underlying hu, Result.andThen_ok, Instr.slice, hb, Option.map_none, Option.isSome_none, Bool.false_eq_true, if_false, k1, Sem.run_pure]
        · rw [ByteArray.data_extract]; simp [List.extract, List.drop_take]
      · cases hy
  · -- a slice
    rename_i e ax al ah am hu hx hl hh hm
    obtain ⟨s, hs, rfl⟩ := Option.map_eq_some_iff.1 hlow
    have rx := opd_rel hE hx
    simp only [aop] at h
    obtain ⟨y, hy, he⟩ := Option.map_eq_some_iff.1 h
    simp only [Prod.mk.injEq] at he
    obtain ⟨rfl, rfl⟩ := he
    have hat : ∀ u lo' hi' mx', (Instr.sliceAt t u lo' hi' mx').run P w = (Instr.slice t u lo' hi' mx').run P w := by
      intro u lo' hi' mx'; simp only [Instr.sliceAt, Sem.run_bind, run_underlying hu, Result.andThen_ok]
    rcases opdO_rel hE hm with ⟨rfl, rfl⟩ | ⟨m, am', rfl, rfl, hrm, _⟩
    · simp only [sliceA, Option.map_none] at hy
      have run : ∀ {base : Option Addr} {len cap' l' h' : Nat}, a.eval x = .slice base len cap' → (Instr.sliceBounds true len cap' (lo.map a.eval) (hi.map a.eval) none).run P w = .ok (l', h', cap') w →
          (execOp a.eval o).run P w = .ok (.value (.slice (if cap' = l' then base else base.map (·.add (l' * s))) (h' - l') (cap' - l'))) w := by
        intro base len cap' l' h' hux hb
        refine hexec _ ?_
        rw [hat, hux]
        simp only [Instr.slice, Sem.run_bind, run_underlying hu, Result.andThen_ok, Option.map_none, hb, run_sizeOf' hs, Sem.run_pure]
      generalize hax : ax.ev E = z at hy rx
      generalize hux : a.eval x = u at rx run
      obtain ⟨r1, r2⟩ := rx
      cases r1 <;> simp only [reduceCtorEq] at hy
      · -- a live block
        rename_i b off len cap sz ofs cap' hc hlc ho hz hsz
        split at hy
        · rename_i l' h' hlh
          split at hy
          · rename_i hss
            subst hss
            injection hy with hy; subst hy
            obtain ⟨k1, k2, k3⟩ := bounds_ok (P := P) (w := w) hE hl hh (isSlice := true) hc hlc hlh
            refine OpOk.pure hS (run rfl k1) ?_ (by simpa [vb] using r2)
            have hmul : (cap' - l') * s + l' * s = cap' * s := by rw [← Nat.add_mul]; congr 1; omega
            by_cases hcl : cap' = l'
            · rw [if_pos hcl]
              exact .sl (by omega) (by omega) (.inr (by omega)) (by assumption) (by omega)
            · rw [if_neg hcl]
              simp only [Option.map_some, addr_add]
              exact .sl (by omega) (by omega) (.inl (by omega)) (by assumption) (by omega)
          · cases hy
        · cases hy
      · -- empty
        rename_i ad
        split at hy
        · rename_i q hlh
          injection hy with hy; subst hy
          obtain ⟨k1, k2, k3⟩ := bounds_ok (P := P) (w := w) hE hl hh (isSlice := true) (Nat.le_refl 0) (Nat.le_refl 0) (l := q.1) (h := q.2) hlh
          refine OpOk.pure hS (run rfl k1) ?_ (by simp [vb])
          have e1 : q.1 = 0 := by omega
          have e2 : q.2 = 0 := by omega
          rw [e1, e2]
          simp only [if_true, Nat.sub_self]
          exact .sl0
        · cases hy
      · -- nil
        split at hy
        · rename_i q hlh
          injection hy with hy; subst hy
          obtain ⟨k1, k2, k3⟩ := bounds_ok (P := P) (w := w) hE hl hh (isSlice := true) (Nat.le_refl 0) (Nat.le_refl 0) (l := q.1) (h := q.2) hlh
          refine OpOk.pure hS (run rfl k1) ?_ (by simp [vb])
          have e1 : q.1 = 0 := by omega
          have e2 : q.2 = 0 := by omega
          rw [e1, e2]
          simp only [if_true, Nat.sub_self]
          exact .nilSl
        · cases hy
      · -- an empty list
        rename_i len ad cap' hlc
        split at hy
        · rename_i l' h' hlh
          split at hy
          · rename_i hle
            injection hy with hy; subst hy
            obtain ⟨k1, k2, k3⟩ := bounds_ok (P := P) (w := w) hE hl hh (isSlice := true) hlc hlc hlh
            refine OpOk.pure hS (run rfl k1) ?_ (by simp [vb])
            simp only [List.take_nil, List.drop_nil]
            split
            · exact .lst0 (by omega)
            · exact .lst0 (by omega)
          · cases hy
        · cases hy
      · -- a list
        rename_i cells len cap' c ofs cs e' fr hlc hk hn hcl hh'
        split at hy
        · rename_i l' h' hlh
          split at hy
          · rename_i hle
            injection hy with hy; subst hy
            obtain ⟨k1, k2, k3⟩ := bounds_ok (P := P) (w := w) hE hl hh (isSlice := true) hlc hlc hlh
            refine OpOk.pure hS (run rfl k1) ?_ (by simp [vb])
            have hmul : l' * s ≤ h' * s := Nat.mul_le_mul_right _ k2
            by_cases hcap : cap' = l'
            · rw [if_pos hcap]
              have : h' = l' := by omega
              rw [this, List.drop_of_length_le (by simp; omega)]
              exact .lst0 (by omega)
            · rw [if_neg hcap]
              simp only [Option.map_some, addr_add]
              exact lst_sub hk hn hcl hh' (by omega) (by omega)
          · cases hy
        · cases hy
    · -- x[0:0:0]
      simp only [sliceA, Option.map_some] at hy
      split at hy <;> try contradiction
      rename_i s' kh km e1 e2 e3
      split at hy
      · rename_i hz
        rw [e3] at hrm
        have hme := hrm.int_inv
        have hhe : ∃ y, hi = some y ∧ a.eval y = .int kh 0 := by
          rcases opdO_rel hE hh with ⟨rfl, rfl⟩ | ⟨y, ay, rfl, rfl, hr, _⟩
          · simp at e2
          · simp only [Option.map_some, Option.some.injEq] at e2
            rw [e2] at hr
            exact ⟨y, rfl, hr.int_inv⟩
        obtain ⟨yh, rfl, hhe⟩ := hhe
        have hle : lo = none ∨ ∃ y k, lo = some y ∧ a.eval y = .int k 0 := by
          rcases opdO_rel hE hl with ⟨rfl, rfl⟩ | ⟨y, ay, rfl, rfl, hr, _⟩
          · exact .inl rfl
          · right
            simp only [Option.map_some] at hz
            generalize ay.ev E = q at hz hr
            unfold isZero at hz
            split at hz
            · rename_i hq; cases hq
            · rename_i k hq; injection hq with hq; subst hq; exact ⟨y, k, rfl, hr.int_inv⟩
            · cases hz
        have run : ∀ {base : Option Addr} {len cap' : Nat}, a.eval x = .slice base len cap' → (execOp a.eval o).run P w = .ok (.value (.slice base 0 0)) w := by
          intro base len cap' hux
          refine hexec _ ?_
          rw [hat, hux]
          have c0 : (0 : Int) ≤ 0 ∧ (0 : Int) ≤ (cap' : Int) := by omega
          rcases hle with rfl | ⟨y, k, rfl, hye⟩
          · simp [Instr.slice, run_underlying hu, Instr.sliceBounds, Instr.sliceBound, hme, hhe, asIntOf_int, run_sizeOf' hs]
          · simp [Instr.slice, run_underlying hu, Instr.sliceBounds, Instr.sliceBound, hme, hhe, hye, asIntOf_int, run_sizeOf' hs]
        generalize hax : ax.ev E = z at hy rx
        generalize hux : a.eval x = u at rx run
        obtain ⟨r1, r2⟩ := rx
        cases r1 <;> simp only [reduceCtorEq, Option.some.injEq] at hy <;> subst hy
        · exact OpOk.pure hS (run rfl) .sl0 (by simp [vb])
        · exact OpOk.pure hS (run rfl) .sl0 (by simp [vb])
        · exact OpOk.pure hS (run rfl) .nilSl (by simp [vb])
        · exact OpOk.pure hS (run rfl) .sl0 (by simp [vb])
        · exact OpOk.pure hS (run rfl) .sl0 (by simp [vb])
      · cases hy
  · -- an array behind a pointer
    rename_i n e ax al ah hu hx hl hh hm
    obtain ⟨s, hs, rfl⟩ := Option.map_eq_some_iff.1 hlow
    have hmx : mx = none := by cases mx with | none => rfl | some y => simp [opdO] at hm
    subst hmx
    have rx := opd_rel hE hx
    simp only [aop] at h
    obtain ⟨y, hy, he⟩ := Option.map_eq_some_iff.1 h
    simp only [Prod.mk.injEq] at he
    obtain ⟨rfl, rfl⟩ := he
    simp only [sliceA, Option.map_none] at hy
    split at hy <;> try (first | contradiction | (cases hy; done))
    rename_i n' s' b off hka hb
    injection hka with hk1 hk2
    subst hk1; subst hk2
    split at hy <;> try contradiction
    rename_i c hlook
    split at hy <;> try contradiction
    rename_i l' h' hlh
    split at hy <;> try contradiction
    rename_i hle
    injection hy with hy; subst hy
    rw [hb] at rx
    have hpe := rx.1.ptr_inv
    obtain ⟨cs, e', fr, _, g2, g3, _, _, _⟩ := cells_of_live hS hlook
    obtain ⟨k1, k2, k3⟩ := bounds_ok (P := P) (w := w) hE hl hh (isSlice := false) (Nat.le_refl n) (Nat.le_refl n) hlh
    have hmul : (n - l') * s + l' * s = n * s := by rw [← Nat.add_mul]; congr 1; omega
    refine OpOk.pure (v' := .slice (some (if n = l' then ⟨(ρ b).blk, (ρ b).off + off, none⟩ else Addr.add ⟨(ρ b).blk, (ρ b).off + off, none⟩ (l' * s))) (h' - l') (n - l')) hS (hexec _ ?_) ?_ (by simpa [vb] using rx.2)
    · simp only [Instr.sliceAt, Sem.run_bind, run_underlying hu, Result.andThen_ok, hpe, Instr.sureAddr, Sem.run_pure, Option.map_none, k1, run_sizeOf' hs]
    · by_cases hcl : n = l'
      · rw [if_pos hcl]
        exact .sl (Nat.le_refl _) (by omega) (.inr (by omega)) (by omega) (by omega)
      · rw [if_neg hcl, addr_add]
        exact .sl (Nat.le_refl _) (by omega) (.inl (by omega)) (by omega) (by omega)
  · cases hlow
end Go.Ab
