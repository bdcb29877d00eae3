/-
  THE ENGINE, PART 9: the operations, one by one: comparisons, conversions, interfaces, functions, elements.
-/
import Derived.Test.YtkaadpkokmhfjaaGreatDoorAb8
namespace Go.Ab
variable {P : Program} {K K' : Nat → Option Obj} {ρ ρ' : Nat → Loc} {S S' : AS} {w w' : World} {G : Nat → Option (List AV)} {E : Env} {a : Act} {o : Oper} {ao : AO} {v : AV}

theorem flatN_agg {d : Nat} {t : TypeId} {ks : List Nat} (h : flatN P d t = some ks) :
    (isAggT P t = some false ∧ ∃ k, ks = [k] ∧ ((k = 0 ∧ P.underlying t = some .bool) ∨ (k = 1 ∧ ∃ kd, P.underlying t = some (.int kd)) ∨ (k = 2 ∧ P.underlying t = some .string))) ∨
    (isAggT P t = some true ∧ ∃ fs d', d = d' + 1 ∧ P.underlying t = some (.struct fs) ∧ P.stoodInHeld t = false ∧ flatFs P (flatN P d') fs.toList 0 = some ks) := by
  cases d with
  | zero => simp [flatN] at h
  | succ d =>
    simp only [flatN] at h
    split at h
    · rename_i hu; injection h with h; subst h; left; exact ⟨by simp [isAggT, hu], 0, rfl, .inl ⟨rfl, hu⟩⟩
    · rename_i kd hu; injection h with h; subst h; left; exact ⟨by simp [isAggT, hu], 1, rfl, .inr (.inl ⟨rfl, kd, hu⟩)⟩
    · rename_i hu; injection h with h; subst h; left; exact ⟨by simp [isAggT, hu], 2, rfl, .inr (.inr ⟨rfl, hu⟩)⟩
    · rename_i fs hu
      split at h
      · cases h
      · rename_i hs
        right; exact ⟨by simp [isAggT, hu], fs, d, rfl, hu, by simpa using hs, h⟩
    · cases h

theorem eqK_len : ∀ {ks : List Nat} {as bs : List AV} {r : Bool}, eqK ks as bs = some r → r = true → as.length = ks.length ∧ bs.length = ks.length
  | [], [], [], _, _, _ => ⟨rfl, rfl⟩
  | [], [], _ :: _, _, h, _ => by simp [eqK] at h
  | [], _ :: _, _, _, h, _ => by simp [eqK] at h
  | _ :: _, [], _, _, h, _ => by simp [eqK] at h
  | _ :: _, _ :: _, [], _, h, _ => by simp [eqK] at h
  | k :: ks, a :: as, b :: bs, r, h, hr => by
    simp only [eqK] at h
    split at h
    · have := eqK_len h hr
      simp [this.1, this.2]
    · injection h with h; rw [hr] at h; cases h
    · cases h

theorem eqK_append : ∀ {ks ls : List Nat} {as bs : List AV} {r : Bool}, eqK (ks ++ ls) as bs = some r →
    ∃ r1, eqK ks (as.take ks.length) (bs.take ks.length) = some r1 ∧ (r1 = true → eqK ls (as.drop ks.length) (bs.drop ks.length) = some r) ∧ (r1 = false → r = false)
  | [], ls, as, bs, r, h => ⟨true, rfl, fun _ => h, fun h => by cases h⟩
  | k :: ks, ls, [], bs, r, h => by simp [eqK] at h
  | k :: ks, ls, _ :: _, [], r, h => by simp [eqK] at h
  | k :: ks, ls, a :: as, b :: bs, r, h => by
    simp only [List.cons_append, eqK] at h
    split at h
    · rename_i he
      obtain ⟨r1, h1, h2, h3⟩ := eqK_append h
      exact ⟨r1, by simp only [List.length_cons, List.take_succ_cons, eqK, he, h1], by simpa using h2, h3⟩
    · rename_i he
      injection h with h; subst h
      exact ⟨false, by simp only [List.length_cons, List.take_succ_cons, eqK, he], (fun h => by cases h), fun _ => rfl⟩
    · cases h

def ofCells (g : Bool) (us : List Value) : Value := if g then .agg us.toArray else us.headD undef

theorem eq1_ok {k : Nat} {x y : AV} {r : Bool} {u v : Value} (hx : VRel K ρ x u) (hy : VRel K ρ y v) (h : eq1 k x y = some r) (D : Nat) {t : TypeId}
    (ht : (k = 0 ∧ P.underlying t = some .bool) ∨ (k = 1 ∧ ∃ kd, P.underlying t = some (.int kd)) ∨ (k = 2 ∧ P.underlying t = some .string)) :
    (Op.equalIn (D + 1) t u v).run P w = .ok r w := by
  unfold eq1 at h
  split at h
  · rw [hx.bool_inv, hy.bool_inv]
    injection h with h; subst h
    rcases ht with ⟨_, hu⟩ | ⟨h0, _⟩ | ⟨h0, _⟩
    · exact run_equalIn_bool' w D t _ _ hu
    · cases h0
    · cases h0
  · rw [hx.int_inv, hy.int_inv]
    split at h
    · rename_i hk; subst hk
      injection h with h; subst h
      rcases ht with ⟨h0, _⟩ | ⟨_, kd, hu⟩ | ⟨h0, _⟩
      · cases h0
      · exact run_equalIn_int w D t _ kd _ _ hu
      · cases h0
    · cases h
  · obtain ⟨p, rfl, rfl⟩ := hx.str_inv
    obtain ⟨q, rfl, rfl⟩ := hy.str_inv
    injection h with h; subst h
    rcases ht with ⟨h0, _⟩ | ⟨h0, _⟩ | ⟨_, hu⟩
    · cases h0
    · cases h0
    · rw [run_equalIn_string w D t _ _ hu, toList_data, toList_data]
  · cases h

theorem part_cells {t : TypeId} {g : Bool} {n off : Nat} {us : List Value} (hg : isAggT P t = some g) (hs : sizeT P t = some n) (hl : off + n ≤ us.length) (h1 : g = false → n = 1) :
    (part t us.toArray off).run P w = .ok (ofCells g ((us.drop off).take n)) w := by
  cases g with
  | true =>
    have e : us.toArray.extract off (off + n) = ((us.drop off).take n).toArray := by
      apply Array.ext'
      rw [Array.toList_extract]; simp [List.extract]
    simp only [part, Sem.run_bind, run_isAgg' hg, Result.andThen_ok, if_true, run_sizeOf' hs, Sem.run_pure, ofCells, e]
  | false =>
    have := h1 rfl
    subst this
    have hlt : off < us.length := by omega
    have e : us.toArray[off]? = some us[off] := by simp [hlt]
    have e2 : ((us.drop off).take 1).headD undef = us[off] := by
      rw [List.drop_eq_getElem_cons hlt]; rfl
    simp only [part, Sem.run_bind, run_isAgg' hg, Result.andThen_ok, Bool.false_eq_true, if_false, e, Sem.run_pure, ofCells, e2]

theorem flat_ok : ∀ (d : Nat) (t : TypeId) (ks : List Nat) (g : Bool), flatN P d t = some ks → isAggT P t = some g → ∀ (D : Nat) (as bs : List AV) (us vs : List Value) (r : Bool), d ≤ D →
    VRels K ρ as us → VRels K ρ bs vs → us.length = ks.length → vs.length = ks.length → eqK ks as bs = some r →
    (Op.equalIn D t (ofCells g us) (ofCells g vs)).run P w = .ok r w := by
  intro d
  induction d with
  | zero => intro t ks g h; simp [flatN] at h
  | succ d ih =>
    intro t ks g hf hg D as bs us vs r hD ha hb hlu hlv he
    obtain ⟨D, rfl⟩ : ∃ D', D = D' + 1 := ⟨D - 1, by omega⟩
    rcases flatN_agg hf with ⟨hg', k, rfl, hk⟩ | ⟨hg', fs, d', hd', hu, hst, hfs⟩
    · rw [hg] at hg'; injection hg' with hg'; subst hg'
      simp only [List.length_singleton] at hlu hlv
      obtain ⟨u, rfl⟩ : ∃ u, us = [u] := List.length_eq_one_iff.1 hlu
      obtain ⟨v, rfl⟩ : ∃ v, vs = [v] := List.length_eq_one_iff.1 hlv
      obtain ⟨x, rfl⟩ : ∃ x, as = [x] := List.length_eq_one_iff.1 (by have := ha.1; simpa using this)
      obtain ⟨y, rfl⟩ : ∃ y, bs = [y] := List.length_eq_one_iff.1 (by have := hb.1; simpa using this)
      simp only [eqK] at he
      have key : eq1 k x y = some r := by
        split at he
        · rename_i h; injection he with he; rw [h, he]
        · rename_i h; injection he with he; rw [h, he]
        · cases he
      exact eq1_ok ha.head hb.head key D hk
    · rw [hg] at hg'; injection hg' with hg'; subst hg'
      obtain rfl : d' = d := by omega
      have hfields : P.underlying t = some (.struct (P.fieldsOf t)) := by simp [Program.fieldsOf, hu]
      have hfo : P.fieldsOf t = fs := by simp [Program.fieldsOf, hu]
      show (Op.equalIn (D + 1) t (.agg us.toArray) (.agg vs.toArray)).run P w = _
      rw [run_equalIn_struct w D t _ _ hfields hst, hfo]
      have go : ∀ (fl : List Field) (off : Nat) (ks' : List Nat), flatFs P (flatN P d') fl off = some ks' → off + ks'.length ≤ us.length → off + ks'.length ≤ vs.length →
          ∀ r, eqK ks' ((as.drop off).take ks'.length) ((bs.drop off).take ks'.length) = some r → (Op.eqFields D us.toArray vs.toArray fl).run P w = .ok r w := by
        intro fl
        induction fl with
        | nil =>
          intro off ks' hks _ _ r hr
          simp only [flatFs, Option.some.injEq] at hks
          subst hks
          simp only [List.length_nil, List.take_zero, eqK, Option.some.injEq] at hr
          subst hr
          rfl
        | cons f fl ihf =>
          intro off ks' hks hl1 hl2 r hr
          simp only [flatFs] at hks
          split at hks
          · rename_i hname
            obtain ⟨hname, rfl⟩ := hname
            split at hks
            · rename_i kf hkf
              split at hks
              · rename_i hsz
                obtain ⟨kr, hkr, rfl⟩ := Option.map_eq_some_iff.1 hks
                simp only [List.length_append] at hl1 hl2 hr
                obtain ⟨r1, e1, e2, e3⟩ := eqK_append hr
                have hgf : ∃ gf, isAggT P f.type = some gf ∧ (gf = false → kf.length = 1) := by
                  rcases flatN_agg hkf with ⟨h1, k, rfl, _⟩ | ⟨h1, _⟩
                  · exact ⟨false, h1, fun _ => rfl⟩
                  · exact ⟨true, h1, fun h => by cases h⟩
                obtain ⟨gf, hgf, hgf1⟩ := hgf
                have hp1 := part_cells (w := w) (off := f.offset) hgf hsz (show f.offset + kf.length ≤ us.length by omega) hgf1
                have hp2 := part_cells (w := w) (off := f.offset) hgf hsz (show f.offset + kf.length ≤ vs.length by omega) hgf1
                have t1 : ((as.drop f.offset).take (kf.length + kr.length)).take kf.length = (as.drop f.offset).take kf.length := by rw [List.take_take]; congr 1; omega
                have t2 : ((bs.drop f.offset).take (kf.length + kr.length)).take kf.length = (bs.drop f.offset).take kf.length := by rw [List.take_take]; congr 1; omega
                rw [t1, t2] at e1
                have hq := ih f.type kf gf hkf hgf D ((as.drop f.offset).take kf.length) ((bs.drop f.offset).take kf.length) ((us.drop f.offset).take kf.length) ((vs.drop f.offset).take kf.length) r1
                  (by omega) ((ha.drop _).take _) ((hb.drop _).take _) (by simp; omega) (by simp; omega) e1
                simp only [Op.eqFields, if_pos hname, Sem.run_bind, hp1, Result.andThen_ok, hp2, hq]
                cases r1 with
                | false =>
                  have := e3 rfl; subst this
                  simp
                | true =>
                  have e2' := e2 rfl
                  have t3 : ((as.drop f.offset).take (kf.length + kr.length)).drop kf.length = (as.drop (f.offset + kf.length)).take kr.length := by
                    rw [List.drop_take, List.drop_drop]; congr 1; omega
                  have t4 : ((bs.drop f.offset).take (kf.length + kr.length)).drop kf.length = (bs.drop (f.offset + kf.length)).take kr.length := by
                    rw [List.drop_take, List.drop_drop]; congr 1; omega
                  rw [t3, t4] at e2'
                  simpa using ihf (f.offset + kf.length) kr hkr (by omega) (by omega) r e2'
              · cases hks
            · cases hks
          · cases hks
      exact go fs.toList 0 ks hfs (by omega) (by omega) r (by
        rw [List.drop_zero, List.drop_zero, List.take_of_length_le (by rw [ha.1]; omega), List.take_of_length_le (by rw [hb.1]; omega)]
        exact he)

end Go.Ab
