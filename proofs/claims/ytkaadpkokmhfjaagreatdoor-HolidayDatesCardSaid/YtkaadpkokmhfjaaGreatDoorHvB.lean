/-
  HolidayValid, part 2: names.
-/
import Derived.Test.YtkaadpkokmhfjaaGreatDoorHvA
import Derived.Test.YtkaadpkokmhfjaaGreatDoorAb26
namespace Go.Proofs.YtkaadpkokmhfjaaGreatDoor
open Go Go.Ab
attribute [local simp] e_skip e_ret e_exit e_scope k_seq k_cond k_block k_region k_nil k_cons seqK_n seqK_r seqK_e condK_t condK_f blockK_n blockK_r blockK_e regK_s opK_s guardK_t guardK_f callK_s callK_q finish_n finish_r wanted_n wanted_s grdK_b grdK_t
  o_mv o_pick o_bin o_un o_len o_sidx o_call pickK_t pickK_f lenR_s len_0 ev_t ev_c ev_f put_s put_n mask_n mask_c get_i res_n res_t one_1 argEnv b_add b_sub b_mul b_rem b_eql b_neq b_lss b_leq b_gtr b_geq u_not fin_bool fin_int
variable {l : List AV} {S : AS}
theorem cv13 : callV A0 (evW A0) (.fn 13 [] []) l S = (evW A0).call 13 l S := cv_none rfl
theorem cv14 : callV A0 (evW A0) (.fn 14 [] []) l S = (evW A0).call 14 l S := cv_none rfl
theorem cv15 : callV A0 (evW A0) (.fn 15 [] []) l S = (evW A0).call 15 l S := cv_none rfl
theorem cv43 : callV A0 (evW A0) (.fn 43 [] []) l S = (evW A0).call 43 l S := cv_none rfl
theorem cv44 : callV A0 (evW A0) (.fn 44 [] []) l S = (evW A0).call 44 l S := cv_none rfl
theorem cv45 : callV A0 (evW A0) (.fn 45 [] []) l S = (evW A0).call 45 l S := cv_none rfl
theorem cv46 : callV A0 (evW A0) (.fn 46 [] []) l S = (evW A0).call 46 l S := cv_none rfl
theorem cv47 : callV A0 (evW A0) (.fn 47 [] []) l S = (evW A0).call 47 l S := cv_none rfl
theorem cv48 : callV A0 (evW A0) (.fn 48 [] []) l S = (evW A0).call 48 l S := cv_none rfl
theorem cv88 : callV A0 (evW A0) (.fn 88 [] []) l S = (evW A0).call 88 l S := cv_none rfl
theorem cv89 : callV A0 (evW A0) (.fn 89 [] []) l S = (evW A0).call 89 l S := cv_none rfl
theorem cv90 : callV A0 (evW A0) (.fn 90 [] []) l S = (evW A0).call 90 l S := cv_none rfl
theorem cv91 : callV A0 (evW A0) (.fn 91 [] []) l S = (evW A0).call 91 l S := cv_none rfl
theorem cv92 : callV A0 (evW A0) (.fn 92 [] []) l S = (evW A0).call 92 l S := cv_none rfl
theorem cv93 : callV A0 (evW A0) (.fn 93 [] []) l S = (evW A0).call 93 l S := cv_none rfl
theorem cv94 : callV A0 (evW A0) (.fn 94 [] []) l S = (evW A0).call 94 l S := cv_none rfl
theorem cv95 : callV A0 (evW A0) (.fn 95 [] []) l S = (evW A0).call 95 l S := cv_none rfl
theorem cv154 : callV A0 (evW A0) (.fn 154 [] []) l S = (evW A0).call 154 l S := cv_none rfl
theorem cv209 : callV A0 (evW A0) (.fn 209 [] []) l S = idxByteE l S := cv_some rfl
attribute [local simp] cv13 cv14 cv15 cv43 cv44 cv45 cv46 cv47 cv48 cv88 cv89 cv90 cv91 cv92 cv93 cv94 cv95 cv154 cv209

theorem within_ev (S : AS) (n a b : Int) : (evW A0).call 44 [.int .i64 n, .int .i64 a, .int .i64 b] S = some (.bool (decide (n ≥ a) && decide (n ≤ b)), S, true) := by
  rw [e_call (f := af44) rfl (Nat.le_of_ble_eq_true rfl)]
  by_cases h : n ≥ a <;> simp [af44, h]
theorem between_ev (S : AS) (n a b : Int) : (evW A0).call 47 [.int .i64 n, .int .i64 a, .int .i64 b] S = some (.bool (decide (n ≥ a) && decide (n ≤ b)), S, true) := by
  rw [e_call (f := af47) rfl (Nat.le_of_ble_eq_true rfl)]
  by_cases h : n ≥ a <;> simp [af47, h]

def letB (c : Int) : Bool := decide (65 ≤ c ∧ c ≤ 90 ∨ 97 ≤ c ∧ c ≤ 122)
def digB (c : Int) : Bool := decide (48 ≤ c ∧ c ≤ 57)
theorem letZ_ev (S : AS) (c : Int) : (evW A0).call 88 [.int .u8 c] S = some (.bool (letB c), S, true) := by
  rw [e_call (f := af88) rfl (Nat.le_of_ble_eq_true rfl)]
  by_cases h1 : c ≥ 65 <;> by_cases h2 : c ≤ 90 <;> by_cases h3 : c ≥ 97 <;> simp [af88, h1, h2, h3, letB] <;> omega
theorem letR_ev (S : AS) (c : Int) : (evW A0).call 93 [.int .u8 c] S = some (.bool (letB c), S, true) := by
  rw [e_call (f := af93) rfl (Nat.le_of_ble_eq_true rfl)]
  by_cases h1 : c ≥ 65 <;> by_cases h2 : c ≤ 122 <;> by_cases h3 : c ≥ 97 <;> simp [af93, h1, h2, h3, letB] <;> omega
theorem digZ_ev (S : AS) (c : Int) : (evW A0).call 89 [.int .u8 c] S = some (.bool (digB c), S, true) := by
  rw [e_call (f := af89) rfl (Nat.le_of_ble_eq_true rfl)]
  by_cases h1 : c ≥ 48 <;> simp [af89, h1, digB]
theorem digR_ev (S : AS) (c : Int) : (evW A0).call 94 [.int .u8 c] S = some (.bool (digB c), S, true) := by
  rw [e_call (f := af94) rfl (Nat.le_of_ble_eq_true rfl)]
  by_cases h1 : c ≥ 48 <;> simp [af94, h1, digB]
theorem idx154_ev (S : AS) (s : List UInt8) (c : Int) : (evW A0).call 154 [.str s, .int .u8 c] S = some (.int .i64 (Lib.indexByte s c.toNat.toUInt8), S, true) := by
  rw [e_call (f := af154) rfl (Nat.le_of_ble_eq_true rfl)]
  simp [af154, idxByteE]
theorem idx_ev (S : AS) (s : List UInt8) (c : Int) : (evW A0).call 90 [.str s, .int .u8 c] S = some (.int .i64 (Lib.indexByte s c.toNat.toUInt8), S, true) := by
  rw [e_call (f := af90) rfl (Nat.le_of_ble_eq_true rfl)]
  simp [af90, idx154_ev]

/-- The characters of a name. -/
def okB (b : UInt8) : Bool := letB b.toNat || digB b.toNat || decide (0 ≤ Lib.indexByte [95, 47, 43, 45] b)
attribute [local simp] letZ_ev letR_ev digZ_ev digR_ev idx_ev

theorem loop43 (s : List UInt8) (hs : s.length ≤ 30) (S : AS) : ∀ (m i : Nat), i + m = s.length →
    (evW A0).code af43L0 [(0, .str s), (19, .int .i64 s.length), (20, .int .i64 i)] S =
      if (s.drop i).all okB then some (.exit 0, [(0, .str s), (19, .int .i64 s.length), (20, .int .i64 s.length), (21, .bool false)], S) else some (.ret, [(2, .bool false)], S) := by
  intro m
  induction m with
  | zero =>
    intro i hi
    rw [k_loop (c := af43L0) rfl]
    have : i = s.length := by omega
    subst this
    simp
  | succ m ih =>
    intro i hi
    have hlt : i < s.length := by omega
    have hlt' : (i : Int) < s.length := by omega
    have hget : s[i]? = some s[i] := List.getElem?_eq_getElem hlt
    have hdrop : s.drop i = s[i] :: s.drop (i + 1) := by rw [List.getElem_cons_drop]
    have hidx : idxA s.length (.int .i64 (i : Int)) = some i := by simp [idxA, hlt]
    have hw : wrapI .i64 ((i : Int) + 1) = ((i + 1 : Nat) : Int) := by rw [wrapI_small (by omega) (by omega)]; omega
    have ih := ih (i + 1) (by omega)
    rw [k_loop (c := af43L0) rfl, hdrop]
    generalize hb : s[i] = b at *
    have hok : okB b = (letB b.toNat || digB b.toNat || decide (0 ≤ Lib.indexByte [95, 47, 43, 45] b)) := rfl
    have ih' := ih
    simp only [List.all_eq_true] at ih'
    by_cases h1 : letB b.toNat = true
    · simp [hlt, sidxK_s hidx hget, h1, hw, hok]
      simpa using ih'
    · by_cases h2 : digB b.toNat = true
      · simp [hlt, sidxK_s hidx hget, h1, h2, hw, hok]
        simpa using ih'
      · by_cases h3 : Lib.indexByte [95, 47, 43, 45] b < 0
        · have h3' : ¬ 0 ≤ Lib.indexByte [95, 47, 43, 45] b := by omega
          simp [hlt, sidxK_s hidx hget, h1, h2, h3, h3', hok]
        · have h3' : 0 ≤ Lib.indexByte [95, 47, 43, 45] b := by omega
          simp [hlt, sidxK_s hidx hget, h1, h2, h3, h3', hw, hok]
          simpa using ih'

/-- The characters of a name, in the document's words. -/
def okR (b : UInt8) : Bool := letB b.toNat || digB b.toNat || decide ((b.toNat : Int) = 95 ∨ (b.toNat : Int) = 47 ∨ (b.toNat : Int) = 43 ∨ (b.toNat : Int) = 45)

theorem letB_95 : letB 95 = false := by decide
theorem digB_95 : digB 95 = false := by decide
theorem letB_47 : letB 47 = false := by decide
theorem digB_47 : digB 47 = false := by decide
theorem letB_43 : letB 43 = false := by decide
theorem digB_43 : digB 43 = false := by decide
theorem letB_45 : letB 45 = false := by decide
theorem digB_45 : digB 45 = false := by decide
attribute [local simp] letB_95 digB_95 letB_47 digB_47 letB_43 digB_43 letB_45 digB_45

theorem loop46 (s : List UInt8) (hs : s.length ≤ 30) (S : AS) : ∀ (m i : Nat), i + m = s.length →
    (evW A0).code af46L0 [(0, .str s), (3, .int .i64 i)] S =
      if (s.drop i).all okR then some (.exit 0, [(0, .str s), (3, .int .i64 s.length), (21, .bool false)], S) else some (.ret, [(2, .bool false)], S) := by
  intro m
  induction m with
  | zero =>
    intro i hi
    rw [k_loop (c := af46L0) rfl]
    have : i = s.length := by omega
    subst this
    simp
  | succ m ih =>
    intro i hi
    have hlt : i < s.length := by omega
    have hget : s[i]? = some s[i] := List.getElem?_eq_getElem hlt
    have hdrop : s.drop i = s[i] :: s.drop (i + 1) := by rw [List.getElem_cons_drop]
    have hidx : idxA s.length (.int .i64 (i : Int)) = some i := by simp [idxA, hlt]
    have hw : wrapI .i64 ((i : Int) + 1) = ((i + 1 : Nat) : Int) := by rw [wrapI_small (by omega) (by omega)]; omega
    have ih := ih (i + 1) (by omega)
    rw [k_loop (c := af46L0) rfl, hdrop]
    generalize hb : s[i] = b at *
    have hok : okR b = (letB b.toNat || digB b.toNat || decide ((b.toNat : Int) = 95 ∨ (b.toNat : Int) = 47 ∨ (b.toNat : Int) = 43 ∨ (b.toNat : Int) = 45)) := rfl
    have ih' := ih
    simp only [List.all_eq_true] at ih'
    by_cases h1 : letB b.toNat = true
    · simp [hlt, sidxK_s hidx hget, h1, hw, hok]
      simpa using ih'
    · by_cases h2 : digB b.toNat = true
      · simp [hlt, sidxK_s hidx hget, h1, h2, hw, hok]
        simpa using ih'
      · by_cases h3 : (b.toNat : Int) = 95
        · simp [hlt, sidxK_s hidx hget, h3, hw, hok]
          simpa using ih'
        · by_cases h4 : (b.toNat : Int) = 47
          · simp [hlt, sidxK_s hidx hget, h4, hw, hok]
            simpa using ih'
          · by_cases h5 : (b.toNat : Int) = 43
            · simp [hlt, sidxK_s hidx hget, h5, hw, hok]
              simpa using ih'
            · by_cases h6 : (b.toNat : Int) = 45
              · simp [hlt, sidxK_s hidx hget, h6, hw, hok]
                simpa using ih'
              · simp [hlt, sidxK_s hidx hget, h1, h2, h3, h4, h5, h6, hok]

theorem okB_eq (b : UInt8) : okB b = okR b := by
  have : ∀ n : Fin 256, okB (UInt8.ofNat n.val) = okR (UInt8.ofNat n.val) := by decide +kernel
  have h := this ⟨b.toNat, b.toNat_lt⟩
  simpa using h

def nameB (s : List UInt8) : Bool := decide (1 ≤ s.length ∧ s.length ≤ 30) && (match s[0]? with | some b => letB b.toNat | none => false) && s.all okR

theorem nameZ_ev (S : AS) (s : List UInt8) : (evW A0).call 43 [.str s] S = some (.bool (nameB s), S, true) := by
  rw [e_call (f := af43) rfl (Nat.le_of_ble_eq_true rfl)]
  by_cases h1 : s.length < 1
  · have : s = [] := List.length_eq_zero_iff.1 (by omega)
    subst this
    simp [af43, nameB]
  · have h1' : ¬ (s.length : Int) < 1 := by omega
    by_cases h2 : s.length > 30
    · have h2' : (30 : Int) < s.length := by omega
      have hn : nameB s = false := by simp [nameB]; omega
      rw [hn]
      simp [af43, h1', h2']
    · have h2' : ¬ (30 : Int) < s.length := by omega
      have hlt : 0 < s.length := by omega
      have hget : s[0]? = some s[0] := List.getElem?_eq_getElem hlt
      have hidx : idxA s.length (.int .i64 0) = some 0 := by simp [idxA, hlt]
      have hl := loop43 s (by omega) { S with wm := S.next, nm := S.next } s.length 0 (by omega)
      have hall : s.all okB = s.all okR := by rw [funext okB_eq]
      rw [List.drop_zero, hall] at hl
      simp only [Int.natCast_zero] at hl
      by_cases h3 : letB s[0].toNat = true
      · by_cases h4 : s.all okR = true
        · rw [if_pos h4] at hl
          have hn : nameB s = true := by unfold nameB; rw [h4, hget]; simp [h3]; omega
          rw [hn]
          simp [af43, h1', h2', sidxK_s hidx hget, h3, hl]
        · rw [if_neg h4] at hl
          have hn : nameB s = false := by unfold nameB; rw [Bool.not_eq_true] at h4; rw [h4]; simp
          rw [hn]
          simp [af43, h1', h2', sidxK_s hidx hget, h3, hl]
      · have hn : nameB s = false := by unfold nameB; rw [hget]; simp [h3]
        rw [hn]
        simp [af43, h1', h2', sidxK_s hidx hget, h3]

theorem nameR_ev (S : AS) (s : List UInt8) : (evW A0).call 46 [.str s] S = some (.bool (nameB s), S, true) := by
  rw [e_call (f := af46) rfl (Nat.le_of_ble_eq_true rfl)]
  by_cases h1 : s.length < 1
  · have : s = [] := List.length_eq_zero_iff.1 (by omega)
    subst this
    simp [af46, nameB]
  · have h1' : ¬ (s.length : Int) < 1 := by omega
    by_cases h2 : s.length > 30
    · have h2' : (30 : Int) < s.length := by omega
      have hn : nameB s = false := by simp [nameB]; omega
      rw [hn]
      simp [af46, h1', h2']
    · have h2' : ¬ (30 : Int) < s.length := by omega
      have hlt : 0 < s.length := by omega
      have hget : s[0]? = some s[0] := List.getElem?_eq_getElem hlt
      have hidx : idxA s.length (.int .i64 0) = some 0 := by simp [idxA, hlt]
      have hl := loop46 s (by omega) { S with wm := S.next, nm := S.next } s.length 0 (by omega)
      rw [List.drop_zero] at hl
      simp only [Int.natCast_zero] at hl
      by_cases h3 : letB s[0].toNat = true
      · by_cases h4 : s.all okR = true
        · rw [if_pos h4] at hl
          have hn : nameB s = true := by unfold nameB; rw [h4, hget]; simp [h3]; omega
          rw [hn]
          simp [af46, h1', h2', sidxK_s hidx hget, h3, hl]
        · rw [if_neg h4] at hl
          have hn : nameB s = false := by unfold nameB; rw [Bool.not_eq_true] at h4; rw [h4]; simp
          rw [hn]
          simp [af46, h1', h2', sidxK_s hidx hget, h3, hl]
      · have hn : nameB s = false := by unfold nameB; rw [hget]; simp [h3]
        rw [hn]
        simp [af46, h1', h2', sidxK_s hidx hget, h3]
end Go.Proofs.YtkaadpkokmhfjaaGreatDoor
