/-
  HolidayValid, part 3: the lengths of the months of the year 2000.
-/
import Derived.Test.YtkaadpkokmhfjaaGreatDoorHvB
namespace Go.Proofs.YtkaadpkokmhfjaaGreatDoor
open Go Go.Ab
attribute [local simp] e_skip e_ret e_exit e_scope k_seq k_cond k_block k_region k_nil k_cons seqK_n seqK_r seqK_e condK_t condK_f blockK_n blockK_r blockK_e regK_s opK_s guardK_t guardK_f callK_s callK_q finish_n finish_r wanted_n wanted_s grdK_b grdK_t
  o_mv o_pick o_bin o_un o_len o_sidx o_call pickK_t pickK_f lenR_s len_0 ev_t ev_c ev_f put_s put_n mask_n mask_c get_i res_n res_t one_1 argEnv b_add b_sub b_mul b_rem b_eql b_neq b_lss b_leq b_gtr b_geq u_not fin_bool fin_int
attribute [local simp] o_build fill_n fill_c fillK_s cells_int cells_str cells_bool o_idx ap_f putAt
variable {l : List AV} {S : AS}
attribute [local simp] cv13 cv14 cv15 cv43 cv44 cv45 cv46 cv47 cv48 cv88 cv89 cv90 cv91 cv92 cv93 cv94 cv95

def lenB (m : Int) : Int := if m = 2 then 29 else if m = 4 ∨ m = 6 ∨ m = 9 ∨ m = 11 then 30 else 31

theorem year_ev (S : AS) : (evW A0).call 91 [.int .i64 2000] S = some (.bool true, S, true) := by
  rw [e_call (f := af91) rfl (Nat.le_of_ble_eq_true rfl)]
  simp [af91]
theorem leap_ev (S : AS) : (evW A0).call 92 [.int .i64 2000] S = some (.bool true, S, true) := by
  rw [e_call (f := af92) rfl (Nat.le_of_ble_eq_true rfl)]
  simp [af92, year_ev]
theorem leapR_ev (S : AS) : (evW A0).call 95 [.int .i64 2000] S = some (.bool true, S, true) := by
  rw [e_call (f := af95) rfl (Nat.le_of_ble_eq_true rfl)]
  simp [af95]

theorem lenZ_ev (S : AS) (m : Int) (h1 : 1 ≤ m) (h2 : m ≤ 12) : (evW A0).call 45 [.int .i64 2000, .int .i64 m] S = some (.int .i64 (lenB m), S, true) := by
  rw [e_call (f := af45) rfl (Nat.le_of_ble_eq_true rfl)]
  have hm : m = 1 ∨ m = 2 ∨ m = 3 ∨ m = 4 ∨ m = 5 ∨ m = 6 ∨ m = 7 ∨ m = 8 ∨ m = 9 ∨ m = 10 ∨ m = 11 ∨ m = 12 := by omega
  rcases hm with rfl | rfl | rfl | rfl | rfl | rfl | rfl | rfl | rfl | rfl | rfl | rfl
  all_goals simp [af45, year_ev, leap_ev, lenB, wrapI, idxK, idxA]
theorem lenR_ev (S : AS) (m : Int) (h1 : 1 ≤ m) (h2 : m ≤ 12) : (evW A0).call 48 [.int .i64 2000, .int .i64 m] S = some (.int .i64 (lenB m), S, true) := by
  rw [e_call (f := af48) rfl (Nat.le_of_ble_eq_true rfl)]
  have hm : m = 1 ∨ m = 2 ∨ m = 3 ∨ m = 4 ∨ m = 5 ∨ m = 6 ∨ m = 7 ∨ m = 8 ∨ m = 9 ∨ m = 10 ∨ m = 11 ∨ m = 12 := by omega
  rcases hm with rfl | rfl | rfl | rfl | rfl | rfl | rfl | rfl | rfl | rfl | rfl | rfl
  all_goals simp [af48, leapR_ev, lenB]
end Go.Proofs.YtkaadpkokmhfjaaGreatDoor
