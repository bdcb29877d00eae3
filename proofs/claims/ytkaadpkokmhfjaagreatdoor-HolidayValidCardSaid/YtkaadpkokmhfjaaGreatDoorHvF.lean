/-
  HolidayValid, part 6: the law.
-/
import Derived.Test.YtkaadpkokmhfjaaGreatDoorHvE
import Derived.KernelRfl
namespace Go.Proofs.YtkaadpkokmhfjaaGreatDoor
open Go Go.Ab
attribute [local simp] e_skip e_ret e_exit e_scope k_seq k_cond k_block k_region k_nil k_cons seqK_n seqK_r seqK_e condK_t condK_f blockK_n blockK_r blockK_e regK_s opK_s guardK_t guardK_f callK_s callK_q finish_n finish_r wanted_n wanted_s grdK_b grdK_t
  o_mv o_pick o_bin o_un o_len o_sidx o_call pickK_t pickK_f lenR_s len_0 ev_t ev_c ev_f put_s put_n mask_n mask_c get_i res_n res_t one_1 argEnv b_add b_sub b_mul b_rem b_eql b_neq b_lss b_leq b_gtr b_geq u_not fin_bool fin_int
attribute [local simp] o_build fill_n fill_c fillK_s cells_int cells_str cells_bool cells_agg ac_n ac_c ic_int ic_str ic_bool o_idx ap_f putAt o_box boxK_s o_new o_fldaddr fldK_p o_load ldK_p ldC_c lk_c AS.alloc fin_new
attribute [local simp] o_store stK_p stC_c AS.write up_c noNames noName o_eq eq_bool eq_flat eqK_n eqK_i eqK_s k_regionT regTK_s consT_s opTK_s guardTK_t guardTK_f k_nilT k_consT chkAll chk1 stAt sameAt AO.reading aop AS.load avEq avsEq ap_t
variable {l : List AV} {S : AS}
attribute [local simp] cv13 cv14 cv15 cv43 cv44 cv45 cv46 cv47 cv48 cv88 cv89 cv90 cv91 cv92 cv93 cv94 cv95 within_ev between_ev nameZ_ev nameR_ev lenZ_ev lenR_ev


theorem awake1 (cs : List AV) : (evN A0 20000).call 13 [] ⟨[(0, .cells cs)], 1, 0, 0⟩ = some (.bool true, ⟨[(0, .cells cs)], 1, 0, 0⟩, true) := by kernel_rfl

theorem law_ev (s : List UInt8) (k mo d wd n off fr to ob : Int) :
    (evW A0).call 3 [.agg (holC s k mo d wd n off fr to ob)] ⟨[], 0, 0, 0⟩ = some (.bool true, ⟨[], 0, 0, 0⟩, true) := by
  rw [e_call (f := af3) rfl (Nat.le_of_ble_eq_true rfl)]
  have ha := evW_call_of (awake1 (holC s k mo d wd n off fr to ob))
  have hz := validZ_ev ⟨[(0, .cells (holC s k mo d wd n off fr to ob))], 1, 0, 0⟩ s k mo d wd n off fr to ob
  have hr := validR_ev ⟨[(0, .cells (holC s k mo d wd n off fr to ob))], 1, 0, 0⟩ s k mo d wd n off fr to ob
  unfold holC at ha hz hr ⊢
  simp [af3, ha, hz, hr]
end Go.Proofs.YtkaadpkokmhfjaaGreatDoor
