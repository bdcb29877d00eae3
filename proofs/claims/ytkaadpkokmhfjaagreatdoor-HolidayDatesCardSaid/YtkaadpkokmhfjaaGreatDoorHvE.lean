/-
  HolidayValid, part 5: the program's Valid.
-/
import Derived.Test.YtkaadpkokmhfjaaGreatDoorHvD
namespace Go.Proofs.YtkaadpkokmhfjaaGreatDoor
open Go Go.Ab
attribute [local simp] e_skip e_ret e_exit e_scope k_seq k_cond k_block k_region k_nil k_cons seqK_n seqK_r seqK_e condK_t condK_f blockK_n blockK_r blockK_e regK_s opK_s guardK_t guardK_f callK_s callK_q finish_n finish_r wanted_n wanted_s grdK_b grdK_t
  o_mv o_pick o_bin o_un o_len o_sidx o_call pickK_t pickK_f lenR_s len_0 ev_t ev_c ev_f put_s put_n mask_n mask_c get_i res_n res_t one_1 argEnv b_add b_sub b_mul b_rem b_eql b_neq b_lss b_leq b_gtr b_geq u_not fin_bool fin_int
attribute [local simp] o_build fill_n fill_c fillK_s cells_int cells_str cells_bool cells_agg ac_n ac_c ic_int ic_str ic_bool o_idx ap_f putAt o_box boxK_s o_new o_fldaddr fldK_p o_load ldK_p ldC_c lk_c AS.alloc fin_new
attribute [local simp] o_store stK_p stC_c AS.write up_c noNames noName o_eq eq_bool eq_flat eqK_n eqK_i eqK_s k_regionT regTK_s consT_s opTK_s guardTK_t guardTK_f k_nilT k_consT chkAll chk1 stAt sameAt AO.reading aop AS.load avEq avsEq ap_t
variable {l : List AV} {S : AS}
attribute [local simp] cv13 cv14 cv15 cv43 cv44 cv45 cv46 cv47 cv48 cv88 cv89 cv90 cv91 cv92 cv93 cv94 cv95 within_ev between_ev nameZ_ev nameR_ev lenZ_ev lenR_ev

set_option maxHeartbeats 4000000 in
theorem validZ_ev (S : AS) (s : List UInt8) (k mo d wd n off fr to ob : Int) :
    (evW A0).call 14 [.agg (holC s k mo d wd n off fr to ob)] S = some (.bool (decide (baseP s fr to ob ∧ kindP k mo d wd n off)), S, true) := by
  rw [e_call (f := af14) rfl (Nat.le_of_ble_eq_true rfl)]
  by_cases hN : nameB s = true
  case neg =>
    have hb : ¬ baseP s fr to ob := fun h => hN h.1
    simp [af14, holC, hN, hb]
  by_cases h1 : fr < 1
  · have hb : ¬ baseP s fr to ob := fun h => by unfold baseP at h; omega
    simp [af14, holC, hN, h1, hb]
  by_cases h2 : fr > to
  · have hb : ¬ baseP s fr to ob := fun h => by unfold baseP at h; omega
    simp [af14, holC, hN, h1, h2, hb]
  by_cases h3 : to > 9999
  · have hb : ¬ baseP s fr to ob := fun h => by unfold baseP at h; omega
    simp [af14, holC, hN, h1, h2, h3, hb]
  by_cases h4 : ob ≥ 1
  case neg =>
    have hb : ¬ baseP s fr to ob := fun h => by unfold baseP at h; omega
    simp [af14, holC, hN, h1, h2, h3, h4, hb]
  by_cases h5 : ob ≤ 3
  case neg =>
    have hb : ¬ baseP s fr to ob := fun h => by unfold baseP at h; omega
    simp [af14, holC, hN, h1, h2, h3, h4, h5, hb]
  have hb : baseP s fr to ob := ⟨hN, by omega, by omega, by omega, by omega, by omega⟩
  by_cases k1 : k = 1
  · subst k1
    by_cases c0 : mo ≥ 1
    case neg =>
      have hk : ¬ kindP 1 mo d wd n off := by unfold kindP; omega
      simp [af14, holC, hN, h1, h2, h3, h4, h5, c0, hb, hk]
    by_cases c1 : mo ≤ 12
    case neg =>
      have hk : ¬ kindP 1 mo d wd n off := by unfold kindP; omega
      simp [af14, holC, hN, h1, h2, h3, h4, h5, c0, c1, hb, hk]
    by_cases c2 : d ≥ 1
    case neg =>
      have hk : ¬ kindP 1 mo d wd n off := by unfold kindP; omega
      simp [af14, holC, hN, h1, h2, h3, h4, h5, c0, c1, c2, hb, hk]
    by_cases c3 : d ≤ lenB mo
    case neg =>
      have hk : ¬ kindP 1 mo d wd n off := by unfold kindP; omega
      simp [af14, holC, hN, h1, h2, h3, h4, h5, c0, c1, c2, c3, hb, hk]
    by_cases c4 : wd = 0
    case neg =>
      have hk : ¬ kindP 1 mo d wd n off := by unfold kindP; omega
      have z : ¬ (0 : Int) = wd := fun e => c4 e.symm
      simp [af14, holC, hN, h1, h2, h3, h4, h5, c0, c1, c2, c3, z, hb, hk]
    subst c4
    by_cases c5 : n = 0
    case neg =>
      have hk : ¬ kindP 1 mo d 0 n off := by unfold kindP; omega
      have z : ¬ (0 : Int) = n := fun e => c5 e.symm
      simp [af14, holC, hN, h1, h2, h3, h4, h5, c0, c1, c2, c3, z, hb, hk]
    subst c5
    by_cases c6 : off = 0
    case neg =>
      have hk : ¬ kindP 1 mo d 0 0 off := by unfold kindP; omega
      have z : ¬ (0 : Int) = off := fun e => c6 e.symm
      simp [af14, holC, hN, h1, h2, h3, h4, h5, c0, c1, c2, c3, z, hb, hk]
    subst c6
    have hk : kindP 1 mo d 0 0 0 := by unfold kindP; omega
    simp [af14, holC, hN, h1, h2, h3, h4, h5, c0, c1, c2, c3, hb, hk]
  by_cases k2 : k = 2
  · subst k2
    by_cases c0 : mo ≥ 1
    case neg =>
      have hk : ¬ kindP 2 mo d wd n off := by unfold kindP; omega
      simp [af14, holC, hN, h1, h2, h3, h4, h5, c0, hb, hk]
    by_cases c1 : mo ≤ 12
    case neg =>
      have hk : ¬ kindP 2 mo d wd n off := by unfold kindP; omega
      simp [af14, holC, hN, h1, h2, h3, h4, h5, c0, c1, hb, hk]
    by_cases c2 : wd ≥ 1
    case neg =>
      have hk : ¬ kindP 2 mo d wd n off := by unfold kindP; omega
      simp [af14, holC, hN, h1, h2, h3, h4, h5, c0, c1, c2, hb, hk]
    by_cases c3 : wd ≤ 7
    case neg =>
      have hk : ¬ kindP 2 mo d wd n off := by unfold kindP; omega
      simp [af14, holC, hN, h1, h2, h3, h4, h5, c0, c1, c2, c3, hb, hk]
    by_cases c4 : n ≥ -5
    case neg =>
      have hk : ¬ kindP 2 mo d wd n off := by unfold kindP; omega
      simp [af14, holC, hN, h1, h2, h3, h4, h5, c0, c1, c2, c3, c4, hb, hk]
    by_cases c5 : n ≤ 5
    case neg =>
      have hk : ¬ kindP 2 mo d wd n off := by unfold kindP; omega
      simp [af14, holC, hN, h1, h2, h3, h4, h5, c0, c1, c2, c3, c4, c5, hb, hk]
    by_cases c6 : n = 0
    case pos =>
      subst c6
      have hk : ¬ kindP 2 mo d wd 0 off := by unfold kindP; omega
      simp [af14, holC, hN, h1, h2, h3, h4, h5, c0, c1, c2, c3, c4, c5, hb, hk]
    by_cases c7 : off ≥ -30
    case neg =>
      have hk : ¬ kindP 2 mo d wd n off := by unfold kindP; omega
      simp [af14, holC, hN, h1, h2, h3, h4, h5, c0, c1, c2, c3, c4, c5, c6, c7, hb, hk]
    by_cases c8 : off ≤ 30
    case neg =>
      have hk : ¬ kindP 2 mo d wd n off := by unfold kindP; omega
      simp [af14, holC, hN, h1, h2, h3, h4, h5, c0, c1, c2, c3, c4, c5, c6, c7, c8, hb, hk]
    by_cases c9 : d = 0
    case neg =>
      have hk : ¬ kindP 2 mo d wd n off := by unfold kindP; omega
      have z : ¬ (0 : Int) = d := fun e => c9 e.symm
      simp [af14, holC, hN, h1, h2, h3, h4, h5, c0, c1, c2, c3, c4, c5, c6, c7, c8, z, hb, hk]
    subst c9
    have hk : kindP 2 mo 0 wd n off := by unfold kindP; omega
    simp [af14, holC, hN, h1, h2, h3, h4, h5, c0, c1, c2, c3, c4, c5, c6, c7, c8, hb, hk]
  by_cases k3 : k = 3
  · subst k3
    by_cases c0 : off ≥ -80
    case neg =>
      have hk : ¬ kindP 3 mo d wd n off := by unfold kindP; omega
      simp [af14, holC, hN, h1, h2, h3, h4, h5, c0, hb, hk]
    by_cases c1 : off ≤ 250
    case neg =>
      have hk : ¬ kindP 3 mo d wd n off := by unfold kindP; omega
      simp [af14, holC, hN, h1, h2, h3, h4, h5, c0, c1, hb, hk]
    by_cases c2 : mo = 0
    case neg =>
      have hk : ¬ kindP 3 mo d wd n off := by unfold kindP; omega
      have z : ¬ (0 : Int) = mo := fun e => c2 e.symm
      simp [af14, holC, hN, h1, h2, h3, h4, h5, c0, c1, z, hb, hk]
    subst c2
    by_cases c3 : d = 0
    case neg =>
      have hk : ¬ kindP 3 0 d wd n off := by unfold kindP; omega
      have z : ¬ (0 : Int) = d := fun e => c3 e.symm
      simp [af14, holC, hN, h1, h2, h3, h4, h5, c0, c1, z, hb, hk]
    subst c3
    by_cases c4 : wd = 0
    case neg =>
      have hk : ¬ kindP 3 0 0 wd n off := by unfold kindP; omega
      have z : ¬ (0 : Int) = wd := fun e => c4 e.symm
      simp [af14, holC, hN, h1, h2, h3, h4, h5, c0, c1, z, hb, hk]
    subst c4
    by_cases c5 : n = 0
    case neg =>
      have hk : ¬ kindP 3 0 0 0 n off := by unfold kindP; omega
      have z : ¬ (0 : Int) = n := fun e => c5 e.symm
      simp [af14, holC, hN, h1, h2, h3, h4, h5, c0, c1, z, hb, hk]
    subst c5
    have hk : kindP 3 0 0 0 0 off := by unfold kindP; omega
    simp [af14, holC, hN, h1, h2, h3, h4, h5, c0, c1, hb, hk]
  by_cases k4 : k = 4
  · subst k4
    by_cases c0 : n ≥ 1
    case neg =>
      have hk : ¬ kindP 4 mo d wd n off := by unfold kindP; omega
      simp [af14, holC, hN, h1, h2, h3, h4, h5, c0, hb, hk]
    by_cases c1 : n ≤ 4
    case neg =>
      have hk : ¬ kindP 4 mo d wd n off := by unfold kindP; omega
      simp [af14, holC, hN, h1, h2, h3, h4, h5, c0, c1, hb, hk]
    by_cases c2 : mo ≥ 1
    case neg =>
      have hk : ¬ kindP 4 mo d wd n off := by unfold kindP; omega
      simp [af14, holC, hN, h1, h2, h3, h4, h5, c0, c1, c2, hb, hk]
    by_cases c3 : mo ≤ 12
    case neg =>
      have hk : ¬ kindP 4 mo d wd n off := by unfold kindP; omega
      simp [af14, holC, hN, h1, h2, h3, h4, h5, c0, c1, c2, c3, hb, hk]
    by_cases c4 : d ≥ 1
    case neg =>
      have hk : ¬ kindP 4 mo d wd n off := by unfold kindP; omega
      simp [af14, holC, hN, h1, h2, h3, h4, h5, c0, c1, c2, c3, c4, hb, hk]
    by_cases c5 : d ≤ 30
    case neg =>
      have hk : ¬ kindP 4 mo d wd n off := by unfold kindP; omega
      simp [af14, holC, hN, h1, h2, h3, h4, h5, c0, c1, c2, c3, c4, c5, hb, hk]
    by_cases g1 : d < 30
    · by_cases c6 : wd = 0
      case neg =>
        have hk : ¬ kindP 4 mo d wd n off := by unfold kindP; omega
        have z : ¬ (0 : Int) = wd := fun e => c6 e.symm
        simp [af14, holC, hN, h1, h2, h3, h4, h5, c0, c1, c2, c3, c4, c5, g1, z, hb, hk]
      subst c6
      by_cases c7 : off = 0
      case neg =>
        have hk : ¬ kindP 4 mo d 0 n off := by unfold kindP; omega
        have z : ¬ (0 : Int) = off := fun e => c7 e.symm
        simp [af14, holC, hN, h1, h2, h3, h4, h5, c0, c1, c2, c3, c4, c5, g1, z, hb, hk]
      subst c7
      have hk : kindP 4 mo d 0 n 0 := by unfold kindP; omega
      simp [af14, holC, hN, h1, h2, h3, h4, h5, c0, c1, c2, c3, c4, c5, g1, hb, hk]
    by_cases g2 : mo.tmod 2 = 1
    · by_cases c6 : wd = 0
      case neg =>
        have hk : ¬ kindP 4 mo d wd n off := by unfold kindP; omega
        have z : ¬ (0 : Int) = wd := fun e => c6 e.symm
        simp [af14, holC, hN, h1, h2, h3, h4, h5, c0, c1, c2, c3, c4, c5, g1, g2, z, hb, hk]
      subst c6
      by_cases c7 : off = 0
      case neg =>
        have hk : ¬ kindP 4 mo d 0 n off := by unfold kindP; omega
        have z : ¬ (0 : Int) = off := fun e => c7 e.symm
        simp [af14, holC, hN, h1, h2, h3, h4, h5, c0, c1, c2, c3, c4, c5, g1, g2, z, hb, hk]
      subst c7
      have hk : kindP 4 mo d 0 n 0 := by unfold kindP; omega
      simp [af14, holC, hN, h1, h2, h3, h4, h5, c0, c1, c2, c3, c4, c5, g1, g2, hb, hk]
    by_cases g3 : mo = 12
    · subst g3
      by_cases c6 : wd = 0
      case neg =>
        have hk : ¬ kindP 4 12 d wd n off := by unfold kindP; omega
        have z : ¬ (0 : Int) = wd := fun e => c6 e.symm
        simp [af14, holC, hN, h1, h2, h3, h4, h5, c0, c1, c4, c5, g1, z, hb, hk]
      subst c6
      by_cases c7 : off = 0
      case neg =>
        have hk : ¬ kindP 4 12 d 0 n off := by unfold kindP; omega
        have z : ¬ (0 : Int) = off := fun e => c7 e.symm
        simp [af14, holC, hN, h1, h2, h3, h4, h5, c0, c1, c4, c5, g1, z, hb, hk]
      subst c7
      have hk : kindP 4 12 d 0 n 0 := by unfold kindP; omega
      simp [af14, holC, hN, h1, h2, h3, h4, h5, c0, c1, c4, c5, g1, hb, hk]
    have hk : ¬ kindP 4 mo d wd n off := by unfold kindP; omega
    simp [af14, holC, hN, h1, h2, h3, h4, h5, c0, c1, c2, c3, c4, c5, g1, g2, g3, hb, hk]
  by_cases k5 : k = 5
  · subst k5
    by_cases c0 : mo ≥ 1
    case neg =>
      have hk : ¬ kindP 5 mo d wd n off := by unfold kindP; omega
      simp [af14, holC, hN, h1, h2, h3, h4, h5, c0, hb, hk]
    by_cases c1 : mo ≤ 13
    case neg =>
      have hk : ¬ kindP 5 mo d wd n off := by unfold kindP; omega
      simp [af14, holC, hN, h1, h2, h3, h4, h5, c0, c1, hb, hk]
    by_cases c2 : d ≥ 1
    case neg =>
      have hk : ¬ kindP 5 mo d wd n off := by unfold kindP; omega
      simp [af14, holC, hN, h1, h2, h3, h4, h5, c0, c1, c2, hb, hk]
    by_cases c3 : d ≤ 30
    case neg =>
      have hk : ¬ kindP 5 mo d wd n off := by unfold kindP; omega
      simp [af14, holC, hN, h1, h2, h3, h4, h5, c0, c1, c2, c3, hb, hk]
    by_cases c4 : wd = 0
    case neg =>
      have hk : ¬ kindP 5 mo d wd n off := by unfold kindP; omega
      have z : ¬ (0 : Int) = wd := fun e => c4 e.symm
      simp [af14, holC, hN, h1, h2, h3, h4, h5, c0, c1, c2, c3, z, hb, hk]
    subst c4
    by_cases c5 : n = 0
    case neg =>
      have hk : ¬ kindP 5 mo d 0 n off := by unfold kindP; omega
      have z : ¬ (0 : Int) = n := fun e => c5 e.symm
      simp [af14, holC, hN, h1, h2, h3, h4, h5, c0, c1, c2, c3, z, hb, hk]
    subst c5
    by_cases c6 : off = 0
    case neg =>
      have hk : ¬ kindP 5 mo d 0 0 off := by unfold kindP; omega
      have z : ¬ (0 : Int) = off := fun e => c6 e.symm
      simp [af14, holC, hN, h1, h2, h3, h4, h5, c0, c1, c2, c3, z, hb, hk]
    subst c6
    have hk : kindP 5 mo d 0 0 0 := by unfold kindP; omega
    simp [af14, holC, hN, h1, h2, h3, h4, h5, c0, c1, c2, c3, hb, hk]
  have hk : ¬ kindP k mo d wd n off := by unfold kindP; omega
  simp [af14, holC, hN, h1, h2, h3, h4, h5, hb, hk, k1, k2, k3, k4, k5]
end Go.Proofs.YtkaadpkokmhfjaaGreatDoor
