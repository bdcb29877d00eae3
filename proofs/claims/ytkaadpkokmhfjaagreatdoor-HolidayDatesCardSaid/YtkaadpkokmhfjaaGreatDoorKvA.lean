/-
  The civil calendar and Easter, as the evaluator runs them.
-/
import Derived.Test.YtkaadpkokmhfjaaGreatDoorHvA
import Derived.Test.YtkaadpkokmhfjaaGreatDoorAb27
namespace Go.Proofs.YtkaadpkokmhfjaaGreatDoor
open Go Go.Ab
set_option maxRecDepth 100000
@[simp] theorem A0_ext {n : Nat} : A0.ext n = if n = 193 then some cntByteE else if n = 209 then some idxByteE else none := by
  show extT n = _
  unfold extT
  by_cases h1 : n = 193
  · subst h1; rfl
  · by_cases h2 : n = 209
    · subst h2; rfl
    · have e1 : Nat.beq n 193 = false := by rw [← Bool.not_eq_true]; intro e; exact h1 (Nat.eq_of_beq_eq_true e)
      have e2 : Nat.beq n 209 = false := by rw [← Bool.not_eq_true]; intro e; exact h2 (Nat.eq_of_beq_eq_true e)
      rw [e1, e2, if_neg h1, if_neg h2]; rfl
@[simp] theorem A0_glob : A0.glob = fun _ => none := rfl

def yearB (y : Int) : Bool := decide (1 ≤ y ∧ y ≤ 9999)
def leapB (y : Int) : Bool := decide (1 ≤ y ∧ y ≤ 9999 ∧ y % 4 = 0 ∧ (y % 100 ≠ 0 ∨ y % 400 = 0))
def mlen (l : Bool) (m : Int) : Int := if m = 2 then (if l = true then 29 else 28) else if m = 4 ∨ m = 6 ∨ m = 9 ∨ m = 11 then 30 else 31
def lenG (y m : Int) : Int := if 1 ≤ y ∧ y ≤ 9999 ∧ 1 ≤ m ∧ m ≤ 12 then mlen (leapB y) m else 0
def cnt0 (y m d : Int) : Int := 365 * y + y / 4 - y / 100 + y / 400 + (153 * (m - 3) + 2) / 5 + d - 307 - 719162
def cnt (y m d : Int) : Int := if m ≤ 2 then cnt0 (y - 1) (m + 12) d else cnt0 y m d

@[simp] theorem yearZ_ev (S : AS) (y : Int) : (evW A0).call 91 [.int .i64 y] S = some (.bool (yearB y), S, true) := by
  rw [run_call (f := af91) rfl (Nat.le_of_ble_eq_true rfl)]
  simp +contextual -dsimp -implicitDefEqProofs [af91]
  simp only [brD_ite]
  repeat' split
  all_goals (refine ret_bool ?_; simp [yearB]; try omega)
@[simp] theorem leapZ_ev (S : AS) (y : Int) : (evW A0).call 92 [.int .i64 y] S = some (.bool (leapB y), S, true) := by
  rw [run_call (f := af92) rfl (Nat.le_of_ble_eq_true rfl)]
  simp +contextual -dsimp -implicitDefEqProofs [af92]
  simp only [brD_ite, yearB, decide_eq_true_eq]
  by_cases hy : 1 ≤ y ∧ y ≤ 9999
  · simp only [tmod_nn (a := y) (by omega)]
    repeat' split
    all_goals (refine ret_bool ?_; simp [leapB]; try omega)
  · rw [if_neg hy]
    refine ret_bool ?_
    simp [leapB]
    omega
theorem idx12 (a : Int) (h1 : 0 ≤ a) (h2 : a < 12) : idxA 12 (.int .i64 a) = some a.toNat := by
  simp [idxA, h1, h2]
@[simp] theorem lenG_ev (S : AS) (y m : Int) : (evW A0).call 45 [.int .i64 y, .int .i64 m] S = some (.int .i64 (lenG y m), S, true) := by
  rw [run_call (f := af45) rfl (Nat.le_of_ble_eq_true rfl)]
  by_cases hm : 1 ≤ m ∧ m ≤ 12
  · have hm' : m = 1 ∨ m = 2 ∨ m = 3 ∨ m = 4 ∨ m = 5 ∨ m = 6 ∨ m = 7 ∨ m = 8 ∨ m = 9 ∨ m = 10 ∨ m = 11 ∨ m = 12 := by omega
    rcases hm' with rfl | rfl | rfl | rfl | rfl | rfl | rfl | rfl | rfl | rfl | rfl | rfl
    all_goals
      simp +contextual -dsimp -implicitDefEqProofs [af45, wrapI, idxA]
      simp only [brD_ite, yearB]
      simp [lenG, mlen]
      try grind
  · have hz : lenG y m = 0 := by unfold lenG; rw [if_neg (by omega)]
    rw [hz]
    rcases (show m < 1 ∨ 12 < m by omega) with h | h
    · simp +contextual -dsimp -implicitDefEqProofs [af45, h]
      simp only [brD_ite]
      repeat' split
      all_goals rfl
    · have h2 : ¬ m < 1 := by omega
      simp +contextual -dsimp -implicitDefEqProofs [af45, h, h2]
      simp only [brD_ite]
      repeat' split
      all_goals rfl
@[simp] theorem validD_ev (S : AS) (y m d : Int) : (evW A0).call 53 [.agg [.int .i64 y, .int .i64 m, .int .i64 d]] S = some (.bool (decide (1 ≤ d ∧ d ≤ lenG y m)), S, true) := by
  rw [run_call (f := af53) rfl (Nat.le_of_ble_eq_true rfl)]
  simp +contextual -dsimp -implicitDefEqProofs [af53]
  simp only [brD_ite]
  repeat' split
  all_goals (refine ret_bool ?_; simp; try omega)
theorem cnt_ev (S : AS) (y m d : Int) (hy : 1 ≤ y ∧ y ≤ 10000) (hm : 1 ≤ m ∧ m ≤ 13) (hd : -1000 ≤ d ∧ d ≤ 1000) : (evW A0).call 54 [.int .i64 y, .int .i64 m, .int .i64 d] S = some (.int .i64 (cnt y m d), S, true) := by
  rw [run_call (f := af54) rfl (Nat.le_of_ble_eq_true rfl)]
  simp +contextual -dsimp -implicitDefEqProofs [af54]
  simp only [brD_ite]
  split
  · refine ret_int ?_
    simp (disch := omega) only [wrapI_id, tdiv_nn]
    unfold cnt cnt0
    rw [if_pos (by assumption)]
    omega
  · refine ret_int ?_
    simp (disch := omega) only [wrapI_id, tdiv_nn]
    unfold cnt cnt0
    rw [if_neg (by assumption)]
    omega
theorem lenG_pos {y m d : Int} (h : 1 ≤ d ∧ d ≤ lenG y m) : (1 ≤ y ∧ y ≤ 9999) ∧ (1 ≤ m ∧ m ≤ 12) ∧ d ≤ 31 := by
  unfold lenG mlen at h
  split at h
  · rename_i hc
    refine ⟨⟨hc.1, hc.2.1⟩, ⟨hc.2.2.1, hc.2.2.2⟩, ?_⟩
    split at h
    · split at h <;> omega
    · split at h <;> omega
  · omega
/-- The day of a date. -/
@[simp] theorem day_ev (S : AS) (y m d : Int) : (evW A0).call 19 [.agg [.int .i64 y, .int .i64 m, .int .i64 d]] S = some (.tup [.int .i64 (if 1 ≤ d ∧ d ≤ lenG y m then cnt y m d else 0), .int .i64 (if 1 ≤ d ∧ d ≤ lenG y m then 0 else 1)], S, true) := by
  rw [run_call (f := af19) rfl (Nat.le_of_ble_eq_true rfl)]
  by_cases h : 1 ≤ d ∧ d ≤ lenG y m
  · have hp := lenG_pos h
    have hc := fun S => cnt_ev S y m d (by omega) (by omega) (by omega)
    simp +contextual -dsimp -implicitDefEqProofs [af19, h, hc]
  · simp +contextual -dsimp -implicitDefEqProofs [af19, h]
/-- A day that a date has is a day. -/
theorem cnt_range {y m d : Int} (h : 1 ≤ d ∧ d ≤ lenG y m) : -719162 ≤ cnt y m d ∧ cnt y m d < 2932897 := by
  have hp := lenG_pos h
  unfold lenG mlen leapB at h
  unfold cnt cnt0
  rw [if_pos ⟨hp.1.1, hp.1.2, hp.2.1⟩] at h
  simp only [decide_eq_true_eq] at h
  split at h
  · subst_vars
    rw [if_pos (by omega)]
    split at h <;> omega
  · split at h <;> split <;> omega
@[simp] theorem inside_ev (S : AS) (d : Int) : (evW A0).call 51 [.int .i64 d] S = some (.bool (decide (-719162 ≤ d ∧ d < 2932897)), S, true) := by
  rw [run_call (f := af51) rfl (Nat.le_of_ble_eq_true rfl)]
  simp +contextual -dsimp -implicitDefEqProofs [af51]
  simp only [brD_ite]
  repeat' split
  all_goals (refine ret_bool ?_; simp; try omega)
theorem div_ev (S : AS) (a b : Int) (hb : 0 < b) (hb2 : b ≤ 1000000000) (ha : -9000000000000000000 ≤ a ∧ a ≤ 9000000000000000000) : (evW A0).call 100 [.int .i64 a, .int .i64 b] S = some (.tup [.int .i64 (a / b), .int .i64 (a % b), .int .i64 0], S, true) := by
  rw [run_call (f := af100) rfl (Nat.le_of_ble_eq_true rfl)]
  have h1 : ¬ b = 0 := by omega
  have h2 : ¬ b = -1 := by omega
  have h3 : ¬ b < 0 := by omega
  have h4 : ¬ a = -9223372036854775808 := by omega
  have d1 : -9000000000000000000 ≤ a / b := Int.le_ediv_of_mul_le hb (by omega)
  have d2 : a / b ≤ 9000000000000000000 := Int.ediv_le_of_le_mul hb (by omega)
  have m1 := Int.emod_nonneg a h1
  have m2 := Int.emod_lt_of_pos a hb
  simp +contextual -dsimp -implicitDefEqProofs [af100, h1, h2, h3, h4]
  simp only [brD_ite, tdiv_up hb, tmod_up hb]
  by_cases hc : 0 ≤ a ∨ a % b = 0
  · simp only [if_pos hc]
    have : ¬ a % b < 0 := by omega
    simp (disch := omega) only [wrapI_id, this, if_false, ite_self]
  · simp only [if_neg hc]
    have h5 : ¬ a % b - b = 0 := by omega
    have h6 : a % b - b < 0 := by omega
    simp (disch := omega) only [wrapI_id, h5, h6, not_false_eq_true, if_true]
    have e1 : a / b + 1 - 1 = a / b := by omega
    have e2 : a % b - b + b = a % b := by omega
    rw [e1, e2]
@[simp] theorem mod7_ev (S : AS) (a : Int) (ha : -9000000000000000000 ≤ a ∧ a ≤ 9000000000000000000) : (evW A0).call 52 [.int .i64 a, .int .i64 7] S = some (.int .i64 (a % 7), S, true) := by
  rw [run_call (f := af52) rfl (Nat.le_of_ble_eq_true rfl)]
  have hd := fun S => div_ev S a 7 (by omega) (by omega) ha
  simp +contextual -dsimp -implicitDefEqProofs [af52, hd]
@[simp] theorem wday_ev (S : AS) (d : Int) : (evW A0).call 18 [.int .i64 d] S = some (.int .i64 (if -719162 ≤ d ∧ d < 2932897 then (d + 3) % 7 + 1 else 0), S, true) := by
  rw [run_call (f := af18) rfl (Nat.le_of_ble_eq_true rfl)]
  by_cases h : -719162 ≤ d ∧ d < 2932897
  · have hw : wrapI .i64 (d + 3) = d + 3 := wrapI_id (by omega) (by omega)
    have hw2 : wrapI .i64 ((d + 3) % 7 + 1) = (d + 3) % 7 + 1 := wrapI_id (by omega) (by omega)
    have hm := fun S => mod7_ev S (d + 3) (by omega)
    simp +contextual -dsimp -implicitDefEqProofs [af18, h, hw, hw2, hm]
  · simp +contextual -dsimp -implicitDefEqProofs [af18, h]
/-! Easter -/
theorem permit_ev (S : AS) (y : Int) : (evW A0).call 101 [.int .i64 y] S = some (.bool (yearB y), S, true) := by
  rw [run_call (f := af101) rfl (Nat.le_of_ble_eq_true rfl)]
  simp +contextual -dsimp -implicitDefEqProofs [af101]
  simp only [brD_ite]
  repeat' split
  all_goals (refine ret_bool ?_; simp [yearB]; try omega)
theorem golden_ev (S : AS) (y : Int) (hy : yearB y = true) : (evW A0).call 103 [.int .i64 y] S = some (.int .i64 (y % 19 + 1), S, true) := by
  rw [run_call (f := af103) rfl (Nat.le_of_ble_eq_true rfl)]
  have h : 1 ≤ y ∧ y ≤ 9999 := by simpa [yearB] using hy
  have h1 : y.tmod 19 = y % 19 := tmod_nn (by omega)
  have h2 : wrapI .i64 (y % 19 + 1) = y % 19 + 1 := wrapI_id (by omega) (by omega)
  simp +contextual -dsimp -implicitDefEqProofs [af103, permit_ev, hy, h1, h2]
theorem epact_ev (y : Int) (hy : yearB y = true) : ∃ e, 0 ≤ e ∧ e ≤ 29 ∧ ∀ S, (evW A0).call 102 [.int .i64 y] S = some (.int .i64 e, S, true) := by
  have h : 1 ≤ y ∧ y ≤ 9999 := by simpa [yearB] using hy
  refine ⟨((8 + y / 100 / 4 - y / 100 + (8 * (y / 100) + 13) / 25 + 11 * (y % 19 + 1 - 1)) % 30 + 30) % 30, by omega, by omega, fun S => ?_⟩
  rw [run_call (f := af102) rfl (Nat.le_of_ble_eq_true rfl)]
  have hg := fun S => golden_ev S y hy
  have hm : ∀ (S : AS) (a : Int), -1000000 ≤ a ∧ a ≤ 1000000 → (evW A0).call 164 [.int .i64 a, .int .i64 30] S = some (.int .i64 ((a % 30 + 30) % 30), S, true) := by
    intro S a ha
    rw [run_call (f := af164) rfl (Nat.le_of_ble_eq_true rfl)]
    simp +contextual -dsimp -implicitDefEqProofs [af164]
    rw [tmod_up (a := a) (by omega : (0:Int) < 30)]
    by_cases hc : 0 ≤ a ∨ a % 30 = 0
    · rw [if_pos hc, wrapI_id (by omega) (by omega), tmod_nn (by omega)]
      omega
    · rw [if_neg hc, wrapI_id (by omega) (by omega), tmod_nn (by omega)]
      omega
  simp +contextual -dsimp -implicitDefEqProofs [af102, permit_ev, hy, hg]
  simp (disch := omega) only [wrapI_id, tdiv_nn]
  rw [hm _ _ (by omega)]
  simp +contextual -dsimp -implicitDefEqProofs
/-- Easter, without the law that finds it: between March 22 and April 25. -/
theorem easter_ev (y : Int) (hy : yearB y = true) : ∃ d, cnt y 3 1 + 21 ≤ d ∧ d ≤ cnt y 3 1 + 55 ∧ ∀ S, (evW A0).call 55 [.int .i64 y] S = some (.tup [.int .i64 d, .int .i64 0], S, true) := by
  have h : 1 ≤ y ∧ y ≤ 9999 := by simpa [yearB] using hy
  obtain ⟨e, he1, he2, he⟩ := epact_ev y hy
  have hg := fun S => golden_ev S y hy
  have hl : 1 ≤ lenG y 3 := by simp [lenG, mlen, h]
  have hr := cnt_range (y := y) (m := 3) (d := 1) ⟨by omega, hl⟩
  have hs : ∀ (S : AS) (x : Int), -719163 ≤ x ∧ x < 2932896 → (evW A0).call 104 [.int .i64 x] S = some (.int .i64 (x + 8 - ((x + 1 + 3) % 7 + 1)), S, true) := by
    intro S x hx
    rw [run_call (f := af104) rfl (Nat.le_of_ble_eq_true rfl)]
    have w1 : wrapI .i64 (x + 1) = x + 1 := wrapI_id (by omega) (by omega)
    have w2 : wrapI .i64 (x + 8) = x + 8 := wrapI_id (by omega) (by omega)
    have w3 : wrapI .i64 (x + 8 - ((x + 1 + 3) % 7 + 1)) = x + 8 - ((x + 1 + 3) % 7 + 1) := wrapI_id (by omega) (by omega)
    have i1 : -719162 ≤ x + 1 := by omega
    have i2 : x + 1 < 2932897 := by omega
    simp +contextual -dsimp -implicitDefEqProofs [af104, w1, w2, w3, i1, i2]
  have hb : cnt y 3 1 + 60 < 2932896 := by unfold cnt cnt0 at *; omega
  have key : ∀ n : Int, 21 ≤ n ∧ n ≤ 49 → (∀ S, (evW A0).call 55 [.int .i64 y] S = some (.tup [.int .i64 (cnt y 3 1 + n - 1 + 8 - ((cnt y 3 1 + n - 1 + 1 + 3) % 7 + 1)), .int .i64 0], S, true)) → ∃ d, cnt y 3 1 + 21 ≤ d ∧ d ≤ cnt y 3 1 + 55 ∧ ∀ S, (evW A0).call 55 [.int .i64 y] S = some (.tup [.int .i64 d, .int .i64 0], S, true) := by
    intro n hn hc
    exact ⟨_, by omega, by omega, hc⟩
  have run : ∀ n e' : Int, 21 ≤ n ∧ n ≤ 49 → ((e = 24 ∨ e = 25 ∧ 11 < y % 19 + 1) ∧ e' = e + 1 ∨ ¬ (e = 24 ∨ e = 25 ∧ 11 < y % 19 + 1) ∧ e' = e) → (44 - e' < 21 ∧ n = 44 - e' + 30 ∨ ¬ 44 - e' < 21 ∧ n = 44 - e') →
      (∀ S, (evW A0).call 55 [.int .i64 y] S = some (.tup [.int .i64 (cnt y 3 1 + n - 1 + 8 - ((cnt y 3 1 + n - 1 + 1 + 3) % 7 + 1)), .int .i64 0], S, true)) := by
    intro n e' hn h1 h2 S
    rw [run_call (f := af55) rfl (Nat.le_of_ble_eq_true rfl)]
    have w1 : wrapI .i64 (e + 1) = e + 1 := wrapI_id (by omega) (by omega)
    have w2 : wrapI .i64 (44 - e') = 44 - e' := wrapI_id (by omega) (by omega)
    have w3 : wrapI .i64 (44 - e' + 30) = 44 - e' + 30 := wrapI_id (by omega) (by omega)
    have w4 : wrapI .i64 (cnt y 3 1 + n) = cnt y 3 1 + n := wrapI_id (by omega) (by omega)
    have w5 : wrapI .i64 (cnt y 3 1 + n - 1) = cnt y 3 1 + n - 1 := wrapI_id (by omega) (by omega)
    have hs' := fun S => hs S (cnt y 3 1 + n - 1) (by omega)
    rcases h1 with ⟨c1, rfl⟩ | ⟨c1, rfl⟩
    · rcases c1 with rfl | ⟨rfl, c2⟩
      · obtain rfl : n = 49 := by omega
        simp +contextual -dsimp -implicitDefEqProofs [af55, permit_ev, hy, he, hg, hl, w4, w5, hs']
      · obtain rfl : n = 48 := by omega
        simp +contextual -dsimp -implicitDefEqProofs [af55, permit_ev, hy, he, hg, hl, w4, w5, hs', c2]
    · have c3 : ¬ e' = 24 := fun h => c1 (.inl h)
      have c4 : ¬ (e' = 25 ∧ 11 < y % 19 + 1) := fun h => c1 (.inr h)
      have w2 : wrapI .i64 (44 - e') = 44 - e' := wrapI_id (by omega) (by omega)
      have w3 : wrapI .i64 (44 - e' + 30) = 44 - e' + 30 := wrapI_id (by omega) (by omega)
      by_cases c5 : e' = 25
      · subst c5
        have c6 : ¬ 11 < y % 19 + 1 := fun h => c4 ⟨rfl, h⟩
        obtain rfl : n = 49 := by omega
        simp +contextual -dsimp -implicitDefEqProofs [af55, permit_ev, hy, he, hg, hl, w4, w5, hs', c6]
      · rcases h2 with ⟨c2, rfl⟩ | ⟨c2, rfl⟩
        · simp +contextual -dsimp -implicitDefEqProofs [af55, permit_ev, hy, he, hg, hl, w2, w3, w4, w5, hs', c3, c5, c2]
        · simp +contextual -dsimp -implicitDefEqProofs [af55, permit_ev, hy, he, hg, hl, w2, w3, w4, w5, hs', c3, c5, c2]
  by_cases c1 : e = 24 ∨ e = 25 ∧ 11 < y % 19 + 1
  · by_cases c2 : 44 - (e + 1) < 21
    · exact key _ (by omega) (run (44 - (e + 1) + 30) (e + 1) (by omega) (.inl ⟨c1, rfl⟩) (.inl ⟨c2, rfl⟩))
    · exact key _ (by omega) (run (44 - (e + 1)) (e + 1) (by omega) (.inl ⟨c1, rfl⟩) (.inr ⟨c2, rfl⟩))
  · by_cases c2 : 44 - e < 21
    · exact key _ (by omega) (run (44 - e + 30) e (by omega) (.inr ⟨c1, rfl⟩) (.inl ⟨c2, rfl⟩))
    · exact key _ (by omega) (run (44 - e) e (by omega) (.inr ⟨c1, rfl⟩) (.inr ⟨c2, rfl⟩))
/-- The day at a distance from Easter, where the rules allow the distance. -/
theorem move_ev (y o d : Int) (hy : yearB y = true) (ho : -80 ≤ o ∧ o ≤ 250) (h1 : cnt y 3 1 + 21 ≤ d) (h2 : d ≤ cnt y 3 1 + 55) (hd : ∀ S, (evW A0).call 55 [.int .i64 y] S = some (.tup [.int .i64 d, .int .i64 0], S, true)) (S : AS) :
    (evW A0).call 20 [.int .i64 y, .int .i64 o] S = some (.tup [.int .i64 (d + o), .int .i64 0], S, true) ∧ -719162 ≤ d + o ∧ d + o < 2932897 := by
  have h : 1 ≤ y ∧ y ≤ 9999 := by simpa [yearB] using hy
  have hr : -719162 ≤ d + o ∧ d + o < 2932897 := by unfold cnt cnt0 at *; omega
  refine ⟨?_, hr⟩
  rw [run_call (f := af20) rfl (Nat.le_of_ble_eq_true rfl)]
  have w : wrapI .i64 (d + o) = d + o := wrapI_id (by omega) (by omega)
  have c1 : ¬ o < -400 := by omega
  have c2 : ¬ 400 < o := by omega
  have c3 : ¬ d + o < -719162 := by omega
  have c4 : ¬ 2932897 ≤ d + o := by omega
  simp +contextual -dsimp -implicitDefEqProofs [af20, hd, w, c1, c2, c3, c4]
end Go.Proofs.YtkaadpkokmhfjaaGreatDoor
