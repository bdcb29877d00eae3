/-
  HolidayDates: the law, as the evaluator runs it.
-/
import Derived.Test.YtkaadpkokmhfjaaGreatDoorKvB
namespace Go.Proofs.YtkaadpkokmhfjaaGreatDoor
open Go Go.Ab
set_option maxRecDepth 100000
set_option maxHeartbeats 2000000

def fixC (mo d fr to : Int) : List AV := [.str [97], .int .i64 1, .int .i64 mo, .int .i64 d, .int .i64 0, .int .i64 0, .int .i64 0, .int .i64 fr, .int .i64 to, .int .i64 1]
def easC (off fr to : Int) : List AV := [.str [98], .int .i64 3, .int .i64 0, .int .i64 0, .int .i64 0, .int .i64 0, .int .i64 off, .int .i64 fr, .int .i64 to, .int .i64 1]

/-- What Year says of a fixed date. -/
theorem yearF (mo d fr to y : Int) : (∃ e : Int, e ≠ 0 ∧ ∀ b h w1 w2, (evW A0).call 17 [.sl b 0 1 1 10, .int .i64 y] ⟨(b, .cells (fixC mo d fr to)) :: h, b + 1, w1, w2⟩ = some (.tup [.nilSl, .int .i64 e], ⟨(b, .cells (fixC mo d fr to)) :: h, b + 1, w1, w2⟩, true)) ∨
    (∀ b h w1 w2, (evW A0).call 17 [.sl b 0 1 1 10, .int .i64 y] ⟨(b, .cells (fixC mo d fr to)) :: h, b + 1, w1, w2⟩ = some (.tup [oneD (if y < fr ∨ to < y then none else if 1 ≤ d ∧ d ≤ lenG y mo then some (cnt y mo d) else none), .int .i64 0], ⟨(b, .cells (fixC mo d fr to)) :: h, b + 1, w1, w2⟩, true)) := by
  by_cases hv : (baseP [97] fr to 1 ∧ kindP 1 mo d 0 0 0) ∧ (1 ≤ y ∧ y ≤ 9999)
  · refine .inr fun b h w1 w2 => ?_
    refine Year1_ev ⟨(b, .cells (fixC mo d fr to)) :: h, b + 1, w1, w2⟩ b [97] 1 mo d 0 0 0 fr to y 156 (.inl ⟨rfl, rfl⟩) (Nat.lt_succ_self b) (by simp [fixC]) _ ?_ hv.1 hv.2 (fun _ _ S => fixed_ev S _ _ _ _ _ _ _ _ _ _ _)
    intro x hx
    split at hx
    · rename_i hd
      obtain rfl := Option.some.inj hx
      exact cnt_range hd
    · cases hx
  · have hv' : ¬ (baseP [97] fr to 1 ∧ kindP 1 mo d 0 0 0) ∨ ¬ (1 ≤ y ∧ y ≤ 9999) := Classical.not_and_iff_not_or_not.1 hv
    exact .inl ⟨_, by split <;> omega, fun b hp w1 w2 => YearBad_ev _ b [97] 1 mo d 0 0 0 fr to y (by simp [fixC]) hv'⟩
/-- What Year says of a day at a distance from Easter. -/
theorem yearE (off fr to y : Int) : (∃ e : Int, e ≠ 0 ∧ ∀ b h w1 w2, (evW A0).call 17 [.sl b 0 1 1 10, .int .i64 y] ⟨(b, .cells (easC off fr to)) :: h, b + 1, w1, w2⟩ = some (.tup [.nilSl, .int .i64 e], ⟨(b, .cells (easC off fr to)) :: h, b + 1, w1, w2⟩, true)) ∨
    (∃ x : Int, (∀ S, (evW A0).call 20 [.int .i64 y, .int .i64 off] S = some (.tup [.int .i64 x, .int .i64 0], S, true)) ∧
     ∀ b h w1 w2, (evW A0).call 17 [.sl b 0 1 1 10, .int .i64 y] ⟨(b, .cells (easC off fr to)) :: h, b + 1, w1, w2⟩ = some (.tup [oneD (if y < fr ∨ to < y then none else some x), .int .i64 0], ⟨(b, .cells (easC off fr to)) :: h, b + 1, w1, w2⟩, true)) := by
  by_cases hv : (baseP [98] fr to 1 ∧ kindP 3 0 0 0 0 off) ∧ (1 ≤ y ∧ y ≤ 9999)
  · obtain ⟨e, e1, e2, he⟩ := easter_ev y (by simpa [yearB] using hv.2)
    have ho : -80 ≤ off ∧ off ≤ 250 := by have := hv.1.2; unfold kindP at this; omega
    have hm := fun S => move_ev y off e (by simpa [yearB] using hv.2) ho e1 e2 he S
    refine .inr ⟨e + off, fun S => (hm S).1, fun b h w1 w2 => ?_⟩
    have hr := (hm default).2
    refine Year1_ev ⟨(b, .cells (easC off fr to)) :: h, b + 1, w1, w2⟩ b [98] 3 0 0 0 0 off fr to y 160 (.inr ⟨rfl, rfl⟩) (Nat.lt_succ_self b) (by simp [easC]) _ ?_ hv.1 hv.2 (fun _ _ S => efind_ev S _ _ _ _ _ _ _ _ _ _ _ e he (by omega))
    intro x hx
    obtain rfl := Option.some.inj hx
    exact hr
  · have hv' : ¬ (baseP [98] fr to 1 ∧ kindP 3 0 0 0 0 off) ∨ ¬ (1 ≤ y ∧ y ≤ 9999) := Classical.not_and_iff_not_or_not.1 hv
    exact .inl ⟨_, by split <;> omega, fun b hp w1 w2 => YearBad_ev _ b [98] 3 0 0 0 0 off fr to y (by simp [easC]) hv'⟩

theorem brD_same {α : Type} {p : Prop} {X : α} [Tag X X] : brD p X X = X := by unfold brD; simp

theorem dates_ev (mo d off fr to y : Int) : (evW A0).call 5 [.int .i64 mo, .int .i64 d, .int .i64 off, .int .i64 fr, .int .i64 to, .int .i64 y] ⟨[], 0, 0, 0⟩ = some (.bool true, ⟨[], 0, 0, 0⟩, true) := by
  have ha := evW_call_of awake_ev
  rw [run_call (f := af5) rfl (Nat.le_of_ble_eq_true rfl)]
  have hin : (fr ≤ y ∧ y ≤ to ∧ ¬ y < fr ∧ ¬ to < y) ∨ (fr ≤ y ∧ ¬ y ≤ to ∧ ¬ y < fr ∧ to < y) ∨ (¬ fr ≤ y ∧ y < fr) := by omega
  rcases yearF mo d fr to y with ⟨e, e0, hF⟩ | hF
  · have hF2 := fun h w1 w2 => hF 2 h w1 w2
    rcases yearE off fr to y with ⟨f, f0, hE⟩ | ⟨x, hM, hE⟩
    · have hE3 := fun h w1 w2 => hE 3 h w1 w2
      simp only [fixC, easC] at hF2 hE3
      simp +contextual -dsimp -implicitDefEqProofs [af5, ha, hF2, hE3, e0, f0, brD_same]
    · have hE3 := fun h w1 w2 => hE 3 h w1 w2
      simp only [fixC, easC] at hF2 hE3
      rcases hin with ⟨c1, c2, c3, c4⟩ | ⟨c1, c2, c3, c4⟩ | ⟨c1, c2⟩
      · simp +contextual -dsimp -implicitDefEqProofs [af5, ha, hF2, hE3, hM, e0, c1, c2, c3, c4, oneD, brD_same]
      · simp +contextual -dsimp -implicitDefEqProofs [af5, ha, hF2, hE3, hM, e0, c1, c2, c3, c4, oneD, brD_same]
      · simp +contextual -dsimp -implicitDefEqProofs [af5, ha, hF2, hE3, hM, e0, c1, c2, oneD, brD_same]
  · have hF2 := fun h w1 w2 => hF 2 h w1 w2
    by_cases hd : 1 ≤ d ∧ d ≤ lenG y mo
    · rcases yearE off fr to y with ⟨f, f0, hE⟩ | ⟨x, hM, hE⟩
      · have hE3 := fun h w1 w2 => hE 3 h w1 w2
        simp only [fixC, easC] at hF2 hE3
        rcases hin with ⟨c1, c2, c3, c4⟩ | ⟨c1, c2, c3, c4⟩ | ⟨c1, c2⟩
        · simp +contextual -dsimp -implicitDefEqProofs [af5, ha, hF2, hE3, f0, hd, c1, c2, c3, c4, oneD, brD_same]
        · simp +contextual -dsimp -implicitDefEqProofs [af5, ha, hF2, hE3, f0, hd, c1, c2, c3, c4, oneD, brD_same]
        · simp +contextual -dsimp -implicitDefEqProofs [af5, ha, hF2, hE3, f0, hd, c1, c2, oneD, brD_same]
      · have hE3 := fun h w1 w2 => hE 3 h w1 w2
        simp only [fixC, easC] at hF2 hE3
        rcases hin with ⟨c1, c2, c3, c4⟩ | ⟨c1, c2, c3, c4⟩ | ⟨c1, c2⟩
        · simp +contextual -dsimp -implicitDefEqProofs [af5, ha, hF2, hE3, hM, hd, c1, c2, c3, c4, oneD, brD_same]
        · simp +contextual -dsimp -implicitDefEqProofs [af5, ha, hF2, hE3, hM, hd, c1, c2, c3, c4, oneD, brD_same]
        · simp +contextual -dsimp -implicitDefEqProofs [af5, ha, hF2, hE3, hM, hd, c1, c2, oneD, brD_same]
    · rcases yearE off fr to y with ⟨f, f0, hE⟩ | ⟨x, hM, hE⟩
      · have hE3 := fun h w1 w2 => hE 3 h w1 w2
        simp only [fixC, easC] at hF2 hE3
        rcases hin with ⟨c1, c2, c3, c4⟩ | ⟨c1, c2, c3, c4⟩ | ⟨c1, c2⟩
        · simp +contextual -dsimp -implicitDefEqProofs [af5, ha, hF2, hE3, f0, hd, c1, c2, c3, c4, oneD, brD_same]
        · simp +contextual -dsimp -implicitDefEqProofs [af5, ha, hF2, hE3, f0, hd, c1, c2, c3, c4, oneD, brD_same]
        · simp +contextual -dsimp -implicitDefEqProofs [af5, ha, hF2, hE3, f0, hd, c1, c2, oneD, brD_same]
      · have hE3 := fun h w1 w2 => hE 3 h w1 w2
        simp only [fixC, easC] at hF2 hE3
        rcases hin with ⟨c1, c2, c3, c4⟩ | ⟨c1, c2, c3, c4⟩ | ⟨c1, c2⟩
        · simp +contextual -dsimp -implicitDefEqProofs [af5, ha, hF2, hE3, hM, hd, c1, c2, c3, c4, oneD, brD_same]
        · simp +contextual -dsimp -implicitDefEqProofs [af5, ha, hF2, hE3, hM, hd, c1, c2, c3, c4, oneD, brD_same]
        · simp +contextual -dsimp -implicitDefEqProofs [af5, ha, hF2, hE3, hM, hd, c1, c2, oneD, brD_same]
end Go.Proofs.YtkaadpkokmhfjaaGreatDoor
