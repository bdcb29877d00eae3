/-
  HolidayDates: the contract, for every argument that fits.
-/
import Derived.Test.YtkaadpkokmhfjaaGreatDoorKvC
namespace Go.Proofs.YtkaadpkokmhfjaaGreatDoor
open Go Go.Ab Go.ChangeShapes Go.WideShapes Go.ChangeAt Go.RowKit

theorem val_int {P : Program} {w : World} {r : Reach} {b : Nat} {t : TypeId} {v : Value} (hu : P.underlying t = some (.int .i64)) (h : Value.okWide P w r b t v) : ∃ n, v = .int .i64 n := by
  unfold Value.okWide at h
  rw [hu] at h
  simp only at h
  cases v <;> simp [Cell.okWide, hu, Cell.ok] at h
  obtain ⟨rfl, _⟩ := h
  exact ⟨_, rfl⟩
theorem dUnd3 : Tryz.prog.underlying 3 = some (.int .i64) := by kernel_rfl
set_option maxRecDepth 100000 in
theorem holidayDates_every {b : Nat} (W : World) (v0 v1 v2 v3 v4 v5 : Value) (h0 : Value.okWide Tryz.prog W .any b 3 v0) (h1 : Value.okWide Tryz.prog W .any b 3 v1) (h2 : Value.okWide Tryz.prog W .any b 3 v2) (h3 : Value.okWide Tryz.prog W .any b 3 v3) (h4 : Value.okWide Tryz.prog W .any b 3 v4) (h5 : Value.okWide Tryz.prog W .any b 3 v5) :
    Calls Tryz.prog 5 #[v0, v1, v2, v3, v4, v5] W fun e W' => e = .returned (.bool true) ∧ Below W.heap.size W W' := by
  obtain ⟨a0, rfl⟩ := val_int dUnd3 h0
  obtain ⟨a1, rfl⟩ := val_int dUnd3 h1
  obtain ⟨a2, rfl⟩ := val_int dUnd3 h2
  obtain ⟨a3, rfl⟩ := val_int dUnd3 h3
  obtain ⟨a4, rfl⟩ := val_int dUnd3 h4
  obtain ⟨a5, rfl⟩ := val_int dUnd3 h5
  refine law_calls setup0 (args := [.int .i64 a0, .int .i64 a1, .int .i64 a2, .int .i64 a3, .int .i64 a4, .int .i64 a5]) (fun g x hg => nomatch hg) ?_ ?_ (dates_ev _ _ _ _ _ _)
  · exact absCells_rel [.int .i64 a0, .int .i64 a1, .int .i64 a2, .int .i64 a3, .int .i64 a4, .int .i64 a5]
  · simp [vbs, vb]
end Go.Proofs.YtkaadpkokmhfjaaGreatDoor
