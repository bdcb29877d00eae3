/-
  HolidayValid, part 7: the contract: for every argument that fits.
-/
import Derived.Test.YtkaadpkokmhfjaaGreatDoorHvF
namespace Go.Proofs.YtkaadpkokmhfjaaGreatDoor
open Go Go.Ab Go.ChangeShapes Go.WideShapes Go.ChangeAt Go.RowKit

theorem cellTypes23 : Tryz.prog.cellTypes Tryz.prog.depth 23 = some [9, 3, 3, 3, 3, 3, 3, 3, 3, 3] := by kernel_rfl
theorem cellsOf23 : Tryz.prog.cellsOf 23 = 10 := by kernel_rfl
theorem und3 : Tryz.prog.underlying 3 = some (.int .i64) := by kernel_rfl
theorem und9 : Tryz.prog.underlying 9 = some .string := by kernel_rfl
def isStruct : Option TypeDesc → Bool
  | some (.struct _) => true
  | _ => false
theorem und23 : isStruct (Tryz.prog.underlying 23) = true := by kernel_rfl

section
variable {P : Program} {w : World} {r : Reach} {b : Nat} {t : TypeId} {v : Value}
theorem cell_int (hu : P.underlying t = some (.int .i64)) (h : Cell.okWide P w r b t v) : ∃ n, v = .int .i64 n := by
  cases v <;> simp [Cell.okWide, hu, Cell.ok] at h
  obtain ⟨rfl, _⟩ := h
  exact ⟨_, rfl⟩
theorem cell_str (hu : P.underlying t = some .string) (h : Cell.okWide P w r b t v) : ∃ s, v = .string s := by
  cases v <;> simp [Cell.okWide, hu, Cell.ok] at h
  exact ⟨_, rfl⟩

theorem open_row {ti ts0 : TypeId} (hi : P.underlying ti = some (.int .i64)) (hs : P.underlying ts0 = some .string) (hst : isStruct (P.underlying t) = true) (hct : P.cellTypes P.depth t = some [ts0, ti, ti, ti, ti, ti, ti, ti, ti, ti]) (hco : P.cellsOf t = 10)
    (h : Value.okWide P w r b t v) :
    ∃ (s : ByteArray) (k mo d wd n off fr to ob : Int), v = .agg #[.string s, .int .i64 k, .int .i64 mo, .int .i64 d, .int .i64 wd, .int .i64 n, .int .i64 off, .int .i64 fr, .int .i64 to, .int .i64 ob] := by
  have h' : ∃ cs, v = .agg cs ∧ cs.size = P.cellsOf t ∧ Row.okWide P w r b t cs := by
    unfold Value.okWide at h
    revert h hst
    cases P.underlying t with
    | none => intro hst; cases hst
    | some d => cases d <;> intro hst h <;> first | exact h | cases hst
  obtain ⟨cs, rfl, hsz, ts, hts, _, hc⟩ := h'
  rw [hct] at hts
  injection hts with hts
  subst hts
  rw [hco] at hsz
  obtain ⟨cs⟩ := cs
  simp at hsz
  match cs, hsz with
  | [c0, c1, c2, c3, c4, c5, c6, c7, c8, c9], _ =>
    obtain ⟨_, e0, g0⟩ := hc 0 c0 rfl
    obtain ⟨_, e1, g1⟩ := hc 1 c1 rfl
    obtain ⟨_, e2, g2⟩ := hc 2 c2 rfl
    obtain ⟨_, e3, g3⟩ := hc 3 c3 rfl
    obtain ⟨_, e4, g4⟩ := hc 4 c4 rfl
    obtain ⟨_, e5, g5⟩ := hc 5 c5 rfl
    obtain ⟨_, e6, g6⟩ := hc 6 c6 rfl
    obtain ⟨_, e7, g7⟩ := hc 7 c7 rfl
    obtain ⟨_, e8, g8⟩ := hc 8 c8 rfl
    obtain ⟨_, e9, g9⟩ := hc 9 c9 rfl
    cases e0; cases e1; cases e2; cases e3; cases e4; cases e5; cases e6; cases e7; cases e8; cases e9
    obtain ⟨s, rfl⟩ := cell_str hs g0
    obtain ⟨_, rfl⟩ := cell_int hi g1
    obtain ⟨_, rfl⟩ := cell_int hi g2
    obtain ⟨_, rfl⟩ := cell_int hi g3
    obtain ⟨_, rfl⟩ := cell_int hi g4
    obtain ⟨_, rfl⟩ := cell_int hi g5
    obtain ⟨_, rfl⟩ := cell_int hi g6
    obtain ⟨_, rfl⟩ := cell_int hi g7
    obtain ⟨_, rfl⟩ := cell_int hi g8
    obtain ⟨_, rfl⟩ := cell_int hi g9
    exact ⟨_, _, _, _, _, _, _, _, _, _, rfl⟩
end

set_option maxRecDepth 100000 in
/-- WHATEVER THE ARGUMENT. -/
theorem law_every {b : Nat} (W : World) (v : Value) (h : Value.okWide Tryz.prog W .any b 23 v) : Calls Tryz.prog 3 #[v] W fun e W' => e = .returned (.bool true) ∧ Below W.heap.size W W' := by
  obtain ⟨s, k, mo, d, wd, n, off, fr, to, ob, rfl⟩ := open_row und3 und9 und23 cellTypes23 cellsOf23 h
  refine law_calls setup0 (args := [.agg (holC s.data.toList k mo d wd n off fr to ob)]) (fun g x hg => nomatch hg) ?_ ?_ (law_ev _ _ _ _ _ _ _ _ _ _)
  · refine VRels.cons (VRels.agg ?_) .nil
    exact absCells_rel [.string s, .int .i64 k, .int .i64 mo, .int .i64 d, .int .i64 wd, .int .i64 n, .int .i64 off, .int .i64 fr, .int .i64 to, .int .i64 ob]
  · simp [vbs, vb, holC]
end Go.Proofs.YtkaadpkokmhfjaaGreatDoor
