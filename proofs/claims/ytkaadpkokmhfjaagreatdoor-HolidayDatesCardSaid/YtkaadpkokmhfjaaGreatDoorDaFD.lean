/-
  The facts of the row of HolidayDates, part 3: all of them.
-/
import Derived.Test.YtkaadpkokmhfjaaGreatDoorDaFB
import Derived.Test.YtkaadpkokmhfjaaGreatDoorFcC
namespace Go.Proofs.YtkaadpkokmhfjaaGreatDoor
open Go
theorem facts5 : joinedFacts Tryz.prog 5 Tryz.f5 (OpenSpec.ofChange Rows.holidayDatesSpec).bare Rows.holidayDatesRow = true := by
  unfold joinedFacts
  rw [hvLaidOut, fMapsRowed, fPlainKeys, fHeard, fMayEnter, fInPlace5, fUnf5, fRec5, fVars5]
  kernel_rfl
end Go.Proofs.YtkaadpkokmhfjaaGreatDoor
