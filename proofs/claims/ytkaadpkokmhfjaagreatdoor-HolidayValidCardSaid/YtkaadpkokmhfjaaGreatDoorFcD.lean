/-
  The facts of the rows, part 4: all of them, of the law HolidayValid.
-/
import Derived.Test.YtkaadpkokmhfjaaGreatDoorFcB
import Derived.Test.YtkaadpkokmhfjaaGreatDoorFcC
namespace Go.Proofs.YtkaadpkokmhfjaaGreatDoor
open Go
theorem facts3 : joinedFacts Tryz.prog 3 Tryz.f3 (OpenSpec.ofChange Rows.holidayValidSpec).bare Rows.holidayValidRow = true := by
  unfold joinedFacts
  rw [hvLaidOut, fMapsRowed, fPlainKeys, fHeard, fMayEnter, fInPlace3, fUnf3, fRec3, fVars3]
  kernel_rfl
end Go.Proofs.YtkaadpkokmhfjaaGreatDoor
