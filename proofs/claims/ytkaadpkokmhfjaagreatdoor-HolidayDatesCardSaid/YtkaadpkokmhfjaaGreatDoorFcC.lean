/-
  The facts of the rows, part 3: of the program as a whole.
-/
import Derived.Test.YtkaadpkokmhfjaaGreatDoorRows
import Derived.JoinedCond
import Derived.KernelRfl
namespace Go.Proofs.YtkaadpkokmhfjaaGreatDoor
open Go
theorem hvLaidOut : laidOutB Tryz.prog = true := by kernel_rfl
theorem fMapsRowed : mapsRowed Tryz.prog = true := by kernel_rfl
theorem fPlainKeys : Tryz.prog.plainKeys = true := by kernel_rfl
theorem fHeard : Tryz.prog.stopsHeard = true := by kernel_rfl
theorem fMayEnter : Tryz.prog.mayEnter = true := by kernel_rfl
theorem fName3 : Tryz.prog.funcNamed "civiltime/civiltimelaw28.HolidayValid" = some 3 := by kernel_rfl
end Go.Proofs.YtkaadpkokmhfjaaGreatDoor
