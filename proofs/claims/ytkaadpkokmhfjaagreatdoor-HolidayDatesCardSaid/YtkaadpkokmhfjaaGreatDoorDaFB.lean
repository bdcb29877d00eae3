/-
  The facts of the row of HolidayDates, part 2: what the call graph says.
-/
import Derived.Test.YtkaadpkokmhfjaaGreatDoorDaFA
import Derived.JoinedCond
namespace Go.Proofs.YtkaadpkokmhfjaaGreatDoor
open Go
theorem fInPlace5 : Tryz.prog.inPlace 5 = ["internal/bytealg.CountString", "internal/bytealg.IndexByteString", "internal/bytealg.IndexString"] := by
  unfold Program.inPlace; rw [clo5]; kernel_rfl
theorem fUnf5 : Tryz.prog.unfollowed 5 = true := by
  unfold Program.unfollowed; rw [clo5]; kernel_rfl
theorem fRec5 : Tryz.prog.recurses 5 = true := by
  unfold Program.recurses; rw [fUnf5]; rfl
theorem fVars5 : Tryz.prog.varsNamed 5 = ["unicode/utf8.first", "unicode/utf8.acceptRanges", "internal/bytealg.MaxLen"] := by
  unfold Program.varsNamed; rw [clo5]; kernel_rfl
theorem fName5 : Tryz.prog.funcNamed "civiltime/civiltimelaw28.HolidayDates" = some 5 := by kernel_rfl
end Go.Proofs.YtkaadpkokmhfjaaGreatDoor
