/-
  The facts of the row of HolidayDates, part 1: the call graph below it.
-/
import Derived.Test.YtkaadpkokmhfjaaGreatDoorRows
import Derived.KernelRfl
namespace Go.Proofs.YtkaadpkokmhfjaaGreatDoor
open Go
theorem clo5 : Tryz.prog.closure 5 = [5, 13, 24, 25, 60, 118, 178, 192, 135, 195, 133, 193, 134, 194, 154, 209, 232, 233, 234, 258, 59, 111, 43, 88, 89, 90, 112, 113, 173, 174, 114, 115, 129, 175, 116, 176, 177, 222, 252, 138, 117, 130, 14, 44, 45, 91, 92, 17, 49, 96, 155, 97, 50, 98, 156, 19, 53, 54, 157, 158, 159, 18, 51, 52, 100, 160, 55, 101, 102, 103, 164, 104, 161, 162, 210, 211, 212, 240, 241, 213, 242, 269, 270, 284, 299, 243, 163, 214, 244, 271, 285, 300, 272, 286, 301, 287, 273, 288, 99, 64, 123, 187, 188, 122, 179, 180, 223, 181, 224, 225, 182, 226, 227, 253, 183, 184, 185, 186, 65, 125, 189, 124, 66, 20] := by kernel_rfl
end Go.Proofs.YtkaadpkokmhfjaaGreatDoor
