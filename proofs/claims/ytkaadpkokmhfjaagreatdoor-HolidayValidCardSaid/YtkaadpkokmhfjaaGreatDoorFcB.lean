/-
  The facts of the rows, part 2: what the call graph says.
-/
import Derived.Test.YtkaadpkokmhfjaaGreatDoorFcA
import Derived.JoinedCond
namespace Go.Proofs.YtkaadpkokmhfjaaGreatDoor
open Go
theorem fInPlace3 : Tryz.prog.inPlace 3 = ["internal/bytealg.CountString", "internal/bytealg.IndexByteString", "internal/bytealg.IndexString"] := by
  unfold Program.inPlace; rw [clo3]; kernel_rfl
theorem fUnf3 : Tryz.prog.unfollowed 3 = true := by
  unfold Program.unfollowed; rw [clo3]; kernel_rfl
theorem fRec3 : Tryz.prog.recurses 3 = true := by
  unfold Program.recurses; rw [fUnf3]; rfl
theorem fVars3 : Tryz.prog.varsNamed 3 = ["unicode/utf8.first", "unicode/utf8.acceptRanges", "internal/bytealg.MaxLen"] := by
  unfold Program.varsNamed; rw [clo3]; kernel_rfl
end Go.Proofs.YtkaadpkokmhfjaaGreatDoor
