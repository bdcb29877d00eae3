/-
  The world of the witness: the two laid variables in their places.
-/
import Derived.Test.YtkaadpkokmhfjaaGreatDoorFcC
import Derived.WalkKit
import Derived.Lib.LaidTab
import Derived.SevenTiedAt
namespace Go.Proofs.YtkaadpkokmhfjaaGreatDoor
open Go
/-! A world for the witness -/
def litV {H : Type} : DataW H → List Value
  | .lit (.int k n) => [.int k n]
  | _ => []
def rowV {H : Type} : DataW H → List Value
  | .agg xs => xs.flatMap fun x => match x with
    | .agg ys => ys.flatMap litV
    | x => litV x
  | _ => []
def setRow (vs : List Value) : Obj → Obj
  | .cells _ t frozen => .cells vs.toArray t frozen
  | o => o
noncomputable def hvWorld (os : Os) : World :=
  { World.holding Tryz.prog os ⟨#[], #[], []⟩ with heap := ((World.holding Tryz.prog os ⟨#[], #[], []⟩).heap.modify 2 (setRow (rowV Rows.laid_unicode_utf8_first))).modify 3 (setRow (rowV (Rows.laid_unicode_utf8_acceptRanges (H := Unit)))) }
end Go.Proofs.YtkaadpkokmhfjaaGreatDoor
