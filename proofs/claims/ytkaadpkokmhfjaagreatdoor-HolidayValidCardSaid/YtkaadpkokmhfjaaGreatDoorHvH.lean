/-
  HolidayValid, part 8: for every rule the law's call returns true and leaves its argument alone: the row and its card. (laid: unicode/utf8.acceptRanges and unicode/utf8.first start as the program's text lays them.)
-/
import Derived.Test.YtkaadpkokmhfjaaGreatDoorHvG
import Derived.Test.YtkaadpkokmhfjaaGreatDoorFcD
import Derived.Test.YtkaadpkokmhfjaaGreatDoorCards
import Derived.Test.YtkaadpkokmhfjaaGreatDoorTie
import Derived.WalkKit
import Derived.Lib.LaidTab
import Derived.SevenTiedAt
namespace Go.Proofs.YtkaadpkokmhfjaaGreatDoor
open Go Go.Ab Go.ChangeShapes Go.WideShapes Go.ChangeAt Go.RowKit

theorem hvOwn : ownKnob Tryz.prog.godebug = none := by kernel_rfl
theorem hvRead : Tryz.prog.readableRec 23 = true := by kernel_rfl
theorem hvRow : 23 < Tryz.prog.types.size := of_decide_eq_true (by kernel_rfl)
theorem und4 : Tryz.prog.underlying 4 = some .bool := by kernel_rfl
theorem hvRes : Tryz.f3.resultTypes = #[4] := by kernel_rfl

set_option maxRecDepth 100000 in
theorem hvContract {base : Nat} (H : Type) (enc : TypeId × Value → H) (W : World) (args : Array Value) (ds gs : List (DataW H)) (before : List MemPlace)
    (hval : ∀ (j : Nat) t v, Tryz.f3.params[j]? = some t → args[j]? = some v → Value.okWide Tryz.prog W .any base t v)
    (hW : DataW.Whole enc Tryz.prog Tryz.f3.params.toList Rows.holidayValidSpec.vars false W args.toList ds gs before) :
    Calls Tryz.prog 3 args W fun e W' => ∃ v, e = .returned v ∧ Rows.holidayValidSpec.post enc Tryz.prog Tryz.f3 false true false false W args v W' := by
  have hW' := hW
  obtain ⟨p, q, hA0, hV, rfl, hfz, hnd⟩ := hW
  have hA : DataW.TrodAll enc Tryz.prog W 0 (fun _ => true) true Tryz.f3.params.toList args.toList ds p := hA0
  rw [Tryz.params3] at hA hval
  obtain ⟨v0, vs0, d0, ds0, p0, q0, hargs, rfl, rfl, h0, r0⟩ := trodAll_cons hA
  obtain ⟨rfl, rfl, rfl⟩ := trodAll_nil r0
  obtain rfl : args = #[v0] := by cases args; simp_all
  obtain ⟨rfl, rfl⟩ := trodVars_none hV
  refine (law_every W v0 (hval 0 23 v0 rfl rfl)).mono fun e W' ⟨he, hB⟩ => ?_
  exact ⟨_, he, law_post hvLaidOut (fun t ht => by
    rw [Tryz.params3] at ht
    obtain rfl : t = 23 := by simpa using ht
    exact ⟨hvRead, hvRow⟩) rfl hvRes und4 hW' rfl hB⟩

/-! A world for the witness -/
def litV {H : Type} : DataW H → List Value
  | .lit (.int k n) => [.int k n]
  | _ => []
def rowV {H : Type} : DataW H → List Value
  | .agg xs => xs.flatMap fun x => match x with
    | .agg ys => ys.flatMap litV
    | x => litV x
  | _ => []
def setRow (vs : List Value) : Obj → Obj
  | .cells _ t frozen => .cells vs.toArray t frozen
  | o => o
noncomputable def hvWorld (os : Os) : World :=
  { World.holding Tryz.prog os ⟨#[], #[], []⟩ with heap := ((World.holding Tryz.prog os ⟨#[], #[], []⟩).heap.modify 2 (setRow (rowV Rows.laid_unicode_utf8_first))).modify 3 (setRow (rowV (Rows.laid_unicode_utf8_acceptRanges (H := Unit)))) }
def hvArg : Value := .agg #[.string ⟨#[]⟩, .int .i64 0, .int .i64 0, .int .i64 0, .int .i64 0, .int .i64 0, .int .i64 0, .int .i64 0, .int .i64 0, .int .i64 0]
theorem hvMet (os : Os) : laidMet Tryz.prog Rows.holidayValidRow.laid ((hvWorld os).forCall (fun _ _ => 0) ⟨#[], #[hvArg], []⟩).memory :=
  laidMet_of_run' 8 (by kernel_rfl) (by kernel_rfl)
theorem hvReads (os : Os) {H : Type} (enc : TypeId × Value → H) : ∃ places, DataW.whole enc Tryz.prog ((hvWorld os).forCall (fun _ _ => 0) ⟨#[], #[hvArg], []⟩).memory Tryz.f3.params.toList Rows.holidayValidSpec.vars false #[hvArg].toList 8 = some ([.agg [.lit (.string []), .lit (.int .i64 0), .lit (.int .i64 0), .lit (.int .i64 0), .lit (.int .i64 0), .lit (.int .i64 0), .lit (.int .i64 0), .lit (.int .i64 0), .lit (.int .i64 0), .lit (.int .i64 0)]], [], places) :=
  ⟨[], by kernel_rfl⟩

set_option maxRecDepth 100000 in
theorem hvLifted (os : Os) (started : os.Started) (H : Type) (enc : TypeId × Value → H) (F : Stop.Interp) :
    ReturnsInHanded {} Tryz.checked os 3 .any ((OpenSpec.ofChange Rows.holidayValidSpec).preRow enc Tryz.prog Tryz.f3 Rows.holidayValidRow.domain false Rows.holidayValidRow.laid) (((OpenSpec.ofChange Rows.holidayValidSpec).at F).post enc Tryz.prog Tryz.f3 false true false false) := by
  obtain ⟨places, hx⟩ := hvReads os enc
  refine returnsInHanded_of_row (C := Tryz.checked) (s := OpenSpec.ofChange Rows.holidayValidSpec) hvOwn started (by kernel_rfl) Tryz.func3
    (witness_row_at (enc := enc) (C := Tryz.checked) false (hvWorld os) #[hvArg] rfl (by kernel_rfl) (by kernel_rfl) (by kernel_rfl)
      (OpenSpec.preRow_of_cond 8 hx (by kernel_rfl) (fun k hk => by cases hk) (by kernel_rfl) (hvMet os))) ?_
  intro W base args ds gs before hval hW _ _ _ _ _ _
  exact hvContract H enc W args ds gs before hval hW

theorem hvInst : Func.isInstance Tryz.prog Tryz.f3 Rows.holidayValidRow.origin Rows.holidayValidRow.targs := of_decide_eq_true (by kernel_rfl)
theorem hvWrap : Func.isWrapper Tryz.prog Tryz.f3 Rows.holidayValidRow.wrapper Rows.holidayValidRow.mainSum := by
  unfold Func.isWrapper
  first | (rw [if_pos (by decide +kernel)]; kernel_rfl) | (rw [if_neg (by decide +kernel)]; exact ⟨rfl, rfl⟩)
theorem hvSaid : Rows.HolidayValidSaid :=
  OpenClaim.holds_of_cond 3 Tryz.f3 rfl rfl rfl rfl rfl rfl rfl ⟨rfl, rfl, rfl, rfl, rfl⟩ rfl rfl rfl rfl rfl fName3 Tryz.func3 facts3 hvInst hvWrap
    (fun os started H enc _ F => by rw [OpenClaim.pre_eq_preRow]; exact hvLifted os started H enc F)

theorem hvPlain (f : FuncId) (fn : Func) (hf : Tryz.pinned.checked.prog.funcNamed "civiltime/civiltimelaw28.HolidayValid" = some f) (hfn : Tryz.pinned.checked.prog.funcs[f]? = some fn) :
    false = Tryz.pinned.checked.prog.looks [] ∧ ∀ (j : Nat) t, fn.params[j]? = some t → Tryz.pinned.checked.prog.wantsStandIn t = false := by
  obtain rfl : f = 3 := Option.some.inj (fName3.symm.trans hf) |>.symm
  obtain rfl : fn = Tryz.f3 := (Option.some.inj (Tryz.func3.symm.trans hfn)).symm
  refine ⟨by kernel_rfl, fun j t ht => ?_⟩
  rw [Tryz.params3] at ht
  obtain rfl : t = 23 := by simpa using Array.mem_of_getElem? ht
  exact (show Tryz.prog.wantsStandIn 23 = false by kernel_rfl)

/-- THE CARD. -/
theorem holidayValid_card : Rows.HolidayValidCardSaid :=
  Claim7.holds_tied_plain_at .later [] _ _ _ _ hvSaid (fun _ h => by cases h) (by kernel_rfl) (fun _ h => by cases h) holidayValid_row_tie rfl ⟨rfl, rfl⟩ (by kernel_rfl) rfl hvPlain (by kernel_rfl)
#print axioms holidayValid_card
end Go.Proofs.YtkaadpkokmhfjaaGreatDoor
