/-
  HolidayDates: for every argument that can be read the law's call returns true and leaves its arguments alone: the row and its card. (laid: the package-level variables that the row lists start as the program's text lays them.)
-/
import Derived.Test.YtkaadpkokmhfjaaGreatDoorKvD
import Derived.Test.YtkaadpkokmhfjaaGreatDoorDaFD
import Derived.Test.YtkaadpkokmhfjaaGreatDoorFcW
import Derived.Test.YtkaadpkokmhfjaaGreatDoorCards
import Derived.Test.YtkaadpkokmhfjaaGreatDoorTie
import Derived.WalkKit
import Derived.Lib.LaidTab
import Derived.SevenTiedAt
namespace Go.Proofs.YtkaadpkokmhfjaaGreatDoor
open Go Go.Ab Go.ChangeShapes Go.WideShapes Go.ChangeAt Go.RowKit

theorem DaOwn : ownKnob Tryz.prog.godebug = none := by kernel_rfl
theorem DaRead3 : Tryz.prog.readableRec 3 = true := by kernel_rfl
theorem DaRow3 : 3 < Tryz.prog.types.size := of_decide_eq_true (by kernel_rfl)
theorem DaBool : Tryz.prog.underlying 4 = some .bool := by kernel_rfl
theorem DaRes : Tryz.f5.resultTypes = #[4] := by kernel_rfl

set_option maxRecDepth 100000 in
theorem DaContract {base : Nat} (H : Type) (enc : TypeId × Value → H) (W : World) (args : Array Value) (ds gs : List (DataW H)) (before : List MemPlace)
    (hval : ∀ (j : Nat) t v, Tryz.f5.params[j]? = some t → args[j]? = some v → Value.okWide Tryz.prog W .any base t v)
    (hW : DataW.Whole enc Tryz.prog Tryz.f5.params.toList Rows.holidayDatesSpec.vars false W args.toList ds gs before) :
    Calls Tryz.prog 5 args W fun e W' => ∃ v, e = .returned v ∧ Rows.holidayDatesSpec.post enc Tryz.prog Tryz.f5 false true false false W args v W' := by
  have hW' := hW
  obtain ⟨p, q, hA0, hV, rfl, hfz, hnd⟩ := hW
  have hA : DataW.TrodAll enc Tryz.prog W 0 (fun _ => true) true Tryz.f5.params.toList args.toList ds p := hA0
  rw [Tryz.params5] at hA hval
  obtain ⟨v0, vs0, d0, ds0, p0, q0, hargs0, rfl, rfl, h0, r0⟩ := trodAll_cons hA
  obtain ⟨v1, vs1, d1, ds1, p1, q1, hargs1, rfl, rfl, h1, r1⟩ := trodAll_cons r0
  obtain ⟨v2, vs2, d2, ds2, p2, q2, hargs2, rfl, rfl, h2, r2⟩ := trodAll_cons r1
  obtain ⟨v3, vs3, d3, ds3, p3, q3, hargs3, rfl, rfl, h3, r3⟩ := trodAll_cons r2
  obtain ⟨v4, vs4, d4, ds4, p4, q4, hargs4, rfl, rfl, h4, r4⟩ := trodAll_cons r3
  obtain ⟨v5, vs5, d5, ds5, p5, q5, hargs5, rfl, rfl, h5, r5⟩ := trodAll_cons r4
  obtain ⟨rfl, rfl, rfl⟩ := trodAll_nil r5
  obtain rfl : args = #[v0, v1, v2, v3, v4, v5] := by cases args; simp_all
  obtain ⟨rfl, rfl⟩ := trodVars_none hV
  refine (holidayDates_every W v0 v1 v2 v3 v4 v5 (hval 0 3 v0 rfl rfl) (hval 1 3 v1 rfl rfl) (hval 2 3 v2 rfl rfl) (hval 3 3 v3 rfl rfl) (hval 4 3 v4 rfl rfl) (hval 5 3 v5 rfl rfl)).mono fun e W' ⟨he, hB⟩ => ?_
  exact ⟨_, he, law_post hvLaidOut (fun t ht => by
    rw [Tryz.params5] at ht
    have ht : t = 3 := by simpa using ht
    rcases ht with rfl
    · exact ⟨DaRead3, DaRow3⟩) rfl DaRes DaBool hW' rfl hB⟩

/-! The witness -/
def DaArgs : Array Value := #[.int .i64 0, .int .i64 0, .int .i64 0, .int .i64 0, .int .i64 0, .int .i64 0]
theorem DaMet (os : Os) : laidMet Tryz.prog Rows.holidayDatesRow.laid ((hvWorld os).forCall (fun _ _ => 0) ⟨#[], DaArgs, []⟩).memory :=
  laidMet_of_run' 8 (by kernel_rfl) (by kernel_rfl)
theorem DaReads (os : Os) {H : Type} (enc : TypeId × Value → H) : ∃ places, DataW.whole enc Tryz.prog ((hvWorld os).forCall (fun _ _ => 0) ⟨#[], DaArgs, []⟩).memory Tryz.f5.params.toList Rows.holidayDatesSpec.vars false DaArgs.toList 8 = some ([.lit (.int .i64 0), .lit (.int .i64 0), .lit (.int .i64 0), .lit (.int .i64 0), .lit (.int .i64 0), .lit (.int .i64 0)], [], places) :=
  ⟨[], by kernel_rfl⟩

set_option maxRecDepth 100000 in
theorem DaLifted (os : Os) (started : os.Started) (H : Type) (enc : TypeId × Value → H) (F : Stop.Interp) :
    ReturnsInHanded {} Tryz.checked os 5 .any ((OpenSpec.ofChange Rows.holidayDatesSpec).preRow enc Tryz.prog Tryz.f5 Rows.holidayDatesRow.domain false Rows.holidayDatesRow.laid) (((OpenSpec.ofChange Rows.holidayDatesSpec).at F).post enc Tryz.prog Tryz.f5 false true false false) := by
  obtain ⟨places, hx⟩ := DaReads os enc
  refine returnsInHanded_of_row (C := Tryz.checked) (s := OpenSpec.ofChange Rows.holidayDatesSpec) DaOwn started (by kernel_rfl) Tryz.func5
    (witness_row_at (enc := enc) (C := Tryz.checked) false (hvWorld os) DaArgs rfl (by kernel_rfl) (by kernel_rfl) (by kernel_rfl)
      (OpenSpec.preRow_of_cond 8 hx (by kernel_rfl) (fun k hk => by cases hk) (by kernel_rfl) (DaMet os))) ?_
  intro W base args ds gs before hval hW _ _ _ _ _ _
  exact DaContract H enc W args ds gs before hval hW

theorem DaInst : Func.isInstance Tryz.prog Tryz.f5 Rows.holidayDatesRow.origin Rows.holidayDatesRow.targs := of_decide_eq_true (by kernel_rfl)
theorem DaWrap : Func.isWrapper Tryz.prog Tryz.f5 Rows.holidayDatesRow.wrapper Rows.holidayDatesRow.mainSum := by
  unfold Func.isWrapper
  first | (rw [if_pos (by decide +kernel)]; kernel_rfl) | (rw [if_neg (by decide +kernel)]; exact ⟨rfl, rfl⟩)
theorem DaSaid : Rows.HolidayDatesSaid :=
  OpenClaim.holds_of_cond 5 Tryz.f5 rfl rfl rfl rfl rfl rfl rfl ⟨rfl, rfl, rfl, rfl, rfl⟩ rfl rfl rfl rfl rfl fName5 Tryz.func5 facts5 DaInst DaWrap
    (fun os started H enc _ F => by rw [OpenClaim.pre_eq_preRow]; exact DaLifted os started H enc F)

theorem DaPlain (f : FuncId) (fn : Func) (hf : Tryz.pinned.checked.prog.funcNamed "civiltime/civiltimelaw28.HolidayDates" = some f) (hfn : Tryz.pinned.checked.prog.funcs[f]? = some fn) :
    false = Tryz.pinned.checked.prog.looks [] ∧ ∀ (j : Nat) t, fn.params[j]? = some t → Tryz.pinned.checked.prog.wantsStandIn t = false := by
  obtain rfl : f = 5 := Option.some.inj (fName5.symm.trans hf) |>.symm
  obtain rfl : fn = Tryz.f5 := (Option.some.inj (Tryz.func5.symm.trans hfn)).symm
  refine ⟨by kernel_rfl, fun j t ht => ?_⟩
  rw [Tryz.params5] at ht
  have ht : t = 3 := by simpa using Array.mem_of_getElem? ht
  rcases ht with rfl
  · exact (show Tryz.prog.wantsStandIn 3 = false by kernel_rfl)

/-- THE CARD. -/
theorem holidayDates_card : Rows.HolidayDatesCardSaid :=
  Claim7.holds_tied_plain_at .later [] _ _ _ _ DaSaid (fun _ h => by cases h) (by kernel_rfl) (fun _ h => by cases h) holidayDates_row_tie rfl ⟨rfl, rfl⟩ (by kernel_rfl) rfl DaPlain (by kernel_rfl)
#print axioms holidayDates_card
end Go.Proofs.YtkaadpkokmhfjaaGreatDoor
