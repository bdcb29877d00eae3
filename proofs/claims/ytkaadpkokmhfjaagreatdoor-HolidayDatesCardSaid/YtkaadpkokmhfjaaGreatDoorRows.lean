/-
  NARROWER THAN 'FOR EVERY INPUT', by the rows' own cells (each row's printed sentence says how): HolidayValid: laid · HolidayWeekdays: laid · HolidayDates: laid · HolidayYears: laid · HolidayParses: laid · HolidayRanges: laid · HolidayParts: laid · HolidayTexts: laid · HolidayLines: laid · HolidaySets: laid.
  DERIVED. THE GIVEN ROWS OF THIS SEAT. 10 by the template 'for every input the law returns true; each argument reads behind the call as it read before'; 0 by the template 'total and deterministic' (their statements: YtkaadpkokmhfjaaGreatDoorTotals.lean).
  GIVEN WITH THE SEED: the statements are not yours to turn. If you find one false, say at which input.
  Laid BY PROGRAM, IN A SANDBOX (cutbox-rows.mjs): the forced cells as the released guide's own fill.sh prints them over the translation 4b9a4c5f64b03dbb… (all of the seat's roots in one cut). By AI agents, Wed Nov 11 2026. No macro, syntax, notation, axiom, sorry.
-/
import Derived.Test.YtkaadpkokmhfjaaGreatDoorChecked
import GoSem.PinnedTables
import GoSem.Claim
import GoSem.ClaimJoined
import GoSem.ClaimMapViews
import Derived.JoinedTies
import Derived.KernelRfl
namespace Go.Proofs.YtkaadpkokmhfjaaGreatDoor
/- THE CELL 'sum', in the pinned program and in every row, IS THE sha256 OF THE DUMP (.gsa) THAT YtkaadpkokmhfjaaGreatDoorProg.lean LOADS. Nothing in Lean hashes anything: it is a label: what it is worth is what the hold of that sum in a sandbox is worth. -/
noncomputable def Tryz.pinned : Pinned := { name := "ytkaadpkokmhfjaagreatdoor", sum := "4b9a4c5f64b03dbb5af568437fb079a67561dcb8503351723966530c1dc2c93f", checked := Tryz.checked }
namespace Rows
def none {H : Type} : Left H := { results := [], args := [] }

/- WHAT THE LISTED PACKAGE-LEVEL VARIABLES READ AS WHEN THE CALL BEGINS. Each datum BY PROGRAM (the guide's laid-datum.mjs) off the statement by which the dump's own 'gosem.cut.vars' lays the variable. In a bare row this is a premise. The card (YtkaadpkokmhfjaaGreatDoorCards.lean) ties it to the program's text. -/
def laid_unicode_utf8_acceptRanges {H : Type} : DataW H := .agg [.agg [.lit (.int .u8 128), .lit (.int .u8 191)], .agg [.lit (.int .u8 160), .lit (.int .u8 191)], .agg [.lit (.int .u8 128), .lit (.int .u8 159)], .agg [.lit (.int .u8 144), .lit (.int .u8 191)], .agg [.lit (.int .u8 128), .lit (.int .u8 143)], .agg [.lit (.int .u8 0), .lit (.int .u8 0)], .agg [.lit (.int .u8 0), .lit (.int .u8 0)], .agg [.lit (.int .u8 0), .lit (.int .u8 0)], .agg [.lit (.int .u8 0), .lit (.int .u8 0)], .agg [.lit (.int .u8 0), .lit (.int .u8 0)], .agg [.lit (.int .u8 0), .lit (.int .u8 0)], .agg [.lit (.int .u8 0), .lit (.int .u8 0)], .agg [.lit (.int .u8 0), .lit (.int .u8 0)], .agg [.lit (.int .u8 0), .lit (.int .u8 0)], .agg [.lit (.int .u8 0), .lit (.int .u8 0)], .agg [.lit (.int .u8 0), .lit (.int .u8 0)]]
/-- One of Go's own tables, pinned by name: the form's constant. -/
def laid_unicode_utf8_first : DataW Unit := Go.Pinned.utf8First
def laid_math_bits_deBruijn32tab {H : Type} : DataW H := .agg [.lit (.int .u8 0), .lit (.int .u8 1), .lit (.int .u8 28), .lit (.int .u8 2), .lit (.int .u8 29), .lit (.int .u8 14), .lit (.int .u8 24), .lit (.int .u8 3), .lit (.int .u8 30), .lit (.int .u8 22), .lit (.int .u8 20), .lit (.int .u8 15), .lit (.int .u8 25), .lit (.int .u8 17), .lit (.int .u8 4), .lit (.int .u8 8), .lit (.int .u8 31), .lit (.int .u8 27), .lit (.int .u8 13), .lit (.int .u8 23), .lit (.int .u8 21), .lit (.int .u8 19), .lit (.int .u8 16), .lit (.int .u8 7), .lit (.int .u8 26), .lit (.int .u8 12), .lit (.int .u8 18), .lit (.int .u8 6), .lit (.int .u8 11), .lit (.int .u8 5), .lit (.int .u8 10), .lit (.int .u8 9)]
def laid_math_bits_deBruijn64tab {H : Type} : DataW H := .agg [.lit (.int .u8 0), .lit (.int .u8 1), .lit (.int .u8 56), .lit (.int .u8 2), .lit (.int .u8 57), .lit (.int .u8 49), .lit (.int .u8 28), .lit (.int .u8 3), .lit (.int .u8 61), .lit (.int .u8 58), .lit (.int .u8 42), .lit (.int .u8 50), .lit (.int .u8 38), .lit (.int .u8 29), .lit (.int .u8 17), .lit (.int .u8 4), .lit (.int .u8 62), .lit (.int .u8 47), .lit (.int .u8 59), .lit (.int .u8 36), .lit (.int .u8 45), .lit (.int .u8 43), .lit (.int .u8 51), .lit (.int .u8 22), .lit (.int .u8 53), .lit (.int .u8 39), .lit (.int .u8 33), .lit (.int .u8 30), .lit (.int .u8 24), .lit (.int .u8 18), .lit (.int .u8 12), .lit (.int .u8 5), .lit (.int .u8 63), .lit (.int .u8 55), .lit (.int .u8 48), .lit (.int .u8 27), .lit (.int .u8 60), .lit (.int .u8 41), .lit (.int .u8 37), .lit (.int .u8 16), .lit (.int .u8 46), .lit (.int .u8 35), .lit (.int .u8 44), .lit (.int .u8 21), .lit (.int .u8 52), .lit (.int .u8 32), .lit (.int .u8 23), .lit (.int .u8 11), .lit (.int .u8 54), .lit (.int .u8 26), .lit (.int .u8 40), .lit (.int .u8 15), .lit (.int .u8 34), .lit (.int .u8 20), .lit (.int .u8 31), .lit (.int .u8 10), .lit (.int .u8 25), .lit (.int .u8 14), .lit (.int .u8 19), .lit (.int .u8 9), .lit (.int .u8 13), .lit (.int .u8 8), .lit (.int .u8 7), .lit (.int .u8 6)]
def laid_internal_strconv_uint64pow10 {H : Type} : DataW H := .agg [.lit (.int .u64 1), .lit (.int .u64 10), .lit (.int .u64 100), .lit (.int .u64 1000), .lit (.int .u64 10000), .lit (.int .u64 100000), .lit (.int .u64 1000000), .lit (.int .u64 10000000), .lit (.int .u64 100000000), .lit (.int .u64 1000000000), .lit (.int .u64 10000000000), .lit (.int .u64 100000000000), .lit (.int .u64 1000000000000), .lit (.int .u64 10000000000000), .lit (.int .u64 100000000000000), .lit (.int .u64 1000000000000000), .lit (.int .u64 10000000000000000), .lit (.int .u64 100000000000000000), .lit (.int .u64 1000000000000000000), .lit (.int .u64 10000000000000000000)]
def laid_civiltime_holiday_observing {H : Type} : DataW H := .agg [.lit (.string []), .lit (.string [101, 120, 97, 99, 116, 108, 121]), .lit (.string [109, 111, 110, 100, 97, 121]), .lit (.string [110, 101, 97, 114, 101, 115, 116])]

/-- 'civiltimelaw28.HolidayValid': WHATEVER THE INPUT: true; the input reads as it did. -/
def holidayValidSpec : ChangeSpec := { name := "holidayValid", fn := fun _ => fun
  | [d] => { results := [.lit (.bool true)], args := [d] }
  | _ => none }
def holidayValidRow : OpenClaim := { program := "ytkaadpkokmhfjaagreatdoor", sum := "4b9a4c5f64b03dbb5af568437fb079a67561dcb8503351723966530c1dc2c93f", func := "civiltime/civiltimelaw28.HolidayValid", spec := "holidayValid", inPlace := ["internal/bytealg.CountString", "internal/bytealg.IndexByteString", "internal/bytealg.IndexString"], unfollowed := true, recurses := true, named := ["unicode/utf8.first", "unicode/utf8.acceptRanges", "internal/bytealg.MaxLen"], apart := false, laid := [("unicode/utf8.acceptRanges", laid_unicode_utf8_acceptRanges), ("unicode/utf8.first", laid_unicode_utf8_first)] }
def HolidayValidSaid : Prop := holidayValidRow.holds Tryz.pinned (OpenSpec.ofChange holidayValidSpec)

/-- ITS FALSE NEIGHBOUR: 'it returns false'. Refute it at one input. -/
def holidayValidWrong : ChangeSpec := { name := "holidayValid", fn := fun _ => fun
  | [d] => { results := [.lit (.bool false)], args := [d] }
  | _ => none }
def HolidayValidWrongFalsely : Prop := holidayValidRow.holds Tryz.pinned (OpenSpec.ofChange holidayValidWrong)

/-- 'civiltimelaw28.HolidayWeekdays': WHATEVER THE INPUT: true; the input reads as it did. -/
def holidayWeekdaysSpec : ChangeSpec := { name := "holidayWeekdays", fn := fun _ => fun
  | [d1, d2] => { results := [.lit (.bool true)], args := [d1, d2] }
  | _ => none }
def holidayWeekdaysRow : OpenClaim := { program := "ytkaadpkokmhfjaagreatdoor", sum := "4b9a4c5f64b03dbb5af568437fb079a67561dcb8503351723966530c1dc2c93f", func := "civiltime/civiltimelaw28.HolidayWeekdays", spec := "holidayWeekdays", inPlace := ["internal/bytealg.CountString", "internal/bytealg.IndexByteString", "internal/bytealg.IndexString"], unfollowed := true, recurses := true, named := ["unicode/utf8.first", "unicode/utf8.acceptRanges", "internal/bytealg.MaxLen"], apart := false, laid := [("unicode/utf8.acceptRanges", laid_unicode_utf8_acceptRanges), ("unicode/utf8.first", laid_unicode_utf8_first)] }
def HolidayWeekdaysSaid : Prop := holidayWeekdaysRow.holds Tryz.pinned (OpenSpec.ofChange holidayWeekdaysSpec)

/-- ITS FALSE NEIGHBOUR: 'it returns false'. Refute it at one input. -/
def holidayWeekdaysWrong : ChangeSpec := { name := "holidayWeekdays", fn := fun _ => fun
  | [d1, d2] => { results := [.lit (.bool false)], args := [d1, d2] }
  | _ => none }
def HolidayWeekdaysWrongFalsely : Prop := holidayWeekdaysRow.holds Tryz.pinned (OpenSpec.ofChange holidayWeekdaysWrong)

/-- 'civiltimelaw28.HolidayDates': WHATEVER THE INPUT: true; the input reads as it did. -/
def holidayDatesSpec : ChangeSpec := { name := "holidayDates", fn := fun _ => fun
  | [d1, d2, d3, d4, d5, d6] => { results := [.lit (.bool true)], args := [d1, d2, d3, d4, d5, d6] }
  | _ => none }
def holidayDatesRow : OpenClaim := { program := "ytkaadpkokmhfjaagreatdoor", sum := "4b9a4c5f64b03dbb5af568437fb079a67561dcb8503351723966530c1dc2c93f", func := "civiltime/civiltimelaw28.HolidayDates", spec := "holidayDates", inPlace := ["internal/bytealg.CountString", "internal/bytealg.IndexByteString", "internal/bytealg.IndexString"], unfollowed := true, recurses := true, named := ["unicode/utf8.first", "unicode/utf8.acceptRanges", "internal/bytealg.MaxLen"], apart := false, laid := [("unicode/utf8.acceptRanges", laid_unicode_utf8_acceptRanges), ("unicode/utf8.first", laid_unicode_utf8_first)] }
def HolidayDatesSaid : Prop := holidayDatesRow.holds Tryz.pinned (OpenSpec.ofChange holidayDatesSpec)

/-- ITS FALSE NEIGHBOUR: 'it returns false'. Refute it at one input. -/
def holidayDatesWrong : ChangeSpec := { name := "holidayDates", fn := fun _ => fun
  | [d1, d2, d3, d4, d5, d6] => { results := [.lit (.bool false)], args := [d1, d2, d3, d4, d5, d6] }
  | _ => none }
def HolidayDatesWrongFalsely : Prop := holidayDatesRow.holds Tryz.pinned (OpenSpec.ofChange holidayDatesWrong)

/-- 'civiltimelaw28.HolidayYears': WHATEVER THE INPUT: true; the input reads as it did. -/
def holidayYearsSpec : ChangeSpec := { name := "holidayYears", fn := fun _ => fun
  | [d1, d2] => { results := [.lit (.bool true)], args := [d1, d2] }
  | _ => none }
def holidayYearsRow : OpenClaim := { program := "ytkaadpkokmhfjaagreatdoor", sum := "4b9a4c5f64b03dbb5af568437fb079a67561dcb8503351723966530c1dc2c93f", func := "civiltime/civiltimelaw28.HolidayYears", spec := "holidayYears", inPlace := ["internal/bytealg.CountString", "internal/bytealg.IndexByteString", "internal/bytealg.IndexString"], unfollowed := true, recurses := true, named := ["unicode/utf8.first", "unicode/utf8.acceptRanges", "internal/bytealg.MaxLen"], apart := false, laid := [("unicode/utf8.acceptRanges", laid_unicode_utf8_acceptRanges), ("unicode/utf8.first", laid_unicode_utf8_first)] }
def HolidayYearsSaid : Prop := holidayYearsRow.holds Tryz.pinned (OpenSpec.ofChange holidayYearsSpec)

/-- ITS FALSE NEIGHBOUR: 'it returns false'. Refute it at one input. -/
def holidayYearsWrong : ChangeSpec := { name := "holidayYears", fn := fun _ => fun
  | [d1, d2] => { results := [.lit (.bool false)], args := [d1, d2] }
  | _ => none }
def HolidayYearsWrongFalsely : Prop := holidayYearsRow.holds Tryz.pinned (OpenSpec.ofChange holidayYearsWrong)

/-- 'civiltimelaw28.HolidayParses': WHATEVER THE INPUT: true; the input reads as it did. -/
def holidayParsesSpec : ChangeSpec := { name := "holidayParses", fn := fun _ => fun
  | [d] => { results := [.lit (.bool true)], args := [d] }
  | _ => none }
def holidayParsesRow : OpenClaim := { program := "ytkaadpkokmhfjaagreatdoor", sum := "4b9a4c5f64b03dbb5af568437fb079a67561dcb8503351723966530c1dc2c93f", func := "civiltime/civiltimelaw28.HolidayParses", spec := "holidayParses", inPlace := ["internal/bytealg.CountString", "internal/bytealg.IndexByteString", "internal/bytealg.IndexString"], unfollowed := true, recurses := true, named := ["unicode/utf8.first", "unicode/utf8.acceptRanges", "internal/bytealg.MaxLen"], apart := false, laid := [("unicode/utf8.acceptRanges", laid_unicode_utf8_acceptRanges), ("unicode/utf8.first", laid_unicode_utf8_first)] }
def HolidayParsesSaid : Prop := holidayParsesRow.holds Tryz.pinned (OpenSpec.ofChange holidayParsesSpec)

/-- ITS FALSE NEIGHBOUR: 'it returns false'. Refute it at one input. -/
def holidayParsesWrong : ChangeSpec := { name := "holidayParses", fn := fun _ => fun
  | [d] => { results := [.lit (.bool false)], args := [d] }
  | _ => none }
def HolidayParsesWrongFalsely : Prop := holidayParsesRow.holds Tryz.pinned (OpenSpec.ofChange holidayParsesWrong)

/-- 'civiltimelaw28.HolidayRanges': WHATEVER THE INPUT: true; the input reads as it did. -/
def holidayRangesSpec : ChangeSpec := { name := "holidayRanges", fn := fun _ => fun
  | [d1, d2] => { results := [.lit (.bool true)], args := [d1, d2] }
  | _ => none }
def holidayRangesRow : OpenClaim := { program := "ytkaadpkokmhfjaagreatdoor", sum := "4b9a4c5f64b03dbb5af568437fb079a67561dcb8503351723966530c1dc2c93f", func := "civiltime/civiltimelaw28.HolidayRanges", spec := "holidayRanges", inPlace := ["internal/bytealg.CountString", "internal/bytealg.IndexByteString", "internal/bytealg.IndexString"], unfollowed := true, recurses := true, named := ["unicode/utf8.first", "unicode/utf8.acceptRanges", "internal/bytealg.MaxLen"], apart := false, laid := [("unicode/utf8.acceptRanges", laid_unicode_utf8_acceptRanges), ("unicode/utf8.first", laid_unicode_utf8_first)] }
def HolidayRangesSaid : Prop := holidayRangesRow.holds Tryz.pinned (OpenSpec.ofChange holidayRangesSpec)

/-- ITS FALSE NEIGHBOUR: 'it returns false'. Refute it at one input. -/
def holidayRangesWrong : ChangeSpec := { name := "holidayRanges", fn := fun _ => fun
  | [d1, d2] => { results := [.lit (.bool false)], args := [d1, d2] }
  | _ => none }
def HolidayRangesWrongFalsely : Prop := holidayRangesRow.holds Tryz.pinned (OpenSpec.ofChange holidayRangesWrong)

/-- 'civiltimelaw28.HolidayParts': WHATEVER THE INPUT: true; the input reads as it did. -/
def holidayPartsSpec : ChangeSpec := { name := "holidayParts", fn := fun _ => fun
  | [d1, d2, d3] => { results := [.lit (.bool true)], args := [d1, d2, d3] }
  | _ => none }
def holidayPartsRow : OpenClaim := { program := "ytkaadpkokmhfjaagreatdoor", sum := "4b9a4c5f64b03dbb5af568437fb079a67561dcb8503351723966530c1dc2c93f", func := "civiltime/civiltimelaw28.HolidayParts", spec := "holidayParts", inPlace := ["internal/bytealg.CountString", "internal/bytealg.IndexByteString", "internal/bytealg.IndexString"], unfollowed := true, recurses := true, named := ["unicode/utf8.first", "unicode/utf8.acceptRanges", "internal/bytealg.MaxLen"], apart := false, laid := [("unicode/utf8.acceptRanges", laid_unicode_utf8_acceptRanges), ("unicode/utf8.first", laid_unicode_utf8_first)] }
def HolidayPartsSaid : Prop := holidayPartsRow.holds Tryz.pinned (OpenSpec.ofChange holidayPartsSpec)

/-- ITS FALSE NEIGHBOUR: 'it returns false'. Refute it at one input. -/
def holidayPartsWrong : ChangeSpec := { name := "holidayParts", fn := fun _ => fun
  | [d1, d2, d3] => { results := [.lit (.bool false)], args := [d1, d2, d3] }
  | _ => none }
def HolidayPartsWrongFalsely : Prop := holidayPartsRow.holds Tryz.pinned (OpenSpec.ofChange holidayPartsWrong)

/-- 'civiltimelaw28.HolidayTexts': WHATEVER THE INPUT: true; the input reads as it did. -/
def holidayTextsSpec : ChangeSpec := { name := "holidayTexts", fn := fun _ => fun
  | [d] => { results := [.lit (.bool true)], args := [d] }
  | _ => none }
def holidayTextsRow : OpenClaim := { program := "ytkaadpkokmhfjaagreatdoor", sum := "4b9a4c5f64b03dbb5af568437fb079a67561dcb8503351723966530c1dc2c93f", func := "civiltime/civiltimelaw28.HolidayTexts", spec := "holidayTexts", inPlace := ["internal/bytealg.CountString", "internal/bytealg.IndexByteString", "internal/bytealg.IndexString", "internal/abi.NoEscape", "internal/bytealg.MakeNoZero"], unfollowed := true, recurses := true, named := ["unicode/utf8.first", "unicode/utf8.acceptRanges", "internal/bytealg.MaxLen", "civiltime/holiday.observing", "internal/strconv.uint64pow10", "math/bits.deBruijn32tab", "math/bits.deBruijn64tab"], apart := false, laid := [("math/bits.deBruijn32tab", laid_math_bits_deBruijn32tab), ("math/bits.deBruijn64tab", laid_math_bits_deBruijn64tab), ("internal/strconv.uint64pow10", laid_internal_strconv_uint64pow10), ("unicode/utf8.acceptRanges", laid_unicode_utf8_acceptRanges), ("civiltime/holiday.observing", laid_civiltime_holiday_observing), ("unicode/utf8.first", laid_unicode_utf8_first)] }
def HolidayTextsSaid : Prop := holidayTextsRow.holds Tryz.pinned (OpenSpec.ofChange holidayTextsSpec)

/-- ITS FALSE NEIGHBOUR: 'it returns false'. Refute it at one input. -/
def holidayTextsWrong : ChangeSpec := { name := "holidayTexts", fn := fun _ => fun
  | [d] => { results := [.lit (.bool false)], args := [d] }
  | _ => none }
def HolidayTextsWrongFalsely : Prop := holidayTextsRow.holds Tryz.pinned (OpenSpec.ofChange holidayTextsWrong)

/-- 'civiltimelaw28.HolidayLines': WHATEVER THE INPUT: true; the input reads as it did. -/
def holidayLinesSpec : ChangeSpec := { name := "holidayLines", fn := fun _ => fun
  | [d1, d2] => { results := [.lit (.bool true)], args := [d1, d2] }
  | _ => none }
def holidayLinesRow : OpenClaim := { program := "ytkaadpkokmhfjaagreatdoor", sum := "4b9a4c5f64b03dbb5af568437fb079a67561dcb8503351723966530c1dc2c93f", func := "civiltime/civiltimelaw28.HolidayLines", spec := "holidayLines", inPlace := ["internal/bytealg.CountString", "internal/bytealg.IndexByteString", "internal/bytealg.IndexString", "internal/abi.NoEscape", "internal/bytealg.MakeNoZero"], unfollowed := true, recurses := true, named := ["unicode/utf8.first", "unicode/utf8.acceptRanges", "internal/bytealg.MaxLen", "civiltime/holiday.observing", "internal/strconv.uint64pow10", "math/bits.deBruijn32tab", "math/bits.deBruijn64tab"], apart := false, laid := [("math/bits.deBruijn32tab", laid_math_bits_deBruijn32tab), ("math/bits.deBruijn64tab", laid_math_bits_deBruijn64tab), ("internal/strconv.uint64pow10", laid_internal_strconv_uint64pow10), ("unicode/utf8.acceptRanges", laid_unicode_utf8_acceptRanges), ("civiltime/holiday.observing", laid_civiltime_holiday_observing), ("unicode/utf8.first", laid_unicode_utf8_first)] }
def HolidayLinesSaid : Prop := holidayLinesRow.holds Tryz.pinned (OpenSpec.ofChange holidayLinesSpec)

/-- ITS FALSE NEIGHBOUR: 'it returns false'. Refute it at one input. -/
def holidayLinesWrong : ChangeSpec := { name := "holidayLines", fn := fun _ => fun
  | [d1, d2] => { results := [.lit (.bool false)], args := [d1, d2] }
  | _ => none }
def HolidayLinesWrongFalsely : Prop := holidayLinesRow.holds Tryz.pinned (OpenSpec.ofChange holidayLinesWrong)

/-- 'civiltimelaw28.HolidaySets': WHATEVER THE INPUT: true; the input reads as it did. -/
def holidaySetsSpec : ChangeSpec := { name := "holidaySets", fn := fun _ => fun
  | [d1, d2, d3] => { results := [.lit (.bool true)], args := [d1, d2, d3] }
  | _ => none }
def holidaySetsRow : OpenClaim := { program := "ytkaadpkokmhfjaagreatdoor", sum := "4b9a4c5f64b03dbb5af568437fb079a67561dcb8503351723966530c1dc2c93f", func := "civiltime/civiltimelaw28.HolidaySets", spec := "holidaySets", inPlace := ["internal/bytealg.CountString", "internal/bytealg.IndexByteString", "internal/bytealg.IndexString"], unfollowed := true, recurses := true, named := ["unicode/utf8.first", "unicode/utf8.acceptRanges", "internal/bytealg.MaxLen"], apart := false, laid := [("unicode/utf8.acceptRanges", laid_unicode_utf8_acceptRanges), ("unicode/utf8.first", laid_unicode_utf8_first)] }
def HolidaySetsSaid : Prop := holidaySetsRow.holds Tryz.pinned (OpenSpec.ofChange holidaySetsSpec)

/-- ITS FALSE NEIGHBOUR: 'it returns false'. Refute it at one input. -/
def holidaySetsWrong : ChangeSpec := { name := "holidaySets", fn := fun _ => fun
  | [d1, d2, d3] => { results := [.lit (.bool false)], args := [d1, d2, d3] }
  | _ => none }
def HolidaySetsWrongFalsely : Prop := holidaySetsRow.holds Tryz.pinned (OpenSpec.ofChange holidaySetsWrong)

/- THE SECOND FORM. 'bulk': how many values and letters a reading holds, each counted each time it is reached (what is shared counts as often as it is met; a slice's spare places count too). A statement '..UptoSaid' is the law's where the arguments, and the package variables that the reading takes, are together of bulk at most 1048576: NARROWER than '..Said'. Prove '..Said' where nothing that the law and all that it calls make is longer than what came in: it says more and counts as full. Else prove '..UptoSaid'. A law counts once. -/
mutual
def uptoBulk {H : Type} : DataW H → Nat
  | .lit (.string bytes) => bytes.length + 1
  | .lit _ => 1
  | .nil => 1
  | .ptr d => uptoBulk d + 1
  | .slice elems spare => uptoBulkAll elems + uptoBulkAll spare + 1
  | .agg parts => uptoBulkAll parts + 1
  | .iface _ d => uptoBulk d + 1
  | .map entries => uptoBulkEntries entries + 1
  | .held _ => 1
def uptoBulkAll {H : Type} : List (DataW H) → Nat
  | [] => 0
  | d :: r => uptoBulk d + uptoBulkAll r
def uptoBulkEntries {H : Type} : List (Lit × DataW H) → Nat
  | [] => 0
  | x :: r => uptoBulkEntry x + uptoBulkEntries r
def uptoBulkEntry {H : Type} : Lit × DataW H → Nat
  | (.string bytes, d) => bytes.length + uptoBulk d + 1
  | (_, d) => uptoBulk d + 1
 end
def uptoSmall : (H : Type) → List (DataW H) → Bool := fun _ ds => decide (uptoBulkAll ds ≤ 1048576)
def OpenSpec.upto (s : _root_.Go.ChangeSpec) : _root_.Go.OpenSpec := { _root_.Go.OpenSpec.ofChange s with cond := some uptoSmall }

/-- 'civiltimelaw28.HolidayValid', WHERE WHAT IT READS IS OF BULK AT MOST 1048576: true; the input reads as it did. -/
def holidayValidUptoRow : OpenClaim := { program := "ytkaadpkokmhfjaagreatdoor", sum := "4b9a4c5f64b03dbb5af568437fb079a67561dcb8503351723966530c1dc2c93f", func := "civiltime/civiltimelaw28.HolidayValid", spec := "holidayValid", inPlace := ["internal/bytealg.CountString", "internal/bytealg.IndexByteString", "internal/bytealg.IndexString"], unfollowed := true, recurses := true, named := ["unicode/utf8.first", "unicode/utf8.acceptRanges", "internal/bytealg.MaxLen"], apart := false, laid := [("unicode/utf8.acceptRanges", laid_unicode_utf8_acceptRanges), ("unicode/utf8.first", laid_unicode_utf8_first)], narrowed := true }
def HolidayValidUptoSaid : Prop := holidayValidUptoRow.holds Tryz.pinned (OpenSpec.upto holidayValidSpec)

/-- 'civiltimelaw28.HolidayWeekdays', WHERE WHAT IT READS IS OF BULK AT MOST 1048576: true; the input reads as it did. -/
def holidayWeekdaysUptoRow : OpenClaim := { program := "ytkaadpkokmhfjaagreatdoor", sum := "4b9a4c5f64b03dbb5af568437fb079a67561dcb8503351723966530c1dc2c93f", func := "civiltime/civiltimelaw28.HolidayWeekdays", spec := "holidayWeekdays", inPlace := ["internal/bytealg.CountString", "internal/bytealg.IndexByteString", "internal/bytealg.IndexString"], unfollowed := true, recurses := true, named := ["unicode/utf8.first", "unicode/utf8.acceptRanges", "internal/bytealg.MaxLen"], apart := false, laid := [("unicode/utf8.acceptRanges", laid_unicode_utf8_acceptRanges), ("unicode/utf8.first", laid_unicode_utf8_first)], narrowed := true }
def HolidayWeekdaysUptoSaid : Prop := holidayWeekdaysUptoRow.holds Tryz.pinned (OpenSpec.upto holidayWeekdaysSpec)

/-- 'civiltimelaw28.HolidayDates', WHERE WHAT IT READS IS OF BULK AT MOST 1048576: true; the input reads as it did. -/
def holidayDatesUptoRow : OpenClaim := { program := "ytkaadpkokmhfjaagreatdoor", sum := "4b9a4c5f64b03dbb5af568437fb079a67561dcb8503351723966530c1dc2c93f", func := "civiltime/civiltimelaw28.HolidayDates", spec := "holidayDates", inPlace := ["internal/bytealg.CountString", "internal/bytealg.IndexByteString", "internal/bytealg.IndexString"], unfollowed := true, recurses := true, named := ["unicode/utf8.first", "unicode/utf8.acceptRanges", "internal/bytealg.MaxLen"], apart := false, laid := [("unicode/utf8.acceptRanges", laid_unicode_utf8_acceptRanges), ("unicode/utf8.first", laid_unicode_utf8_first)], narrowed := true }
def HolidayDatesUptoSaid : Prop := holidayDatesUptoRow.holds Tryz.pinned (OpenSpec.upto holidayDatesSpec)

/-- 'civiltimelaw28.HolidayYears', WHERE WHAT IT READS IS OF BULK AT MOST 1048576: true; the input reads as it did. -/
def holidayYearsUptoRow : OpenClaim := { program := "ytkaadpkokmhfjaagreatdoor", sum := "4b9a4c5f64b03dbb5af568437fb079a67561dcb8503351723966530c1dc2c93f", func := "civiltime/civiltimelaw28.HolidayYears", spec := "holidayYears", inPlace := ["internal/bytealg.CountString", "internal/bytealg.IndexByteString", "internal/bytealg.IndexString"], unfollowed := true, recurses := true, named := ["unicode/utf8.first", "unicode/utf8.acceptRanges", "internal/bytealg.MaxLen"], apart := false, laid := [("unicode/utf8.acceptRanges", laid_unicode_utf8_acceptRanges), ("unicode/utf8.first", laid_unicode_utf8_first)], narrowed := true }
def HolidayYearsUptoSaid : Prop := holidayYearsUptoRow.holds Tryz.pinned (OpenSpec.upto holidayYearsSpec)

/-- 'civiltimelaw28.HolidayParses', WHERE WHAT IT READS IS OF BULK AT MOST 1048576: true; the input reads as it did. -/
def holidayParsesUptoRow : OpenClaim := { program := "ytkaadpkokmhfjaagreatdoor", sum := "4b9a4c5f64b03dbb5af568437fb079a67561dcb8503351723966530c1dc2c93f", func := "civiltime/civiltimelaw28.HolidayParses", spec := "holidayParses", inPlace := ["internal/bytealg.CountString", "internal/bytealg.IndexByteString", "internal/bytealg.IndexString"], unfollowed := true, recurses := true, named := ["unicode/utf8.first", "unicode/utf8.acceptRanges", "internal/bytealg.MaxLen"], apart := false, laid := [("unicode/utf8.acceptRanges", laid_unicode_utf8_acceptRanges), ("unicode/utf8.first", laid_unicode_utf8_first)], narrowed := true }
def HolidayParsesUptoSaid : Prop := holidayParsesUptoRow.holds Tryz.pinned (OpenSpec.upto holidayParsesSpec)

/-- 'civiltimelaw28.HolidayRanges', WHERE WHAT IT READS IS OF BULK AT MOST 1048576: true; the input reads as it did. -/
def holidayRangesUptoRow : OpenClaim := { program := "ytkaadpkokmhfjaagreatdoor", sum := "4b9a4c5f64b03dbb5af568437fb079a67561dcb8503351723966530c1dc2c93f", func := "civiltime/civiltimelaw28.HolidayRanges", spec := "holidayRanges", inPlace := ["internal/bytealg.CountString", "internal/bytealg.IndexByteString", "internal/bytealg.IndexString"], unfollowed := true, recurses := true, named := ["unicode/utf8.first", "unicode/utf8.acceptRanges", "internal/bytealg.MaxLen"], apart := false, laid := [("unicode/utf8.acceptRanges", laid_unicode_utf8_acceptRanges), ("unicode/utf8.first", laid_unicode_utf8_first)], narrowed := true }
def HolidayRangesUptoSaid : Prop := holidayRangesUptoRow.holds Tryz.pinned (OpenSpec.upto holidayRangesSpec)

/-- 'civiltimelaw28.HolidayParts', WHERE WHAT IT READS IS OF BULK AT MOST 1048576: true; the input reads as it did. -/
def holidayPartsUptoRow : OpenClaim := { program := "ytkaadpkokmhfjaagreatdoor", sum := "4b9a4c5f64b03dbb5af568437fb079a67561dcb8503351723966530c1dc2c93f", func := "civiltime/civiltimelaw28.HolidayParts", spec := "holidayParts", inPlace := ["internal/bytealg.CountString", "internal/bytealg.IndexByteString", "internal/bytealg.IndexString"], unfollowed := true, recurses := true, named := ["unicode/utf8.first", "unicode/utf8.acceptRanges", "internal/bytealg.MaxLen"], apart := false, laid := [("unicode/utf8.acceptRanges", laid_unicode_utf8_acceptRanges), ("unicode/utf8.first", laid_unicode_utf8_first)], narrowed := true }
def HolidayPartsUptoSaid : Prop := holidayPartsUptoRow.holds Tryz.pinned (OpenSpec.upto holidayPartsSpec)

/-- 'civiltimelaw28.HolidayTexts', WHERE WHAT IT READS IS OF BULK AT MOST 1048576: true; the input reads as it did. -/
def holidayTextsUptoRow : OpenClaim := { program := "ytkaadpkokmhfjaagreatdoor", sum := "4b9a4c5f64b03dbb5af568437fb079a67561dcb8503351723966530c1dc2c93f", func := "civiltime/civiltimelaw28.HolidayTexts", spec := "holidayTexts", inPlace := ["internal/bytealg.CountString", "internal/bytealg.IndexByteString", "internal/bytealg.IndexString", "internal/abi.NoEscape", "internal/bytealg.MakeNoZero"], unfollowed := true, recurses := true, named := ["unicode/utf8.first", "unicode/utf8.acceptRanges", "internal/bytealg.MaxLen", "civiltime/holiday.observing", "internal/strconv.uint64pow10", "math/bits.deBruijn32tab", "math/bits.deBruijn64tab"], apart := false, laid := [("math/bits.deBruijn32tab", laid_math_bits_deBruijn32tab), ("math/bits.deBruijn64tab", laid_math_bits_deBruijn64tab), ("internal/strconv.uint64pow10", laid_internal_strconv_uint64pow10), ("unicode/utf8.acceptRanges", laid_unicode_utf8_acceptRanges), ("civiltime/holiday.observing", laid_civiltime_holiday_observing), ("unicode/utf8.first", laid_unicode_utf8_first)], narrowed := true }
def HolidayTextsUptoSaid : Prop := holidayTextsUptoRow.holds Tryz.pinned (OpenSpec.upto holidayTextsSpec)

/-- 'civiltimelaw28.HolidayLines', WHERE WHAT IT READS IS OF BULK AT MOST 1048576: true; the input reads as it did. -/
def holidayLinesUptoRow : OpenClaim := { program := "ytkaadpkokmhfjaagreatdoor", sum := "4b9a4c5f64b03dbb5af568437fb079a67561dcb8503351723966530c1dc2c93f", func := "civiltime/civiltimelaw28.HolidayLines", spec := "holidayLines", inPlace := ["internal/bytealg.CountString", "internal/bytealg.IndexByteString", "internal/bytealg.IndexString", "internal/abi.NoEscape", "internal/bytealg.MakeNoZero"], unfollowed := true, recurses := true, named := ["unicode/utf8.first", "unicode/utf8.acceptRanges", "internal/bytealg.MaxLen", "civiltime/holiday.observing", "internal/strconv.uint64pow10", "math/bits.deBruijn32tab", "math/bits.deBruijn64tab"], apart := false, laid := [("math/bits.deBruijn32tab", laid_math_bits_deBruijn32tab), ("math/bits.deBruijn64tab", laid_math_bits_deBruijn64tab), ("internal/strconv.uint64pow10", laid_internal_strconv_uint64pow10), ("unicode/utf8.acceptRanges", laid_unicode_utf8_acceptRanges), ("civiltime/holiday.observing", laid_civiltime_holiday_observing), ("unicode/utf8.first", laid_unicode_utf8_first)], narrowed := true }
def HolidayLinesUptoSaid : Prop := holidayLinesUptoRow.holds Tryz.pinned (OpenSpec.upto holidayLinesSpec)

/-- 'civiltimelaw28.HolidaySets', WHERE WHAT IT READS IS OF BULK AT MOST 1048576: true; the input reads as it did. -/
def holidaySetsUptoRow : OpenClaim := { program := "ytkaadpkokmhfjaagreatdoor", sum := "4b9a4c5f64b03dbb5af568437fb079a67561dcb8503351723966530c1dc2c93f", func := "civiltime/civiltimelaw28.HolidaySets", spec := "holidaySets", inPlace := ["internal/bytealg.CountString", "internal/bytealg.IndexByteString", "internal/bytealg.IndexString"], unfollowed := true, recurses := true, named := ["unicode/utf8.first", "unicode/utf8.acceptRanges", "internal/bytealg.MaxLen"], apart := false, laid := [("unicode/utf8.acceptRanges", laid_unicode_utf8_acceptRanges), ("unicode/utf8.first", laid_unicode_utf8_first)], narrowed := true }
def HolidaySetsUptoSaid : Prop := holidaySetsUptoRow.holds Tryz.pinned (OpenSpec.upto holidaySetsSpec)

end Rows
end Go.Proofs.YtkaadpkokmhfjaaGreatDoor
