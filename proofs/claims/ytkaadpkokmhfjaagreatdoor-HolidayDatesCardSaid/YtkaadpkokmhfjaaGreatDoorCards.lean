/-
  DERIVED. GIVEN WITH THE SEED: THE CARDS: each row of YtkaadpkokmhfjaaGreatDoorRows.lean that lists a variable, with what it lists TIED to the program's text (the seventh form; the later family's looks); each row that meets fmt, with fmt's text TOLD by the authors' own Lean function (tested against real Go, not proved from fmt's source: count such statements apart). THE CARD IS WHAT COUNTS. Prove the row's statement (the work); the ties are given (YtkaadpkokmhfjaaGreatDoorTie.lean); close each card by the builder's one call (the guide's Derived/Test/ToyasCard.lean, 'card_holds'). Laid BY PROGRAM, IN A SANDBOX (cutbox-door.mjs). By AI agents, Wed Nov 11 2026. No macro, syntax, notation, axiom, sorry.
-/
import Derived.Test.YtkaadpkokmhfjaaGreatDoorRows
import GoSem.ClaimSeven
namespace Go.Proofs.YtkaadpkokmhfjaaGreatDoor
namespace Rows

/-- THE TIED CARD OF 'civiltimelaw28.HolidayValid'. -/
def holidayValidCard : Claim7 := { stood := { row := holidayValidRow, standIns := [], harness := (true, "ea6db8109256a8c9758e73ec727e0d177729bec6f0bccdb20427a5a8d09f1b6e"), looks := false }, kinds := [], alts := [], laidByText := true, laidKinds := [.data, .pinned], laidTests := true, laidLooks := .later }
def HolidayValidCardSaid : Prop := Claim7.holds Tryz.pinned (.plain (OpenSpec.ofChange holidayValidSpec)) holidayValidCard

/-- THE TIED CARD OF 'civiltimelaw28.HolidayWeekdays'. -/
def holidayWeekdaysCard : Claim7 := { stood := { row := holidayWeekdaysRow, standIns := [], harness := (true, "ea6db8109256a8c9758e73ec727e0d177729bec6f0bccdb20427a5a8d09f1b6e"), looks := false }, kinds := [], alts := [], laidByText := true, laidKinds := [.data, .pinned], laidTests := true, laidLooks := .later }
def HolidayWeekdaysCardSaid : Prop := Claim7.holds Tryz.pinned (.plain (OpenSpec.ofChange holidayWeekdaysSpec)) holidayWeekdaysCard

/-- THE TIED CARD OF 'civiltimelaw28.HolidayDates'. -/
def holidayDatesCard : Claim7 := { stood := { row := holidayDatesRow, standIns := [], harness := (true, "ea6db8109256a8c9758e73ec727e0d177729bec6f0bccdb20427a5a8d09f1b6e"), looks := false }, kinds := [], alts := [], laidByText := true, laidKinds := [.data, .pinned], laidTests := true, laidLooks := .later }
def HolidayDatesCardSaid : Prop := Claim7.holds Tryz.pinned (.plain (OpenSpec.ofChange holidayDatesSpec)) holidayDatesCard

/-- THE TIED CARD OF 'civiltimelaw28.HolidayYears'. -/
def holidayYearsCard : Claim7 := { stood := { row := holidayYearsRow, standIns := [], harness := (true, "ea6db8109256a8c9758e73ec727e0d177729bec6f0bccdb20427a5a8d09f1b6e"), looks := false }, kinds := [], alts := [], laidByText := true, laidKinds := [.data, .pinned], laidTests := true, laidLooks := .later }
def HolidayYearsCardSaid : Prop := Claim7.holds Tryz.pinned (.plain (OpenSpec.ofChange holidayYearsSpec)) holidayYearsCard

/-- THE TIED CARD OF 'civiltimelaw28.HolidayParses'. -/
def holidayParsesCard : Claim7 := { stood := { row := holidayParsesRow, standIns := [], harness := (true, "ea6db8109256a8c9758e73ec727e0d177729bec6f0bccdb20427a5a8d09f1b6e"), looks := false }, kinds := [], alts := [], laidByText := true, laidKinds := [.data, .pinned], laidTests := true, laidLooks := .later }
def HolidayParsesCardSaid : Prop := Claim7.holds Tryz.pinned (.plain (OpenSpec.ofChange holidayParsesSpec)) holidayParsesCard

/-- THE TIED CARD OF 'civiltimelaw28.HolidayRanges'. -/
def holidayRangesCard : Claim7 := { stood := { row := holidayRangesRow, standIns := [], harness := (true, "ea6db8109256a8c9758e73ec727e0d177729bec6f0bccdb20427a5a8d09f1b6e"), looks := false }, kinds := [], alts := [], laidByText := true, laidKinds := [.data, .pinned], laidTests := true, laidLooks := .later }
def HolidayRangesCardSaid : Prop := Claim7.holds Tryz.pinned (.plain (OpenSpec.ofChange holidayRangesSpec)) holidayRangesCard

/-- THE TIED CARD OF 'civiltimelaw28.HolidayParts'. -/
def holidayPartsCard : Claim7 := { stood := { row := holidayPartsRow, standIns := [], harness := (true, "ea6db8109256a8c9758e73ec727e0d177729bec6f0bccdb20427a5a8d09f1b6e"), looks := false }, kinds := [], alts := [], laidByText := true, laidKinds := [.data, .pinned], laidTests := true, laidLooks := .later }
def HolidayPartsCardSaid : Prop := Claim7.holds Tryz.pinned (.plain (OpenSpec.ofChange holidayPartsSpec)) holidayPartsCard

/-- THE TIED CARD OF 'civiltimelaw28.HolidayTexts'. -/
def holidayTextsCard : Claim7 := { stood := { row := holidayTextsRow, standIns := [], harness := (true, "ea6db8109256a8c9758e73ec727e0d177729bec6f0bccdb20427a5a8d09f1b6e"), looks := false }, kinds := [], alts := [], laidByText := true, laidKinds := [.data, .data, .data, .data, .data, .pinned], laidTests := true, laidLooks := .later }
def HolidayTextsCardSaid : Prop := Claim7.holds Tryz.pinned (.plain (OpenSpec.ofChange holidayTextsSpec)) holidayTextsCard

/-- THE TIED CARD OF 'civiltimelaw28.HolidayLines'. -/
def holidayLinesCard : Claim7 := { stood := { row := holidayLinesRow, standIns := [], harness := (true, "ea6db8109256a8c9758e73ec727e0d177729bec6f0bccdb20427a5a8d09f1b6e"), looks := false }, kinds := [], alts := [], laidByText := true, laidKinds := [.data, .data, .data, .data, .data, .pinned], laidTests := true, laidLooks := .later }
def HolidayLinesCardSaid : Prop := Claim7.holds Tryz.pinned (.plain (OpenSpec.ofChange holidayLinesSpec)) holidayLinesCard

/-- THE TIED CARD OF 'civiltimelaw28.HolidaySets'. -/
def holidaySetsCard : Claim7 := { stood := { row := holidaySetsRow, standIns := [], harness := (true, "ea6db8109256a8c9758e73ec727e0d177729bec6f0bccdb20427a5a8d09f1b6e"), looks := false }, kinds := [], alts := [], laidByText := true, laidKinds := [.data, .pinned], laidTests := true, laidLooks := .later }
def HolidaySetsCardSaid : Prop := Claim7.holds Tryz.pinned (.plain (OpenSpec.ofChange holidaySetsSpec)) holidaySetsCard

/-- THE SECOND FORM's CARD OF 'civiltimelaw28.HolidayValid'. -/
def holidayValidUptoCard : Claim7 := { stood := { row := holidayValidUptoRow, standIns := [], harness := (true, "ea6db8109256a8c9758e73ec727e0d177729bec6f0bccdb20427a5a8d09f1b6e"), looks := false }, kinds := [], alts := [], laidByText := true, laidKinds := [.data, .pinned], laidTests := true, laidLooks := .later }
def HolidayValidUptoCardSaid : Prop := Claim7.holds Tryz.pinned (.plain (OpenSpec.upto holidayValidSpec)) holidayValidUptoCard

/-- THE SECOND FORM's CARD OF 'civiltimelaw28.HolidayWeekdays'. -/
def holidayWeekdaysUptoCard : Claim7 := { stood := { row := holidayWeekdaysUptoRow, standIns := [], harness := (true, "ea6db8109256a8c9758e73ec727e0d177729bec6f0bccdb20427a5a8d09f1b6e"), looks := false }, kinds := [], alts := [], laidByText := true, laidKinds := [.data, .pinned], laidTests := true, laidLooks := .later }
def HolidayWeekdaysUptoCardSaid : Prop := Claim7.holds Tryz.pinned (.plain (OpenSpec.upto holidayWeekdaysSpec)) holidayWeekdaysUptoCard

/-- THE SECOND FORM's CARD OF 'civiltimelaw28.HolidayDates'. -/
def holidayDatesUptoCard : Claim7 := { stood := { row := holidayDatesUptoRow, standIns := [], harness := (true, "ea6db8109256a8c9758e73ec727e0d177729bec6f0bccdb20427a5a8d09f1b6e"), looks := false }, kinds := [], alts := [], laidByText := true, laidKinds := [.data, .pinned], laidTests := true, laidLooks := .later }
def HolidayDatesUptoCardSaid : Prop := Claim7.holds Tryz.pinned (.plain (OpenSpec.upto holidayDatesSpec)) holidayDatesUptoCard

/-- THE SECOND FORM's CARD OF 'civiltimelaw28.HolidayYears'. -/
def holidayYearsUptoCard : Claim7 := { stood := { row := holidayYearsUptoRow, standIns := [], harness := (true, "ea6db8109256a8c9758e73ec727e0d177729bec6f0bccdb20427a5a8d09f1b6e"), looks := false }, kinds := [], alts := [], laidByText := true, laidKinds := [.data, .pinned], laidTests := true, laidLooks := .later }
def HolidayYearsUptoCardSaid : Prop := Claim7.holds Tryz.pinned (.plain (OpenSpec.upto holidayYearsSpec)) holidayYearsUptoCard

/-- THE SECOND FORM's CARD OF 'civiltimelaw28.HolidayParses'. -/
def holidayParsesUptoCard : Claim7 := { stood := { row := holidayParsesUptoRow, standIns := [], harness := (true, "ea6db8109256a8c9758e73ec727e0d177729bec6f0bccdb20427a5a8d09f1b6e"), looks := false }, kinds := [], alts := [], laidByText := true, laidKinds := [.data, .pinned], laidTests := true, laidLooks := .later }
def HolidayParsesUptoCardSaid : Prop := Claim7.holds Tryz.pinned (.plain (OpenSpec.upto holidayParsesSpec)) holidayParsesUptoCard

/-- THE SECOND FORM's CARD OF 'civiltimelaw28.HolidayRanges'. -/
def holidayRangesUptoCard : Claim7 := { stood := { row := holidayRangesUptoRow, standIns := [], harness := (true, "ea6db8109256a8c9758e73ec727e0d177729bec6f0bccdb20427a5a8d09f1b6e"), looks := false }, kinds := [], alts := [], laidByText := true, laidKinds := [.data, .pinned], laidTests := true, laidLooks := .later }
def HolidayRangesUptoCardSaid : Prop := Claim7.holds Tryz.pinned (.plain (OpenSpec.upto holidayRangesSpec)) holidayRangesUptoCard

/-- THE SECOND FORM's CARD OF 'civiltimelaw28.HolidayParts'. -/
def holidayPartsUptoCard : Claim7 := { stood := { row := holidayPartsUptoRow, standIns := [], harness := (true, "ea6db8109256a8c9758e73ec727e0d177729bec6f0bccdb20427a5a8d09f1b6e"), looks := false }, kinds := [], alts := [], laidByText := true, laidKinds := [.data, .pinned], laidTests := true, laidLooks := .later }
def HolidayPartsUptoCardSaid : Prop := Claim7.holds Tryz.pinned (.plain (OpenSpec.upto holidayPartsSpec)) holidayPartsUptoCard

/-- THE SECOND FORM's CARD OF 'civiltimelaw28.HolidayTexts'. -/
def holidayTextsUptoCard : Claim7 := { stood := { row := holidayTextsUptoRow, standIns := [], harness := (true, "ea6db8109256a8c9758e73ec727e0d177729bec6f0bccdb20427a5a8d09f1b6e"), looks := false }, kinds := [], alts := [], laidByText := true, laidKinds := [.data, .data, .data, .data, .data, .pinned], laidTests := true, laidLooks := .later }
def HolidayTextsUptoCardSaid : Prop := Claim7.holds Tryz.pinned (.plain (OpenSpec.upto holidayTextsSpec)) holidayTextsUptoCard

/-- THE SECOND FORM's CARD OF 'civiltimelaw28.HolidayLines'. -/
def holidayLinesUptoCard : Claim7 := { stood := { row := holidayLinesUptoRow, standIns := [], harness := (true, "ea6db8109256a8c9758e73ec727e0d177729bec6f0bccdb20427a5a8d09f1b6e"), looks := false }, kinds := [], alts := [], laidByText := true, laidKinds := [.data, .data, .data, .data, .data, .pinned], laidTests := true, laidLooks := .later }
def HolidayLinesUptoCardSaid : Prop := Claim7.holds Tryz.pinned (.plain (OpenSpec.upto holidayLinesSpec)) holidayLinesUptoCard

/-- THE SECOND FORM's CARD OF 'civiltimelaw28.HolidaySets'. -/
def holidaySetsUptoCard : Claim7 := { stood := { row := holidaySetsUptoRow, standIns := [], harness := (true, "ea6db8109256a8c9758e73ec727e0d177729bec6f0bccdb20427a5a8d09f1b6e"), looks := false }, kinds := [], alts := [], laidByText := true, laidKinds := [.data, .pinned], laidTests := true, laidLooks := .later }
def HolidaySetsUptoCardSaid : Prop := Claim7.holds Tryz.pinned (.plain (OpenSpec.upto holidaySetsSpec)) holidaySetsUptoCard
end Rows
end Go.Proofs.YtkaadpkokmhfjaaGreatDoor
