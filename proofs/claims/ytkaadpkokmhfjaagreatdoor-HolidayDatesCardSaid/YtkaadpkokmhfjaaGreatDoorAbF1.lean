/-
  The evaluator's functions of this seat's translation, printed by program (wip/engine/tool.lean): part 1.
-/
import Derived.Test.YtkaadpkokmhfjaaGreatDoorAb2
namespace Go.Proofs.YtkaadpkokmhfjaaGreatDoor
open Go Go.Ab
/-- civiltime/civiltimelaw28.HolidayValid -/
def af3 : AFun := ⟨11, true, [.tmp 2],
 (.seq (.region false [1] [] [⟨some 1, none, false, .box (.t 0)⟩,
   ⟨some 2, none, false, .mv (.c (.bool false))⟩])
 (.seq (.region true [2] [] [⟨some 3, none, false, .call (.f 13) []⟩,
   ⟨some 4, none, false, .mv (.t 3)⟩,
   ⟨some 5, some (4, true), false, .load true 10 (.t 1)⟩,
   ⟨some 6, some (4, true), true, .call (.f 14) [(.t 5)]⟩,
   ⟨some 7, some (4, true), false, .load true 10 (.t 1)⟩,
   ⟨some 8, some (4, true), false, .call (.f 15) [(.t 7)]⟩,
   ⟨some 9, some (4, true), false, .eq false .bool (.t 6) (.t 8)⟩,
   ⟨some 10, none, false, .pick (.t 4) (.t 9) (.c (.bool false))⟩,
   ⟨some 2, none, false, .mv (.t 10)⟩])
 .ret))⟩
def af4L0 : ACode := .loop [0, 5, 21, 22, 23]
 (.seq (.region false [0, 5, 21, 22, 23, 24] [] [⟨some 24, none, false, .bin .lss (.t 23) (.t 22)⟩])
 (.seq (.cond (.t 24)
  .skip
  (.exit 0))
 (.seq (.block 1 (.seq (.region false [0, 5, 7, 8, 21, 22, 23] [] [⟨some 25, none, false, .mv (.t 23)⟩,
    ⟨some 26, none, false, .idxaddr none 2 (.t 21) (.t 23)⟩,
    ⟨some 27, none, false, .load true 2 (.t 26)⟩,
    ⟨some 8, none, false, .new [(.int .i64 0), (.int .i64 0)]⟩,
    ⟨some 7, none, false, .mv (.t 25)⟩,
    ⟨none, none, false, .store 2 (.t 8) (.t 27)⟩])
  (.seq (.seq (.region true [0, 5, 8, 21, 22, 23, 74] [] [⟨some 28, none, false, .fldaddr 1 (.t 8)⟩,
    ⟨some 29, none, false, .load false 1 (.t 28)⟩,
    ⟨some 30, none, false, .bin .lss (.t 29) (.c (.int .i64 0))⟩,
    ⟨some 31, none, false, .mv (.t 30)⟩,
    ⟨some 32, some (31, false), false, .fldaddr 1 (.t 8)⟩,
    ⟨some 33, some (31, false), false, .load false 1 (.t 32)⟩,
    ⟨some 34, some (31, false), false, .mv (.t 0)⟩,
    ⟨some 35, some (31, false), false, .bi (.len 1) [(.t 34)]⟩,
    ⟨some 36, some (31, false), false, .bin .geq (.t 33) (.t 35)⟩,
    ⟨some 37, none, false, .pick (.t 31) (.c (.bool true)) (.t 36)⟩,
    ⟨some 38, none, false, .mv (.t 37)⟩,
    ⟨some 39, some (38, false), false, .mv (.t 7)⟩,
    ⟨some 40, some (38, false), false, .bin .gtr (.t 39) (.c (.int .i64 0))⟩,
    ⟨some 41, some (38, false), false, .mv (.t 40)⟩,
    ⟨some 42, some (41, true), false, .mv (.t 5)⟩,
    ⟨some 43, some (41, true), false, .mv (.t 7)⟩,
    ⟨some 44, some (41, true), false, .bin .sub (.t 43) (.c (.int .i64 1))⟩,
    ⟨some 45, some (41, true), false, .idxaddr none 2 (.t 42) (.t 44)⟩,
    ⟨some 46, some (41, true), false, .fldaddr 0 (.t 45)⟩,
    ⟨some 47, some (41, true), false, .load false 1 (.t 46)⟩,
    ⟨some 48, some (41, true), false, .fldaddr 0 (.t 8)⟩,
    ⟨some 49, some (41, true), false, .load false 1 (.t 48)⟩,
    ⟨some 50, some (41, true), false, .bin .gtr (.t 47) (.t 49)⟩,
    ⟨some 51, some (41, true), false, .mv (.t 50)⟩,
    ⟨some 52, some (51, false), false, .mv (.t 5)⟩,
    ⟨some 53, some (51, false), false, .mv (.t 7)⟩,
    ⟨some 54, some (51, false), false, .bin .sub (.t 53) (.c (.int .i64 1))⟩,
    ⟨some 55, some (51, false), false, .idxaddr none 2 (.t 52) (.t 54)⟩,
    ⟨some 56, some (51, false), false, .fldaddr 0 (.t 55)⟩,
    ⟨some 57, some (51, false), false, .load false 1 (.t 56)⟩,
    ⟨some 58, some (51, false), false, .fldaddr 0 (.t 8)⟩,
    ⟨some 59, some (51, false), false, .load false 1 (.t 58)⟩,
    ⟨some 60, some (51, false), false, .bin .eql (.t 57) (.t 59)⟩,
    ⟨some 61, some (51, false), false, .mv (.t 60)⟩,
    ⟨some 62, some (61, true), false, .mv (.t 5)⟩,
    ⟨some 63, some (61, true), false, .mv (.t 7)⟩,
    ⟨some 64, some (61, true), false, .bin .sub (.t 63) (.c (.int .i64 1))⟩,
    ⟨some 65, some (61, true), false, .idxaddr none 2 (.t 62) (.t 64)⟩,
    ⟨some 66, some (61, true), false, .fldaddr 1 (.t 65)⟩,
    ⟨some 67, some (61, true), false, .load false 1 (.t 66)⟩,
    ⟨some 68, some (61, true), false, .fldaddr 1 (.t 8)⟩,
    ⟨some 69, some (61, true), false, .load false 1 (.t 68)⟩,
    ⟨some 70, some (61, true), false, .bin .geq (.t 67) (.t 69)⟩,
    ⟨some 71, some (51, false), false, .pick (.t 61) (.t 70) (.c (.bool false))⟩,
    ⟨some 72, some (41, true), false, .pick (.t 51) (.c (.bool true)) (.t 71)⟩,
    ⟨some 73, some (38, false), false, .pick (.t 41) (.t 72) (.c (.bool false))⟩,
    ⟨some 74, none, false, .pick (.t 38) (.c (.bool true)) (.t 73)⟩])
  (.cond (.t 74)
   (.seq (.region false [4] [] [⟨some 4, none, false, .mv (.c (.bool false))⟩])
   .ret)
   .skip))
  (.seq (.region false [0, 5, 21, 22, 23, 87] [] [⟨some 75, none, false, .mv (.t 0)⟩,
    ⟨some 76, none, false, .fldaddr 1 (.t 8)⟩,
    ⟨some 77, none, false, .load false 1 (.t 76)⟩,
    ⟨some 78, none, false, .idxaddr none 10 (.t 75) (.t 77)⟩,
    ⟨some 79, none, false, .fldaddr 9 (.t 78)⟩,
    ⟨some 80, none, false, .load false 1 (.t 79)⟩,
    ⟨some 81, none, false, .bin .neq (.t 80) (.c (.int .i64 1))⟩,
    ⟨some 82, none, false, .mv (.t 81)⟩,
    ⟨some 83, some (82, true), false, .fldaddr 0 (.t 8)⟩,
    ⟨some 84, some (82, true), false, .load false 1 (.t 83)⟩,
    ⟨some 85, some (82, true), false, .call (.f 18) [(.t 84)]⟩,
    ⟨some 86, some (82, true), false, .bin .geq (.t 85) (.c (.int .i64 6))⟩,
    ⟨some 87, none, false, .pick (.t 82) (.t 86) (.c (.bool false))⟩])
  (.cond (.t 87)
   (.seq (.region false [4] [] [⟨some 4, none, false, .mv (.c (.bool false))⟩])
   .ret)
   .skip)))))
 (.region false [0, 5, 21, 22, 23] [] [⟨some 88, none, false, .bin .add (.t 23) (.c (.int .i64 1))⟩,
   ⟨some 23, none, false, .mv (.t 88)⟩]))))
/-- civiltime/civiltimelaw28.HolidayWeekdays -/
def af4 : AFun := ⟨89, true, [.tmp 4],
 (.seq (.region false [0, 1] [] [⟨some 4, none, false, .mv (.c (.bool false))⟩])
 (.seq (.seq (.region false [0, 1, 10] [] [⟨some 9, none, false, .call (.f 13) []⟩,
   ⟨some 10, none, false, .un .not (.t 9)⟩])
 (.cond (.t 10)
  (.seq (.region false [4] [] [⟨some 4, none, false, .mv (.c (.bool false))⟩])
  .ret)
  .skip))
 (.seq (.seq (.region false [0, 1, 12] [] [⟨some 11, none, false, .mv (.t 0)⟩,
   ⟨some 12, none, false, .call (.f 16) [(.t 11)]⟩])
 (.cond (.t 12)
  (.seq (.region false [4] [] [⟨some 4, none, false, .mv (.c (.bool true))⟩])
  .ret)
  .skip))
 (.seq (.region false [0, 5, 6] [] [⟨some 14, none, false, .mv (.t 0)⟩,
   ⟨some 15, none, false, .mv (.t 1)⟩,
   ⟨some 16, none, false, .call (.f 17) [(.t 14), (.t 15)]⟩,
   ⟨some 13, none, false, .mv (.t 16)⟩,
   ⟨some 17, none, false, .ext 0 (.t 13)⟩,
   ⟨some 18, none, false, .ext 1 (.t 13)⟩,
   ⟨some 5, none, false, .mv (.t 17)⟩,
   ⟨some 6, none, false, .mv (.t 18)⟩])
 (.seq (.seq (.region false [0, 5, 20] [] [⟨some 19, none, false, .mv (.t 6)⟩,
   ⟨some 20, none, false, .bin .neq (.t 19) (.c (.int .i64 0))⟩])
 (.cond (.t 20)
  (.seq (.region false [4] [] [⟨some 4, none, false, .mv (.c (.bool true))⟩])
  .ret)
  .skip))
 (.seq (.seq (.region false [0, 5, 21, 22, 23] [] [⟨some 21, none, false, .mv (.t 5)⟩,
   ⟨some 22, none, false, .bi (.len 1) [(.t 21)]⟩,
   ⟨some 23, none, false, .mv (.c (.int .i64 0))⟩])
 (.block 0 af4L0))
 (.seq (.region false [4] [] [⟨some 4, none, false, .mv (.c (.bool true))⟩])
 .ret)))))))⟩
/-- civiltime/civiltimelaw28.HolidayDates -/
def af5 : AFun := ⟨126, true, [.tmp 12],
 (.seq (.region false [0, 1, 2, 3, 4, 5] [] [⟨some 12, none, false, .mv (.c (.bool false))⟩])
 (.seq (.seq (.region false [0, 1, 2, 3, 4, 5, 25] [] [⟨some 24, none, false, .call (.f 13) []⟩,
   ⟨some 25, none, false, .un .not (.t 24)⟩])
 (.cond (.t 25)
  (.seq (.region false [12] [] [⟨some 12, none, false, .mv (.c (.bool false))⟩])
  .ret)
  .skip))
 (.seq (.region false [0, 1, 2, 3, 4, 5, 13] [] [⟨some 26, none, false, .mv (.t 0)⟩,
   ⟨some 27, none, false, .mv (.t 1)⟩,
   ⟨some 28, none, false, .mv (.t 3)⟩,
   ⟨some 29, none, false, .mv (.t 4)⟩,
   ⟨some 30, none, false, .build [(.str []), (.int .i64 0), (.int .i64 0), (.int .i64 0), (.int .i64 0), (.int .i64 0), (.int .i64 0), (.int .i64 0), (.int .i64 0), (.int .i64 0)] [(0, 1, (.c (.str [97]))), (1, 1, (.c (.int .i64 1))), (2, 1, (.t 26)), (3, 1, (.t 27)), (7, 1, (.t 28)), (8, 1, (.t 29)), (9, 1, (.c (.int .i64 1)))]⟩,
   ⟨some 13, none, false, .new [(.str []), (.int .i64 0), (.int .i64 0), (.int .i64 0), (.int .i64 0), (.int .i64 0), (.int .i64 0), (.int .i64 0), (.int .i64 0), (.int .i64 0)]⟩,
   ⟨none, none, false, .store 10 (.t 13) (.t 30)⟩])
 (.seq (.region false [0, 1, 2, 3, 4, 5, 13, 14] [] [⟨some 31, none, false, .mv (.t 2)⟩,
   ⟨some 32, none, false, .mv (.t 3)⟩,
   ⟨some 33, none, false, .mv (.t 4)⟩,
   ⟨some 34, none, false, .build [(.str []), (.int .i64 0), (.int .i64 0), (.int .i64 0), (.int .i64 0), (.int .i64 0), (.int .i64 0), (.int .i64 0), (.int .i64 0), (.int .i64 0)] [(0, 1, (.c (.str [98]))), (1, 1, (.c (.int .i64 3))), (6, 1, (.t 31)), (7, 1, (.t 32)), (8, 1, (.t 33)), (9, 1, (.c (.int .i64 1)))]⟩,
   ⟨some 14, none, false, .new [(.str []), (.int .i64 0), (.int .i64 0), (.int .i64 0), (.int .i64 0), (.int .i64 0), (.int .i64 0), (.int .i64 0), (.int .i64 0), (.int .i64 0)]⟩,
   ⟨none, none, false, .store 10 (.t 14) (.t 34)⟩])
 (.seq (.region false [0, 1, 2, 3, 4, 5, 14, 15, 16] [] [⟨some 36, none, false, .load true 10 (.t 13)⟩,
   ⟨some 37, none, false, .bslice [(.str []), (.int .i64 0), (.int .i64 0), (.int .i64 0), (.int .i64 0), (.int .i64 0), (.int .i64 0), (.int .i64 0), (.int .i64 0), (.int .i64 0)] [(0, 10, (.t 36))] 1 10⟩,
   ⟨some 38, none, false, .mv (.t 5)⟩,
   ⟨some 39, none, false, .call (.f 17) [(.t 37), (.t 38)]⟩,
   ⟨some 35, none, false, .mv (.t 39)⟩,
   ⟨some 40, none, false, .ext 0 (.t 35)⟩,
   ⟨some 41, none, false, .ext 1 (.t 35)⟩,
   ⟨some 15, none, false, .mv (.t 40)⟩,
   ⟨some 16, none, false, .mv (.t 41)⟩])
 (.seq (.region false [0, 1, 2, 3, 4, 5, 15, 16, 17, 18] [] [⟨some 43, none, false, .load true 10 (.t 14)⟩,
   ⟨some 44, none, false, .bslice [(.str []), (.int .i64 0), (.int .i64 0), (.int .i64 0), (.int .i64 0), (.int .i64 0), (.int .i64 0), (.int .i64 0), (.int .i64 0), (.int .i64 0)] [(0, 10, (.t 43))] 1 10⟩,
   ⟨some 45, none, false, .mv (.t 5)⟩,
   ⟨some 46, none, false, .call (.f 17) [(.t 44), (.t 45)]⟩,
   ⟨some 42, none, false, .mv (.t 46)⟩,
   ⟨some 47, none, false, .ext 0 (.t 42)⟩,
   ⟨some 48, none, false, .ext 1 (.t 42)⟩,
   ⟨some 17, none, false, .mv (.t 47)⟩,
   ⟨some 18, none, false, .mv (.t 48)⟩])
 (.seq (.region false [0, 1, 2, 5, 15, 16, 17, 18, 19] [] [⟨some 49, none, false, .mv (.t 5)⟩,
   ⟨some 50, none, false, .mv (.t 3)⟩,
   ⟨some 51, none, false, .bin .geq (.t 49) (.t 50)⟩,
   ⟨some 52, none, false, .mv (.t 51)⟩,
   ⟨some 53, some (52, true), false, .mv (.t 5)⟩,
   ⟨some 54, some (52, true), false, .mv (.t 4)⟩,
   ⟨some 55, some (52, true), false, .bin .leq (.t 53) (.t 54)⟩,
   ⟨some 56, none, false, .pick (.t 52) (.t 55) (.c (.bool false))⟩,
   ⟨some 19, none, false, .mv (.t 56)⟩])
 (.seq (.seq (.region false [0, 1, 2, 5, 15, 17, 18, 19, 58] [] [⟨some 57, none, false, .mv (.t 16)⟩,
   ⟨some 58, none, false, .bin .eql (.t 57) (.c (.int .i64 0))⟩])
 (.cond (.t 58)
  (.seq (.region false [2, 5, 15, 17, 18, 19, 20, 21] [] [⟨some 60, none, false, .mv (.t 5)⟩,
    ⟨some 61, none, false, .mv (.t 0)⟩,
    ⟨some 62, none, false, .mv (.t 1)⟩,
    ⟨some 63, none, false, .build [(.int .i64 0), (.int .i64 0), (.int .i64 0)] [(0, 1, (.t 60)), (1, 1, (.t 61)), (2, 1, (.t 62))]⟩,
    ⟨some 64, none, false, .call (.f 19) [(.t 63)]⟩,
    ⟨some 59, none, false, .mv (.t 64)⟩,
    ⟨some 65, none, false, .ext 0 (.t 59)⟩,
    ⟨some 66, none, false, .ext 1 (.t 59)⟩,
    ⟨some 20, none, false, .mv (.t 65)⟩,
    ⟨some 21, none, false, .mv (.t 66)⟩])
  (.seq (.region false [2, 5, 17, 18, 19, 97] [] [⟨some 67, none, false, .mv (.t 19)⟩,
    ⟨some 68, none, false, .mv (.t 67)⟩,
    ⟨some 69, some (68, true), false, .mv (.t 21)⟩,
    ⟨some 70, some (68, true), false, .bin .eql (.t 69) (.c (.int .i64 0))⟩,
    ⟨some 71, none, false, .pick (.t 68) (.t 70) (.c (.bool false))⟩,
    ⟨some 72, none, false, .mv (.t 71)⟩,
    ⟨some 73, some (72, true), false, .mv (.t 15)⟩,
    ⟨some 74, some (72, true), false, .bi (.len 1) [(.t 73)]⟩,
    ⟨some 75, some (72, true), false, .bin .neq (.t 74) (.c (.int .i64 1))⟩,
    ⟨some 76, some (72, true), false, .mv (.t 75)⟩,
    ⟨some 77, some (76, false), false, .mv (.t 15)⟩,
    ⟨some 78, some (76, false), false, .idxaddr none 2 (.t 77) (.c (.int .i64 0))⟩,
    ⟨some 79, some (76, false), false, .fldaddr 0 (.t 78)⟩,
    ⟨some 80, some (76, false), false, .load false 1 (.t 79)⟩,
    ⟨some 81, some (76, false), false, .mv (.t 20)⟩,
    ⟨some 82, some (76, false), false, .bin .neq (.t 80) (.t 81)⟩,
    ⟨some 83, some (72, true), false, .pick (.t 76) (.c (.bool true)) (.t 82)⟩,
    ⟨some 84, none, false, .pick (.t 72) (.t 83) (.c (.bool false))⟩,
    ⟨some 85, none, false, .mv (.t 84)⟩,
    ⟨some 86, some (85, false), false, .mv (.t 19)⟩,
    ⟨some 87, some (85, false), false, .un .not (.t 86)⟩,
    ⟨some 88, some (85, false), false, .mv (.t 87)⟩,
    ⟨some 89, some (88, false), false, .mv (.t 21)⟩,
    ⟨some 90, some (88, false), false, .bin .neq (.t 89) (.c (.int .i64 0))⟩,
    ⟨some 91, some (85, false), false, .pick (.t 88) (.c (.bool true)) (.t 90)⟩,
    ⟨some 92, some (85, false), false, .mv (.t 91)⟩,
    ⟨some 93, some (92, true), false, .mv (.t 15)⟩,
    ⟨some 94, some (92, true), false, .bi (.len 1) [(.t 93)]⟩,
    ⟨some 95, some (92, true), false, .bin .neq (.t 94) (.c (.int .i64 0))⟩,
    ⟨some 96, some (85, false), false, .pick (.t 92) (.t 95) (.c (.bool false))⟩,
    ⟨some 97, none, false, .pick (.t 85) (.c (.bool true)) (.t 96)⟩])
  (.cond (.t 97)
   (.seq (.region false [12] [] [⟨some 12, none, false, .mv (.c (.bool false))⟩])
   .ret)
   .skip)))
  .skip))
 (.seq (.seq (.region false [2, 5, 17, 19, 99] [] [⟨some 98, none, false, .mv (.t 18)⟩,
   ⟨some 99, none, false, .bin .neq (.t 98) (.c (.int .i64 0))⟩])
 (.cond (.t 99)
  (.seq (.region false [12] [] [⟨some 12, none, false, .mv (.c (.bool true))⟩])
  .ret)
  .skip))
 (.seq (.region false [17, 19, 22, 23] [] [⟨some 101, none, false, .mv (.t 5)⟩,
   ⟨some 102, none, false, .mv (.t 2)⟩,
   ⟨some 103, none, false, .call (.f 20) [(.t 101), (.t 102)]⟩,
   ⟨some 100, none, false, .mv (.t 103)⟩,
   ⟨some 104, none, false, .ext 0 (.t 100)⟩,
   ⟨some 105, none, false, .ext 1 (.t 100)⟩,
   ⟨some 22, none, false, .mv (.t 104)⟩,
   ⟨some 23, none, false, .mv (.t 105)⟩])
 (.seq (.seq (.region false [17, 22, 23, 107] [] [⟨some 106, none, false, .mv (.t 19)⟩,
   ⟨some 107, none, false, .un .not (.t 106)⟩])
 (.cond (.t 107)
  (.seq (.region false [12] [] [⟨some 108, none, false, .mv (.t 17)⟩,
    ⟨some 109, none, false, .bi (.len 1) [(.t 108)]⟩,
    ⟨some 110, none, false, .bin .eql (.t 109) (.c (.int .i64 0))⟩,
    ⟨some 12, none, false, .mv (.t 110)⟩])
  .ret)
  .skip))
 (.seq (.region false [12] [] [⟨some 111, none, false, .mv (.t 23)⟩,
   ⟨some 112, none, false, .bin .eql (.t 111) (.c (.int .i64 0))⟩,
   ⟨some 113, none, false, .mv (.t 112)⟩,
   ⟨some 114, some (113, true), false, .mv (.t 17)⟩,
   ⟨some 115, some (113, true), false, .bi (.len 1) [(.t 114)]⟩,
   ⟨some 116, some (113, true), false, .bin .eql (.t 115) (.c (.int .i64 1))⟩,
   ⟨some 117, none, false, .pick (.t 113) (.t 116) (.c (.bool false))⟩,
   ⟨some 118, none, false, .mv (.t 117)⟩,
   ⟨some 119, some (118, true), false, .mv (.t 17)⟩,
   ⟨some 120, some (118, true), false, .idxaddr none 2 (.t 119) (.c (.int .i64 0))⟩,
   ⟨some 121, some (118, true), false, .fldaddr 0 (.t 120)⟩,
   ⟨some 122, some (118, true), false, .load false 1 (.t 121)⟩,
   ⟨some 123, some (118, true), false, .mv (.t 22)⟩,
   ⟨some 124, some (118, true), false, .bin .eql (.t 122) (.t 123)⟩,
   ⟨some 125, none, false, .pick (.t 118) (.t 124) (.c (.bool false))⟩,
   ⟨some 12, none, false, .mv (.t 125)⟩])
 .ret))))))))))))⟩
/-- civiltime/civiltimelaw28.HolidayYears -/
def af6 : AFun := ⟨53, true, [.tmp 4],
 (.seq (.region false [0, 1] [] [⟨some 4, none, false, .mv (.c (.bool false))⟩])
 (.seq (.seq (.region false [0, 1, 8] [] [⟨some 7, none, false, .call (.f 13) []⟩,
   ⟨some 8, none, false, .un .not (.t 7)⟩])
 (.cond (.t 8)
  (.seq (.region false [4] [] [⟨some 4, none, false, .mv (.c (.bool false))⟩])
  .ret)
  .skip))
 (.seq (.seq (.region false [0, 1, 10] [] [⟨some 9, none, false, .mv (.t 0)⟩,
   ⟨some 10, none, false, .call (.f 16) [(.t 9)]⟩])
 (.cond (.t 10)
  (.seq (.region false [4] [] [⟨some 4, none, false, .mv (.c (.bool true))⟩])
  .ret)
  .skip))
 (.seq (.region false [0, 1, 5, 6] [] [⟨some 12, none, false, .mv (.t 0)⟩,
   ⟨some 13, none, false, .mv (.t 1)⟩,
   ⟨some 14, none, false, .call (.f 17) [(.t 12), (.t 13)]⟩,
   ⟨some 11, none, false, .mv (.t 14)⟩,
   ⟨some 15, none, false, .ext 0 (.t 11)⟩,
   ⟨some 16, none, false, .ext 1 (.t 11)⟩,
   ⟨some 5, none, false, .mv (.t 15)⟩,
   ⟨some 6, none, false, .mv (.t 16)⟩])
 (.seq (.block 0 (.seq (.region false [0, 1, 5, 6, 17] [] [⟨some 18, none, false, .mv (.t 0)⟩,
    ⟨some 19, none, false, .call (.f 21) [(.t 18)]⟩,
    ⟨some 20, none, false, .un .not (.t 19)⟩,
    ⟨some 17, none, false, .mv (.t 20)⟩])
  (.cond (.t 17)
   (.seq (.region false [4] [] [⟨some 21, none, false, .mv (.t 6)⟩,
     ⟨some 22, none, false, .bin .eql (.t 21) (.c (.int .i64 1))⟩,
     ⟨some 23, none, false, .mv (.t 22)⟩,
     ⟨some 24, some (23, true), false, .mv (.t 5)⟩,
     ⟨some 25, some (23, true), false, .bi (.len 1) [(.t 24)]⟩,
     ⟨some 26, some (23, true), false, .bin .eql (.t 25) (.c (.int .i64 0))⟩,
     ⟨some 27, none, false, .pick (.t 23) (.t 26) (.c (.bool false))⟩,
     ⟨some 4, none, false, .mv (.t 27)⟩])
   .ret)
   (.seq (.region false [0, 1, 5, 6, 28] [] [⟨some 29, none, false, .mv (.t 1)⟩,
     ⟨some 30, none, false, .bin .lss (.t 29) (.c (.int .i64 1))⟩,
     ⟨some 31, none, false, .mv (.t 30)⟩,
     ⟨some 32, some (31, false), false, .mv (.t 1)⟩,
     ⟨some 33, some (31, false), false, .bin .gtr (.t 32) (.c (.int .i64 9999))⟩,
     ⟨some 34, none, false, .pick (.t 31) (.c (.bool true)) (.t 33)⟩,
     ⟨some 28, none, false, .mv (.t 34)⟩])
   (.cond (.t 28)
    (.seq (.region false [4] [] [⟨some 35, none, false, .mv (.t 6)⟩,
      ⟨some 36, none, false, .bin .eql (.t 35) (.c (.int .i64 2))⟩,
      ⟨some 37, none, false, .mv (.t 36)⟩,
      ⟨some 38, some (37, true), false, .mv (.t 5)⟩,
      ⟨some 39, some (37, true), false, .bi (.len 1) [(.t 38)]⟩,
      ⟨some 40, some (37, true), false, .bin .eql (.t 39) (.c (.int .i64 0))⟩,
      ⟨some 41, none, false, .pick (.t 37) (.t 40) (.c (.bool false))⟩,
      ⟨some 4, none, false, .mv (.t 41)⟩])
    .ret)
    .skip)))))
 (.seq (.region false [4] [] [⟨some 42, none, false, .mv (.t 6)⟩,
   ⟨some 43, none, false, .bin .eql (.t 42) (.c (.int .i64 0))⟩,
   ⟨some 44, none, false, .mv (.t 43)⟩,
   ⟨some 45, some (44, true), false, .mv (.t 5)⟩,
   ⟨some 46, some (44, true), false, .mv (.t 0)⟩,
   ⟨some 47, some (44, true), false, .mv (.t 1)⟩,
   ⟨some 48, some (44, true), false, .mv (.t 1)⟩,
   ⟨some 49, some (44, true), false, .build [(.int .i64 0), (.int .i64 0)] [(0, 1, (.c (.int .i64 (-719162)))), (1, 1, (.c (.int .i64 2932897)))]⟩,
   ⟨some 50, some (44, true), false, .call (.f 23) [(.t 46), (.t 47), (.t 48), (.t 49)]⟩,
   ⟨some 51, some (44, true), false, .call (.f 22) [(.t 45), (.t 50)]⟩,
   ⟨some 52, none, false, .pick (.t 44) (.t 51) (.c (.bool false))⟩,
   ⟨some 4, none, false, .mv (.t 52)⟩])
 .ret))))))⟩
def af7L0 : ACode := .loop [3, 4, 5, 9, 11, 12, 50, 51, 52, 59, 60, 61]
 (.seq (.region false [3, 4, 5, 9, 11, 12, 50, 51, 52, 59, 60, 61, 62] [] [⟨some 62, none, false, .bin .lss (.t 61) (.t 60)⟩])
 (.seq (.cond (.t 62)
  .skip
  (.exit 2))
 (.seq (.block 3 (.seq (.region false [3, 4, 5, 9, 11, 12, 14, 50, 51, 52, 59, 60, 61] [] [⟨some 63, none, false, .idxaddr none 3 (.t 59) (.t 61)⟩,
    ⟨some 64, none, false, .load true 3 (.t 63)⟩,
    ⟨some 14, none, false, .new [(.str []), (.int .i64 0), (.int .i64 0)]⟩,
    ⟨none, none, false, .store 3 (.t 14) (.t 64)⟩])
  (.region false [3, 4, 5, 9, 11, 12, 50, 51, 52, 59, 60, 61] [] [⟨some 65, none, false, .mv (.t 12)⟩,
    ⟨some 66, none, false, .fldaddr 0 (.t 14)⟩,
    ⟨some 67, none, false, .load false 1 (.t 66)⟩,
    ⟨some 68, none, false, .bslice [(.str [])] [(0, 1, (.t 67))] 1 1⟩,
    ⟨some 69, none, false, .bi (.append 1 16) [(.t 65), (.t 68)]⟩,
    ⟨some 12, none, false, .mv (.t 69)⟩])))
 (.region false [3, 4, 5, 9, 11, 12, 50, 51, 52, 59, 60, 61] [] [⟨some 70, none, false, .bin .add (.t 61) (.c (.int .i64 1))⟩,
   ⟨some 61, none, false, .mv (.t 70)⟩]))))
def af7L1 : ACode := .loop [3, 4, 5, 9, 50, 51, 52]
 (.seq (.region false [3, 4, 5, 9, 50, 51, 52, 53] [] [⟨some 53, none, false, .bin .lss (.t 52) (.t 51)⟩])
 (.seq (.cond (.t 53)
  .skip
  (.exit 0))
 (.seq (.block 1 (.seq (.region false [3, 4, 5, 9, 11, 50, 51, 52] [] [⟨some 54, none, false, .idxaddr none 1 (.t 50) (.t 52)⟩,
    ⟨some 55, none, false, .load false 1 (.t 54)⟩,
    ⟨some 11, none, false, .mv (.t 55)⟩])
  (.seq (.seq (.region false [3, 4, 5, 9, 11, 50, 51, 52, 58] [] [⟨some 56, none, false, .mv (.t 11)⟩,
    ⟨some 57, none, false, .bi (.len 1) [(.t 56)]⟩,
    ⟨some 58, none, false, .bin .eql (.t 57) (.c (.int .i64 0))⟩])
  (.cond (.t 58)
   (.seq (.region false [2] [] [⟨some 2, none, false, .mv (.c (.bool false))⟩])
   .ret)
   .skip))
  (.seq (.region false [3, 4, 5, 9, 11, 12, 50, 51, 52] [] [⟨some 12, none, false, .mv (.c .nilSl)⟩])
  (.seq (.seq (.region false [3, 4, 5, 9, 11, 12, 50, 51, 52, 59, 60, 61] [] [⟨some 59, none, false, .mv (.t 11)⟩,
    ⟨some 60, none, false, .bi (.len 1) [(.t 59)]⟩,
    ⟨some 61, none, false, .mv (.c (.int .i64 0))⟩])
  (.block 2 af7L0))
  (.seq (.region false [3, 4, 5, 9, 11, 15, 16, 17, 50, 51, 52] [] [⟨some 72, none, false, .mv (.t 12)⟩,
    ⟨some 73, none, false, .call (.f 26) [(.t 72)]⟩,
    ⟨some 71, none, false, .mv (.t 73)⟩,
    ⟨some 74, none, false, .ext 0 (.t 71)⟩,
    ⟨some 75, none, false, .ext 1 (.t 71)⟩,
    ⟨some 76, none, false, .ext 2 (.t 71)⟩,
    ⟨some 15, none, false, .new [(.str []), (.int .i64 0), (.int .i64 0), (.int .i64 0), (.int .i64 0), (.int .i64 0), (.int .i64 0), (.int .i64 0), (.int .i64 0), (.int .i64 0)]⟩,
    ⟨none, none, false, .store 10 (.t 15) (.t 74)⟩,
    ⟨some 16, none, false, .mv (.t 75)⟩,
    ⟨some 17, none, false, .mv (.t 76)⟩])
  (.seq (.seq (.region false [3, 4, 5, 9, 11, 15, 16, 17, 50, 51, 52, 78] [] [⟨some 77, none, false, .mv (.t 17)⟩,
    ⟨some 78, none, false, .bin .neq (.t 77) (.c (.int .i64 0))⟩])
  (.cond (.t 78)
   (.seq (.region true [2] [] [⟨some 79, none, false, .mv (.t 5)⟩,
     ⟨some 80, none, false, .mv (.t 17)⟩,
     ⟨some 81, none, false, .bin .eql (.t 79) (.t 80)⟩,
     ⟨some 82, none, false, .mv (.t 81)⟩,
     ⟨some 83, some (82, true), false, .mv (.t 16)⟩,
     ⟨some 84, some (82, true), false, .mv (.t 11)⟩,
     ⟨some 85, some (82, true), false, .bi (.len 1) [(.t 84)]⟩,
     ⟨some 86, some (82, true), false, .bin .lss (.t 83) (.t 85)⟩,
     ⟨some 87, none, false, .pick (.t 82) (.t 86) (.c (.bool false))⟩,
     ⟨some 88, none, false, .mv (.t 87)⟩,
     ⟨some 89, some (88, true), false, .load true 2 (.t 4)⟩,
     ⟨some 90, some (88, true), false, .mv (.t 11)⟩,
     ⟨some 91, some (88, true), false, .mv (.t 16)⟩,
     ⟨some 92, some (88, true), false, .idxaddr none 3 (.t 90) (.t 91)⟩,
     ⟨some 93, some (88, true), false, .fldaddr 1 (.t 92)⟩,
     ⟨some 94, some (88, true), false, .load true 2 (.t 93)⟩,
     ⟨some 95, some (88, true), false, .eq false (.flat [1, 1]) (.t 89) (.t 94)⟩,
     ⟨some 96, none, false, .pick (.t 88) (.t 95) (.c (.bool false))⟩,
     ⟨some 97, none, false, .mv (.t 96)⟩,
     ⟨some 98, some (97, true), false, .mv (.t 3)⟩,
     ⟨some 99, some (97, true), false, .bi (.len 1) [(.t 98)]⟩,
     ⟨some 100, some (97, true), false, .bin .eql (.t 99) (.c (.int .i64 0))⟩,
     ⟨some 101, none, false, .pick (.t 97) (.t 100) (.c (.bool false))⟩,
     ⟨some 2, none, false, .mv (.t 101)⟩])
   .ret)
   .skip))
  (.region false [3, 4, 5, 9, 50, 51, 52] [] [⟨some 102, none, false, .mv (.t 9)⟩,
    ⟨some 103, none, false, .load true 10 (.t 15)⟩,
    ⟨some 104, none, false, .bslice [(.str []), (.int .i64 0), (.int .i64 0), (.int .i64 0), (.int .i64 0), (.int .i64 0), (.int .i64 0), (.int .i64 0), (.int .i64 0), (.int .i64 0)] [(0, 10, (.t 103))] 1 10⟩,
    ⟨some 105, none, false, .bi (.append 10 88) [(.t 102), (.t 104)]⟩,
    ⟨some 9, none, false, .mv (.t 105)⟩]))))))))
 (.region false [3, 4, 5, 9, 50, 51, 52] [] [⟨some 106, none, false, .bin .add (.t 52) (.c (.int .i64 1))⟩,
   ⟨some 52, none, false, .mv (.t 106)⟩]))))
/-- civiltime/civiltimelaw28.HolidayParses -/
def af7 : AFun := ⟨134, true, [.tmp 2],
 (.seq (.region false [0] [] [⟨some 2, none, false, .mv (.c (.bool false))⟩])
 (.seq (.seq (.region false [0, 19] [] [⟨some 18, none, false, .call (.f 13) []⟩,
   ⟨some 19, none, false, .un .not (.t 18)⟩])
 (.cond (.t 19)
  (.seq (.region false [2] [] [⟨some 2, none, false, .mv (.c (.bool false))⟩])
  .ret)
  .skip))
 (.seq (.seq (.region false [0, 22] [] [⟨some 20, none, false, .mv (.t 0)⟩,
   ⟨some 21, none, false, .bi (.len 0) [(.t 20)]⟩,
   ⟨some 22, none, false, .bin .gtr (.t 21) (.c (.int .i64 4000))⟩])
 (.cond (.t 22)
  (.seq (.region false [2] [] [⟨some 2, none, false, .mv (.c (.bool true))⟩])
  .ret)
  .skip))
 (.seq (.region false [0, 3, 4, 5] [] [⟨some 24, none, false, .mv (.t 0)⟩,
   ⟨some 25, none, false, .call (.f 24) [(.t 24)]⟩,
   ⟨some 23, none, false, .mv (.t 25)⟩,
   ⟨some 26, none, false, .ext 0 (.t 23)⟩,
   ⟨some 27, none, false, .ext 1 (.t 23)⟩,
   ⟨some 28, none, false, .ext 2 (.t 23)⟩,
   ⟨some 4, none, false, .new [(.int .i64 0), (.int .i64 0)]⟩,
   ⟨some 3, none, false, .mv (.t 26)⟩,
   ⟨none, none, false, .store 2 (.t 4) (.t 27)⟩,
   ⟨some 5, none, false, .mv (.t 28)⟩])
 (.seq (.region false [3, 4, 5, 6, 7, 8] [] [⟨some 30, none, false, .mv (.t 0)⟩,
   ⟨some 31, none, false, .call (.f 25) [(.t 30)]⟩,
   ⟨some 29, none, false, .mv (.t 31)⟩,
   ⟨some 32, none, false, .ext 0 (.t 29)⟩,
   ⟨some 33, none, false, .ext 1 (.t 29)⟩,
   ⟨some 34, none, false, .ext 2 (.t 29)⟩,
   ⟨some 7, none, false, .new [(.int .i64 0), (.int .i64 0)]⟩,
   ⟨some 6, none, false, .mv (.t 32)⟩,
   ⟨none, none, false, .store 2 (.t 7) (.t 33)⟩,
   ⟨some 8, none, false, .mv (.t 34)⟩])
 (.seq (.seq (.region false [3, 4, 5, 6, 7, 8, 36] [] [⟨some 35, none, false, .mv (.t 8)⟩,
   ⟨some 36, none, false, .bin .neq (.t 35) (.c (.int .i64 0))⟩])
 (.cond (.t 36)
  (.seq (.region false [2] [] [⟨some 37, none, false, .mv (.t 5)⟩,
    ⟨some 38, none, false, .mv (.t 8)⟩,
    ⟨some 39, none, false, .bin .eql (.t 37) (.t 38)⟩,
    ⟨some 40, none, false, .mv (.t 39)⟩,
    ⟨some 41, some (40, true), false, .load true 2 (.t 4)⟩,
    ⟨some 42, some (40, true), false, .load true 2 (.t 7)⟩,
    ⟨some 43, some (40, true), false, .eq false (.flat [1, 1]) (.t 41) (.t 42)⟩,
    ⟨some 44, none, false, .pick (.t 40) (.t 43) (.c (.bool false))⟩,
    ⟨some 45, none, false, .mv (.t 44)⟩,
    ⟨some 46, some (45, true), false, .mv (.t 3)⟩,
    ⟨some 47, some (45, true), false, .bi (.len 1) [(.t 46)]⟩,
    ⟨some 48, some (45, true), false, .bin .eql (.t 47) (.c (.int .i64 0))⟩,
    ⟨some 49, none, false, .pick (.t 45) (.t 48) (.c (.bool false))⟩,
    ⟨some 2, none, false, .mv (.t 49)⟩])
  .ret)
  .skip))
 (.seq (.region false [3, 4, 5, 6, 9] [] [⟨some 9, none, false, .mv (.c .nilSl)⟩])
 (.seq (.seq (.region false [3, 4, 5, 9, 50, 51, 52] [] [⟨some 50, none, false, .mv (.t 6)⟩,
   ⟨some 51, none, false, .bi (.len 1) [(.t 50)]⟩,
   ⟨some 52, none, false, .mv (.c (.int .i64 0))⟩])
 (.block 0 af7L1))
 (.seq (.seq (.region false [3, 4, 5, 9, 109] [] [⟨some 107, none, false, .mv (.t 9)⟩,
   ⟨some 108, none, false, .bi (.len 1) [(.t 107)]⟩,
   ⟨some 109, none, false, .bin .gtr (.t 108) (.c (.int .i64 100))⟩])
 (.cond (.t 109)
  (.seq (.region false [2] [] [⟨some 110, none, false, .mv (.t 5)⟩,
    ⟨some 111, none, false, .bin .eql (.t 110) (.c (.int .i64 5))⟩,
    ⟨some 112, none, false, .mv (.t 111)⟩,
    ⟨some 113, some (112, true), false, .load true 2 (.t 4)⟩,
    ⟨some 114, some (112, true), false, .build [(.int .i64 0), (.int .i64 0)] []⟩,
    ⟨some 115, some (112, true), false, .eq false (.flat [1, 1]) (.t 113) (.t 114)⟩,
    ⟨some 116, none, false, .pick (.t 112) (.t 115) (.c (.bool false))⟩,
    ⟨some 117, none, false, .mv (.t 116)⟩,
    ⟨some 118, some (117, true), false, .mv (.t 3)⟩,
    ⟨some 119, some (117, true), false, .bi (.len 1) [(.t 118)]⟩,
    ⟨some 120, some (117, true), false, .bin .eql (.t 119) (.c (.int .i64 0))⟩,
    ⟨some 121, none, false, .pick (.t 117) (.t 120) (.c (.bool false))⟩,
    ⟨some 2, none, false, .mv (.t 121)⟩])
  .ret)
  .skip))
 (.seq (.region false [2] [] [⟨some 122, none, false, .mv (.t 5)⟩,
   ⟨some 123, none, false, .bin .eql (.t 122) (.c (.int .i64 0))⟩,
   ⟨some 124, none, false, .mv (.t 123)⟩,
   ⟨some 125, some (124, true), false, .load true 2 (.t 4)⟩,
   ⟨some 126, some (124, true), false, .build [(.int .i64 0), (.int .i64 0)] []⟩,
   ⟨some 127, some (124, true), false, .eq false (.flat [1, 1]) (.t 125) (.t 126)⟩,
   ⟨some 128, none, false, .pick (.t 124) (.t 127) (.c (.bool false))⟩,
   ⟨some 129, none, false, .mv (.t 128)⟩,
   ⟨some 130, some (129, true), false, .mv (.t 3)⟩,
   ⟨some 131, some (129, true), false, .mv (.t 9)⟩,
   ⟨some 132, some (129, true), false, .call (.f 27) [(.t 130), (.t 131), (.f 28)]⟩,
   ⟨some 133, none, false, .pick (.t 129) (.t 132) (.c (.bool false))⟩,
   ⟨some 2, none, false, .mv (.t 133)⟩])
 .ret))))))))))⟩
/-- civiltime/civiltimelaw28.HolidayRanges -/
def af8 : AFun := ⟨65, true, [.tmp 4],
 (.seq (.region false [0, 3] [] [⟨some 3, none, false, .box (.t 1)⟩,
   ⟨some 4, none, false, .mv (.c (.bool false))⟩])
 (.seq (.seq (.region false [0, 3, 9] [] [⟨some 8, none, false, .call (.f 13) []⟩,
   ⟨some 9, none, false, .un .not (.t 8)⟩])
 (.cond (.t 9)
  (.seq (.region false [4] [] [⟨some 4, none, false, .mv (.c (.bool false))⟩])
  .ret)
  .skip))
 (.seq (.seq (.region false [0, 3, 23] [] [⟨some 10, none, false, .mv (.t 0)⟩,
   ⟨some 11, none, false, .call (.f 16) [(.t 10)]⟩,
   ⟨some 12, none, false, .mv (.t 11)⟩,
   ⟨some 13, some (12, false), false, .load true 2 (.t 3)⟩,
   ⟨some 14, some (12, false), false, .call (.f 29) [(.t 13)]⟩,
   ⟨some 15, some (12, false), false, .mv (.t 14)⟩,
   ⟨some 16, some (15, true), false, .fldaddr 1 (.t 3)⟩,
   ⟨some 17, some (15, true), false, .load false 1 (.t 16)⟩,
   ⟨some 18, some (15, true), false, .fldaddr 0 (.t 3)⟩,
   ⟨some 19, some (15, true), false, .load false 1 (.t 18)⟩,
   ⟨some 20, some (15, true), false, .bin .sub (.t 17) (.t 19)⟩,
   ⟨some 21, some (15, true), false, .bin .gtr (.t 20) (.c (.int .i64 10000))⟩,
   ⟨some 22, some (12, false), false, .pick (.t 15) (.t 21) (.c (.bool false))⟩,
   ⟨some 23, none, false, .pick (.t 12) (.c (.bool true)) (.t 22)⟩])
 (.cond (.t 23)
  (.seq (.region false [4] [] [⟨some 4, none, false, .mv (.c (.bool true))⟩])
  .ret)
  .skip))
 (.seq (.region false [0, 3, 5, 6] [] [⟨some 25, none, false, .mv (.t 0)⟩,
   ⟨some 26, none, false, .load true 2 (.t 3)⟩,
   ⟨some 27, none, false, .call (.f 30) [(.t 25), (.t 26)]⟩,
   ⟨some 24, none, false, .mv (.t 27)⟩,
   ⟨some 28, none, false, .ext 0 (.t 24)⟩,
   ⟨some 29, none, false, .ext 1 (.t 24)⟩,
   ⟨some 5, none, false, .mv (.t 28)⟩,
   ⟨some 6, none, false, .mv (.t 29)⟩])
 (.seq (.seq (.region false [0, 3, 5, 6, 37] [] [⟨some 30, none, false, .mv (.t 0)⟩,
   ⟨some 31, none, false, .call (.f 21) [(.t 30)]⟩,
   ⟨some 32, none, false, .un .not (.t 31)⟩,
   ⟨some 33, none, false, .mv (.t 32)⟩,
   ⟨some 34, some (33, false), false, .load true 2 (.t 3)⟩,
   ⟨some 35, some (33, false), false, .call (.f 29) [(.t 34)]⟩,
   ⟨some 36, some (33, false), false, .un .not (.t 35)⟩,
   ⟨some 37, none, false, .pick (.t 33) (.c (.bool true)) (.t 36)⟩])
 (.cond (.t 37)
  (.seq (.region false [4] [] [⟨some 38, none, false, .mv (.t 6)⟩,
    ⟨some 39, none, false, .bin .eql (.t 38) (.c (.int .i64 1))⟩,
    ⟨some 40, none, false, .mv (.t 39)⟩,
    ⟨some 41, some (40, true), false, .mv (.t 5)⟩,
    ⟨some 42, some (40, true), false, .bi (.len 1) [(.t 41)]⟩,
    ⟨some 43, some (40, true), false, .bin .eql (.t 42) (.c (.int .i64 0))⟩,
    ⟨some 44, none, false, .pick (.t 40) (.t 43) (.c (.bool false))⟩,
    ⟨some 4, none, false, .mv (.t 44)⟩])
  .ret)
  .skip))
 (.seq (.region false [5, 6, 7] [] [⟨some 45, none, false, .mv (.t 0)⟩,
   ⟨some 46, none, false, .load true 2 (.t 3)⟩,
   ⟨some 47, none, false, .call (.f 31) [(.t 45), (.t 46)]⟩,
   ⟨some 7, none, false, .mv (.t 47)⟩])
 (.seq (.seq (.region false [5, 6, 7, 50] [] [⟨some 48, none, false, .mv (.t 7)⟩,
   ⟨some 49, none, false, .bi (.len 1) [(.t 48)]⟩,
   ⟨some 50, none, false, .bin .gtr (.t 49) (.c (.int .i64 1000))⟩])
 (.cond (.t 50)
  (.seq (.region false [4] [] [⟨some 51, none, false, .mv (.t 6)⟩,
    ⟨some 52, none, false, .bin .eql (.t 51) (.c (.int .i64 5))⟩,
    ⟨some 53, none, false, .mv (.t 52)⟩,
    ⟨some 54, some (53, true), false, .mv (.t 5)⟩,
    ⟨some 55, some (53, true), false, .bi (.len 1) [(.t 54)]⟩,
    ⟨some 56, some (53, true), false, .bin .eql (.t 55) (.c (.int .i64 0))⟩,
    ⟨some 57, none, false, .pick (.t 53) (.t 56) (.c (.bool false))⟩,
    ⟨some 4, none, false, .mv (.t 57)⟩])
  .ret)
  .skip))
 (.seq (.region false [4] [] [⟨some 58, none, false, .mv (.t 6)⟩,
   ⟨some 59, none, false, .bin .eql (.t 58) (.c (.int .i64 0))⟩,
   ⟨some 60, none, false, .mv (.t 59)⟩,
   ⟨some 61, some (60, true), false, .mv (.t 5)⟩,
   ⟨some 62, some (60, true), false, .mv (.t 7)⟩,
   ⟨some 63, some (60, true), false, .call (.f 22) [(.t 61), (.t 62)]⟩,
   ⟨some 64, none, false, .pick (.t 60) (.t 63) (.c (.bool false))⟩,
   ⟨some 4, none, false, .mv (.t 64)⟩])
 .ret))))))))⟩
/-- civiltime/civiltimelaw28.HolidayParts -/
def af9 : AFun := ⟨82, true, [.tmp 6],
 (.seq (.region false [0, 2, 4] [] [⟨some 4, none, false, .box (.t 1)⟩,
   ⟨some 6, none, false, .mv (.c (.bool false))⟩])
 (.seq (.seq (.region false [0, 2, 4, 14] [] [⟨some 13, none, false, .call (.f 13) []⟩,
   ⟨some 14, none, false, .un .not (.t 13)⟩])
 (.cond (.t 14)
  (.seq (.region false [6] [] [⟨some 6, none, false, .mv (.c (.bool false))⟩])
  .ret)
  .skip))
 (.seq (.seq (.region false [0, 2, 4, 41] [] [⟨some 15, none, false, .mv (.t 0)⟩,
   ⟨some 16, none, false, .call (.f 16) [(.t 15)]⟩,
   ⟨some 17, none, false, .mv (.t 16)⟩,
   ⟨some 18, some (17, false), false, .load true 2 (.t 4)⟩,
   ⟨some 19, some (17, false), false, .call (.f 29) [(.t 18)]⟩,
   ⟨some 20, some (17, false), false, .un .not (.t 19)⟩,
   ⟨some 21, none, false, .pick (.t 17) (.c (.bool true)) (.t 20)⟩,
   ⟨some 22, none, false, .mv (.t 21)⟩,
   ⟨some 23, some (22, false), false, .fldaddr 1 (.t 4)⟩,
   ⟨some 24, some (22, false), false, .load false 1 (.t 23)⟩,
   ⟨some 25, some (22, false), false, .fldaddr 0 (.t 4)⟩,
   ⟨some 26, some (22, false), false, .load false 1 (.t 25)⟩,
   ⟨some 27, some (22, false), false, .bin .sub (.t 24) (.t 26)⟩,
   ⟨some 28, some (22, false), false, .bin .gtr (.t 27) (.c (.int .i64 4000))⟩,
   ⟨some 29, none, false, .pick (.t 22) (.c (.bool true)) (.t 28)⟩,
   ⟨some 30, none, false, .mv (.t 29)⟩,
   ⟨some 31, some (30, false), false, .mv (.t 2)⟩,
   ⟨some 32, some (30, false), false, .fldaddr 0 (.t 4)⟩,
   ⟨some 33, some (30, false), false, .load false 1 (.t 32)⟩,
   ⟨some 34, some (30, false), false, .bin .leq (.t 31) (.t 33)⟩,
   ⟨some 35, none, false, .pick (.t 30) (.c (.bool true)) (.t 34)⟩,
   ⟨some 36, none, false, .mv (.t 35)⟩,
   ⟨some 37, some (36, false), false, .mv (.t 2)⟩,
   ⟨some 38, some (36, false), false, .fldaddr 1 (.t 4)⟩,
   ⟨some 39, some (36, false), false, .load false 1 (.t 38)⟩,
   ⟨some 40, some (36, false), false, .bin .geq (.t 37) (.t 39)⟩,
   ⟨some 41, none, false, .pick (.t 36) (.c (.bool true)) (.t 40)⟩])
 (.cond (.t 41)
  (.seq (.region false [6] [] [⟨some 6, none, false, .mv (.c (.bool true))⟩])
  .ret)
  .skip))
 (.seq (.region false [0, 2, 4, 7, 8] [] [⟨some 43, none, false, .mv (.t 0)⟩,
   ⟨some 44, none, false, .load true 2 (.t 4)⟩,
   ⟨some 45, none, false, .call (.f 30) [(.t 43), (.t 44)]⟩,
   ⟨some 42, none, false, .mv (.t 45)⟩,
   ⟨some 46, none, false, .ext 0 (.t 42)⟩,
   ⟨some 47, none, false, .ext 1 (.t 42)⟩,
   ⟨some 7, none, false, .mv (.t 46)⟩,
   ⟨some 8, none, false, .mv (.t 47)⟩])
 (.seq (.region false [0, 2, 4, 7, 8, 9, 10] [] [⟨some 49, none, false, .mv (.t 0)⟩,
   ⟨some 50, none, false, .fldaddr 0 (.t 4)⟩,
   ⟨some 51, none, false, .load false 1 (.t 50)⟩,
   ⟨some 52, none, false, .mv (.t 2)⟩,
   ⟨some 53, none, false, .build [(.int .i64 0), (.int .i64 0)] [(0, 1, (.t 51)), (1, 1, (.t 52))]⟩,
   ⟨some 54, none, false, .call (.f 30) [(.t 49), (.t 53)]⟩,
   ⟨some 48, none, false, .mv (.t 54)⟩,
   ⟨some 55, none, false, .ext 0 (.t 48)⟩,
   ⟨some 56, none, false, .ext 1 (.t 48)⟩,
   ⟨some 9, none, false, .mv (.t 55)⟩,
   ⟨some 10, none, false, .mv (.t 56)⟩])
 (.seq (.region false [7, 8, 9, 10, 11, 12] [] [⟨some 58, none, false, .mv (.t 0)⟩,
   ⟨some 59, none, false, .mv (.t 2)⟩,
   ⟨some 60, none, false, .fldaddr 1 (.t 4)⟩,
   ⟨some 61, none, false, .load false 1 (.t 60)⟩,
   ⟨some 62, none, false, .build [(.int .i64 0), (.int .i64 0)] [(0, 1, (.t 59)), (1, 1, (.t 61))]⟩,
   ⟨some 63, none, false, .call (.f 30) [(.t 58), (.t 62)]⟩,
   ⟨some 57, none, false, .mv (.t 63)⟩,
   ⟨some 64, none, false, .ext 0 (.t 57)⟩,
   ⟨some 65, none, false, .ext 1 (.t 57)⟩,
   ⟨some 11, none, false, .mv (.t 64)⟩,
   ⟨some 12, none, false, .mv (.t 65)⟩])
 (.seq (.seq (.region false [7, 9, 11, 75] [] [⟨some 66, none, false, .mv (.t 8)⟩,
   ⟨some 67, none, false, .bin .neq (.t 66) (.c (.int .i64 0))⟩,
   ⟨some 68, none, false, .mv (.t 67)⟩,
   ⟨some 69, some (68, false), false, .mv (.t 10)⟩,
   ⟨some 70, some (68, false), false, .bin .neq (.t 69) (.c (.int .i64 0))⟩,
   ⟨some 71, none, false, .pick (.t 68) (.c (.bool true)) (.t 70)⟩,
   ⟨some 72, none, false, .mv (.t 71)⟩,
   ⟨some 73, some (72, false), false, .mv (.t 12)⟩,
   ⟨some 74, some (72, false), false, .bin .neq (.t 73) (.c (.int .i64 0))⟩,
   ⟨some 75, none, false, .pick (.t 72) (.c (.bool true)) (.t 74)⟩])
 (.cond (.t 75)
  (.seq (.region false [6] [] [⟨some 6, none, false, .mv (.c (.bool true))⟩])
  .ret)
  .skip))
 (.seq (.region false [6] [] [⟨some 76, none, false, .mv (.t 7)⟩,
   ⟨some 77, none, false, .mv (.t 9)⟩,
   ⟨some 78, none, false, .mv (.t 11)⟩,
   ⟨some 79, none, false, .bslice [.nilSl, .nilSl] [(0, 1, (.t 77)), (1, 1, (.t 78))] 2 1⟩,
   ⟨some 80, none, false, .call (.f 32) [(.t 79)]⟩,
   ⟨some 81, none, false, .call (.f 22) [(.t 76), (.t 80)]⟩,
   ⟨some 6, none, false, .mv (.t 81)⟩])
 .ret))))))))⟩
/-- civiltime/civiltimelaw28.awake -/
def af13 : AFun := ⟨49, true, [.tmp 0],
 (.seq (.region false [] [] [⟨some 0, none, false, .mv (.c (.bool false))⟩])
 (.seq (.region false [1, 3] [] [⟨some 9, none, false, .call (.f 24) [(.c (.str [78, 101, 119, 89, 101, 97, 114, 32, 102, 105, 120, 101, 100, 32, 74, 97, 110, 32, 49, 32, 49, 32, 57, 57, 57, 57, 32, 109, 111, 110, 100, 97, 121, 10, 70, 114, 105, 100, 97, 121, 32, 110, 116, 104, 32, 52, 32, 84, 104, 117, 32, 78, 111, 118, 32, 49, 32, 50, 48, 48, 48, 32, 57, 57, 57, 57, 32, 101, 120, 97, 99, 116, 108, 121, 10]))]⟩,
   ⟨some 8, none, false, .mv (.t 9)⟩,
   ⟨some 10, none, false, .ext 0 (.t 8)⟩,
   ⟨some 11, none, false, .ext 1 (.t 8)⟩,
   ⟨some 12, none, false, .ext 2 (.t 8)⟩,
   ⟨some 2, none, false, .new [(.int .i64 0), (.int .i64 0)]⟩,
   ⟨some 1, none, false, .mv (.t 10)⟩,
   ⟨none, none, false, .store 2 (.t 2) (.t 11)⟩,
   ⟨some 3, none, false, .mv (.t 12)⟩])
 (.seq (.seq (.region false [1, 19] [] [⟨some 13, none, false, .mv (.t 3)⟩,
   ⟨some 14, none, false, .bin .neq (.t 13) (.c (.int .i64 0))⟩,
   ⟨some 15, none, false, .mv (.t 14)⟩,
   ⟨some 16, some (15, false), false, .mv (.t 1)⟩,
   ⟨some 17, some (15, false), false, .bi (.len 1) [(.t 16)]⟩,
   ⟨some 18, some (15, false), false, .bin .neq (.t 17) (.c (.int .i64 2))⟩,
   ⟨some 19, none, false, .pick (.t 15) (.c (.bool true)) (.t 18)⟩])
 (.cond (.t 19)
  (.seq (.region false [0] [] [⟨some 0, none, false, .mv (.c (.bool false))⟩])
  .ret)
  .skip))
 (.seq (.region false [4, 5] [] [⟨some 21, none, false, .mv (.t 1)⟩,
   ⟨some 22, none, false, .call (.f 17) [(.t 21), (.c (.int .i64 2023))]⟩,
   ⟨some 20, none, false, .mv (.t 22)⟩,
   ⟨some 23, none, false, .ext 0 (.t 20)⟩,
   ⟨some 24, none, false, .ext 1 (.t 20)⟩,
   ⟨some 4, none, false, .mv (.t 23)⟩,
   ⟨some 5, none, false, .mv (.t 24)⟩])
 (.seq (.region false [4, 5, 6, 7] [] [⟨some 26, none, false, .build [(.int .i64 0), (.int .i64 0), (.int .i64 0)] [(0, 1, (.c (.int .i64 2023))), (1, 1, (.c (.int .i64 1))), (2, 1, (.c (.int .i64 2)))]⟩,
   ⟨some 27, none, false, .call (.f 19) [(.t 26)]⟩,
   ⟨some 25, none, false, .mv (.t 27)⟩,
   ⟨some 28, none, false, .ext 0 (.t 25)⟩,
   ⟨some 29, none, false, .ext 1 (.t 25)⟩,
   ⟨some 6, none, false, .mv (.t 28)⟩,
   ⟨some 7, none, false, .mv (.t 29)⟩])
 (.seq (.region false [0] [] [⟨some 30, none, false, .mv (.t 5)⟩,
   ⟨some 31, none, false, .bin .eql (.t 30) (.c (.int .i64 0))⟩,
   ⟨some 32, none, false, .mv (.t 31)⟩,
   ⟨some 33, some (32, true), false, .mv (.t 7)⟩,
   ⟨some 34, some (32, true), false, .bin .eql (.t 33) (.c (.int .i64 0))⟩,
   ⟨some 35, none, false, .pick (.t 32) (.t 34) (.c (.bool false))⟩,
   ⟨some 36, none, false, .mv (.t 35)⟩,
   ⟨some 37, some (36, true), false, .mv (.t 4)⟩,
   ⟨some 38, some (36, true), false, .bi (.len 1) [(.t 37)]⟩,
   ⟨some 39, some (36, true), false, .bin .eql (.t 38) (.c (.int .i64 2))⟩,
   ⟨some 40, none, false, .pick (.t 36) (.t 39) (.c (.bool false))⟩,
   ⟨some 41, none, false, .mv (.t 40)⟩,
   ⟨some 42, some (41, true), false, .mv (.t 4)⟩,
   ⟨some 43, some (41, true), false, .idxaddr none 2 (.t 42) (.c (.int .i64 0))⟩,
   ⟨some 44, some (41, true), false, .load true 2 (.t 43)⟩,
   ⟨some 45, some (41, true), false, .mv (.t 6)⟩,
   ⟨some 46, some (41, true), false, .build [(.int .i64 0), (.int .i64 0)] [(0, 1, (.t 45)), (1, 1, (.c (.int .i64 0)))]⟩,
   ⟨some 47, some (41, true), false, .eq false (.flat [1, 1]) (.t 44) (.t 46)⟩,
   ⟨some 48, none, false, .pick (.t 41) (.t 47) (.c (.bool false))⟩,
   ⟨some 0, none, false, .mv (.t 48)⟩])
 .ret))))))⟩
/-- civiltime/holiday.Valid -/
def af14 : AFun := ⟨171, true, [.tmp 2],
 (.seq (.region false [1] [] [⟨some 1, none, false, .box (.t 0)⟩,
   ⟨some 2, none, false, .mv (.c (.bool false))⟩])
 (.seq (.seq (.region false [1, 31] [] [⟨some 5, none, false, .fldaddr 0 (.t 1)⟩,
   ⟨some 6, none, false, .load false 1 (.t 5)⟩,
   ⟨some 7, none, false, .call (.f 43) [(.t 6)]⟩,
   ⟨some 8, none, false, .un .not (.t 7)⟩,
   ⟨some 9, none, false, .mv (.t 8)⟩,
   ⟨some 10, some (9, false), false, .fldaddr 7 (.t 1)⟩,
   ⟨some 11, some (9, false), false, .load false 1 (.t 10)⟩,
   ⟨some 12, some (9, false), false, .bin .lss (.t 11) (.c (.int .i64 1))⟩,
   ⟨some 13, none, false, .pick (.t 9) (.c (.bool true)) (.t 12)⟩,
   ⟨some 14, none, false, .mv (.t 13)⟩,
   ⟨some 15, some (14, false), false, .fldaddr 7 (.t 1)⟩,
   ⟨some 16, some (14, false), false, .load false 1 (.t 15)⟩,
   ⟨some 17, some (14, false), false, .fldaddr 8 (.t 1)⟩,
   ⟨some 18, some (14, false), false, .load false 1 (.t 17)⟩,
   ⟨some 19, some (14, false), false, .bin .gtr (.t 16) (.t 18)⟩,
   ⟨some 20, none, false, .pick (.t 14) (.c (.bool true)) (.t 19)⟩,
   ⟨some 21, none, false, .mv (.t 20)⟩,
   ⟨some 22, some (21, false), false, .fldaddr 8 (.t 1)⟩,
   ⟨some 23, some (21, false), false, .load false 1 (.t 22)⟩,
   ⟨some 24, some (21, false), false, .bin .gtr (.t 23) (.c (.int .i64 9999))⟩,
   ⟨some 25, none, false, .pick (.t 21) (.c (.bool true)) (.t 24)⟩,
   ⟨some 26, none, false, .mv (.t 25)⟩,
   ⟨some 27, some (26, false), false, .fldaddr 9 (.t 1)⟩,
   ⟨some 28, some (26, false), false, .load false 1 (.t 27)⟩,
   ⟨some 29, some (26, false), false, .call (.f 44) [(.t 28), (.c (.int .i64 1)), (.c (.int .i64 3))]⟩,
   ⟨some 30, some (26, false), false, .un .not (.t 29)⟩,
   ⟨some 31, none, false, .pick (.t 26) (.c (.bool true)) (.t 30)⟩])
 (.cond (.t 31)
  (.seq (.region false [2] [] [⟨some 2, none, false, .mv (.c (.bool false))⟩])
  .ret)
  .skip))
 (.seq (.region false [1, 3] [] [⟨some 32, none, false, .fldaddr 0 (.t 1)⟩,
   ⟨some 33, none, false, .load false 1 (.t 32)⟩,
   ⟨some 34, none, false, .fldaddr 1 (.t 1)⟩,
   ⟨some 35, none, false, .load false 1 (.t 34)⟩,
   ⟨some 36, none, false, .fldaddr 7 (.t 1)⟩,
   ⟨some 37, none, false, .load false 1 (.t 36)⟩,
   ⟨some 38, none, false, .fldaddr 8 (.t 1)⟩,
   ⟨some 39, none, false, .load false 1 (.t 38)⟩,
   ⟨some 40, none, false, .fldaddr 9 (.t 1)⟩,
   ⟨some 41, none, false, .load false 1 (.t 40)⟩,
   ⟨some 42, none, false, .build [(.str []), (.int .i64 0), (.int .i64 0), (.int .i64 0), (.int .i64 0), (.int .i64 0), (.int .i64 0), (.int .i64 0), (.int .i64 0), (.int .i64 0)] [(0, 1, (.t 33)), (1, 1, (.t 35)), (7, 1, (.t 37)), (8, 1, (.t 39)), (9, 1, (.t 41))]⟩,
   ⟨some 3, none, false, .new [(.str []), (.int .i64 0), (.int .i64 0), (.int .i64 0), (.int .i64 0), (.int .i64 0), (.int .i64 0), (.int .i64 0), (.int .i64 0), (.int .i64 0)]⟩,
   ⟨none, none, false, .store 10 (.t 3) (.t 42)⟩])
 (.seq (.region false [1, 3, 4] [] [⟨some 4, none, false, .mv (.c (.bool false))⟩])
 (.seq (.seq (.region false [1, 3, 4, 44] [] [⟨some 43, none, false, .fldaddr 1 (.t 1)⟩,
   ⟨some 44, none, false, .load false 1 (.t 43)⟩])
 (.block 0 (.seq (.region false [1, 3, 4, 44, 45] [] [⟨some 46, none, false, .bin .eql (.t 44) (.c (.int .i64 1))⟩,
    ⟨some 45, none, false, .mv (.t 46)⟩])
  (.cond (.t 45)
   (.seq (.region true [1, 3, 4] [] [⟨some 47, none, false, .fldaddr 2 (.t 1)⟩,
     ⟨some 48, none, false, .load false 1 (.t 47)⟩,
     ⟨some 49, none, false, .call (.f 44) [(.t 48), (.c (.int .i64 1)), (.c (.int .i64 12))]⟩,
     ⟨some 50, none, false, .mv (.t 49)⟩,
     ⟨some 51, some (50, true), false, .fldaddr 3 (.t 1)⟩,
     ⟨some 52, some (50, true), false, .load false 1 (.t 51)⟩,
     ⟨some 53, some (50, true), false, .fldaddr 2 (.t 1)⟩,
     ⟨some 54, some (50, true), false, .load false 1 (.t 53)⟩,
     ⟨some 55, some (50, true), true, .call (.f 45) [(.c (.int .i64 2000)), (.t 54)]⟩,
     ⟨some 56, some (50, true), false, .call (.f 44) [(.t 52), (.c (.int .i64 1)), (.t 55)]⟩,
     ⟨some 57, none, false, .pick (.t 50) (.t 56) (.c (.bool false))⟩,
     ⟨some 4, none, false, .mv (.t 57)⟩])
   (.region true [1, 3, 4] [(3, 5)] [⟨some 58, none, false, .fldaddr 2 (.t 1)⟩,
     ⟨some 59, none, false, .load false 1 (.t 58)⟩,
     ⟨some 60, none, false, .fldaddr 3 (.t 1)⟩,
     ⟨some 61, none, false, .load false 1 (.t 60)⟩,
     ⟨some 62, none, false, .fldaddr 2 (.t 3)⟩,
     ⟨none, none, false, .store 1 (.t 62) (.t 59)⟩,
     ⟨some 63, none, false, .fldaddr 3 (.t 3)⟩,
     ⟨none, none, false, .store 1 (.t 63) (.t 61)⟩]))
   (.seq (.region false [1, 3, 4, 44, 64] [] [⟨some 65, none, false, .bin .eql (.t 44) (.c (.int .i64 2))⟩,
     ⟨some 64, none, false, .mv (.t 65)⟩])
   (.cond (.t 64)
    (.seq (.region false [1, 3, 4] [] [⟨some 66, none, false, .fldaddr 2 (.t 1)⟩,
      ⟨some 67, none, false, .load false 1 (.t 66)⟩,
      ⟨some 68, none, false, .call (.f 44) [(.t 67), (.c (.int .i64 1)), (.c (.int .i64 12))]⟩,
      ⟨some 69, none, false, .mv (.t 68)⟩,
      ⟨some 70, some (69, true), false, .fldaddr 4 (.t 1)⟩,
      ⟨some 71, some (69, true), false, .load false 1 (.t 70)⟩,
      ⟨some 72, some (69, true), false, .call (.f 44) [(.t 71), (.c (.int .i64 1)), (.c (.int .i64 7))]⟩,
      ⟨some 73, none, false, .pick (.t 69) (.t 72) (.c (.bool false))⟩,
      ⟨some 74, none, false, .mv (.t 73)⟩,
      ⟨some 75, some (74, true), false, .fldaddr 5 (.t 1)⟩,
      ⟨some 76, some (74, true), false, .load false 1 (.t 75)⟩,
      ⟨some 77, some (74, true), false, .call (.f 44) [(.t 76), (.c (.int .i64 (-5))), (.c (.int .i64 5))]⟩,
      ⟨some 78, none, false, .pick (.t 74) (.t 77) (.c (.bool false))⟩,
      ⟨some 79, none, false, .mv (.t 78)⟩,
      ⟨some 80, some (79, true), false, .fldaddr 5 (.t 1)⟩,
      ⟨some 81, some (79, true), false, .load false 1 (.t 80)⟩,
      ⟨some 82, some (79, true), false, .bin .neq (.t 81) (.c (.int .i64 0))⟩,
      ⟨some 83, none, false, .pick (.t 79) (.t 82) (.c (.bool false))⟩,
      ⟨some 84, none, false, .mv (.t 83)⟩,
      ⟨some 85, some (84, true), false, .fldaddr 6 (.t 1)⟩,
      ⟨some 86, some (84, true), false, .load false 1 (.t 85)⟩,
      ⟨some 87, some (84, true), false, .call (.f 44) [(.t 86), (.c (.int .i64 (-30))), (.c (.int .i64 30))]⟩,
      ⟨some 88, none, false, .pick (.t 84) (.t 87) (.c (.bool false))⟩,
      ⟨some 4, none, false, .mv (.t 88)⟩])
    (.region true [1, 3, 4] [(3, 9), (5, 9), (7, 9), (5, 11), (7, 11), (7, 13)] [⟨some 89, none, false, .fldaddr 2 (.t 1)⟩,
      ⟨some 90, none, false, .load false 1 (.t 89)⟩,
      ⟨some 91, none, false, .fldaddr 4 (.t 1)⟩,
      ⟨some 92, none, false, .load false 1 (.t 91)⟩,
      ⟨some 93, none, false, .fldaddr 5 (.t 1)⟩,
      ⟨some 94, none, false, .load false 1 (.t 93)⟩,
      ⟨some 95, none, false, .fldaddr 6 (.t 1)⟩,
      ⟨some 96, none, false, .load false 1 (.t 95)⟩,
      ⟨some 97, none, false, .fldaddr 2 (.t 3)⟩,
      ⟨none, none, false, .store 1 (.t 97) (.t 90)⟩,
      ⟨some 98, none, false, .fldaddr 4 (.t 3)⟩,
      ⟨none, none, false, .store 1 (.t 98) (.t 92)⟩,
      ⟨some 99, none, false, .fldaddr 5 (.t 3)⟩,
      ⟨none, none, false, .store 1 (.t 99) (.t 94)⟩,
      ⟨some 100, none, false, .fldaddr 6 (.t 3)⟩,
      ⟨none, none, false, .store 1 (.t 100) (.t 96)⟩]))
    (.seq (.region false [1, 3, 4, 44, 101] [] [⟨some 102, none, false, .bin .eql (.t 44) (.c (.int .i64 3))⟩,
      ⟨some 101, none, false, .mv (.t 102)⟩])
    (.cond (.t 101)
     (.seq (.region false [1, 3, 4] [] [⟨some 103, none, false, .fldaddr 6 (.t 1)⟩,
       ⟨some 104, none, false, .load false 1 (.t 103)⟩,
       ⟨some 105, none, false, .call (.f 44) [(.t 104), (.c (.int .i64 (-80))), (.c (.int .i64 250))]⟩,
       ⟨some 4, none, false, .mv (.t 105)⟩])
     (.region false [1, 3, 4] [] [⟨some 106, none, false, .fldaddr 6 (.t 1)⟩,
       ⟨some 107, none, false, .load false 1 (.t 106)⟩,
       ⟨some 108, none, false, .fldaddr 6 (.t 3)⟩,
       ⟨none, none, false, .store 1 (.t 108) (.t 107)⟩]))
     (.seq (.region false [1, 3, 4, 44, 109] [] [⟨some 110, none, false, .bin .eql (.t 44) (.c (.int .i64 4))⟩,
       ⟨some 109, none, false, .mv (.t 110)⟩])
     (.cond (.t 109)
      (.seq (.region false [1, 3, 4] [] [⟨some 111, none, false, .fldaddr 5 (.t 1)⟩,
        ⟨some 112, none, false, .load false 1 (.t 111)⟩,
        ⟨some 113, none, false, .call (.f 44) [(.t 112), (.c (.int .i64 1)), (.c (.int .i64 4))]⟩,
        ⟨some 114, none, false, .mv (.t 113)⟩,
        ⟨some 115, some (114, true), false, .fldaddr 2 (.t 1)⟩,
        ⟨some 116, some (114, true), false, .load false 1 (.t 115)⟩,
        ⟨some 117, some (114, true), false, .call (.f 44) [(.t 116), (.c (.int .i64 1)), (.c (.int .i64 12))]⟩,
        ⟨some 118, none, false, .pick (.t 114) (.t 117) (.c (.bool false))⟩,
        ⟨some 119, none, false, .mv (.t 118)⟩,
        ⟨some 120, some (119, true), false, .fldaddr 3 (.t 1)⟩,
        ⟨some 121, some (119, true), false, .load false 1 (.t 120)⟩,
        ⟨some 122, some (119, true), false, .call (.f 44) [(.t 121), (.c (.int .i64 1)), (.c (.int .i64 30))]⟩,
        ⟨some 123, none, false, .pick (.t 119) (.t 122) (.c (.bool false))⟩,
        ⟨some 124, none, false, .mv (.t 123)⟩,
        ⟨some 125, some (124, true), false, .fldaddr 3 (.t 1)⟩,
        ⟨some 126, some (124, true), false, .load false 1 (.t 125)⟩,
        ⟨some 127, some (124, true), false, .bin .lss (.t 126) (.c (.int .i64 30))⟩,
        ⟨some 128, some (124, true), false, .mv (.t 127)⟩,
        ⟨some 129, some (128, false), false, .fldaddr 2 (.t 1)⟩,
        ⟨some 130, some (128, false), false, .load false 1 (.t 129)⟩,
        ⟨some 131, some (128, false), false, .bin .rem (.t 130) (.c (.int .i64 2))⟩,
        ⟨some 132, some (128, false), false, .bin .eql (.t 131) (.c (.int .i64 1))⟩,
        ⟨some 133, some (124, true), false, .pick (.t 128) (.c (.bool true)) (.t 132)⟩,
        ⟨some 134, some (124, true), false, .mv (.t 133)⟩,
        ⟨some 135, some (134, false), false, .fldaddr 2 (.t 1)⟩,
        ⟨some 136, some (134, false), false, .load false 1 (.t 135)⟩,
        ⟨some 137, some (134, false), false, .bin .eql (.t 136) (.c (.int .i64 12))⟩,
        ⟨some 138, some (124, true), false, .pick (.t 134) (.c (.bool true)) (.t 137)⟩,
        ⟨some 139, none, false, .pick (.t 124) (.t 138) (.c (.bool false))⟩,
        ⟨some 4, none, false, .mv (.t 139)⟩])
      (.region true [1, 3, 4] [(3, 7), (5, 7), (5, 9)] [⟨some 140, none, false, .fldaddr 5 (.t 1)⟩,
        ⟨some 141, none, false, .load false 1 (.t 140)⟩,
        ⟨some 142, none, false, .fldaddr 2 (.t 1)⟩,
        ⟨some 143, none, false, .load false 1 (.t 142)⟩,
        ⟨some 144, none, false, .fldaddr 3 (.t 1)⟩,
        ⟨some 145, none, false, .load false 1 (.t 144)⟩,
        ⟨some 146, none, false, .fldaddr 5 (.t 3)⟩,
        ⟨none, none, false, .store 1 (.t 146) (.t 141)⟩,
        ⟨some 147, none, false, .fldaddr 2 (.t 3)⟩,
        ⟨none, none, false, .store 1 (.t 147) (.t 143)⟩,
        ⟨some 148, none, false, .fldaddr 3 (.t 3)⟩,
        ⟨none, none, false, .store 1 (.t 148) (.t 145)⟩]))
      (.seq (.region false [1, 3, 4, 149] [] [⟨some 150, none, false, .bin .eql (.t 44) (.c (.int .i64 5))⟩,
        ⟨some 149, none, false, .mv (.t 150)⟩])
      (.cond (.t 149)
       (.seq (.region false [1, 3, 4] [] [⟨some 151, none, false, .fldaddr 2 (.t 1)⟩,
         ⟨some 152, none, false, .load false 1 (.t 151)⟩,
         ⟨some 153, none, false, .call (.f 44) [(.t 152), (.c (.int .i64 1)), (.c (.int .i64 13))]⟩,
         ⟨some 154, none, false, .mv (.t 153)⟩,
         ⟨some 155, some (154, true), false, .fldaddr 3 (.t 1)⟩,
         ⟨some 156, some (154, true), false, .load false 1 (.t 155)⟩,
         ⟨some 157, some (154, true), false, .call (.f 44) [(.t 156), (.c (.int .i64 1)), (.c (.int .i64 30))]⟩,
         ⟨some 158, none, false, .pick (.t 154) (.t 157) (.c (.bool false))⟩,
         ⟨some 4, none, false, .mv (.t 158)⟩])
       (.region true [1, 3, 4] [(3, 5)] [⟨some 159, none, false, .fldaddr 2 (.t 1)⟩,
         ⟨some 160, none, false, .load false 1 (.t 159)⟩,
         ⟨some 161, none, false, .fldaddr 3 (.t 1)⟩,
         ⟨some 162, none, false, .load false 1 (.t 161)⟩,
         ⟨some 163, none, false, .fldaddr 2 (.t 3)⟩,
         ⟨none, none, false, .store 1 (.t 163) (.t 160)⟩,
         ⟨some 164, none, false, .fldaddr 3 (.t 3)⟩,
         ⟨none, none, false, .store 1 (.t 164) (.t 162)⟩]))
       .skip))))))))))))
 (.seq (.region false [2] [] [⟨some 165, none, false, .mv (.t 4)⟩,
   ⟨some 166, none, false, .mv (.t 165)⟩,
   ⟨some 167, some (166, true), false, .load true 10 (.t 3)⟩,
   ⟨some 168, some (166, true), false, .load true 10 (.t 1)⟩,
   ⟨some 169, some (166, true), false, .eq false (.flat [2, 1, 1, 1, 1, 1, 1, 1, 1, 1]) (.t 167) (.t 168)⟩,
   ⟨some 170, none, false, .pick (.t 166) (.t 169) (.c (.bool false))⟩,
   ⟨some 2, none, false, .mv (.t 170)⟩])
 .ret))))))⟩
/-- civiltime/civiltimeref28.Valid -/
def af15 : AFun := ⟨176, true, [.tmp 2],
 (.seq (.region false [1] [] [⟨some 1, none, false, .box (.t 0)⟩,
   ⟨some 2, none, false, .mv (.c (.bool false))⟩])
 (.seq (.seq (.region false [1, 30] [] [⟨some 4, none, false, .fldaddr 0 (.t 1)⟩,
   ⟨some 5, none, false, .load false 1 (.t 4)⟩,
   ⟨some 6, none, false, .call (.f 46) [(.t 5)]⟩,
   ⟨some 7, none, false, .un .not (.t 6)⟩,
   ⟨some 8, none, false, .mv (.t 7)⟩,
   ⟨some 9, some (8, false), false, .fldaddr 7 (.t 1)⟩,
   ⟨some 10, some (8, false), false, .load false 1 (.t 9)⟩,
   ⟨some 11, some (8, false), false, .bin .lss (.t 10) (.c (.int .i64 1))⟩,
   ⟨some 12, none, false, .pick (.t 8) (.c (.bool true)) (.t 11)⟩,
   ⟨some 13, none, false, .mv (.t 12)⟩,
   ⟨some 14, some (13, false), false, .fldaddr 7 (.t 1)⟩,
   ⟨some 15, some (13, false), false, .load false 1 (.t 14)⟩,
   ⟨some 16, some (13, false), false, .fldaddr 8 (.t 1)⟩,
   ⟨some 17, some (13, false), false, .load false 1 (.t 16)⟩,
   ⟨some 18, some (13, false), false, .bin .gtr (.t 15) (.t 17)⟩,
   ⟨some 19, none, false, .pick (.t 13) (.c (.bool true)) (.t 18)⟩,
   ⟨some 20, none, false, .mv (.t 19)⟩,
   ⟨some 21, some (20, false), false, .fldaddr 8 (.t 1)⟩,
   ⟨some 22, some (20, false), false, .load false 1 (.t 21)⟩,
   ⟨some 23, some (20, false), false, .bin .gtr (.t 22) (.c (.int .i64 9999))⟩,
   ⟨some 24, none, false, .pick (.t 20) (.c (.bool true)) (.t 23)⟩,
   ⟨some 25, none, false, .mv (.t 24)⟩,
   ⟨some 26, some (25, false), false, .fldaddr 9 (.t 1)⟩,
   ⟨some 27, some (25, false), false, .load false 1 (.t 26)⟩,
   ⟨some 28, some (25, false), false, .call (.f 47) [(.t 27), (.c (.int .i64 1)), (.c (.int .i64 3))]⟩,
   ⟨some 29, some (25, false), false, .un .not (.t 28)⟩,
   ⟨some 30, none, false, .pick (.t 25) (.c (.bool true)) (.t 29)⟩])
 (.cond (.t 30)
  (.seq (.region false [2] [] [⟨some 2, none, false, .mv (.c (.bool false))⟩])
  .ret)
  .skip))
 (.seq (.seq (.region false [1, 32] [] [⟨some 31, none, false, .fldaddr 1 (.t 1)⟩,
   ⟨some 32, none, false, .load false 1 (.t 31)⟩])
 (.block 0 (.seq (.region false [1, 32, 33] [] [⟨some 34, none, false, .bin .eql (.t 32) (.c (.int .i64 1))⟩,
    ⟨some 33, none, false, .mv (.t 34)⟩])
  (.cond (.t 33)
   (.seq (.region true [2] [] [⟨some 35, none, false, .fldaddr 2 (.t 1)⟩,
     ⟨some 36, none, false, .load false 1 (.t 35)⟩,
     ⟨some 37, none, false, .call (.f 47) [(.t 36), (.c (.int .i64 1)), (.c (.int .i64 12))]⟩,
     ⟨some 38, none, false, .mv (.t 37)⟩,
     ⟨some 39, some (38, true), false, .fldaddr 3 (.t 1)⟩,
     ⟨some 40, some (38, true), false, .load false 1 (.t 39)⟩,
     ⟨some 41, some (38, true), false, .fldaddr 2 (.t 1)⟩,
     ⟨some 42, some (38, true), false, .load false 1 (.t 41)⟩,
     ⟨some 43, some (38, true), true, .call (.f 48) [(.c (.int .i64 2000)), (.t 42)]⟩,
     ⟨some 44, some (38, true), false, .call (.f 47) [(.t 40), (.c (.int .i64 1)), (.t 43)]⟩,
     ⟨some 45, none, false, .pick (.t 38) (.t 44) (.c (.bool false))⟩,
     ⟨some 46, none, false, .mv (.t 45)⟩,
     ⟨some 47, some (46, true), false, .fldaddr 4 (.t 1)⟩,
     ⟨some 48, some (46, true), false, .load false 1 (.t 47)⟩,
     ⟨some 49, some (46, true), false, .bin .eql (.t 48) (.c (.int .i64 0))⟩,
     ⟨some 50, none, false, .pick (.t 46) (.t 49) (.c (.bool false))⟩,
     ⟨some 51, none, false, .mv (.t 50)⟩,
     ⟨some 52, some (51, true), false, .fldaddr 5 (.t 1)⟩,
     ⟨some 53, some (51, true), false, .load false 1 (.t 52)⟩,
     ⟨some 54, some (51, true), false, .bin .eql (.t 53) (.c (.int .i64 0))⟩,
     ⟨some 55, none, false, .pick (.t 51) (.t 54) (.c (.bool false))⟩,
     ⟨some 56, none, false, .mv (.t 55)⟩,
     ⟨some 57, some (56, true), false, .fldaddr 6 (.t 1)⟩,
     ⟨some 58, some (56, true), false, .load false 1 (.t 57)⟩,
     ⟨some 59, some (56, true), false, .bin .eql (.t 58) (.c (.int .i64 0))⟩,
     ⟨some 60, none, false, .pick (.t 56) (.t 59) (.c (.bool false))⟩,
     ⟨some 2, none, false, .mv (.t 60)⟩])
   .ret)
   (.seq (.region false [1, 32, 61] [] [⟨some 62, none, false, .bin .eql (.t 32) (.c (.int .i64 2))⟩,
     ⟨some 61, none, false, .mv (.t 62)⟩])
   (.cond (.t 61)
    (.seq (.region false [2] [] [⟨some 63, none, false, .fldaddr 2 (.t 1)⟩,
      ⟨some 64, none, false, .load false 1 (.t 63)⟩,
      ⟨some 65, none, false, .call (.f 47) [(.t 64), (.c (.int .i64 1)), (.c (.int .i64 12))]⟩,
      ⟨some 66, none, false, .mv (.t 65)⟩,
      ⟨some 67, some (66, true), false, .fldaddr 4 (.t 1)⟩,
      ⟨some 68, some (66, true), false, .load false 1 (.t 67)⟩,
      ⟨some 69, some (66, true), false, .call (.f 47) [(.t 68), (.c (.int .i64 1)), (.c (.int .i64 7))]⟩,
      ⟨some 70, none, false, .pick (.t 66) (.t 69) (.c (.bool false))⟩,
      ⟨some 71, none, false, .mv (.t 70)⟩,
      ⟨some 72, some (71, true), false, .fldaddr 5 (.t 1)⟩,
      ⟨some 73, some (71, true), false, .load false 1 (.t 72)⟩,
      ⟨some 74, some (71, true), false, .call (.f 47) [(.t 73), (.c (.int .i64 (-5))), (.c (.int .i64 5))]⟩,
      ⟨some 75, none, false, .pick (.t 71) (.t 74) (.c (.bool false))⟩,
      ⟨some 76, none, false, .mv (.t 75)⟩,
      ⟨some 77, some (76, true), false, .fldaddr 5 (.t 1)⟩,
      ⟨some 78, some (76, true), false, .load false 1 (.t 77)⟩,
      ⟨some 79, some (76, true), false, .bin .neq (.t 78) (.c (.int .i64 0))⟩,
      ⟨some 80, none, false, .pick (.t 76) (.t 79) (.c (.bool false))⟩,
      ⟨some 81, none, false, .mv (.t 80)⟩,
      ⟨some 82, some (81, true), false, .fldaddr 6 (.t 1)⟩,
      ⟨some 83, some (81, true), false, .load false 1 (.t 82)⟩,
      ⟨some 84, some (81, true), false, .call (.f 47) [(.t 83), (.c (.int .i64 (-30))), (.c (.int .i64 30))]⟩,
      ⟨some 85, none, false, .pick (.t 81) (.t 84) (.c (.bool false))⟩,
      ⟨some 86, none, false, .mv (.t 85)⟩,
      ⟨some 87, some (86, true), false, .fldaddr 3 (.t 1)⟩,
      ⟨some 88, some (86, true), false, .load false 1 (.t 87)⟩,
      ⟨some 89, some (86, true), false, .bin .eql (.t 88) (.c (.int .i64 0))⟩,
      ⟨some 90, none, false, .pick (.t 86) (.t 89) (.c (.bool false))⟩,
      ⟨some 2, none, false, .mv (.t 90)⟩])
    .ret)
    (.seq (.region false [1, 32, 91] [] [⟨some 92, none, false, .bin .eql (.t 32) (.c (.int .i64 3))⟩,
      ⟨some 91, none, false, .mv (.t 92)⟩])
    (.cond (.t 91)
     (.seq (.region false [2] [] [⟨some 93, none, false, .fldaddr 6 (.t 1)⟩,
       ⟨some 94, none, false, .load false 1 (.t 93)⟩,
       ⟨some 95, none, false, .call (.f 47) [(.t 94), (.c (.int .i64 (-80))), (.c (.int .i64 250))]⟩,
       ⟨some 96, none, false, .mv (.t 95)⟩,
       ⟨some 97, some (96, true), false, .fldaddr 2 (.t 1)⟩,
       ⟨some 98, some (96, true), false, .load false 1 (.t 97)⟩,
       ⟨some 99, some (96, true), false, .bin .eql (.t 98) (.c (.int .i64 0))⟩,
       ⟨some 100, none, false, .pick (.t 96) (.t 99) (.c (.bool false))⟩,
       ⟨some 101, none, false, .mv (.t 100)⟩,
       ⟨some 102, some (101, true), false, .fldaddr 3 (.t 1)⟩,
       ⟨some 103, some (101, true), false, .load false 1 (.t 102)⟩,
       ⟨some 104, some (101, true), false, .bin .eql (.t 103) (.c (.int .i64 0))⟩,
       ⟨some 105, none, false, .pick (.t 101) (.t 104) (.c (.bool false))⟩,
       ⟨some 106, none, false, .mv (.t 105)⟩,
       ⟨some 107, some (106, true), false, .fldaddr 4 (.t 1)⟩,
       ⟨some 108, some (106, true), false, .load false 1 (.t 107)⟩,
       ⟨some 109, some (106, true), false, .bin .eql (.t 108) (.c (.int .i64 0))⟩,
       ⟨some 110, none, false, .pick (.t 106) (.t 109) (.c (.bool false))⟩,
       ⟨some 111, none, false, .mv (.t 110)⟩,
       ⟨some 112, some (111, true), false, .fldaddr 5 (.t 1)⟩,
       ⟨some 113, some (111, true), false, .load false 1 (.t 112)⟩,
       ⟨some 114, some (111, true), false, .bin .eql (.t 113) (.c (.int .i64 0))⟩,
       ⟨some 115, none, false, .pick (.t 111) (.t 114) (.c (.bool false))⟩,
       ⟨some 2, none, false, .mv (.t 115)⟩])
     .ret)
     (.seq (.region false [1, 32, 116] [] [⟨some 117, none, false, .bin .eql (.t 32) (.c (.int .i64 4))⟩,
       ⟨some 116, none, false, .mv (.t 117)⟩])
     (.cond (.t 116)
      (.seq (.region false [1, 3] [] [⟨some 3, none, false, .mv (.c (.int .i64 30))⟩])
      (.seq (.seq (.region false [1, 3, 126] [] [⟨some 118, none, false, .fldaddr 2 (.t 1)⟩,
        ⟨some 119, none, false, .load false 1 (.t 118)⟩,
        ⟨some 120, none, false, .bin .rem (.t 119) (.c (.int .i64 2))⟩,
        ⟨some 121, none, false, .bin .eql (.t 120) (.c (.int .i64 0))⟩,
        ⟨some 122, none, false, .mv (.t 121)⟩,
        ⟨some 123, some (122, true), false, .fldaddr 2 (.t 1)⟩,
        ⟨some 124, some (122, true), false, .load false 1 (.t 123)⟩,
        ⟨some 125, some (122, true), false, .bin .neq (.t 124) (.c (.int .i64 12))⟩,
        ⟨some 126, none, false, .pick (.t 122) (.t 125) (.c (.bool false))⟩])
      (.cond (.t 126)
       (.region false [1, 3] [] [⟨some 3, none, false, .mv (.c (.int .i64 29))⟩])
       .skip))
      (.seq (.region false [2] [] [⟨some 127, none, false, .fldaddr 5 (.t 1)⟩,
        ⟨some 128, none, false, .load false 1 (.t 127)⟩,
        ⟨some 129, none, false, .call (.f 47) [(.t 128), (.c (.int .i64 1)), (.c (.int .i64 4))]⟩,
        ⟨some 130, none, false, .mv (.t 129)⟩,
        ⟨some 131, some (130, true), false, .fldaddr 2 (.t 1)⟩,
        ⟨some 132, some (130, true), false, .load false 1 (.t 131)⟩,
        ⟨some 133, some (130, true), false, .call (.f 47) [(.t 132), (.c (.int .i64 1)), (.c (.int .i64 12))]⟩,
        ⟨some 134, none, false, .pick (.t 130) (.t 133) (.c (.bool false))⟩,
        ⟨some 135, none, false, .mv (.t 134)⟩,
        ⟨some 136, some (135, true), false, .fldaddr 3 (.t 1)⟩,
        ⟨some 137, some (135, true), false, .load false 1 (.t 136)⟩,
        ⟨some 138, some (135, true), false, .mv (.t 3)⟩,
        ⟨some 139, some (135, true), false, .call (.f 47) [(.t 137), (.c (.int .i64 1)), (.t 138)]⟩,
        ⟨some 140, none, false, .pick (.t 135) (.t 139) (.c (.bool false))⟩,
        ⟨some 141, none, false, .mv (.t 140)⟩,
        ⟨some 142, some (141, true), false, .fldaddr 4 (.t 1)⟩,
        ⟨some 143, some (141, true), false, .load false 1 (.t 142)⟩,
        ⟨some 144, some (141, true), false, .bin .eql (.t 143) (.c (.int .i64 0))⟩,
        ⟨some 145, none, false, .pick (.t 141) (.t 144) (.c (.bool false))⟩,
        ⟨some 146, none, false, .mv (.t 145)⟩,
        ⟨some 147, some (146, true), false, .fldaddr 6 (.t 1)⟩,
        ⟨some 148, some (146, true), false, .load false 1 (.t 147)⟩,
        ⟨some 149, some (146, true), false, .bin .eql (.t 148) (.c (.int .i64 0))⟩,
        ⟨some 150, none, false, .pick (.t 146) (.t 149) (.c (.bool false))⟩,
        ⟨some 2, none, false, .mv (.t 150)⟩])
      .ret)))
      (.seq (.region false [1, 151] [] [⟨some 152, none, false, .bin .eql (.t 32) (.c (.int .i64 5))⟩,
        ⟨some 151, none, false, .mv (.t 152)⟩])
      (.cond (.t 151)
       (.seq (.region false [2] [] [⟨some 153, none, false, .fldaddr 2 (.t 1)⟩,
         ⟨some 154, none, false, .load false 1 (.t 153)⟩,
         ⟨some 155, none, false, .call (.f 47) [(.t 154), (.c (.int .i64 1)), (.c (.int .i64 13))]⟩,
         ⟨some 156, none, false, .mv (.t 155)⟩,
         ⟨some 157, some (156, true), false, .fldaddr 3 (.t 1)⟩,
         ⟨some 158, some (156, true), false, .load false 1 (.t 157)⟩,
         ⟨some 159, some (156, true), false, .call (.f 47) [(.t 158), (.c (.int .i64 1)), (.c (.int .i64 30))]⟩,
         ⟨some 160, none, false, .pick (.t 156) (.t 159) (.c (.bool false))⟩,
         ⟨some 161, none, false, .mv (.t 160)⟩,
         ⟨some 162, some (161, true), false, .fldaddr 4 (.t 1)⟩,
         ⟨some 163, some (161, true), false, .load false 1 (.t 162)⟩,
         ⟨some 164, some (161, true), false, .bin .eql (.t 163) (.c (.int .i64 0))⟩,
         ⟨some 165, none, false, .pick (.t 161) (.t 164) (.c (.bool false))⟩,
         ⟨some 166, none, false, .mv (.t 165)⟩,
         ⟨some 167, some (166, true), false, .fldaddr 5 (.t 1)⟩,
         ⟨some 168, some (166, true), false, .load false 1 (.t 167)⟩,
         ⟨some 169, some (166, true), false, .bin .eql (.t 168) (.c (.int .i64 0))⟩,
         ⟨some 170, none, false, .pick (.t 166) (.t 169) (.c (.bool false))⟩,
         ⟨some 171, none, false, .mv (.t 170)⟩,
         ⟨some 172, some (171, true), false, .fldaddr 6 (.t 1)⟩,
         ⟨some 173, some (171, true), false, .load false 1 (.t 172)⟩,
         ⟨some 174, some (171, true), false, .bin .eql (.t 173) (.c (.int .i64 0))⟩,
         ⟨some 175, none, false, .pick (.t 171) (.t 174) (.c (.bool false))⟩,
         ⟨some 2, none, false, .mv (.t 175)⟩])
       .ret)
       .skip))))))))))))
 (.seq (.region false [2] [] [⟨some 2, none, false, .mv (.c (.bool false))⟩])
 .ret))))⟩
/-- civiltime/civiltimelaw28.great -/
def af16 : AFun := ⟨11, true, [.tmp 2],
 (.seq (.region false [0] [] [⟨some 2, none, false, .mv (.c (.bool false))⟩])
 (.seq (.region false [2] [] [⟨some 3, none, false, .mv (.t 0)⟩,
   ⟨some 4, none, false, .bi (.len 1) [(.t 3)]⟩,
   ⟨some 5, none, false, .bin .gtr (.t 4) (.c (.int .i64 8))⟩,
   ⟨some 6, none, false, .mv (.t 5)⟩,
   ⟨some 7, some (6, true), false, .mv (.t 0)⟩,
   ⟨some 8, some (6, true), false, .bi (.len 1) [(.t 7)]⟩,
   ⟨some 9, some (6, true), false, .bin .leq (.t 8) (.c (.int .i64 100))⟩,
   ⟨some 10, none, false, .pick (.t 6) (.t 9) (.c (.bool false))⟩,
   ⟨some 2, none, false, .mv (.t 10)⟩])
 .ret))⟩
/-- civiltime/holiday.Year -/
def af17 : AFun := ⟨25, true, [.tmp 4, .tmp 5],
 (.seq (.region false [0, 1] [] [⟨some 4, none, false, .mv (.c .nilSl)⟩,
   ⟨some 5, none, false, .mv (.c (.int .i64 0))⟩])
 (.seq (.block 0 (.seq (.region false [0, 1, 7] [] [⟨some 8, none, false, .mv (.t 0)⟩,
    ⟨some 9, none, false, .call (.f 49) [(.t 8)]⟩,
    ⟨some 10, none, false, .un .not (.t 9)⟩,
    ⟨some 7, none, false, .mv (.t 10)⟩])
  (.cond (.t 7)
   (.seq (.region false [4, 5] [] [⟨some 4, none, false, .mv (.c .nilSl)⟩,
     ⟨some 5, none, false, .mv (.c (.int .i64 1))⟩])
   .ret)
   (.seq (.region false [0, 1, 11] [] [⟨some 12, none, false, .mv (.t 1)⟩,
     ⟨some 13, none, false, .bin .lss (.t 12) (.c (.int .i64 1))⟩,
     ⟨some 14, none, false, .mv (.t 13)⟩,
     ⟨some 15, some (14, false), false, .mv (.t 1)⟩,
     ⟨some 16, some (14, false), false, .bin .gtr (.t 15) (.c (.int .i64 9999))⟩,
     ⟨some 17, none, false, .pick (.t 14) (.c (.bool true)) (.t 16)⟩,
     ⟨some 11, none, false, .mv (.t 17)⟩])
   (.cond (.t 11)
    (.seq (.region false [4, 5] [] [⟨some 4, none, false, .mv (.c .nilSl)⟩,
      ⟨some 5, none, false, .mv (.c (.int .i64 2))⟩])
    .ret)
    .skip)))))
 (.seq (.region false [6] [] [⟨some 18, none, false, .mv (.t 0)⟩,
   ⟨some 19, none, false, .mv (.t 1)⟩,
   ⟨some 20, none, false, .call (.f 50) [(.t 18), (.t 19)]⟩,
   ⟨some 6, none, false, .mv (.t 20)⟩])
 (.seq (.seq (.region false [6, 23] [] [⟨some 21, none, false, .mv (.t 6)⟩,
   ⟨some 22, none, false, .bi (.len 1) [(.t 21)]⟩,
   ⟨some 23, none, false, .bin .gtr (.t 22) (.c (.int .i64 1000))⟩])
 (.cond (.t 23)
  (.seq (.region false [4, 5] [] [⟨some 4, none, false, .mv (.c .nilSl)⟩,
    ⟨some 5, none, false, .mv (.c (.int .i64 5))⟩])
  .ret)
  .skip))
 (.seq (.region false [4, 5] [] [⟨some 24, none, false, .mv (.t 6)⟩,
   ⟨some 4, none, false, .mv (.t 24)⟩,
   ⟨some 5, none, false, .mv (.c (.int .i64 0))⟩])
 .ret)))))⟩
/-- civiltime/civil.Weekday -/
def af18 : AFun := ⟨10, true, [.tmp 2],
 (.seq (.region false [0] [] [⟨some 2, none, false, .mv (.c (.int .i64 0))⟩])
 (.seq (.seq (.region false [0, 5] [] [⟨some 3, none, false, .mv (.t 0)⟩,
   ⟨some 4, none, false, .call (.f 51) [(.t 3)]⟩,
   ⟨some 5, none, false, .un .not (.t 4)⟩])
 (.cond (.t 5)
  (.seq (.region false [2] [] [⟨some 2, none, false, .mv (.c (.int .i64 0))⟩])
  .ret)
  .skip))
 (.seq (.region false [2] [] [⟨some 6, none, false, .mv (.t 0)⟩,
   ⟨some 7, none, false, .bin .add (.t 6) (.c (.int .i64 3))⟩,
   ⟨some 8, none, false, .call (.f 52) [(.t 7), (.c (.int .i64 7))]⟩,
   ⟨some 9, none, false, .bin .add (.t 8) (.c (.int .i64 1))⟩,
   ⟨some 2, none, false, .mv (.t 9)⟩])
 .ret)))⟩
/-- civiltime/civil.Day -/
def af19 : AFun := ⟨14, true, [.tmp 2, .tmp 3],
 (.seq (.region false [1] [] [⟨some 1, none, false, .box (.t 0)⟩,
   ⟨some 2, none, false, .mv (.c (.int .i64 0))⟩,
   ⟨some 3, none, false, .mv (.c (.int .i64 0))⟩])
 (.seq (.seq (.region false [1, 6] [] [⟨some 4, none, false, .load true 3 (.t 1)⟩,
   ⟨some 5, none, false, .call (.f 53) [(.t 4)]⟩,
   ⟨some 6, none, false, .un .not (.t 5)⟩])
 (.cond (.t 6)
  (.seq (.region false [2, 3] [] [⟨some 2, none, false, .mv (.c (.int .i64 0))⟩,
    ⟨some 3, none, false, .mv (.c (.int .i64 1))⟩])
  .ret)
  .skip))
 (.seq (.region false [2, 3] [] [⟨some 7, none, false, .fldaddr 0 (.t 1)⟩,
   ⟨some 8, none, false, .load false 1 (.t 7)⟩,
   ⟨some 9, none, false, .fldaddr 1 (.t 1)⟩,
   ⟨some 10, none, false, .load false 1 (.t 9)⟩,
   ⟨some 11, none, false, .fldaddr 2 (.t 1)⟩,
   ⟨some 12, none, false, .load false 1 (.t 11)⟩,
   ⟨some 13, none, false, .call (.f 54) [(.t 8), (.t 10), (.t 12)]⟩,
   ⟨some 2, none, false, .mv (.t 13)⟩,
   ⟨some 3, none, false, .mv (.c (.int .i64 0))⟩])
 .ret)))⟩
/-- civiltime/feast.Moveable -/
def af20 : AFun := ⟨38, true, [.tmp 4, .tmp 5],
 (.seq (.region false [0, 1] [] [⟨some 4, none, false, .mv (.c (.int .i64 0))⟩,
   ⟨some 5, none, false, .mv (.c (.int .i64 0))⟩])
 (.seq (.region false [1, 6, 7] [] [⟨some 9, none, false, .mv (.t 0)⟩,
   ⟨some 10, none, false, .call (.f 55) [(.t 9)]⟩,
   ⟨some 8, none, false, .mv (.t 10)⟩,
   ⟨some 11, none, false, .ext 0 (.t 8)⟩,
   ⟨some 12, none, false, .ext 1 (.t 8)⟩,
   ⟨some 6, none, false, .mv (.t 11)⟩,
   ⟨some 7, none, false, .mv (.t 12)⟩])
 (.seq (.seq (.region false [1, 6, 34] [] [⟨some 13, none, false, .mv (.t 7)⟩,
   ⟨some 14, none, false, .bin .neq (.t 13) (.c (.int .i64 0))⟩,
   ⟨some 15, none, false, .mv (.t 14)⟩,
   ⟨some 16, some (15, false), false, .mv (.t 1)⟩,
   ⟨some 17, some (15, false), false, .bin .lss (.t 16) (.c (.int .i64 (-400)))⟩,
   ⟨some 18, none, false, .pick (.t 15) (.c (.bool true)) (.t 17)⟩,
   ⟨some 19, none, false, .mv (.t 18)⟩,
   ⟨some 20, some (19, false), false, .mv (.t 1)⟩,
   ⟨some 21, some (19, false), false, .bin .gtr (.t 20) (.c (.int .i64 400))⟩,
   ⟨some 22, none, false, .pick (.t 19) (.c (.bool true)) (.t 21)⟩,
   ⟨some 23, none, false, .mv (.t 22)⟩,
   ⟨some 24, some (23, false), false, .mv (.t 6)⟩,
   ⟨some 25, some (23, false), false, .mv (.t 1)⟩,
   ⟨some 26, some (23, false), false, .bin .add (.t 24) (.t 25)⟩,
   ⟨some 27, some (23, false), false, .bin .lss (.t 26) (.c (.int .i64 (-719162)))⟩,
   ⟨some 28, none, false, .pick (.t 23) (.c (.bool true)) (.t 27)⟩,
   ⟨some 29, none, false, .mv (.t 28)⟩,
   ⟨some 30, some (29, false), false, .mv (.t 6)⟩,
   ⟨some 31, some (29, false), false, .mv (.t 1)⟩,
   ⟨some 32, some (29, false), false, .bin .add (.t 30) (.t 31)⟩,
   ⟨some 33, some (29, false), false, .bin .geq (.t 32) (.c (.int .i64 2932897))⟩,
   ⟨some 34, none, false, .pick (.t 29) (.c (.bool true)) (.t 33)⟩])
 (.cond (.t 34)
  (.seq (.region false [4, 5] [] [⟨some 4, none, false, .mv (.c (.int .i64 0))⟩,
    ⟨some 5, none, false, .mv (.c (.int .i64 2))⟩])
  .ret)
  .skip))
 (.seq (.region false [4, 5] [] [⟨some 35, none, false, .mv (.t 6)⟩,
   ⟨some 36, none, false, .mv (.t 1)⟩,
   ⟨some 37, none, false, .bin .add (.t 35) (.t 36)⟩,
   ⟨some 4, none, false, .mv (.t 37)⟩,
   ⟨some 5, none, false, .mv (.c (.int .i64 0))⟩])
 .ret))))⟩
def af21L0 : ACode := .loop [0, 3]
 (.seq (.seq (.region false [0, 3, 10] [] [⟨some 7, none, false, .mv (.t 3)⟩,
   ⟨some 8, none, false, .mv (.t 0)⟩,
   ⟨some 9, none, false, .bi (.len 1) [(.t 8)]⟩,
   ⟨some 10, none, false, .bin .lss (.t 7) (.t 9)⟩])
 (.cond (.t 10)
  .skip
  (.exit 0)))
 (.seq (.block 1 (.seq (.region false [0, 3, 18] [] [⟨some 13, none, false, .mv (.t 0)⟩,
    ⟨some 14, none, false, .mv (.t 3)⟩,
    ⟨some 15, none, false, .idxaddr none 10 (.t 13) (.t 14)⟩,
    ⟨some 16, none, false, .load true 10 (.t 15)⟩,
    ⟨some 17, none, false, .call (.f 15) [(.t 16)]⟩,
    ⟨some 18, none, false, .un .not (.t 17)⟩])
  (.cond (.t 18)
   (.seq (.region false [2] [] [⟨some 2, none, false, .mv (.c (.bool false))⟩])
   .ret)
   .skip)))
 (.region false [0, 3] [] [⟨some 11, none, false, .mv (.t 3)⟩,
   ⟨some 12, none, false, .bin .add (.t 11) (.c (.int .i64 1))⟩,
   ⟨some 3, none, false, .mv (.t 12)⟩])))
/-- civiltime/civiltimeref28.All -/
def af21 : AFun := ⟨19, true, [.tmp 2],
 (.seq (.region false [0] [] [⟨some 2, none, false, .mv (.c (.bool false))⟩])
 (.seq (.seq (.region false [0, 6] [] [⟨some 4, none, false, .mv (.t 0)⟩,
   ⟨some 5, none, false, .bi (.len 1) [(.t 4)]⟩,
   ⟨some 6, none, false, .bin .gtr (.t 5) (.c (.int .i64 100))⟩])
 (.cond (.t 6)
  (.seq (.region false [2] [] [⟨some 2, none, false, .mv (.c (.bool false))⟩])
  .ret)
  .skip))
 (.seq (.seq (.region false [0, 3] [] [⟨some 3, none, false, .mv (.c (.int .i64 0))⟩])
 (.block 0 af21L0))
 (.seq (.region false [2] [] [⟨some 2, none, false, .mv (.c (.bool true))⟩])
 .ret))))⟩
def af22L0 : ACode := .loop [0, 1, 12, 13]
 (.seq (.region false [0, 1, 12, 13, 14] [] [⟨some 14, none, false, .bin .lss (.t 13) (.t 12)⟩])
 (.seq (.cond (.t 14)
  .skip
  (.exit 0))
 (.seq (.block 1 (.seq (.region false [0, 1, 5, 12, 13] [] [⟨some 15, none, false, .mv (.t 13)⟩,
    ⟨some 5, none, false, .mv (.t 15)⟩])
  (.seq (.region true [0, 1, 12, 13, 24] [] [⟨some 16, none, false, .mv (.t 0)⟩,
    ⟨some 17, none, false, .mv (.t 5)⟩,
    ⟨some 18, none, false, .idxaddr none 2 (.t 16) (.t 17)⟩,
    ⟨some 19, none, false, .load true 2 (.t 18)⟩,
    ⟨some 20, none, false, .mv (.t 1)⟩,
    ⟨some 21, none, false, .mv (.t 5)⟩,
    ⟨some 22, none, false, .idxaddr none 2 (.t 20) (.t 21)⟩,
    ⟨some 23, none, false, .load true 2 (.t 22)⟩,
    ⟨some 24, none, false, .eq true (.flat [1, 1]) (.t 19) (.t 23)⟩])
  (.cond (.t 24)
   (.seq (.region false [4] [] [⟨some 4, none, false, .mv (.c (.bool false))⟩])
   .ret)
   .skip))))
 (.region false [0, 1, 12, 13] [] [⟨some 25, none, false, .bin .add (.t 13) (.c (.int .i64 1))⟩,
   ⟨some 13, none, false, .mv (.t 25)⟩]))))
/-- slices.Equal[[]civiltime/api.HolidayDay,civiltime/api.HolidayDay] -/
def af22 : AFun := ⟨26, true, [.tmp 4],
 (.seq (.region false [0, 1] [] [⟨some 4, none, false, .mv (.c (.bool false))⟩])
 (.seq (.seq (.region false [0, 1, 10] [] [⟨some 6, none, false, .mv (.t 0)⟩,
   ⟨some 7, none, false, .bi (.len 1) [(.t 6)]⟩,
   ⟨some 8, none, false, .mv (.t 1)⟩,
   ⟨some 9, none, false, .bi (.len 1) [(.t 8)]⟩,
   ⟨some 10, none, false, .bin .neq (.t 7) (.t 9)⟩])
 (.cond (.t 10)
  (.seq (.region false [4] [] [⟨some 4, none, false, .mv (.c (.bool false))⟩])
  .ret)
  .skip))
 (.seq (.seq (.region false [0, 1, 12, 13] [] [⟨some 11, none, false, .mv (.t 0)⟩,
   ⟨some 12, none, false, .bi (.len 1) [(.t 11)]⟩,
   ⟨some 13, none, false, .mv (.c (.int .i64 0))⟩])
 (.block 0 af22L0))
 (.seq (.region false [4] [] [⟨some 4, none, false, .mv (.c (.bool true))⟩])
 .ret))))⟩
def af23L0 : ACode := .loop [0, 2, 7, 9, 10, 11, 12, 13]
 (.seq (.seq (.region false [0, 2, 7, 9, 10, 11, 12, 13, 36] [] [⟨some 33, none, false, .mv (.t 13)⟩,
   ⟨some 34, none, false, .mv (.t 12)⟩,
   ⟨some 35, none, false, .bi (.len 1) [(.t 34)]⟩,
   ⟨some 36, none, false, .bin .lss (.t 33) (.t 35)⟩])
 (.cond (.t 36)
  .skip
  (.exit 4)))
 (.seq (.block 5 (.seq (.region true [0, 2, 7, 9, 10, 11, 12, 13, 14] [] [⟨some 39, none, false, .mv (.t 12)⟩,
    ⟨some 40, none, false, .mv (.t 13)⟩,
    ⟨some 41, none, false, .idxaddr none 1 (.t 39) (.t 40)⟩,
    ⟨some 42, none, false, .load false 1 (.t 41)⟩,
    ⟨some 43, none, false, .mv (.t 0)⟩,
    ⟨some 44, none, false, .mv (.t 11)⟩,
    ⟨some 45, none, false, .idxaddr none 10 (.t 43) (.t 44)⟩,
    ⟨some 46, none, false, .fldaddr 9 (.t 45)⟩,
    ⟨some 47, none, false, .load false 1 (.t 46)⟩,
    ⟨some 48, none, false, .call (.f 57) [(.t 42), (.t 47)]⟩,
    ⟨some 14, none, false, .mv (.t 48)⟩])
  (.seq (.region false [0, 2, 7, 9, 10, 11, 12, 13, 14, 58] [] [⟨some 49, none, false, .mv (.t 14)⟩,
    ⟨some 50, none, false, .fldaddr 0 (.t 7)⟩,
    ⟨some 51, none, false, .load false 1 (.t 50)⟩,
    ⟨some 52, none, false, .bin .geq (.t 49) (.t 51)⟩,
    ⟨some 53, none, false, .mv (.t 52)⟩,
    ⟨some 54, some (53, true), false, .mv (.t 14)⟩,
    ⟨some 55, some (53, true), false, .fldaddr 1 (.t 7)⟩,
    ⟨some 56, some (53, true), false, .load false 1 (.t 55)⟩,
    ⟨some 57, some (53, true), false, .bin .lss (.t 54) (.t 56)⟩,
    ⟨some 58, none, false, .pick (.t 53) (.t 57) (.c (.bool false))⟩])
  (.cond (.t 58)
   (.region false [0, 2, 7, 9, 10, 11, 12, 13] [] [⟨some 59, none, false, .mv (.t 9)⟩,
     ⟨some 60, none, false, .mv (.t 14)⟩,
     ⟨some 61, none, false, .mv (.t 11)⟩,
     ⟨some 62, none, false, .build [(.int .i64 0), (.int .i64 0)] [(0, 1, (.t 60)), (1, 1, (.t 61))]⟩,
     ⟨some 63, none, false, .call (.f 58) [(.t 59), (.t 62)]⟩,
     ⟨some 9, none, false, .mv (.t 63)⟩])
   .skip))))
 (.region false [0, 2, 7, 9, 10, 11, 12, 13] [] [⟨some 37, none, false, .mv (.t 13)⟩,
   ⟨some 38, none, false, .bin .add (.t 37) (.c (.int .i64 1))⟩,
   ⟨some 13, none, false, .mv (.t 38)⟩])))
def af23L1 : ACode := .loop [0, 2, 7, 9, 10, 11]
 (.seq (.seq (.region false [0, 2, 7, 9, 10, 11, 24] [] [⟨some 21, none, false, .mv (.t 11)⟩,
   ⟨some 22, none, false, .mv (.t 0)⟩,
   ⟨some 23, none, false, .bi (.len 1) [(.t 22)]⟩,
   ⟨some 24, none, false, .bin .lss (.t 21) (.t 23)⟩])
 (.cond (.t 24)
  .skip
  (.exit 2)))
 (.seq (.block 3 (.seq (.region false [0, 2, 7, 9, 10, 11, 12] [] [⟨some 27, none, false, .mv (.t 0)⟩,
    ⟨some 28, none, false, .mv (.t 11)⟩,
    ⟨some 29, none, false, .idxaddr none 10 (.t 27) (.t 28)⟩,
    ⟨some 30, none, false, .load true 10 (.t 29)⟩,
    ⟨some 31, none, false, .mv (.t 10)⟩,
    ⟨some 32, none, false, .call (.f 56) [(.t 30), (.t 31)]⟩,
    ⟨some 12, none, false, .mv (.t 32)⟩])
  (.seq (.region false [0, 2, 7, 9, 10, 11, 12, 13] [] [⟨some 13, none, false, .mv (.c (.int .i64 0))⟩])
  (.block 4 af23L0))))
 (.region false [0, 2, 7, 9, 10, 11] [] [⟨some 25, none, false, .mv (.t 11)⟩,
   ⟨some 26, none, false, .bin .add (.t 25) (.c (.int .i64 1))⟩,
   ⟨some 11, none, false, .mv (.t 26)⟩])))
def af23L2 : ACode := .loop [0, 2, 7, 9, 10]
 (.seq (.seq (.region false [0, 2, 7, 9, 10, 18] [] [⟨some 16, none, false, .mv (.t 10)⟩,
   ⟨some 17, none, false, .mv (.t 2)⟩,
   ⟨some 18, none, false, .bin .leq (.t 16) (.t 17)⟩])
 (.cond (.t 18)
  .skip
  (.exit 0)))
 (.seq (.block 1 (.seq (.region false [0, 2, 7, 9, 10, 11] [] [⟨some 11, none, false, .mv (.c (.int .i64 0))⟩])
  (.block 2 af23L1)))
 (.region false [0, 2, 7, 9, 10] [] [⟨some 19, none, false, .mv (.t 10)⟩,
   ⟨some 20, none, false, .bin .add (.t 19) (.c (.int .i64 1))⟩,
   ⟨some 10, none, false, .mv (.t 20)⟩])))
/-- civiltime/civiltimeref28.Within -/
def af23 : AFun := ⟨65, true, [.tmp 8],
 (.seq (.region false [0, 1, 2, 7] [] [⟨some 7, none, false, .box (.t 3)⟩,
   ⟨some 8, none, false, .mv (.c .nilSl)⟩])
 (.seq (.region false [0, 1, 2, 7, 9] [] [⟨some 9, none, false, .mv (.c .nilSl)⟩])
 (.seq (.seq (.region false [0, 2, 7, 9, 10] [] [⟨some 15, none, false, .mv (.t 1)⟩,
   ⟨some 10, none, false, .mv (.t 15)⟩])
 (.block 0 af23L2))
 (.seq (.region false [8] [] [⟨some 64, none, false, .mv (.t 9)⟩,
   ⟨some 8, none, false, .mv (.t 64)⟩])
 .ret))))⟩
def af24L0 : ACode := .loop [3, 8, 23, 24, 25]
 (.seq (.region false [3, 8, 23, 24, 25, 26] [] [⟨some 26, none, false, .bin .lss (.t 25) (.t 24)⟩])
 (.seq (.cond (.t 26)
  .skip
  (.exit 0))
 (.seq (.block 1 (.seq (.region false [3, 8, 10, 23, 24, 25] [] [⟨some 27, none, false, .idxaddr none 1 (.t 23) (.t 25)⟩,
    ⟨some 28, none, false, .load false 1 (.t 27)⟩,
    ⟨some 10, none, false, .mv (.t 28)⟩])
  (.seq (.seq (.region false [3, 8, 10, 23, 24, 25, 31] [] [⟨some 29, none, false, .mv (.t 10)⟩,
    ⟨some 30, none, false, .bi (.len 1) [(.t 29)]⟩,
    ⟨some 31, none, false, .bin .eql (.t 30) (.c (.int .i64 0))⟩])
  (.cond (.t 31)
   (.exit 1)
   .skip))
  (.seq (.region false [3, 8, 11, 23, 24, 25] [] [⟨some 32, none, false, .mv (.t 10)⟩,
    ⟨some 33, none, false, .build [.nilSl, (.int .i64 0), (.int .i64 0), (.int .i64 0), (.int .i64 0)] [(0, 1, (.t 32))]⟩,
    ⟨some 34, none, false, .box (.t 33)⟩,
    ⟨some 11, none, false, .mv (.t 34)⟩])
  (.seq (.region false [3, 8, 11, 12, 23, 24, 25] [] [⟨some 35, none, false, .mv (.t 11)⟩,
    ⟨some 36, none, false, .call (.f 59) [(.t 35)]⟩,
    ⟨some 12, none, false, .new [(.str []), (.int .i64 0), (.int .i64 0), (.int .i64 0), (.int .i64 0), (.int .i64 0), (.int .i64 0), (.int .i64 0), (.int .i64 0), (.int .i64 0)]⟩,
    ⟨none, none, false, .store 10 (.t 12) (.t 36)⟩])
  (.seq (.seq (.region false [3, 8, 11, 12, 23, 24, 25, 41] [] [⟨some 37, none, false, .mv (.t 11)⟩,
    ⟨some 38, none, false, .nilck (.t 37)⟩,
    ⟨some 39, none, false, .fldaddr 4 (.t 38)⟩,
    ⟨some 40, none, false, .load false 1 (.t 39)⟩,
    ⟨some 41, none, false, .bin .neq (.t 40) (.c (.int .i64 0))⟩])
  (.cond (.t 41)
   (.seq (.region true [2, 3, 4] [(7, 9)] [⟨some 42, none, false, .mv (.t 11)⟩,
     ⟨some 43, none, false, .nilck (.t 42)⟩,
     ⟨some 44, none, false, .fldaddr 2 (.t 43)⟩,
     ⟨some 45, none, false, .load true 2 (.t 44)⟩,
     ⟨some 46, none, false, .mv (.t 11)⟩,
     ⟨some 47, none, false, .nilck (.t 46)⟩,
     ⟨some 48, none, false, .fldaddr 4 (.t 47)⟩,
     ⟨some 49, none, false, .load false 1 (.t 48)⟩,
     ⟨some 2, none, false, .mv (.c .nilSl)⟩,
     ⟨none, none, false, .store 2 (.t 3) (.t 45)⟩,
     ⟨some 4, none, false, .mv (.t 49)⟩])
   .ret)
   .skip))
  (.region false [3, 8, 23, 24, 25] [] [⟨some 50, none, false, .mv (.t 8)⟩,
    ⟨some 51, none, false, .load true 10 (.t 12)⟩,
    ⟨some 52, none, false, .bslice [(.str []), (.int .i64 0), (.int .i64 0), (.int .i64 0), (.int .i64 0), (.int .i64 0), (.int .i64 0), (.int .i64 0), (.int .i64 0), (.int .i64 0)] [(0, 10, (.t 51))] 1 10⟩,
    ⟨some 53, none, false, .bi (.append 10 88) [(.t 50), (.t 52)]⟩,
    ⟨some 8, none, false, .mv (.t 53)⟩])))))))
 (.region false [3, 8, 23, 24, 25] [] [⟨some 54, none, false, .bin .add (.t 25) (.c (.int .i64 1))⟩,
   ⟨some 25, none, false, .mv (.t 54)⟩]))))
/-- civiltime/holiday.Parse -/
def af24 : AFun := ⟨61, true, [.tmp 2, .cell 3 true 2, .tmp 4],
 (.seq (.region false [0, 3] [] [⟨some 2, none, false, .mv (.c .nilSl)⟩,
   ⟨some 3, none, false, .new [(.int .i64 0), (.int .i64 0)]⟩,
   ⟨some 4, none, false, .mv (.c (.int .i64 0))⟩])
 (.seq (.region false [3, 5, 6, 7] [] [⟨some 14, none, false, .mv (.t 0)⟩,
   ⟨some 15, none, false, .call (.f 25) [(.t 14)]⟩,
   ⟨some 13, none, false, .mv (.t 15)⟩,
   ⟨some 16, none, false, .ext 0 (.t 13)⟩,
   ⟨some 17, none, false, .ext 1 (.t 13)⟩,
   ⟨some 18, none, false, .ext 2 (.t 13)⟩,
   ⟨some 6, none, false, .new [(.int .i64 0), (.int .i64 0)]⟩,
   ⟨some 5, none, false, .mv (.t 16)⟩,
   ⟨none, none, false, .store 2 (.t 6) (.t 17)⟩,
   ⟨some 7, none, false, .mv (.t 18)⟩])
 (.seq (.seq (.region false [3, 5, 6, 7, 20] [] [⟨some 19, none, false, .mv (.t 7)⟩,
   ⟨some 20, none, false, .bin .neq (.t 19) (.c (.int .i64 0))⟩])
 (.cond (.t 20)
  (.seq (.region true [2, 3, 4] [] [⟨some 21, none, false, .load true 2 (.t 6)⟩,
    ⟨some 22, none, false, .mv (.t 7)⟩,
    ⟨some 2, none, false, .mv (.c .nilSl)⟩,
    ⟨none, none, false, .store 2 (.t 3) (.t 21)⟩,
    ⟨some 4, none, false, .mv (.t 22)⟩])
  .ret)
  .skip))
 (.seq (.region false [3, 5, 8] [] [⟨some 8, none, false, .mv (.c .nilSl)⟩])
 (.seq (.seq (.region false [3, 8, 23, 24, 25] [] [⟨some 23, none, false, .mv (.t 5)⟩,
   ⟨some 24, none, false, .bi (.len 1) [(.t 23)]⟩,
   ⟨some 25, none, false, .mv (.c (.int .i64 0))⟩])
 (.block 0 af24L0))
 (.seq (.seq (.region false [3, 8, 57] [] [⟨some 55, none, false, .mv (.t 8)⟩,
   ⟨some 56, none, false, .bi (.len 1) [(.t 55)]⟩,
   ⟨some 57, none, false, .bin .gtr (.t 56) (.c (.int .i64 100))⟩])
 (.cond (.t 57)
  (.seq (.region false [2, 3, 4] [] [⟨some 58, none, false, .build [(.int .i64 0), (.int .i64 0)] []⟩,
    ⟨some 2, none, false, .mv (.c .nilSl)⟩,
    ⟨none, none, false, .store 2 (.t 3) (.t 58)⟩,
    ⟨some 4, none, false, .mv (.c (.int .i64 5))⟩])
  .ret)
  .skip))
 (.seq (.region false [2, 3, 4] [] [⟨some 59, none, false, .mv (.t 8)⟩,
   ⟨some 60, none, false, .build [(.int .i64 0), (.int .i64 0)] []⟩,
   ⟨some 2, none, false, .mv (.t 59)⟩,
   ⟨none, none, false, .store 2 (.t 3) (.t 60)⟩,
   ⟨some 4, none, false, .mv (.c (.int .i64 0))⟩])
 .ret)))))))⟩
def af25L0 : ACode := .loop [3, 5, 6, 7, 8, 9, 10, 19, 20, 21, 27, 28]
 (.seq (.region false [3, 5, 6, 7, 8, 9, 10, 19, 20, 21, 27, 28, 29] [] [⟨some 29, none, false, .bin .lss (.t 28) (.t 27)⟩])
 (.seq (.cond (.t 29)
  .skip
  (.exit 2))
 (.seq (.block 3 (.seq (.region false [3, 5, 6, 7, 8, 9, 10, 11, 19, 20, 21, 27, 28] [] [⟨some 30, none, false, .mv (.t 28)⟩,
    ⟨some 11, none, false, .mv (.t 30)⟩])
  (.seq (.region false [3, 5, 6, 7, 8, 9, 10, 11, 12, 19, 20, 21, 27, 28] [] [⟨some 31, none, false, .mv (.t 7)⟩,
    ⟨some 32, none, false, .mv (.t 11)⟩,
    ⟨some 33, none, false, .sidx (.t 31) (.t 32)⟩,
    ⟨some 12, none, false, .mv (.t 33)⟩])
  (.seq (.region false [3, 5, 6, 7, 8, 9, 10, 11, 12, 13, 19, 20, 21, 27, 28] [] [⟨some 34, none, false, .mv (.t 6)⟩,
    ⟨some 35, none, false, .bin .add (.t 34) (.c (.int .i64 1))⟩,
    ⟨some 36, none, false, .mv (.t 11)⟩,
    ⟨some 37, none, false, .bin .add (.t 36) (.c (.int .i64 1))⟩,
    ⟨some 38, none, false, .build [(.int .i64 0), (.int .i64 0)] [(0, 1, (.t 35)), (1, 1, (.t 37))]⟩,
    ⟨some 13, none, false, .new [(.int .i64 0), (.int .i64 0)]⟩,
    ⟨none, none, false, .store 2 (.t 13) (.t 38)⟩])
  (.seq (.seq (.region false [3, 5, 6, 7, 8, 9, 10, 11, 12, 13, 19, 20, 21, 27, 28, 48] [] [⟨some 39, none, false, .mv (.t 12)⟩,
    ⟨some 40, none, false, .bin .neq (.t 39) (.c (.int .u8 9))⟩,
    ⟨some 41, none, false, .mv (.t 40)⟩,
    ⟨some 42, some (41, true), false, .mv (.t 12)⟩,
    ⟨some 43, some (41, true), false, .bin .lss (.t 42) (.c (.int .u8 32))⟩,
    ⟨some 44, some (41, true), false, .mv (.t 43)⟩,
    ⟨some 45, some (44, false), false, .mv (.t 12)⟩,
    ⟨some 46, some (44, false), false, .bin .gtr (.t 45) (.c (.int .u8 126))⟩,
    ⟨some 47, some (41, true), false, .pick (.t 44) (.c (.bool true)) (.t 46)⟩,
    ⟨some 48, none, false, .pick (.t 41) (.t 47) (.c (.bool false))⟩])
  (.cond (.t 48)
   (.seq (.region true [2, 3, 4] [] [⟨some 49, none, false, .load true 2 (.t 13)⟩,
     ⟨some 2, none, false, .mv (.c .nilSl)⟩,
     ⟨none, none, false, .store 2 (.t 3) (.t 49)⟩,
     ⟨some 4, none, false, .mv (.c (.int .i64 3))⟩])
   .ret)
   .skip))
  (.seq (.region false [3, 5, 6, 7, 8, 9, 10, 11, 12, 13, 19, 20, 21, 27, 28] [] [⟨some 50, none, false, .mv (.t 9)⟩,
    ⟨some 51, none, false, .mv (.t 50)⟩,
    ⟨some 52, some (51, false), false, .mv (.t 12)⟩,
    ⟨some 53, some (51, false), false, .bin .eql (.t 52) (.c (.int .u8 35))⟩,
    ⟨some 54, none, false, .pick (.t 51) (.c (.bool true)) (.t 53)⟩,
    ⟨some 9, none, false, .mv (.t 54)⟩])
  (.seq (.seq (.region false [3, 5, 6, 7, 8, 9, 10, 11, 13, 19, 20, 21, 27, 28, 63] [] [⟨some 55, none, false, .mv (.t 9)⟩,
    ⟨some 56, none, false, .mv (.t 55)⟩,
    ⟨some 57, some (56, false), false, .mv (.t 12)⟩,
    ⟨some 58, some (56, false), false, .bin .eql (.t 57) (.c (.int .u8 32))⟩,
    ⟨some 59, none, false, .pick (.t 56) (.c (.bool true)) (.t 58)⟩,
    ⟨some 60, none, false, .mv (.t 59)⟩,
    ⟨some 61, some (60, false), false, .mv (.t 12)⟩,
    ⟨some 62, some (60, false), false, .bin .eql (.t 61) (.c (.int .u8 9))⟩,
    ⟨some 63, none, false, .pick (.t 60) (.c (.bool true)) (.t 62)⟩])
  (.cond (.t 63)
   (.seq (.region false [3, 5, 6, 7, 8, 9, 10, 19, 20, 21, 27, 28] [] [⟨some 10, none, false, .mv (.c (.bool false))⟩])
   (.exit 3))
   .skip))
  (.seq (.seq (.region false [3, 5, 6, 7, 8, 9, 10, 11, 13, 19, 20, 21, 27, 28, 65] [] [⟨some 64, none, false, .mv (.t 10)⟩,
    ⟨some 65, none, false, .un .not (.t 64)⟩])
  (.cond (.t 65)
   (.seq (.region false [3, 5, 6, 7, 8, 9, 11, 19, 20, 21, 27, 28] [] [⟨some 66, none, false, .mv (.t 8)⟩,
     ⟨some 67, none, false, .load true 2 (.t 13)⟩,
     ⟨some 68, none, false, .build [(.str []), (.int .i64 0), (.int .i64 0)] [(1, 2, (.t 67))]⟩,
     ⟨some 69, none, false, .bslice [(.str []), (.int .i64 0), (.int .i64 0)] [(0, 3, (.t 68))] 1 3⟩,
     ⟨some 70, none, false, .bi (.append 3 32) [(.t 66), (.t 69)]⟩,
     ⟨some 8, none, false, .mv (.t 70)⟩])
   (.region false [3, 5, 6, 7, 8, 9, 10, 11, 19, 20, 21, 27, 28] [] [⟨some 10, none, false, .mv (.c (.bool true))⟩]))
   .skip))
  (.region true [3, 5, 6, 7, 8, 9, 10, 19, 20, 21, 27, 28] [] [⟨some 71, none, false, .mv (.t 8)⟩,
    ⟨some 72, none, false, .mv (.t 8)⟩,
    ⟨some 73, none, false, .bi (.len 1) [(.t 72)]⟩,
    ⟨some 74, none, false, .bin .sub (.t 73) (.c (.int .i64 1))⟩,
    ⟨some 75, none, false, .idxaddr none 3 (.t 71) (.t 74)⟩,
    ⟨some 76, none, false, .fldaddr 0 (.t 75)⟩,
    ⟨some 77, none, false, .load false 1 (.t 76)⟩,
    ⟨some 78, none, false, .mv (.t 7)⟩,
    ⟨some 79, none, false, .mv (.t 11)⟩,
    ⟨some 80, none, false, .mv (.t 11)⟩,
    ⟨some 81, none, false, .bin .add (.t 80) (.c (.int .i64 1))⟩,
    ⟨some 82, none, false, .slice .str (.t 78) (some (.t 79)) (some (.t 81)) none⟩,
    ⟨some 83, none, false, .bin .add (.t 77) (.t 82)⟩,
    ⟨some 84, none, false, .idxaddr none 3 (.t 71) (.t 74)⟩,
    ⟨some 85, none, false, .fldaddr 0 (.t 84)⟩,
    ⟨none, none, false, .store 1 (.t 85) (.t 83)⟩])))))))))
 (.region false [3, 5, 6, 7, 8, 9, 10, 19, 20, 21, 27, 28] [] [⟨some 86, none, false, .bin .add (.t 28) (.c (.int .i64 1))⟩,
   ⟨some 28, none, false, .mv (.t 86)⟩]))))
def af25L1 : ACode := .loop [3, 5, 19, 20, 21]
 (.seq (.region false [3, 5, 19, 20, 21, 22] [] [⟨some 22, none, false, .bin .lss (.t 21) (.t 20)⟩])
 (.seq (.cond (.t 22)
  .skip
  (.exit 0))
 (.seq (.block 1 (.seq (.region false [3, 5, 6, 7, 19, 20, 21] [] [⟨some 23, none, false, .mv (.t 21)⟩,
    ⟨some 24, none, false, .idxaddr none 1 (.t 19) (.t 21)⟩,
    ⟨some 25, none, false, .load false 1 (.t 24)⟩,
    ⟨some 6, none, false, .mv (.t 23)⟩,
    ⟨some 7, none, false, .mv (.t 25)⟩])
  (.seq (.region false [3, 5, 6, 7, 8, 19, 20, 21] [] [⟨some 8, none, false, .mv (.c .nilSl)⟩])
  (.seq (.region false [3, 5, 6, 7, 8, 9, 10, 19, 20, 21] [] [⟨some 9, none, false, .mv (.c (.bool false))⟩,
    ⟨some 10, none, false, .mv (.c (.bool false))⟩])
  (.seq (.seq (.region false [3, 5, 6, 7, 8, 9, 10, 19, 20, 21, 27, 28] [] [⟨some 26, none, false, .mv (.t 7)⟩,
    ⟨some 27, none, false, .bi (.len 0) [(.t 26)]⟩,
    ⟨some 28, none, false, .mv (.c (.int .i64 0))⟩])
  (.block 2 af25L0))
  (.seq (.region false [3, 5, 8, 19, 20, 21, 89] [] [⟨some 87, none, false, .mv (.t 8)⟩,
    ⟨some 88, none, false, .bi (.len 1) [(.t 87)]⟩,
    ⟨some 89, none, false, .bin .gtr (.t 88) (.c (.int .i64 0))⟩])
  (.cond (.t 89)
   (.region false [3, 5, 19, 20, 21] [] [⟨some 90, none, false, .mv (.t 5)⟩,
     ⟨some 91, none, false, .mv (.t 8)⟩,
     ⟨some 92, none, false, .bslice [.nilSl] [(0, 1, (.t 91))] 1 1⟩,
     ⟨some 93, none, false, .bi (.append 1 24) [(.t 90), (.t 92)]⟩,
     ⟨some 5, none, false, .mv (.t 93)⟩])
   .skip)))))))
 (.region false [3, 5, 19, 20, 21] [] [⟨some 94, none, false, .bin .add (.t 21) (.c (.int .i64 1))⟩,
   ⟨some 21, none, false, .mv (.t 94)⟩]))))
/-- civiltime/zonelex.Lines -/
def af25 : AFun := ⟨97, true, [.tmp 2, .cell 3 true 2, .tmp 4],
 (.seq (.region false [0, 3] [] [⟨some 2, none, false, .mv (.c .nilSl)⟩,
   ⟨some 3, none, false, .new [(.int .i64 0), (.int .i64 0)]⟩,
   ⟨some 4, none, false, .mv (.c (.int .i64 0))⟩])
 (.seq (.seq (.region false [0, 3, 16] [] [⟨some 14, none, false, .mv (.t 0)⟩,
   ⟨some 15, none, false, .bi (.len 0) [(.t 14)]⟩,
   ⟨some 16, none, false, .bin .gtr (.t 15) (.c (.int .i64 65536))⟩])
 (.cond (.t 16)
  (.seq (.region false [2, 3, 4] [] [⟨some 17, none, false, .build [(.int .i64 0), (.int .i64 0)] []⟩,
    ⟨some 2, none, false, .mv (.c .nilSl)⟩,
    ⟨none, none, false, .store 2 (.t 3) (.t 17)⟩,
    ⟨some 4, none, false, .mv (.c (.int .i64 5))⟩])
  .ret)
  .skip))
 (.seq (.region false [0, 3, 5] [] [⟨some 5, none, false, .mv (.c .nilSl)⟩])
 (.seq (.seq (.region false [3, 5, 19, 20, 21] [] [⟨some 18, none, false, .mv (.t 0)⟩,
   ⟨some 19, none, false, .call (.f 60) [(.t 18), (.c (.str [10]))]⟩,
   ⟨some 20, none, false, .bi (.len 1) [(.t 19)]⟩,
   ⟨some 21, none, false, .mv (.c (.int .i64 0))⟩])
 (.block 0 af25L1))
 (.seq (.region false [2, 3, 4] [] [⟨some 95, none, false, .mv (.t 5)⟩,
   ⟨some 96, none, false, .build [(.int .i64 0), (.int .i64 0)] []⟩,
   ⟨some 2, none, false, .mv (.t 95)⟩,
   ⟨none, none, false, .store 2 (.t 3) (.t 96)⟩,
   ⟨some 4, none, false, .mv (.c (.int .i64 0))⟩])
 .ret)))))⟩
def af26L0 : ACode := .loop [0, 2, 5, 6, 7, 8]
 (.seq (.seq (.region false [0, 2, 5, 6, 7, 8, 38] [] [⟨some 35, none, false, .mv (.t 8)⟩,
   ⟨some 36, none, false, .mv (.t 6)⟩,
   ⟨some 37, none, false, .bi (.len 0) [(.t 36)]⟩,
   ⟨some 38, none, false, .bin .lss (.t 35) (.t 37)⟩])
 (.cond (.t 38)
  .skip
  (.exit 0)))
 (.seq (.block 1 (.seq (.seq (.region false [0, 2, 5, 6, 7, 8, 45] [] [⟨some 41, none, false, .mv (.t 8)⟩,
    ⟨some 42, none, false, .bin .add (.t 41) (.c (.int .i64 2))⟩,
    ⟨some 43, none, false, .mv (.t 0)⟩,
    ⟨some 44, none, false, .bi (.len 1) [(.t 43)]⟩,
    ⟨some 45, none, false, .bin .geq (.t 42) (.t 44)⟩])
  (.cond (.t 45)
   (.seq (.region false [2, 3, 4] [] [⟨some 46, none, false, .build [(.str []), (.int .i64 0), (.int .i64 0), (.int .i64 0), (.int .i64 0), (.int .i64 0), (.int .i64 0), (.int .i64 0), (.int .i64 0), (.int .i64 0)] []⟩,
     ⟨some 47, none, false, .mv (.t 0)⟩,
     ⟨some 48, none, false, .bi (.len 1) [(.t 47)]⟩,
     ⟨some 49, none, false, .bin .sub (.t 48) (.c (.int .i64 1))⟩,
     ⟨some 50, none, false, .mv (.t 5)⟩,
     ⟨none, none, false, .store 10 (.t 2) (.t 46)⟩,
     ⟨some 3, none, false, .mv (.t 49)⟩,
     ⟨some 4, none, false, .mv (.t 50)⟩])
   .ret)
   .skip))
  (.seq (.region true [0, 2, 5, 6, 7, 8, 9, 10] [] [⟨some 52, none, false, .mv (.t 6)⟩,
    ⟨some 53, none, false, .mv (.t 8)⟩,
    ⟨some 54, none, false, .sidx (.t 52) (.t 53)⟩,
    ⟨some 55, none, false, .mv (.t 0)⟩,
    ⟨some 56, none, false, .mv (.t 8)⟩,
    ⟨some 57, none, false, .bin .add (.t 56) (.c (.int .i64 2))⟩,
    ⟨some 58, none, false, .idxaddr none 1 (.t 55) (.t 57)⟩,
    ⟨some 59, none, false, .load false 1 (.t 58)⟩,
    ⟨some 60, none, false, .call (.f 62) [(.t 54), (.t 59)]⟩,
    ⟨some 51, none, false, .mv (.t 60)⟩,
    ⟨some 61, none, false, .ext 0 (.t 51)⟩,
    ⟨some 62, none, false, .ext 1 (.t 51)⟩,
    ⟨some 9, none, false, .mv (.t 61)⟩,
    ⟨some 10, none, false, .mv (.t 62)⟩])
  (.seq (.seq (.region false [0, 2, 5, 6, 7, 8, 9, 64] [] [⟨some 63, none, false, .mv (.t 10)⟩,
    ⟨some 64, none, false, .un .not (.t 63)⟩])
  (.cond (.t 64)
   (.seq (.region false [2, 3, 4] [] [⟨some 65, none, false, .build [(.str []), (.int .i64 0), (.int .i64 0), (.int .i64 0), (.int .i64 0), (.int .i64 0), (.int .i64 0), (.int .i64 0), (.int .i64 0), (.int .i64 0)] []⟩,
     ⟨some 66, none, false, .mv (.t 8)⟩,
     ⟨some 67, none, false, .bin .add (.t 66) (.c (.int .i64 2))⟩,
     ⟨some 68, none, false, .mv (.t 5)⟩,
     ⟨none, none, false, .store 10 (.t 2) (.t 65)⟩,
     ⟨some 3, none, false, .mv (.t 67)⟩,
     ⟨some 4, none, false, .mv (.t 68)⟩])
   .ret)
   .skip))
  (.region false [0, 2, 5, 6, 7, 8] [] [⟨some 69, none, false, .mv (.t 7)⟩,
    ⟨some 70, none, false, .mv (.t 9)⟩,
    ⟨some 71, none, false, .bslice [(.int .i64 0)] [(0, 1, (.t 70))] 1 1⟩,
    ⟨some 72, none, false, .bi (.append 1 8) [(.t 69), (.t 71)]⟩,
    ⟨some 7, none, false, .mv (.t 72)⟩])))))
 (.region false [0, 2, 5, 6, 7, 8] [] [⟨some 39, none, false, .mv (.t 8)⟩,
   ⟨some 40, none, false, .bin .add (.t 39) (.c (.int .i64 1))⟩,
   ⟨some 8, none, false, .mv (.t 40)⟩])))
/-- civiltime/civiltimeref28.Rule -/
def af26 : AFun := ⟨195, true, [.cell 2 true 10, .tmp 3, .tmp 4],
 (.seq (.region false [0, 2] [] [⟨some 2, none, false, .new [(.str []), (.int .i64 0), (.int .i64 0), (.int .i64 0), (.int .i64 0), (.int .i64 0), (.int .i64 0), (.int .i64 0), (.int .i64 0), (.int .i64 0)]⟩,
   ⟨some 3, none, false, .mv (.c (.int .i64 0))⟩,
   ⟨some 4, none, false, .mv (.c (.int .i64 0))⟩])
 (.seq (.region false [0, 2, 5] [] [⟨some 5, none, false, .mv (.c (.int .i64 3))⟩])
 (.seq (.seq (.region false [0, 2, 5, 17] [] [⟨some 13, none, false, .mv (.t 0)⟩,
   ⟨some 14, none, false, .idxaddr none 1 (.t 13) (.c (.int .i64 0))⟩,
   ⟨some 15, none, false, .load false 1 (.t 14)⟩,
   ⟨some 16, none, false, .call (.f 46) [(.t 15)]⟩,
   ⟨some 17, none, false, .un .not (.t 16)⟩])
 (.cond (.t 17)
  (.seq (.region false [2, 3, 4] [] [⟨some 18, none, false, .build [(.str []), (.int .i64 0), (.int .i64 0), (.int .i64 0), (.int .i64 0), (.int .i64 0), (.int .i64 0), (.int .i64 0), (.int .i64 0), (.int .i64 0)] []⟩,
    ⟨some 19, none, false, .mv (.t 5)⟩,
    ⟨none, none, false, .store 10 (.t 2) (.t 18)⟩,
    ⟨some 3, none, false, .mv (.c (.int .i64 0))⟩,
    ⟨some 4, none, false, .mv (.t 19)⟩])
  .ret)
  .skip))
 (.seq (.seq (.region false [0, 2, 5, 22] [] [⟨some 20, none, false, .mv (.t 0)⟩,
   ⟨some 21, none, false, .bi (.len 1) [(.t 20)]⟩,
   ⟨some 22, none, false, .bin .eql (.t 21) (.c (.int .i64 1))⟩])
 (.cond (.t 22)
  (.seq (.region false [2, 3, 4] [] [⟨some 23, none, false, .build [(.str []), (.int .i64 0), (.int .i64 0), (.int .i64 0), (.int .i64 0), (.int .i64 0), (.int .i64 0), (.int .i64 0), (.int .i64 0), (.int .i64 0)] []⟩,
    ⟨some 24, none, false, .mv (.t 5)⟩,
    ⟨none, none, false, .store 10 (.t 2) (.t 23)⟩,
    ⟨some 3, none, false, .mv (.c (.int .i64 0))⟩,
    ⟨some 4, none, false, .mv (.t 24)⟩])
  .ret)
  .skip))
 (.seq (.region false [0, 2, 5, 6] [] [⟨some 25, none, false, .mv (.t 0)⟩,
   ⟨some 26, none, false, .idxaddr none 1 (.t 25) (.c (.int .i64 1))⟩,
   ⟨some 27, none, false, .load false 1 (.t 26)⟩,
   ⟨some 28, none, false, .call (.f 61) [(.t 27)]⟩,
   ⟨some 6, none, false, .mv (.t 28)⟩])
 (.seq (.seq (.region false [0, 2, 5, 6, 30] [] [⟨some 29, none, false, .mv (.t 6)⟩,
   ⟨some 30, none, false, .bin .eql (.t 29) (.c (.str []))⟩])
 (.cond (.t 30)
  (.seq (.region false [2, 3, 4] [] [⟨some 31, none, false, .build [(.str []), (.int .i64 0), (.int .i64 0), (.int .i64 0), (.int .i64 0), (.int .i64 0), (.int .i64 0), (.int .i64 0), (.int .i64 0), (.int .i64 0)] []⟩,
    ⟨some 32, none, false, .mv (.t 5)⟩,
    ⟨none, none, false, .store 10 (.t 2) (.t 31)⟩,
    ⟨some 3, none, false, .mv (.c (.int .i64 1))⟩,
    ⟨some 4, none, false, .mv (.t 32)⟩])
  .ret)
  .skip))
 (.seq (.region false [0, 2, 5, 6] [] [⟨some 33, none, false, .mv (.t 6)⟩,
   ⟨some 34, none, false, .bin .add (.t 33) (.c (.str [110, 110]))⟩,
   ⟨some 6, none, false, .mv (.t 34)⟩])
 (.seq (.region false [0, 2, 5, 6, 7] [] [⟨some 7, none, false, .mv (.c .nilSl)⟩])
 (.seq (.seq (.region false [0, 2, 5, 6, 7, 8] [] [⟨some 8, none, false, .mv (.c (.int .i64 0))⟩])
 (.block 0 af26L0))
 (.seq (.region false [0, 2, 5, 7, 11] [] [⟨some 73, none, false, .mv (.t 6)⟩,
   ⟨some 74, none, false, .bi (.len 0) [(.t 73)]⟩,
   ⟨some 75, none, false, .bin .add (.t 74) (.c (.int .i64 2))⟩,
   ⟨some 11, none, false, .mv (.t 75)⟩])
 (.seq (.seq (.region false [0, 2, 5, 7, 11, 79] [] [⟨some 76, none, false, .mv (.t 11)⟩,
   ⟨some 77, none, false, .mv (.t 0)⟩,
   ⟨some 78, none, false, .bi (.len 1) [(.t 77)]⟩,
   ⟨some 79, none, false, .bin .geq (.t 76) (.t 78)⟩])
 (.cond (.t 79)
  (.seq (.region false [2, 3, 4] [] [⟨some 80, none, false, .build [(.str []), (.int .i64 0), (.int .i64 0), (.int .i64 0), (.int .i64 0), (.int .i64 0), (.int .i64 0), (.int .i64 0), (.int .i64 0), (.int .i64 0)] []⟩,
    ⟨some 81, none, false, .mv (.t 0)⟩,
    ⟨some 82, none, false, .bi (.len 1) [(.t 81)]⟩,
    ⟨some 83, none, false, .bin .sub (.t 82) (.c (.int .i64 1))⟩,
    ⟨some 84, none, false, .mv (.t 5)⟩,
    ⟨none, none, false, .store 10 (.t 2) (.t 80)⟩,
    ⟨some 3, none, false, .mv (.t 83)⟩,
    ⟨some 4, none, false, .mv (.t 84)⟩])
  .ret)
  .skip))
 (.seq (.region true [0, 2, 5, 7, 11, 12] [(2, 16), (5, 16), (8, 16), (11, 16), (14, 16)] [⟨some 85, none, false, .mv (.t 0)⟩,
   ⟨some 86, none, false, .idxaddr none 1 (.t 85) (.c (.int .i64 0))⟩,
   ⟨some 87, none, false, .load false 1 (.t 86)⟩,
   ⟨some 88, none, false, .mv (.t 7)⟩,
   ⟨some 89, none, false, .mv (.t 7)⟩,
   ⟨some 90, none, false, .bi (.len 1) [(.t 89)]⟩,
   ⟨some 91, none, false, .bin .sub (.t 90) (.c (.int .i64 2))⟩,
   ⟨some 92, none, false, .idxaddr none 1 (.t 88) (.t 91)⟩,
   ⟨some 93, none, false, .load false 1 (.t 92)⟩,
   ⟨some 94, none, false, .mv (.t 7)⟩,
   ⟨some 95, none, false, .mv (.t 7)⟩,
   ⟨some 96, none, false, .bi (.len 1) [(.t 95)]⟩,
   ⟨some 97, none, false, .bin .sub (.t 96) (.c (.int .i64 1))⟩,
   ⟨some 98, none, false, .idxaddr none 1 (.t 94) (.t 97)⟩,
   ⟨some 99, none, false, .load false 1 (.t 98)⟩,
   ⟨some 100, none, false, .build [(.str []), (.int .i64 0), (.int .i64 0), (.int .i64 0), (.int .i64 0), (.int .i64 0), (.int .i64 0), (.int .i64 0), (.int .i64 0), (.int .i64 0)] [(0, 1, (.t 87)), (7, 1, (.t 93)), (8, 1, (.t 99))]⟩,
   ⟨some 12, none, false, .new [(.str []), (.int .i64 0), (.int .i64 0), (.int .i64 0), (.int .i64 0), (.int .i64 0), (.int .i64 0), (.int .i64 0), (.int .i64 0), (.int .i64 0)]⟩,
   ⟨none, none, false, .store 10 (.t 12) (.t 100)⟩])
 (.seq (.seq (.region false [0, 2, 5, 7, 11, 12, 104] [] [⟨some 101, none, false, .mv (.t 0)⟩,
   ⟨some 102, none, false, .mv (.t 11)⟩,
   ⟨some 103, none, false, .idxaddr none 1 (.t 101) (.t 102)⟩,
   ⟨some 104, none, false, .load false 1 (.t 103)⟩])
 (.block 2 (.seq (.region false [0, 2, 5, 7, 11, 12, 104, 108] [] [⟨some 109, none, false, .bin .eql (.t 104) (.c (.str [101, 120, 97, 99, 116, 108, 121]))⟩,
    ⟨some 108, none, false, .mv (.t 109)⟩])
  (.cond (.t 108)
   (.region false [0, 2, 5, 7, 11, 12] [] [⟨some 110, none, false, .fldaddr 9 (.t 12)⟩,
     ⟨none, none, false, .store 1 (.t 110) (.c (.int .i64 1))⟩])
   (.seq (.region false [0, 2, 5, 7, 11, 12, 104, 111] [] [⟨some 112, none, false, .bin .eql (.t 104) (.c (.str [109, 111, 110, 100, 97, 121]))⟩,
     ⟨some 111, none, false, .mv (.t 112)⟩])
   (.cond (.t 111)
    (.region false [0, 2, 5, 7, 11, 12] [] [⟨some 113, none, false, .fldaddr 9 (.t 12)⟩,
      ⟨none, none, false, .store 1 (.t 113) (.c (.int .i64 2))⟩])
    (.seq (.region false [0, 2, 5, 7, 11, 12, 114] [] [⟨some 115, none, false, .bin .eql (.t 104) (.c (.str [110, 101, 97, 114, 101, 115, 116]))⟩,
      ⟨some 114, none, false, .mv (.t 115)⟩])
    (.cond (.t 114)
     (.region false [0, 2, 5, 7, 11, 12] [] [⟨some 116, none, false, .fldaddr 9 (.t 12)⟩,
       ⟨none, none, false, .store 1 (.t 116) (.c (.int .i64 3))⟩])
     (.seq (.region false [2, 3, 4] [] [⟨some 105, none, false, .build [(.str []), (.int .i64 0), (.int .i64 0), (.int .i64 0), (.int .i64 0), (.int .i64 0), (.int .i64 0), (.int .i64 0), (.int .i64 0), (.int .i64 0)] []⟩,
       ⟨some 106, none, false, .mv (.t 11)⟩,
       ⟨some 107, none, false, .mv (.t 5)⟩,
       ⟨none, none, false, .store 10 (.t 2) (.t 105)⟩,
       ⟨some 3, none, false, .mv (.t 106)⟩,
       ⟨some 4, none, false, .mv (.t 107)⟩])
     .ret)))))))))
 (.seq (.seq (.region false [0, 2, 5, 7, 11, 12, 121] [] [⟨some 117, none, false, .mv (.t 0)⟩,
   ⟨some 118, none, false, .bi (.len 1) [(.t 117)]⟩,
   ⟨some 119, none, false, .mv (.t 11)⟩,
   ⟨some 120, none, false, .bin .add (.t 119) (.c (.int .i64 1))⟩,
   ⟨some 121, none, false, .bin .gtr (.t 118) (.t 120)⟩])
 (.cond (.t 121)
  (.seq (.region false [2, 3, 4] [] [⟨some 122, none, false, .build [(.str []), (.int .i64 0), (.int .i64 0), (.int .i64 0), (.int .i64 0), (.int .i64 0), (.int .i64 0), (.int .i64 0), (.int .i64 0), (.int .i64 0)] []⟩,
    ⟨some 123, none, false, .mv (.t 11)⟩,
    ⟨some 124, none, false, .bin .add (.t 123) (.c (.int .i64 1))⟩,
    ⟨some 125, none, false, .mv (.t 5)⟩,
    ⟨none, none, false, .store 10 (.t 2) (.t 122)⟩,
    ⟨some 3, none, false, .mv (.t 124)⟩,
    ⟨some 4, none, false, .mv (.t 125)⟩])
  .ret)
  .skip))
 (.seq (.seq (.region false [2, 7, 12, 128] [] [⟨some 126, none, false, .mv (.t 0)⟩,
   ⟨some 127, none, false, .idxaddr none 1 (.t 126) (.c (.int .i64 1))⟩,
   ⟨some 128, none, false, .load false 1 (.t 127)⟩])
 (.block 3 (.seq (.region false [2, 7, 12, 128, 138] [] [⟨some 139, none, false, .bin .eql (.t 128) (.c (.str [102, 105, 120, 101, 100]))⟩,
    ⟨some 138, none, false, .mv (.t 139)⟩])
  (.cond (.t 138)
   (.region true [2, 12] [(2, 7), (5, 7), (5, 9)] [⟨some 140, none, false, .mv (.t 7)⟩,
     ⟨some 141, none, false, .idxaddr none 1 (.t 140) (.c (.int .i64 0))⟩,
     ⟨some 142, none, false, .load false 1 (.t 141)⟩,
     ⟨some 143, none, false, .mv (.t 7)⟩,
     ⟨some 144, none, false, .idxaddr none 1 (.t 143) (.c (.int .i64 1))⟩,
     ⟨some 145, none, false, .load false 1 (.t 144)⟩,
     ⟨some 146, none, false, .fldaddr 1 (.t 12)⟩,
     ⟨none, none, false, .store 1 (.t 146) (.c (.int .i64 1))⟩,
     ⟨some 147, none, false, .fldaddr 2 (.t 12)⟩,
     ⟨none, none, false, .store 1 (.t 147) (.t 142)⟩,
     ⟨some 148, none, false, .fldaddr 3 (.t 12)⟩,
     ⟨none, none, false, .store 1 (.t 148) (.t 145)⟩])
   (.seq (.region false [2, 7, 12, 128, 149] [] [⟨some 150, none, false, .bin .eql (.t 128) (.c (.str [110, 116, 104]))⟩,
     ⟨some 149, none, false, .mv (.t 150)⟩])
   (.cond (.t 149)
    (.region true [2, 12] [(2, 13), (5, 13), (8, 13), (11, 13), (5, 15), (8, 15), (11, 15), (8, 17), (11, 17), (11, 19)] [⟨some 151, none, false, .mv (.t 7)⟩,
      ⟨some 152, none, false, .idxaddr none 1 (.t 151) (.c (.int .i64 0))⟩,
      ⟨some 153, none, false, .load false 1 (.t 152)⟩,
      ⟨some 154, none, false, .mv (.t 7)⟩,
      ⟨some 155, none, false, .idxaddr none 1 (.t 154) (.c (.int .i64 1))⟩,
      ⟨some 156, none, false, .load false 1 (.t 155)⟩,
      ⟨some 157, none, false, .mv (.t 7)⟩,
      ⟨some 158, none, false, .idxaddr none 1 (.t 157) (.c (.int .i64 2))⟩,
      ⟨some 159, none, false, .load false 1 (.t 158)⟩,
      ⟨some 160, none, false, .mv (.t 7)⟩,
      ⟨some 161, none, false, .idxaddr none 1 (.t 160) (.c (.int .i64 3))⟩,
      ⟨some 162, none, false, .load false 1 (.t 161)⟩,
      ⟨some 163, none, false, .fldaddr 1 (.t 12)⟩,
      ⟨none, none, false, .store 1 (.t 163) (.c (.int .i64 2))⟩,
      ⟨some 164, none, false, .fldaddr 5 (.t 12)⟩,
      ⟨none, none, false, .store 1 (.t 164) (.t 153)⟩,
      ⟨some 165, none, false, .fldaddr 4 (.t 12)⟩,
      ⟨none, none, false, .store 1 (.t 165) (.t 156)⟩,
      ⟨some 166, none, false, .fldaddr 2 (.t 12)⟩,
      ⟨none, none, false, .store 1 (.t 166) (.t 159)⟩,
      ⟨some 167, none, false, .fldaddr 6 (.t 12)⟩,
      ⟨none, none, false, .store 1 (.t 167) (.t 162)⟩])
    (.seq (.region false [2, 7, 12, 128, 168] [] [⟨some 169, none, false, .bin .eql (.t 128) (.c (.str [101, 97, 115, 116, 101, 114]))⟩,
      ⟨some 168, none, false, .mv (.t 169)⟩])
    (.cond (.t 168)
     (.region true [2, 12] [(2, 4)] [⟨some 170, none, false, .mv (.t 7)⟩,
       ⟨some 171, none, false, .idxaddr none 1 (.t 170) (.c (.int .i64 0))⟩,
       ⟨some 172, none, false, .load false 1 (.t 171)⟩,
       ⟨some 173, none, false, .fldaddr 1 (.t 12)⟩,
       ⟨none, none, false, .store 1 (.t 173) (.c (.int .i64 3))⟩,
       ⟨some 174, none, false, .fldaddr 6 (.t 12)⟩,
       ⟨none, none, false, .store 1 (.t 174) (.t 172)⟩])
     (.seq (.region false [2, 7, 12, 175] [] [⟨some 176, none, false, .bin .eql (.t 128) (.c (.str [105, 115, 108, 97, 109, 105, 99]))⟩,
       ⟨some 175, none, false, .mv (.t 176)⟩])
     (.cond (.t 175)
      (.region true [2, 12] [(2, 10), (5, 10), (8, 10), (5, 12), (8, 12), (8, 14)] [⟨some 177, none, false, .mv (.t 7)⟩,
        ⟨some 178, none, false, .idxaddr none 1 (.t 177) (.c (.int .i64 0))⟩,
        ⟨some 179, none, false, .load false 1 (.t 178)⟩,
        ⟨some 180, none, false, .mv (.t 7)⟩,
        ⟨some 181, none, false, .idxaddr none 1 (.t 180) (.c (.int .i64 1))⟩,
        ⟨some 182, none, false, .load false 1 (.t 181)⟩,
        ⟨some 183, none, false, .mv (.t 7)⟩,
        ⟨some 184, none, false, .idxaddr none 1 (.t 183) (.c (.int .i64 2))⟩,
        ⟨some 185, none, false, .load false 1 (.t 184)⟩,
        ⟨some 186, none, false, .fldaddr 1 (.t 12)⟩,
        ⟨none, none, false, .store 1 (.t 186) (.c (.int .i64 4))⟩,
        ⟨some 187, none, false, .fldaddr 5 (.t 12)⟩,
        ⟨none, none, false, .store 1 (.t 187) (.t 179)⟩,
        ⟨some 188, none, false, .fldaddr 2 (.t 12)⟩,
        ⟨none, none, false, .store 1 (.t 188) (.t 182)⟩,
        ⟨some 189, none, false, .fldaddr 3 (.t 12)⟩,
        ⟨none, none, false, .store 1 (.t 189) (.t 185)⟩])
      (.region true [2, 12] [(2, 7), (5, 7), (5, 9)] [⟨some 129, none, false, .mv (.t 7)⟩,
        ⟨some 130, none, false, .idxaddr none 1 (.t 129) (.c (.int .i64 0))⟩,
        ⟨some 131, none, false, .load false 1 (.t 130)⟩,
        ⟨some 132, none, false, .mv (.t 7)⟩,
        ⟨some 133, none, false, .idxaddr none 1 (.t 132) (.c (.int .i64 1))⟩,
        ⟨some 134, none, false, .load false 1 (.t 133)⟩,
        ⟨some 135, none, false, .fldaddr 1 (.t 12)⟩,
        ⟨none, none, false, .store 1 (.t 135) (.c (.int .i64 5))⟩,
        ⟨some 136, none, false, .fldaddr 2 (.t 12)⟩,
        ⟨none, none, false, .store 1 (.t 136) (.t 131)⟩,
        ⟨some 137, none, false, .fldaddr 3 (.t 12)⟩,
        ⟨none, none, false, .store 1 (.t 137) (.t 134)⟩])))))))))))
 (.seq (.seq (.region false [2, 12, 192] [] [⟨some 190, none, false, .load true 10 (.t 12)⟩,
   ⟨some 191, none, false, .call (.f 15) [(.t 190)]⟩,
   ⟨some 192, none, false, .un .not (.t 191)⟩])
 (.cond (.t 192)
  (.seq (.region false [2, 3, 4] [] [⟨some 193, none, false, .build [(.str []), (.int .i64 0), (.int .i64 0), (.int .i64 0), (.int .i64 0), (.int .i64 0), (.int .i64 0), (.int .i64 0), (.int .i64 0), (.int .i64 0)] []⟩,
    ⟨none, none, false, .store 10 (.t 2) (.t 193)⟩,
    ⟨some 3, none, false, .mv (.c (.int .i64 0))⟩,
    ⟨some 4, none, false, .mv (.c (.int .i64 1))⟩])
  .ret)
  .skip))
 (.seq (.region false [2, 3, 4] [] [⟨some 194, none, false, .load true 10 (.t 12)⟩,
   ⟨none, none, false, .store 10 (.t 2) (.t 194)⟩,
   ⟨some 3, none, false, .mv (.c (.int .i64 0))⟩,
   ⟨some 4, none, false, .mv (.c (.int .i64 0))⟩])
 .ret)))))))))))))))))⟩
def af27L0 : ACode := .loop [1, 2, 15, 16, 17]
 (.seq (.region false [1, 2, 15, 16, 17, 18] [] [⟨some 18, none, false, .bin .lss (.t 17) (.t 16)⟩])
 (.seq (.cond (.t 18)
  .skip
  (.exit 0))
 (.seq (.block 1 (.seq (.region false [1, 2, 7, 8, 15, 16, 17] [] [⟨some 19, none, false, .mv (.t 17)⟩,
    ⟨some 20, none, false, .idxaddr none 10 (.t 15) (.t 17)⟩,
    ⟨some 21, none, false, .load true 10 (.t 20)⟩,
    ⟨some 8, none, false, .new [(.str []), (.int .i64 0), (.int .i64 0), (.int .i64 0), (.int .i64 0), (.int .i64 0), (.int .i64 0), (.int .i64 0), (.int .i64 0), (.int .i64 0)]⟩,
    ⟨some 7, none, false, .mv (.t 19)⟩,
    ⟨none, none, false, .store 10 (.t 8) (.t 21)⟩])
  (.seq (.region false [1, 2, 8, 9, 15, 16, 17] [] [⟨some 22, none, false, .mv (.t 1)⟩,
    ⟨some 23, none, false, .mv (.t 7)⟩,
    ⟨some 24, none, false, .idxaddr none 10 (.t 22) (.t 23)⟩,
    ⟨some 25, none, false, .load true 10 (.t 24)⟩,
    ⟨some 9, none, false, .new [(.str []), (.int .i64 0), (.int .i64 0), (.int .i64 0), (.int .i64 0), (.int .i64 0), (.int .i64 0), (.int .i64 0), (.int .i64 0), (.int .i64 0)]⟩,
    ⟨none, none, false, .store 10 (.t 9) (.t 25)⟩])
  (.seq (.region false [1, 2, 15, 16, 17, 30] [] [⟨some 26, none, false, .mv (.t 2)⟩,
    ⟨some 27, none, false, .load true 10 (.t 8)⟩,
    ⟨some 28, none, false, .load true 10 (.t 9)⟩,
    ⟨some 29, none, false, .call (.t 26) [(.t 27), (.t 28)]⟩,
    ⟨some 30, none, false, .un .not (.t 29)⟩])
  (.cond (.t 30)
   (.seq (.region false [6] [] [⟨some 6, none, false, .mv (.c (.bool false))⟩])
   .ret)
   .skip)))))
 (.region false [1, 2, 15, 16, 17] [] [⟨some 31, none, false, .bin .add (.t 17) (.c (.int .i64 1))⟩,
   ⟨some 17, none, false, .mv (.t 31)⟩]))))
/-- slices.EqualFunc[[]civiltime/api.Holiday,[]civiltime/api.Holiday,civiltime/api.Holiday,civiltime/api.Holiday] -/
def af27 : AFun := ⟨32, true, [.tmp 6],
 (.seq (.region false [0, 1, 2] [] [⟨some 6, none, false, .mv (.c (.bool false))⟩])
 (.seq (.seq (.region false [0, 1, 2, 14] [] [⟨some 10, none, false, .mv (.t 0)⟩,
   ⟨some 11, none, false, .bi (.len 1) [(.t 10)]⟩,
   ⟨some 12, none, false, .mv (.t 1)⟩,
   ⟨some 13, none, false, .bi (.len 1) [(.t 12)]⟩,
   ⟨some 14, none, false, .bin .neq (.t 11) (.t 13)⟩])
 (.cond (.t 14)
  (.seq (.region false [6] [] [⟨some 6, none, false, .mv (.c (.bool false))⟩])
  .ret)
  .skip))
 (.seq (.seq (.region false [1, 2, 15, 16, 17] [] [⟨some 15, none, false, .mv (.t 0)⟩,
   ⟨some 16, none, false, .bi (.len 1) [(.t 15)]⟩,
   ⟨some 17, none, false, .mv (.c (.int .i64 0))⟩])
 (.block 0 af27L0))
 (.seq (.region false [6] [] [⟨some 6, none, false, .mv (.c (.bool true))⟩])
 .ret))))⟩
/-- civiltime/civiltimeref28.Equal -/
def af28 : AFun := ⟨73, true, [.tmp 4],
 (.seq (.region false [2, 3] [] [⟨some 2, none, false, .box (.t 0)⟩,
   ⟨some 3, none, false, .box (.t 1)⟩,
   ⟨some 4, none, false, .mv (.c (.bool false))⟩])
 (.seq (.region false [4] [] [⟨some 5, none, false, .fldaddr 0 (.t 2)⟩,
   ⟨some 6, none, false, .load false 1 (.t 5)⟩,
   ⟨some 7, none, false, .fldaddr 0 (.t 3)⟩,
   ⟨some 8, none, false, .load false 1 (.t 7)⟩,
   ⟨some 9, none, false, .bin .eql (.t 6) (.t 8)⟩,
   ⟨some 10, none, false, .mv (.t 9)⟩,
   ⟨some 11, some (10, true), false, .fldaddr 1 (.t 2)⟩,
   ⟨some 12, some (10, true), false, .load false 1 (.t 11)⟩,
   ⟨some 13, some (10, true), false, .fldaddr 1 (.t 3)⟩,
   ⟨some 14, some (10, true), false, .load false 1 (.t 13)⟩,
   ⟨some 15, some (10, true), false, .bin .eql (.t 12) (.t 14)⟩,
   ⟨some 16, none, false, .pick (.t 10) (.t 15) (.c (.bool false))⟩,
   ⟨some 17, none, false, .mv (.t 16)⟩,
   ⟨some 18, some (17, true), false, .fldaddr 2 (.t 2)⟩,
   ⟨some 19, some (17, true), false, .load false 1 (.t 18)⟩,
   ⟨some 20, some (17, true), false, .fldaddr 2 (.t 3)⟩,
   ⟨some 21, some (17, true), false, .load false 1 (.t 20)⟩,
   ⟨some 22, some (17, true), false, .bin .eql (.t 19) (.t 21)⟩,
   ⟨some 23, none, false, .pick (.t 17) (.t 22) (.c (.bool false))⟩,
   ⟨some 24, none, false, .mv (.t 23)⟩,
   ⟨some 25, some (24, true), false, .fldaddr 3 (.t 2)⟩,
   ⟨some 26, some (24, true), false, .load false 1 (.t 25)⟩,
   ⟨some 27, some (24, true), false, .fldaddr 3 (.t 3)⟩,
   ⟨some 28, some (24, true), false, .load false 1 (.t 27)⟩,
   ⟨some 29, some (24, true), false, .bin .eql (.t 26) (.t 28)⟩,
   ⟨some 30, none, false, .pick (.t 24) (.t 29) (.c (.bool false))⟩,
   ⟨some 31, none, false, .mv (.t 30)⟩,
   ⟨some 32, some (31, true), false, .fldaddr 4 (.t 2)⟩,
   ⟨some 33, some (31, true), false, .load false 1 (.t 32)⟩,
   ⟨some 34, some (31, true), false, .fldaddr 4 (.t 3)⟩,
   ⟨some 35, some (31, true), false, .load false 1 (.t 34)⟩,
   ⟨some 36, some (31, true), false, .bin .eql (.t 33) (.t 35)⟩,
   ⟨some 37, none, false, .pick (.t 31) (.t 36) (.c (.bool false))⟩,
   ⟨some 38, none, false, .mv (.t 37)⟩,
   ⟨some 39, some (38, true), false, .fldaddr 5 (.t 2)⟩,
   ⟨some 40, some (38, true), false, .load false 1 (.t 39)⟩,
   ⟨some 41, some (38, true), false, .fldaddr 5 (.t 3)⟩,
   ⟨some 42, some (38, true), false, .load false 1 (.t 41)⟩,
   ⟨some 43, some (38, true), false, .bin .eql (.t 40) (.t 42)⟩,
   ⟨some 44, none, false, .pick (.t 38) (.t 43) (.c (.bool false))⟩,
   ⟨some 45, none, false, .mv (.t 44)⟩,
   ⟨some 46, some (45, true), false, .fldaddr 6 (.t 2)⟩,
   ⟨some 47, some (45, true), false, .load false 1 (.t 46)⟩,
   ⟨some 48, some (45, true), false, .fldaddr 6 (.t 3)⟩,
   ⟨some 49, some (45, true), false, .load false 1 (.t 48)⟩,
   ⟨some 50, some (45, true), false, .bin .eql (.t 47) (.t 49)⟩,
   ⟨some 51, none, false, .pick (.t 45) (.t 50) (.c (.bool false))⟩,
   ⟨some 52, none, false, .mv (.t 51)⟩,
   ⟨some 53, some (52, true), false, .fldaddr 7 (.t 2)⟩,
   ⟨some 54, some (52, true), false, .load false 1 (.t 53)⟩,
   ⟨some 55, some (52, true), false, .fldaddr 7 (.t 3)⟩,
   ⟨some 56, some (52, true), false, .load false 1 (.t 55)⟩,
   ⟨some 57, some (52, true), false, .bin .eql (.t 54) (.t 56)⟩,
   ⟨some 58, none, false, .pick (.t 52) (.t 57) (.c (.bool false))⟩,
   ⟨some 59, none, false, .mv (.t 58)⟩,
   ⟨some 60, some (59, true), false, .fldaddr 8 (.t 2)⟩,
   ⟨some 61, some (59, true), false, .load false 1 (.t 60)⟩,
   ⟨some 62, some (59, true), false, .fldaddr 8 (.t 3)⟩,
   ⟨some 63, some (59, true), false, .load false 1 (.t 62)⟩,
   ⟨some 64, some (59, true), false, .bin .eql (.t 61) (.t 63)⟩,
   ⟨some 65, none, false, .pick (.t 59) (.t 64) (.c (.bool false))⟩,
   ⟨some 66, none, false, .mv (.t 65)⟩,
   ⟨some 67, some (66, true), false, .fldaddr 9 (.t 2)⟩,
   ⟨some 68, some (66, true), false, .load false 1 (.t 67)⟩,
   ⟨some 69, some (66, true), false, .fldaddr 9 (.t 3)⟩,
   ⟨some 70, some (66, true), false, .load false 1 (.t 69)⟩,
   ⟨some 71, some (66, true), false, .bin .eql (.t 68) (.t 70)⟩,
   ⟨some 72, none, false, .pick (.t 66) (.t 71) (.c (.bool false))⟩,
   ⟨some 4, none, false, .mv (.t 72)⟩])
 .ret))⟩
/-- civiltime/civiltimeref28.Span -/
def af29 : AFun := ⟨18, true, [.tmp 2],
 (.seq (.region false [1] [] [⟨some 1, none, false, .box (.t 0)⟩,
   ⟨some 2, none, false, .mv (.c (.bool false))⟩])
 (.seq (.region false [2] [] [⟨some 3, none, false, .fldaddr 0 (.t 1)⟩,
   ⟨some 4, none, false, .load false 1 (.t 3)⟩,
   ⟨some 5, none, false, .bin .geq (.t 4) (.c (.int .i64 (-719162)))⟩,
   ⟨some 6, none, false, .mv (.t 5)⟩,
   ⟨some 7, some (6, true), false, .fldaddr 0 (.t 1)⟩,
   ⟨some 8, some (6, true), false, .load false 1 (.t 7)⟩,
   ⟨some 9, some (6, true), false, .fldaddr 1 (.t 1)⟩,
   ⟨some 10, some (6, true), false, .load false 1 (.t 9)⟩,
   ⟨some 11, some (6, true), false, .bin .lss (.t 8) (.t 10)⟩,
   ⟨some 12, none, false, .pick (.t 6) (.t 11) (.c (.bool false))⟩,
   ⟨some 13, none, false, .mv (.t 12)⟩,
   ⟨some 14, some (13, true), false, .fldaddr 1 (.t 1)⟩,
   ⟨some 15, some (13, true), false, .load false 1 (.t 14)⟩,
   ⟨some 16, some (13, true), false, .bin .leq (.t 15) (.c (.int .i64 2932897))⟩,
   ⟨some 17, none, false, .pick (.t 13) (.t 16) (.c (.bool false))⟩,
   ⟨some 2, none, false, .mv (.t 17)⟩])
 .ret))⟩
def af30L0 : ACode := .loop [0, 3, 8, 10, 11, 61, 62, 63]
 (.seq (.region false [0, 3, 8, 10, 11, 61, 62, 63, 64] [] [⟨some 64, none, false, .bin .lss (.t 63) (.t 62)⟩])
 (.seq (.cond (.t 64)
  .skip
  (.exit 2))
 (.seq (.block 3 (.seq (.region false [0, 3, 8, 10, 11, 13, 61, 62, 63] [] [⟨some 65, none, false, .idxaddr none 2 (.t 61) (.t 63)⟩,
    ⟨some 66, none, false, .load true 2 (.t 65)⟩,
    ⟨some 13, none, false, .new [(.int .i64 0), (.int .i64 0)]⟩,
    ⟨none, none, false, .store 2 (.t 13) (.t 66)⟩])
  (.seq (.region false [0, 3, 8, 10, 11, 13, 61, 62, 63, 78] [] [⟨some 67, none, false, .fldaddr 0 (.t 3)⟩,
    ⟨some 68, none, false, .load false 1 (.t 67)⟩,
    ⟨some 69, none, false, .fldaddr 0 (.t 13)⟩,
    ⟨some 70, none, false, .load false 1 (.t 69)⟩,
    ⟨some 71, none, false, .bin .leq (.t 68) (.t 70)⟩,
    ⟨some 72, none, false, .mv (.t 71)⟩,
    ⟨some 73, some (72, true), false, .fldaddr 0 (.t 13)⟩,
    ⟨some 74, some (72, true), false, .load false 1 (.t 73)⟩,
    ⟨some 75, some (72, true), false, .fldaddr 1 (.t 3)⟩,
    ⟨some 76, some (72, true), false, .load false 1 (.t 75)⟩,
    ⟨some 77, some (72, true), false, .bin .lss (.t 74) (.t 76)⟩,
    ⟨some 78, none, false, .pick (.t 72) (.t 77) (.c (.bool false))⟩])
  (.cond (.t 78)
   (.region false [0, 3, 8, 10, 11, 61, 62, 63] [] [⟨some 79, none, false, .mv (.t 10)⟩,
     ⟨some 80, none, false, .load true 2 (.t 13)⟩,
     ⟨some 81, none, false, .bslice [(.int .i64 0), (.int .i64 0)] [(0, 2, (.t 80))] 1 2⟩,
     ⟨some 82, none, false, .bi (.append 2 16) [(.t 79), (.t 81)]⟩,
     ⟨some 10, none, false, .mv (.t 82)⟩])
   .skip))))
 (.region false [0, 3, 8, 10, 11, 61, 62, 63] [] [⟨some 83, none, false, .bin .add (.t 63) (.c (.int .i64 1))⟩,
   ⟨some 63, none, false, .mv (.t 83)⟩]))))
def af30L1 : ACode := .loop [0, 3, 8, 10, 11]
 (.seq (.seq (.region false [0, 3, 8, 10, 11, 56] [] [⟨some 51, none, false, .mv (.t 11)⟩,
   ⟨some 52, none, false, .fldaddr 0 (.t 8)⟩,
   ⟨some 53, none, false, .load false 1 (.t 52)⟩,
   ⟨some 54, none, false, .bin .add (.t 53) (.c (.int .i64 1))⟩,
   ⟨some 55, none, false, .bi .min [(.c (.int .i64 9999)), (.t 54)]⟩,
   ⟨some 56, none, false, .bin .leq (.t 51) (.t 55)⟩])
 (.cond (.t 56)
  .skip
  (.exit 0)))
 (.seq (.block 1 (.seq (.region false [0, 3, 8, 10, 11, 61, 62, 63] [] [⟨some 59, none, false, .mv (.t 0)⟩,
    ⟨some 60, none, false, .mv (.t 11)⟩,
    ⟨some 61, none, false, .call (.f 50) [(.t 59), (.t 60)]⟩,
    ⟨some 62, none, false, .bi (.len 1) [(.t 61)]⟩,
    ⟨some 63, none, false, .mv (.c (.int .i64 0))⟩])
  (.block 2 af30L0)))
 (.region false [0, 3, 8, 10, 11] [] [⟨some 57, none, false, .mv (.t 11)⟩,
   ⟨some 58, none, false, .bin .add (.t 57) (.c (.int .i64 1))⟩,
   ⟨some 11, none, false, .mv (.t 58)⟩])))
/-- civiltime/holiday.Range -/
def af30 : AFun := ⟨92, true, [.tmp 4, .tmp 5],
 (.seq (.region false [0, 3] [] [⟨some 3, none, false, .box (.t 1)⟩,
   ⟨some 4, none, false, .mv (.c .nilSl)⟩,
   ⟨some 5, none, false, .mv (.c (.int .i64 0))⟩])
 (.seq (.seq (.region false [0, 3, 33] [] [⟨some 14, none, false, .mv (.t 0)⟩,
   ⟨some 15, none, false, .call (.f 49) [(.t 14)]⟩,
   ⟨some 16, none, false, .un .not (.t 15)⟩,
   ⟨some 17, none, false, .mv (.t 16)⟩,
   ⟨some 18, some (17, false), false, .fldaddr 0 (.t 3)⟩,
   ⟨some 19, some (17, false), false, .load false 1 (.t 18)⟩,
   ⟨some 20, some (17, false), false, .bin .lss (.t 19) (.c (.int .i64 (-719162)))⟩,
   ⟨some 21, none, false, .pick (.t 17) (.c (.bool true)) (.t 20)⟩,
   ⟨some 22, none, false, .mv (.t 21)⟩,
   ⟨some 23, some (22, false), false, .fldaddr 0 (.t 3)⟩,
   ⟨some 24, some (22, false), false, .load false 1 (.t 23)⟩,
   ⟨some 25, some (22, false), false, .fldaddr 1 (.t 3)⟩,
   ⟨some 26, some (22, false), false, .load false 1 (.t 25)⟩,
   ⟨some 27, some (22, false), false, .bin .geq (.t 24) (.t 26)⟩,
   ⟨some 28, none, false, .pick (.t 22) (.c (.bool true)) (.t 27)⟩,
   ⟨some 29, none, false, .mv (.t 28)⟩,
   ⟨some 30, some (29, false), false, .fldaddr 1 (.t 3)⟩,
   ⟨some 31, some (29, false), false, .load false 1 (.t 30)⟩,
   ⟨some 32, some (29, false), false, .bin .gtr (.t 31) (.c (.int .i64 2932897))⟩,
   ⟨some 33, none, false, .pick (.t 29) (.c (.bool true)) (.t 32)⟩])
 (.cond (.t 33)
  (.seq (.region false [4, 5] [] [⟨some 4, none, false, .mv (.c .nilSl)⟩,
    ⟨some 5, none, false, .mv (.c (.int .i64 1))⟩])
  .ret)
  .skip))
 (.seq (.region false [0, 3, 6] [] [⟨some 35, none, false, .fldaddr 0 (.t 3)⟩,
   ⟨some 36, none, false, .load false 1 (.t 35)⟩,
   ⟨some 37, none, false, .call (.f 63) [(.t 36)]⟩,
   ⟨some 34, none, false, .mv (.t 37)⟩,
   ⟨some 38, none, false, .ext 0 (.t 34)⟩,
   ⟨some 39, none, false, .ext 1 (.t 34)⟩,
   ⟨some 6, none, false, .new [(.int .i64 0), (.int .i64 0), (.int .i64 0)]⟩,
   ⟨none, none, false, .store 3 (.t 6) (.t 38)⟩,
   ⟨some 7, none, false, .mv (.t 39)⟩])
 (.seq (.region false [0, 3, 6, 8] [] [⟨some 41, none, false, .fldaddr 1 (.t 3)⟩,
   ⟨some 42, none, false, .load false 1 (.t 41)⟩,
   ⟨some 43, none, false, .bin .sub (.t 42) (.c (.int .i64 1))⟩,
   ⟨some 44, none, false, .call (.f 63) [(.t 43)]⟩,
   ⟨some 40, none, false, .mv (.t 44)⟩,
   ⟨some 45, none, false, .ext 0 (.t 40)⟩,
   ⟨some 46, none, false, .ext 1 (.t 40)⟩,
   ⟨some 8, none, false, .new [(.int .i64 0), (.int .i64 0), (.int .i64 0)]⟩,
   ⟨none, none, false, .store 3 (.t 8) (.t 45)⟩,
   ⟨some 9, none, false, .mv (.t 46)⟩])
 (.seq (.region false [0, 3, 6, 8, 10] [] [⟨some 10, none, false, .mv (.c .nilSl)⟩])
 (.seq (.seq (.region false [0, 3, 8, 10, 11] [] [⟨some 47, none, false, .fldaddr 0 (.t 6)⟩,
   ⟨some 48, none, false, .load false 1 (.t 47)⟩,
   ⟨some 49, none, false, .bin .sub (.t 48) (.c (.int .i64 1))⟩,
   ⟨some 50, none, false, .bi .max [(.c (.int .i64 1)), (.t 49)]⟩,
   ⟨some 11, none, false, .mv (.t 50)⟩])
 (.block 0 af30L1))
 (.seq (.region false [10] [] [⟨some 84, none, false, .mv (.t 10)⟩,
   ⟨some 85, none, false, .call (.f 64) [(.t 84), (.f 65)]⟩])
 (.seq (.region false [10] [] [⟨some 86, none, false, .mv (.t 10)⟩,
   ⟨some 87, none, false, .call (.f 66) [(.t 86)]⟩,
   ⟨some 10, none, false, .mv (.t 87)⟩])
 (.seq (.seq (.region false [10, 90] [] [⟨some 88, none, false, .mv (.t 10)⟩,
   ⟨some 89, none, false, .bi (.len 1) [(.t 88)]⟩,
   ⟨some 90, none, false, .bin .gtr (.t 89) (.c (.int .i64 1000))⟩])
 (.cond (.t 90)
  (.seq (.region false [4, 5] [] [⟨some 4, none, false, .mv (.c .nilSl)⟩,
    ⟨some 5, none, false, .mv (.c (.int .i64 5))⟩])
  .ret)
  .skip))
 (.seq (.region false [4, 5] [] [⟨some 91, none, false, .mv (.t 10)⟩,
   ⟨some 4, none, false, .mv (.t 91)⟩,
   ⟨some 5, none, false, .mv (.c (.int .i64 0))⟩])
 .ret))))))))))⟩
/-- civiltime/civiltimeref28.Range -/
def af31 : AFun := ⟨31, true, [.tmp 4],
 (.seq (.region false [0, 3] [] [⟨some 3, none, false, .box (.t 1)⟩,
   ⟨some 4, none, false, .mv (.c .nilSl)⟩])
 (.seq (.region false [0, 3, 5] [] [⟨some 10, none, false, .fldaddr 0 (.t 3)⟩,
   ⟨some 11, none, false, .load false 1 (.t 10)⟩,
   ⟨some 12, none, false, .call (.f 67) [(.t 11)]⟩,
   ⟨some 9, none, false, .mv (.t 12)⟩,
   ⟨some 13, none, false, .ext 0 (.t 9)⟩,
   ⟨some 14, none, false, .ext 1 (.t 9)⟩,
   ⟨some 5, none, false, .new [(.int .i64 0), (.int .i64 0), (.int .i64 0)]⟩,
   ⟨none, none, false, .store 3 (.t 5) (.t 13)⟩,
   ⟨some 6, none, false, .mv (.t 14)⟩])
 (.seq (.region false [0, 3, 5, 7] [] [⟨some 16, none, false, .fldaddr 1 (.t 3)⟩,
   ⟨some 17, none, false, .load false 1 (.t 16)⟩,
   ⟨some 18, none, false, .bin .sub (.t 17) (.c (.int .i64 1))⟩,
   ⟨some 19, none, false, .call (.f 67) [(.t 18)]⟩,
   ⟨some 15, none, false, .mv (.t 19)⟩,
   ⟨some 20, none, false, .ext 0 (.t 15)⟩,
   ⟨some 21, none, false, .ext 1 (.t 15)⟩,
   ⟨some 7, none, false, .new [(.int .i64 0), (.int .i64 0), (.int .i64 0)]⟩,
   ⟨none, none, false, .store 3 (.t 7) (.t 20)⟩,
   ⟨some 8, none, false, .mv (.t 21)⟩])
 (.seq (.region false [4] [] [⟨some 22, none, false, .mv (.t 0)⟩,
   ⟨some 23, none, false, .fldaddr 0 (.t 5)⟩,
   ⟨some 24, none, false, .load false 1 (.t 23)⟩,
   ⟨some 25, none, false, .bin .sub (.t 24) (.c (.int .i64 1))⟩,
   ⟨some 26, none, false, .fldaddr 0 (.t 7)⟩,
   ⟨some 27, none, false, .load false 1 (.t 26)⟩,
   ⟨some 28, none, false, .bin .add (.t 27) (.c (.int .i64 1))⟩,
   ⟨some 29, none, false, .load true 2 (.t 3)⟩,
   ⟨some 30, none, false, .call (.f 23) [(.t 22), (.t 25), (.t 28), (.t 29)]⟩,
   ⟨some 4, none, false, .mv (.t 30)⟩])
 .ret))))⟩
def af43L0 : ACode := .loop [0, 19, 20]
 (.seq (.region false [0, 19, 20, 21] [] [⟨some 21, none, false, .bin .lss (.t 20) (.t 19)⟩])
 (.seq (.cond (.t 21)
  .skip
  (.exit 0))
 (.seq (.block 1 (.seq (.region false [0, 3, 19, 20] [] [⟨some 22, none, false, .mv (.t 20)⟩,
    ⟨some 3, none, false, .mv (.t 22)⟩])
  (.seq (.region false [0, 19, 20, 41] [] [⟨some 23, none, false, .mv (.t 0)⟩,
    ⟨some 24, none, false, .mv (.t 3)⟩,
    ⟨some 25, none, false, .sidx (.t 23) (.t 24)⟩,
    ⟨some 26, none, false, .call (.f 88) [(.t 25)]⟩,
    ⟨some 27, none, false, .un .not (.t 26)⟩,
    ⟨some 28, none, false, .mv (.t 27)⟩,
    ⟨some 29, some (28, true), false, .mv (.t 0)⟩,
    ⟨some 30, some (28, true), false, .mv (.t 3)⟩,
    ⟨some 31, some (28, true), false, .sidx (.t 29) (.t 30)⟩,
    ⟨some 32, some (28, true), false, .call (.f 89) [(.t 31)]⟩,
    ⟨some 33, some (28, true), false, .un .not (.t 32)⟩,
    ⟨some 34, none, false, .pick (.t 28) (.t 33) (.c (.bool false))⟩,
    ⟨some 35, none, false, .mv (.t 34)⟩,
    ⟨some 36, some (35, true), false, .mv (.t 0)⟩,
    ⟨some 37, some (35, true), false, .mv (.t 3)⟩,
    ⟨some 38, some (35, true), false, .sidx (.t 36) (.t 37)⟩,
    ⟨some 39, some (35, true), false, .call (.f 90) [(.c (.str [95, 47, 43, 45])), (.t 38)]⟩,
    ⟨some 40, some (35, true), false, .bin .lss (.t 39) (.c (.int .i64 0))⟩,
    ⟨some 41, none, false, .pick (.t 35) (.t 40) (.c (.bool false))⟩])
  (.cond (.t 41)
   (.seq (.region false [2] [] [⟨some 2, none, false, .mv (.c (.bool false))⟩])
   .ret)
   .skip))))
 (.region false [0, 19, 20] [] [⟨some 42, none, false, .bin .add (.t 20) (.c (.int .i64 1))⟩,
   ⟨some 20, none, false, .mv (.t 42)⟩]))))
/-- civiltime/zonelex.Name -/
def af43 : AFun := ⟨43, true, [.tmp 2],
 (.seq (.region false [0] [] [⟨some 2, none, false, .mv (.c (.bool false))⟩])
 (.seq (.seq (.region false [0, 17] [] [⟨some 4, none, false, .mv (.t 0)⟩,
   ⟨some 5, none, false, .bi (.len 0) [(.t 4)]⟩,
   ⟨some 6, none, false, .bin .lss (.t 5) (.c (.int .i64 1))⟩,
   ⟨some 7, none, false, .mv (.t 6)⟩,
   ⟨some 8, some (7, false), false, .mv (.t 0)⟩,
   ⟨some 9, some (7, false), false, .bi (.len 0) [(.t 8)]⟩,
   ⟨some 10, some (7, false), false, .bin .gtr (.t 9) (.c (.int .i64 30))⟩,
   ⟨some 11, none, false, .pick (.t 7) (.c (.bool true)) (.t 10)⟩,
   ⟨some 12, none, false, .mv (.t 11)⟩,
   ⟨some 13, some (12, false), false, .mv (.t 0)⟩,
   ⟨some 14, some (12, false), false, .sidx (.t 13) (.c (.int .i64 0))⟩,
   ⟨some 15, some (12, false), false, .call (.f 88) [(.t 14)]⟩,
   ⟨some 16, some (12, false), false, .un .not (.t 15)⟩,
   ⟨some 17, none, false, .pick (.t 12) (.c (.bool true)) (.t 16)⟩])
 (.cond (.t 17)
  (.seq (.region false [2] [] [⟨some 2, none, false, .mv (.c (.bool false))⟩])
  .ret)
  .skip))
 (.seq (.seq (.region false [0, 19, 20] [] [⟨some 18, none, false, .mv (.t 0)⟩,
   ⟨some 19, none, false, .bi (.len 0) [(.t 18)]⟩,
   ⟨some 20, none, false, .mv (.c (.int .i64 0))⟩])
 (.block 0 af43L0))
 (.seq (.region false [2] [] [⟨some 2, none, false, .mv (.c (.bool true))⟩])
 .ret))))⟩
/-- civiltime/holiday.within -/
def af44 : AFun := ⟨15, true, [.tmp 6],
 (.seq (.region false [0, 1, 2] [] [⟨some 6, none, false, .mv (.c (.bool false))⟩])
 (.seq (.region false [6] [] [⟨some 7, none, false, .mv (.t 0)⟩,
   ⟨some 8, none, false, .mv (.t 1)⟩,
   ⟨some 9, none, false, .bin .geq (.t 7) (.t 8)⟩,
   ⟨some 10, none, false, .mv (.t 9)⟩,
   ⟨some 11, some (10, true), false, .mv (.t 0)⟩,
   ⟨some 12, some (10, true), false, .mv (.t 2)⟩,
   ⟨some 13, some (10, true), false, .bin .leq (.t 11) (.t 12)⟩,
   ⟨some 14, none, false, .pick (.t 10) (.t 13) (.c (.bool false))⟩,
   ⟨some 6, none, false, .mv (.t 14)⟩])
 .ret))⟩
/-- civiltime/civil.Length -/
def af45 : AFun := ⟨26, true, [.tmp 4],
 (.seq (.region false [0, 1] [] [⟨some 4, none, false, .mv (.c (.int .i64 0))⟩])
 (.seq (.seq (.region false [0, 1, 15] [] [⟨some 5, none, false, .mv (.t 0)⟩,
   ⟨some 6, none, false, .call (.f 91) [(.t 5)]⟩,
   ⟨some 7, none, false, .un .not (.t 6)⟩,
   ⟨some 8, none, false, .mv (.t 7)⟩,
   ⟨some 9, some (8, false), false, .mv (.t 1)⟩,
   ⟨some 10, some (8, false), false, .bin .lss (.t 9) (.c (.int .i64 1))⟩,
   ⟨some 11, none, false, .pick (.t 8) (.c (.bool true)) (.t 10)⟩,
   ⟨some 12, none, false, .mv (.t 11)⟩,
   ⟨some 13, some (12, false), false, .mv (.t 1)⟩,
   ⟨some 14, some (12, false), false, .bin .gtr (.t 13) (.c (.int .i64 12))⟩,
   ⟨some 15, none, false, .pick (.t 12) (.c (.bool true)) (.t 14)⟩])
 (.cond (.t 15)
  (.seq (.region false [4] [] [⟨some 4, none, false, .mv (.c (.int .i64 0))⟩])
  .ret)
  .skip))
 (.seq (.seq (.region false [1, 21] [] [⟨some 16, none, false, .mv (.t 1)⟩,
   ⟨some 17, none, false, .bin .eql (.t 16) (.c (.int .i64 2))⟩,
   ⟨some 18, none, false, .mv (.t 17)⟩,
   ⟨some 19, some (18, true), false, .mv (.t 0)⟩,
   ⟨some 20, some (18, true), false, .call (.f 92) [(.t 19)]⟩,
   ⟨some 21, none, false, .pick (.t 18) (.t 20) (.c (.bool false))⟩])
 (.cond (.t 21)
  (.seq (.region false [4] [] [⟨some 4, none, false, .mv (.c (.int .i64 29))⟩])
  .ret)
  .skip))
 (.seq (.region false [4] [] [⟨some 22, none, false, .build [(.int .i64 0), (.int .i64 0), (.int .i64 0), (.int .i64 0), (.int .i64 0), (.int .i64 0), (.int .i64 0), (.int .i64 0), (.int .i64 0), (.int .i64 0), (.int .i64 0), (.int .i64 0)] [(0, 1, (.c (.int .i64 31))), (1, 1, (.c (.int .i64 28))), (2, 1, (.c (.int .i64 31))), (3, 1, (.c (.int .i64 30))), (4, 1, (.c (.int .i64 31))), (5, 1, (.c (.int .i64 30))), (6, 1, (.c (.int .i64 31))), (7, 1, (.c (.int .i64 31))), (8, 1, (.c (.int .i64 30))), (9, 1, (.c (.int .i64 31))), (10, 1, (.c (.int .i64 30))), (11, 1, (.c (.int .i64 31)))]⟩,
   ⟨some 23, none, false, .mv (.t 1)⟩,
   ⟨some 24, none, false, .bin .sub (.t 23) (.c (.int .i64 1))⟩,
   ⟨some 25, none, false, .idx 12 false 1 (.t 22) (.t 24)⟩,
   ⟨some 4, none, false, .mv (.t 25)⟩])
 .ret))))⟩
def af46L0 : ACode := .loop [0, 3]
 (.seq (.seq (.region false [0, 3, 21] [] [⟨some 18, none, false, .mv (.t 3)⟩,
   ⟨some 19, none, false, .mv (.t 0)⟩,
   ⟨some 20, none, false, .bi (.len 0) [(.t 19)]⟩,
   ⟨some 21, none, false, .bin .lss (.t 18) (.t 20)⟩])
 (.cond (.t 21)
  .skip
  (.exit 0)))
 (.seq (.block 1 (.seq (.region false [0, 3, 59] [] [⟨some 24, none, false, .mv (.t 0)⟩,
    ⟨some 25, none, false, .mv (.t 3)⟩,
    ⟨some 26, none, false, .sidx (.t 24) (.t 25)⟩,
    ⟨some 27, none, false, .call (.f 93) [(.t 26)]⟩,
    ⟨some 28, none, false, .un .not (.t 27)⟩,
    ⟨some 29, none, false, .mv (.t 28)⟩,
    ⟨some 30, some (29, true), false, .mv (.t 0)⟩,
    ⟨some 31, some (29, true), false, .mv (.t 3)⟩,
    ⟨some 32, some (29, true), false, .sidx (.t 30) (.t 31)⟩,
    ⟨some 33, some (29, true), false, .call (.f 94) [(.t 32)]⟩,
    ⟨some 34, some (29, true), false, .un .not (.t 33)⟩,
    ⟨some 35, none, false, .pick (.t 29) (.t 34) (.c (.bool false))⟩,
    ⟨some 36, none, false, .mv (.t 35)⟩,
    ⟨some 37, some (36, true), false, .mv (.t 0)⟩,
    ⟨some 38, some (36, true), false, .mv (.t 3)⟩,
    ⟨some 39, some (36, true), false, .sidx (.t 37) (.t 38)⟩,
    ⟨some 40, some (36, true), false, .bin .neq (.t 39) (.c (.int .u8 95))⟩,
    ⟨some 41, none, false, .pick (.t 36) (.t 40) (.c (.bool false))⟩,
    ⟨some 42, none, false, .mv (.t 41)⟩,
    ⟨some 43, some (42, true), false, .mv (.t 0)⟩,
    ⟨some 44, some (42, true), false, .mv (.t 3)⟩,
    ⟨some 45, some (42, true), false, .sidx (.t 43) (.t 44)⟩,
    ⟨some 46, some (42, true), false, .bin .neq (.t 45) (.c (.int .u8 47))⟩,
    ⟨some 47, none, false, .pick (.t 42) (.t 46) (.c (.bool false))⟩,
    ⟨some 48, none, false, .mv (.t 47)⟩,
    ⟨some 49, some (48, true), false, .mv (.t 0)⟩,
    ⟨some 50, some (48, true), false, .mv (.t 3)⟩,
    ⟨some 51, some (48, true), false, .sidx (.t 49) (.t 50)⟩,
    ⟨some 52, some (48, true), false, .bin .neq (.t 51) (.c (.int .u8 43))⟩,
    ⟨some 53, none, false, .pick (.t 48) (.t 52) (.c (.bool false))⟩,
    ⟨some 54, none, false, .mv (.t 53)⟩,
    ⟨some 55, some (54, true), false, .mv (.t 0)⟩,
    ⟨some 56, some (54, true), false, .mv (.t 3)⟩,
    ⟨some 57, some (54, true), false, .sidx (.t 55) (.t 56)⟩,
    ⟨some 58, some (54, true), false, .bin .neq (.t 57) (.c (.int .u8 45))⟩,
    ⟨some 59, none, false, .pick (.t 54) (.t 58) (.c (.bool false))⟩])
  (.cond (.t 59)
   (.seq (.region false [2] [] [⟨some 2, none, false, .mv (.c (.bool false))⟩])
   .ret)
   .skip)))
 (.region false [0, 3] [] [⟨some 22, none, false, .mv (.t 3)⟩,
   ⟨some 23, none, false, .bin .add (.t 22) (.c (.int .i64 1))⟩,
   ⟨some 3, none, false, .mv (.t 23)⟩])))
/-- civiltime/civiltimeref20.Name -/
def af46 : AFun := ⟨60, true, [.tmp 2],
 (.seq (.region false [0] [] [⟨some 2, none, false, .mv (.c (.bool false))⟩])
 (.seq (.seq (.region false [0, 17] [] [⟨some 4, none, false, .mv (.t 0)⟩,
   ⟨some 5, none, false, .bi (.len 0) [(.t 4)]⟩,
   ⟨some 6, none, false, .bin .lss (.t 5) (.c (.int .i64 1))⟩,
   ⟨some 7, none, false, .mv (.t 6)⟩,
   ⟨some 8, some (7, false), false, .mv (.t 0)⟩,
   ⟨some 9, some (7, false), false, .bi (.len 0) [(.t 8)]⟩,
   ⟨some 10, some (7, false), false, .bin .gtr (.t 9) (.c (.int .i64 30))⟩,
   ⟨some 11, none, false, .pick (.t 7) (.c (.bool true)) (.t 10)⟩,
   ⟨some 12, none, false, .mv (.t 11)⟩,
   ⟨some 13, some (12, false), false, .mv (.t 0)⟩,
   ⟨some 14, some (12, false), false, .sidx (.t 13) (.c (.int .i64 0))⟩,
   ⟨some 15, some (12, false), false, .call (.f 93) [(.t 14)]⟩,
   ⟨some 16, some (12, false), false, .un .not (.t 15)⟩,
   ⟨some 17, none, false, .pick (.t 12) (.c (.bool true)) (.t 16)⟩])
 (.cond (.t 17)
  (.seq (.region false [2] [] [⟨some 2, none, false, .mv (.c (.bool false))⟩])
  .ret)
  .skip))
 (.seq (.seq (.region false [0, 3] [] [⟨some 3, none, false, .mv (.c (.int .i64 0))⟩])
 (.block 0 af46L0))
 (.seq (.region false [2] [] [⟨some 2, none, false, .mv (.c (.bool true))⟩])
 .ret))))⟩
/-- civiltime/civiltimeref28.between -/
def af47 : AFun := ⟨15, true, [.tmp 6],
 (.seq (.region false [0, 1, 2] [] [⟨some 6, none, false, .mv (.c (.bool false))⟩])
 (.seq (.region false [6] [] [⟨some 7, none, false, .mv (.t 0)⟩,
   ⟨some 8, none, false, .mv (.t 1)⟩,
   ⟨some 9, none, false, .bin .geq (.t 7) (.t 8)⟩,
   ⟨some 10, none, false, .mv (.t 9)⟩,
   ⟨some 11, some (10, true), false, .mv (.t 0)⟩,
   ⟨some 12, some (10, true), false, .mv (.t 2)⟩,
   ⟨some 13, some (10, true), false, .bin .leq (.t 11) (.t 12)⟩,
   ⟨some 14, none, false, .pick (.t 10) (.t 13) (.c (.bool false))⟩,
   ⟨some 6, none, false, .mv (.t 14)⟩])
 .ret))⟩
/-- civiltime/civiltimeref02.Length -/
def af48 : AFun := ⟨37, true, [.tmp 4],
 (.seq (.region false [0, 1] [] [⟨some 4, none, false, .mv (.c (.int .i64 0))⟩])
 (.seq (.seq (.region false [0, 1, 18] [] [⟨some 5, none, false, .mv (.t 0)⟩,
   ⟨some 6, none, false, .bin .lss (.t 5) (.c (.int .i64 1))⟩,
   ⟨some 7, none, false, .mv (.t 6)⟩,
   ⟨some 8, some (7, false), false, .mv (.t 0)⟩,
   ⟨some 9, some (7, false), false, .bin .gtr (.t 8) (.c (.int .i64 9999))⟩,
   ⟨some 10, none, false, .pick (.t 7) (.c (.bool true)) (.t 9)⟩,
   ⟨some 11, none, false, .mv (.t 10)⟩,
   ⟨some 12, some (11, false), false, .mv (.t 1)⟩,
   ⟨some 13, some (11, false), false, .bin .lss (.t 12) (.c (.int .i64 1))⟩,
   ⟨some 14, none, false, .pick (.t 11) (.c (.bool true)) (.t 13)⟩,
   ⟨some 15, none, false, .mv (.t 14)⟩,
   ⟨some 16, some (15, false), false, .mv (.t 1)⟩,
   ⟨some 17, some (15, false), false, .bin .gtr (.t 16) (.c (.int .i64 12))⟩,
   ⟨some 18, none, false, .pick (.t 15) (.c (.bool true)) (.t 17)⟩])
 (.cond (.t 18)
  (.seq (.region false [4] [] [⟨some 4, none, false, .mv (.c (.int .i64 0))⟩])
  .ret)
  .skip))
 (.seq (.seq (.region false [0, 1, 20] [] [⟨some 19, none, false, .mv (.t 1)⟩,
   ⟨some 20, none, false, .bin .eql (.t 19) (.c (.int .i64 2))⟩])
 (.cond (.t 20)
  (.seq (.seq (.region false [22] [] [⟨some 21, none, false, .mv (.t 0)⟩,
    ⟨some 22, none, false, .call (.f 95) [(.t 21)]⟩])
  (.cond (.t 22)
   (.seq (.region false [4] [] [⟨some 4, none, false, .mv (.c (.int .i64 29))⟩])
   .ret)
   .skip))
  (.seq (.region false [4] [] [⟨some 4, none, false, .mv (.c (.int .i64 28))⟩])
  .ret))
  .skip))
 (.seq (.seq (.region false [36] [] [⟨some 23, none, false, .mv (.t 1)⟩,
   ⟨some 24, none, false, .bin .eql (.t 23) (.c (.int .i64 4))⟩,
   ⟨some 25, none, false, .mv (.t 24)⟩,
   ⟨some 26, some (25, false), false, .mv (.t 1)⟩,
   ⟨some 27, some (25, false), false, .bin .eql (.t 26) (.c (.int .i64 6))⟩,
   ⟨some 28, none, false, .pick (.t 25) (.c (.bool true)) (.t 27)⟩,
   ⟨some 29, none, false, .mv (.t 28)⟩,
   ⟨some 30, some (29, false), false, .mv (.t 1)⟩,
   ⟨some 31, some (29, false), false, .bin .eql (.t 30) (.c (.int .i64 9))⟩,
   ⟨some 32, none, false, .pick (.t 29) (.c (.bool true)) (.t 31)⟩,
   ⟨some 33, none, false, .mv (.t 32)⟩,
   ⟨some 34, some (33, false), false, .mv (.t 1)⟩,
   ⟨some 35, some (33, false), false, .bin .eql (.t 34) (.c (.int .i64 11))⟩,
   ⟨some 36, none, false, .pick (.t 33) (.c (.bool true)) (.t 35)⟩])
 (.cond (.t 36)
  (.seq (.region false [4] [] [⟨some 4, none, false, .mv (.c (.int .i64 30))⟩])
  .ret)
  .skip))
 (.seq (.region false [4] [] [⟨some 4, none, false, .mv (.c (.int .i64 31))⟩])
 .ret)))))⟩
/-- civiltime/holiday.all -/
def af49 : AFun := ⟨11, true, [.tmp 2],
 (.seq (.region false [0] [] [⟨some 2, none, false, .mv (.c (.bool false))⟩])
 (.seq (.region false [2] [] [⟨some 3, none, false, .mv (.t 0)⟩,
   ⟨some 4, none, false, .bi (.len 1) [(.t 3)]⟩,
   ⟨some 5, none, false, .bin .leq (.t 4) (.c (.int .i64 100))⟩,
   ⟨some 6, none, false, .mv (.t 5)⟩,
   ⟨some 7, some (6, true), false, .mv (.t 0)⟩,
   ⟨some 8, some (6, true), false, .call (.f 96) [(.t 7), (.f 97)]⟩,
   ⟨some 9, some (6, true), false, .un .not (.t 8)⟩,
   ⟨some 10, none, false, .pick (.t 6) (.t 9) (.c (.bool false))⟩,
   ⟨some 2, none, false, .mv (.t 10)⟩])
 .ret))⟩
def af50L0 : ACode := .loop [1, 5, 6, 7, 8, 13, 14, 15, 36, 37, 38]
 (.seq (.region false [1, 5, 6, 7, 8, 13, 14, 15, 36, 37, 38, 39] [] [⟨some 39, none, false, .bin .lss (.t 38) (.t 37)⟩])
 (.seq (.cond (.t 39)
  .skip
  (.exit 2))
 (.seq (.block 3 (.seq (.region false [1, 5, 6, 7, 8, 10, 13, 14, 15, 36, 37, 38] [] [⟨some 40, none, false, .idxaddr none 1 (.t 36) (.t 38)⟩,
    ⟨some 41, none, false, .load false 1 (.t 40)⟩,
    ⟨some 10, none, false, .mv (.t 41)⟩])
  (.seq (.region false [1, 5, 6, 7, 8, 11, 13, 14, 15, 36, 37, 38] [] [⟨some 42, none, false, .mv (.t 10)⟩,
    ⟨some 43, none, false, .fldaddr 9 (.t 8)⟩,
    ⟨some 44, none, false, .load false 1 (.t 43)⟩,
    ⟨some 45, none, false, .call (.f 99) [(.t 42), (.t 44)]⟩,
    ⟨some 11, none, false, .mv (.t 45)⟩])
  (.seq (.region false [1, 5, 6, 7, 8, 11, 13, 14, 15, 36, 37, 38, 51] [] [⟨some 46, none, false, .mv (.t 11)⟩,
    ⟨some 47, none, false, .bin .geq (.t 46) (.c (.int .i64 (-719162)))⟩,
    ⟨some 48, none, false, .mv (.t 47)⟩,
    ⟨some 49, some (48, true), false, .mv (.t 11)⟩,
    ⟨some 50, some (48, true), false, .bin .lss (.t 49) (.c (.int .i64 2932897))⟩,
    ⟨some 51, none, false, .pick (.t 48) (.t 50) (.c (.bool false))⟩])
  (.cond (.t 51)
   (.region false [1, 5, 6, 7, 8, 13, 14, 15, 36, 37, 38] [] [⟨some 52, none, false, .mv (.t 5)⟩,
     ⟨some 53, none, false, .mv (.t 11)⟩,
     ⟨some 54, none, false, .mv (.t 7)⟩,
     ⟨some 55, none, false, .build [(.int .i64 0), (.int .i64 0)] [(0, 1, (.t 53)), (1, 1, (.t 54))]⟩,
     ⟨some 56, none, false, .bslice [(.int .i64 0), (.int .i64 0)] [(0, 2, (.t 55))] 1 2⟩,
     ⟨some 57, none, false, .bi (.append 2 16) [(.t 52), (.t 56)]⟩,
     ⟨some 5, none, false, .mv (.t 57)⟩])
   .skip)))))
 (.region false [1, 5, 6, 7, 8, 13, 14, 15, 36, 37, 38] [] [⟨some 58, none, false, .bin .add (.t 38) (.c (.int .i64 1))⟩,
   ⟨some 38, none, false, .mv (.t 58)⟩]))))
def af50L1 : ACode := .loop [1, 5, 6, 13, 14, 15]
 (.seq (.region false [1, 5, 6, 13, 14, 15, 16] [] [⟨some 16, none, false, .bin .lss (.t 15) (.t 14)⟩])
 (.seq (.cond (.t 16)
  .skip
  (.exit 0))
 (.seq (.block 1 (.seq (.region false [1, 5, 6, 7, 8, 13, 14, 15] [] [⟨some 17, none, false, .mv (.t 15)⟩,
    ⟨some 18, none, false, .idxaddr none 10 (.t 13) (.t 15)⟩,
    ⟨some 19, none, false, .load true 10 (.t 18)⟩,
    ⟨some 8, none, false, .new [(.str []), (.int .i64 0), (.int .i64 0), (.int .i64 0), (.int .i64 0), (.int .i64 0), (.int .i64 0), (.int .i64 0), (.int .i64 0), (.int .i64 0)]⟩,
    ⟨some 7, none, false, .mv (.t 17)⟩,
    ⟨none, none, false, .store 10 (.t 8) (.t 19)⟩])
  (.seq (.seq (.region false [1, 5, 6, 7, 8, 13, 14, 15, 29] [] [⟨some 20, none, false, .mv (.t 1)⟩,
    ⟨some 21, none, false, .fldaddr 7 (.t 8)⟩,
    ⟨some 22, none, false, .load false 1 (.t 21)⟩,
    ⟨some 23, none, false, .bin .lss (.t 20) (.t 22)⟩,
    ⟨some 24, none, false, .mv (.t 23)⟩,
    ⟨some 25, some (24, false), false, .mv (.t 1)⟩,
    ⟨some 26, some (24, false), false, .fldaddr 8 (.t 8)⟩,
    ⟨some 27, some (24, false), false, .load false 1 (.t 26)⟩,
    ⟨some 28, some (24, false), false, .bin .gtr (.t 25) (.t 27)⟩,
    ⟨some 29, none, false, .pick (.t 24) (.c (.bool true)) (.t 28)⟩])
  (.cond (.t 29)
   (.exit 1)
   .skip))
  (.seq (.region false [1, 5, 6, 7, 8, 13, 14, 15, 36, 37, 38] [] [⟨some 30, none, false, .mv (.t 6)⟩,
    ⟨some 31, none, false, .fldaddr 1 (.t 8)⟩,
    ⟨some 32, none, false, .load false 1 (.t 31)⟩,
    ⟨some 33, none, false, .lookup false .nilFn false (.t 30) (.t 32)⟩,
    ⟨some 34, none, false, .load true 10 (.t 8)⟩,
    ⟨some 35, none, false, .mv (.t 1)⟩,
    ⟨some 36, none, false, .call (.t 33) [(.t 34), (.t 35)]⟩,
    ⟨some 37, none, false, .bi (.len 1) [(.t 36)]⟩,
    ⟨some 38, none, false, .mv (.c (.int .i64 0))⟩])
  (.block 2 af50L0)))))
 (.region false [1, 5, 6, 13, 14, 15] [] [⟨some 59, none, false, .bin .add (.t 15) (.c (.int .i64 1))⟩,
   ⟨some 15, none, false, .mv (.t 59)⟩]))))
/-- civiltime/holiday.year -/
def af50 : AFun := ⟨64, true, [.tmp 4],
 (.seq (.region false [0, 1] [] [⟨some 4, none, false, .mv (.c .nilSl)⟩])
 (.seq (.region false [0, 1, 5] [] [⟨some 5, none, false, .mv (.c .nilSl)⟩])
 (.seq (.region false [0, 1, 5, 6] [] [⟨some 12, none, false, .call (.f 98) []⟩,
   ⟨some 6, none, false, .mv (.t 12)⟩])
 (.seq (.seq (.region false [1, 5, 6, 13, 14, 15] [] [⟨some 13, none, false, .mv (.t 0)⟩,
   ⟨some 14, none, false, .bi (.len 1) [(.t 13)]⟩,
   ⟨some 15, none, false, .mv (.c (.int .i64 0))⟩])
 (.block 0 af50L1))
 (.seq (.region false [5] [] [⟨some 60, none, false, .mv (.t 5)⟩,
   ⟨some 61, none, false, .call (.f 64) [(.t 60), (.f 65)]⟩])
 (.seq (.region false [4] [] [⟨some 62, none, false, .mv (.t 5)⟩,
   ⟨some 63, none, false, .call (.f 66) [(.t 62)]⟩,
   ⟨some 4, none, false, .mv (.t 63)⟩])
 .ret))))))⟩
/-- civiltime/civil.inside -/
def af51 : AFun := ⟨9, true, [.tmp 2],
 (.seq (.region false [0] [] [⟨some 2, none, false, .mv (.c (.bool false))⟩])
 (.seq (.region false [2] [] [⟨some 3, none, false, .mv (.t 0)⟩,
   ⟨some 4, none, false, .bin .geq (.t 3) (.c (.int .i64 (-719162)))⟩,
   ⟨some 5, none, false, .mv (.t 4)⟩,
   ⟨some 6, some (5, true), false, .mv (.t 0)⟩,
   ⟨some 7, some (5, true), false, .bin .lss (.t 6) (.c (.int .i64 2932897))⟩,
   ⟨some 8, none, false, .pick (.t 5) (.t 7) (.c (.bool false))⟩,
   ⟨some 2, none, false, .mv (.t 8)⟩])
 .ret))⟩
/-- civiltime/integer.Mod -/
def af52 : AFun := ⟨16, true, [.tmp 4],
 (.seq (.region false [0, 1] [] [⟨some 4, none, false, .mv (.c (.int .i64 0))⟩])
 (.seq (.region false [6] [] [⟨some 9, none, false, .mv (.t 0)⟩,
   ⟨some 10, none, false, .mv (.t 1)⟩,
   ⟨some 11, none, false, .call (.f 100) [(.t 9), (.t 10)]⟩,
   ⟨some 8, none, false, .mv (.t 11)⟩,
   ⟨some 12, none, false, .ext 0 (.t 8)⟩,
   ⟨some 13, none, false, .ext 1 (.t 8)⟩,
   ⟨some 14, none, false, .ext 2 (.t 8)⟩,
   ⟨some 5, none, false, .mv (.t 12)⟩,
   ⟨some 6, none, false, .mv (.t 13)⟩,
   ⟨some 7, none, false, .mv (.t 14)⟩])
 (.seq (.region false [4] [] [⟨some 15, none, false, .mv (.t 6)⟩,
   ⟨some 4, none, false, .mv (.t 15)⟩])
 .ret)))⟩
/-- civiltime/civil.Valid -/
def af53 : AFun := ⟨16, true, [.tmp 2],
 (.seq (.region false [1] [] [⟨some 1, none, false, .box (.t 0)⟩,
   ⟨some 2, none, false, .mv (.c (.bool false))⟩])
 (.seq (.region true [2] [] [⟨some 3, none, false, .fldaddr 2 (.t 1)⟩,
   ⟨some 4, none, false, .load false 1 (.t 3)⟩,
   ⟨some 5, none, false, .bin .geq (.t 4) (.c (.int .i64 1))⟩,
   ⟨some 6, none, false, .mv (.t 5)⟩,
   ⟨some 7, some (6, true), false, .fldaddr 2 (.t 1)⟩,
   ⟨some 8, some (6, true), false, .load false 1 (.t 7)⟩,
   ⟨some 9, some (6, true), false, .fldaddr 0 (.t 1)⟩,
   ⟨some 10, some (6, true), false, .load false 1 (.t 9)⟩,
   ⟨some 11, some (6, true), false, .fldaddr 1 (.t 1)⟩,
   ⟨some 12, some (6, true), false, .load false 1 (.t 11)⟩,
   ⟨some 13, some (6, true), true, .call (.f 45) [(.t 10), (.t 12)]⟩,
   ⟨some 14, some (6, true), false, .bin .leq (.t 8) (.t 13)⟩,
   ⟨some 15, none, false, .pick (.t 6) (.t 14) (.c (.bool false))⟩,
   ⟨some 2, none, false, .mv (.t 15)⟩])
 .ret))⟩
/-- civiltime/civil.count -/
def af54 : AFun := ⟨34, true, [.tmp 6],
 (.seq (.region false [0, 1, 2] [] [⟨some 6, none, false, .mv (.c (.int .i64 0))⟩])
 (.seq (.seq (.region false [0, 1, 2, 8] [] [⟨some 7, none, false, .mv (.t 1)⟩,
   ⟨some 8, none, false, .bin .leq (.t 7) (.c (.int .i64 2))⟩])
 (.cond (.t 8)
  (.region false [0, 1, 2] [] [⟨some 9, none, false, .mv (.t 0)⟩,
    ⟨some 10, none, false, .bin .sub (.t 9) (.c (.int .i64 1))⟩,
    ⟨some 11, none, false, .mv (.t 1)⟩,
    ⟨some 12, none, false, .bin .add (.t 11) (.c (.int .i64 12))⟩,
    ⟨some 0, none, false, .mv (.t 10)⟩,
    ⟨some 1, none, false, .mv (.t 12)⟩])
  .skip))
 (.seq (.region false [6] [] [⟨some 13, none, false, .mv (.t 0)⟩,
   ⟨some 14, none, false, .bin .mul (.c (.int .i64 365)) (.t 13)⟩,
   ⟨some 15, none, false, .mv (.t 0)⟩,
   ⟨some 16, none, false, .bin .quo (.t 15) (.c (.int .i64 4))⟩,
   ⟨some 17, none, false, .bin .add (.t 14) (.t 16)⟩,
   ⟨some 18, none, false, .mv (.t 0)⟩,
   ⟨some 19, none, false, .bin .quo (.t 18) (.c (.int .i64 100))⟩,
   ⟨some 20, none, false, .bin .sub (.t 17) (.t 19)⟩,
   ⟨some 21, none, false, .mv (.t 0)⟩,
   ⟨some 22, none, false, .bin .quo (.t 21) (.c (.int .i64 400))⟩,
   ⟨some 23, none, false, .bin .add (.t 20) (.t 22)⟩,
   ⟨some 24, none, false, .mv (.t 1)⟩,
   ⟨some 25, none, false, .bin .sub (.t 24) (.c (.int .i64 3))⟩,
   ⟨some 26, none, false, .bin .mul (.c (.int .i64 153)) (.t 25)⟩,
   ⟨some 27, none, false, .bin .add (.t 26) (.c (.int .i64 2))⟩,
   ⟨some 28, none, false, .bin .quo (.t 27) (.c (.int .i64 5))⟩,
   ⟨some 29, none, false, .bin .add (.t 23) (.t 28)⟩,
   ⟨some 30, none, false, .mv (.t 2)⟩,
   ⟨some 31, none, false, .bin .add (.t 29) (.t 30)⟩,
   ⟨some 32, none, false, .bin .sub (.t 31) (.c (.int .i64 307))⟩,
   ⟨some 33, none, false, .bin .add (.t 32) (.c (.int .i64 (-719162)))⟩,
   ⟨some 6, none, false, .mv (.t 33)⟩])
 .ret)))⟩
/-- civiltime/feast.Easter -/
def af55 : AFun := ⟨47, true, [.tmp 2, .tmp 3],
 (.seq (.region false [0] [] [⟨some 2, none, false, .mv (.c (.int .i64 0))⟩,
   ⟨some 3, none, false, .mv (.c (.int .i64 0))⟩])
 (.seq (.seq (.region false [0, 11] [] [⟨some 9, none, false, .mv (.t 0)⟩,
   ⟨some 10, none, false, .call (.f 101) [(.t 9)]⟩,
   ⟨some 11, none, false, .un .not (.t 10)⟩])
 (.cond (.t 11)
  (.seq (.region false [2, 3] [] [⟨some 2, none, false, .mv (.c (.int .i64 0))⟩,
    ⟨some 3, none, false, .mv (.c (.int .i64 2))⟩])
  .ret)
  .skip))
 (.seq (.region false [0, 4, 5] [] [⟨some 12, none, false, .mv (.t 0)⟩,
   ⟨some 13, none, false, .call (.f 102) [(.t 12)]⟩,
   ⟨some 14, none, false, .mv (.t 0)⟩,
   ⟨some 15, none, false, .call (.f 103) [(.t 14)]⟩,
   ⟨some 4, none, false, .mv (.t 13)⟩,
   ⟨some 5, none, false, .mv (.t 15)⟩])
 (.seq (.seq (.region false [0, 4, 25] [] [⟨some 16, none, false, .mv (.t 4)⟩,
   ⟨some 17, none, false, .bin .eql (.t 16) (.c (.int .i64 24))⟩,
   ⟨some 18, none, false, .mv (.t 17)⟩,
   ⟨some 19, some (18, false), false, .mv (.t 4)⟩,
   ⟨some 20, some (18, false), false, .bin .eql (.t 19) (.c (.int .i64 25))⟩,
   ⟨some 21, some (18, false), false, .mv (.t 20)⟩,
   ⟨some 22, some (21, true), false, .mv (.t 5)⟩,
   ⟨some 23, some (21, true), false, .bin .gtr (.t 22) (.c (.int .i64 11))⟩,
   ⟨some 24, some (18, false), false, .pick (.t 21) (.t 23) (.c (.bool false))⟩,
   ⟨some 25, none, false, .pick (.t 18) (.c (.bool true)) (.t 24)⟩])
 (.cond (.t 25)
  (.region false [0, 4] [] [⟨some 26, none, false, .mv (.t 4)⟩,
    ⟨some 27, none, false, .bin .add (.t 26) (.c (.int .i64 1))⟩,
    ⟨some 4, none, false, .mv (.t 27)⟩])
  .skip))
 (.seq (.region false [0, 6] [] [⟨some 28, none, false, .mv (.t 4)⟩,
   ⟨some 29, none, false, .bin .sub (.c (.int .i64 44)) (.t 28)⟩,
   ⟨some 6, none, false, .mv (.t 29)⟩])
 (.seq (.seq (.region false [0, 6, 31] [] [⟨some 30, none, false, .mv (.t 6)⟩,
   ⟨some 31, none, false, .bin .lss (.t 30) (.c (.int .i64 21))⟩])
 (.cond (.t 31)
  (.region false [0, 6] [] [⟨some 32, none, false, .mv (.t 6)⟩,
    ⟨some 33, none, false, .bin .add (.t 32) (.c (.int .i64 30))⟩,
    ⟨some 6, none, false, .mv (.t 33)⟩])
  .skip))
 (.seq (.region false [6, 7, 8] [] [⟨some 35, none, false, .mv (.t 0)⟩,
   ⟨some 36, none, false, .build [(.int .i64 0), (.int .i64 0), (.int .i64 0)] [(0, 1, (.t 35)), (1, 1, (.c (.int .i64 3))), (2, 1, (.c (.int .i64 1)))]⟩,
   ⟨some 37, none, false, .call (.f 19) [(.t 36)]⟩,
   ⟨some 34, none, false, .mv (.t 37)⟩,
   ⟨some 38, none, false, .ext 0 (.t 34)⟩,
   ⟨some 39, none, false, .ext 1 (.t 34)⟩,
   ⟨some 7, none, false, .mv (.t 38)⟩,
   ⟨some 8, none, false, .mv (.t 39)⟩])
 (.seq (.seq (.region false [6, 7, 41] [] [⟨some 40, none, false, .mv (.t 8)⟩,
   ⟨some 41, none, false, .bin .neq (.t 40) (.c (.int .i64 0))⟩])
 (.cond (.t 41)
  (.seq (.region false [2, 3] [] [⟨some 2, none, false, .mv (.c (.int .i64 0))⟩,
    ⟨some 3, none, false, .mv (.c (.int .i64 2))⟩])
  .ret)
  .skip))
 (.seq (.region false [2, 3] [] [⟨some 42, none, false, .mv (.t 7)⟩,
   ⟨some 43, none, false, .mv (.t 6)⟩,
   ⟨some 44, none, false, .bin .add (.t 42) (.t 43)⟩,
   ⟨some 45, none, false, .bin .sub (.t 44) (.c (.int .i64 1))⟩,
   ⟨some 46, none, false, .call (.f 104) [(.t 45)]⟩,
   ⟨some 2, none, false, .mv (.t 46)⟩,
   ⟨some 3, none, false, .mv (.c (.int .i64 0))⟩])
 .ret)))))))))⟩
def af56L0 : ACode := .loop [1, 2, 11, 12]
 (.seq (.seq (.region false [1, 2, 11, 12, 93] [] [⟨some 90, none, false, .mv (.t 12)⟩,
   ⟨some 91, none, false, .mv (.t 1)⟩,
   ⟨some 92, none, false, .bin .add (.t 91) (.c (.int .i64 3762))⟩,
   ⟨some 93, none, false, .bin .leq (.t 90) (.t 92)⟩])
 (.cond (.t 93)
  .skip
  (.exit 1)))
 (.seq (.block 2 (.seq (.region false [1, 2, 11, 12, 13, 14] [] [⟨some 97, none, false, .mv (.t 12)⟩,
    ⟨some 98, none, false, .fldaddr 2 (.t 2)⟩,
    ⟨some 99, none, false, .load false 1 (.t 98)⟩,
    ⟨some 100, none, false, .fldaddr 3 (.t 2)⟩,
    ⟨some 101, none, false, .load false 1 (.t 100)⟩,
    ⟨some 102, none, false, .build [(.int .i64 0), (.int .i64 0), (.int .i64 0)] [(0, 1, (.t 97)), (1, 1, (.t 99)), (2, 1, (.t 101))]⟩,
    ⟨some 103, none, false, .call (.f 109) [(.t 102)]⟩,
    ⟨some 96, none, false, .mv (.t 103)⟩,
    ⟨some 104, none, false, .ext 0 (.t 96)⟩,
    ⟨some 105, none, false, .ext 1 (.t 96)⟩,
    ⟨some 13, none, false, .mv (.t 104)⟩,
    ⟨some 14, none, false, .mv (.t 105)⟩])
  (.seq (.seq (.region false [1, 2, 11, 12, 13, 107] [] [⟨some 106, none, false, .mv (.t 14)⟩,
    ⟨some 107, none, false, .bin .neq (.t 106) (.c (.int .i64 0))⟩])
  (.cond (.t 107)
   (.exit 2)
   .skip))
  (.seq (.region false [1, 2, 11, 12, 13, 15, 16] [] [⟨some 109, none, false, .mv (.t 13)⟩,
    ⟨some 110, none, false, .call (.f 67) [(.t 109)]⟩,
    ⟨some 108, none, false, .mv (.t 110)⟩,
    ⟨some 111, none, false, .ext 0 (.t 108)⟩,
    ⟨some 112, none, false, .ext 1 (.t 108)⟩,
    ⟨some 15, none, false, .new [(.int .i64 0), (.int .i64 0), (.int .i64 0)]⟩,
    ⟨none, none, false, .store 3 (.t 15) (.t 111)⟩,
    ⟨some 16, none, false, .mv (.t 112)⟩])
  (.seq (.region false [1, 2, 11, 12, 13, 120] [] [⟨some 113, none, false, .mv (.t 16)⟩,
    ⟨some 114, none, false, .bin .eql (.t 113) (.c (.int .i64 0))⟩,
    ⟨some 115, none, false, .mv (.t 114)⟩,
    ⟨some 116, some (115, true), false, .fldaddr 0 (.t 15)⟩,
    ⟨some 117, some (115, true), false, .load false 1 (.t 116)⟩,
    ⟨some 118, some (115, true), false, .mv (.t 1)⟩,
    ⟨some 119, some (115, true), false, .bin .eql (.t 117) (.t 118)⟩,
    ⟨some 120, none, false, .pick (.t 115) (.t 119) (.c (.bool false))⟩])
  (.cond (.t 120)
   (.region false [1, 2, 11, 12] [] [⟨some 121, none, false, .mv (.t 11)⟩,
     ⟨some 122, none, false, .mv (.t 13)⟩,
     ⟨some 123, none, false, .bslice [(.int .i64 0)] [(0, 1, (.t 122))] 1 1⟩,
     ⟨some 124, none, false, .bi (.append 1 8) [(.t 121), (.t 123)]⟩,
     ⟨some 11, none, false, .mv (.t 124)⟩])
   .skip))))))
 (.region false [1, 2, 11, 12] [] [⟨some 94, none, false, .mv (.t 12)⟩,
   ⟨some 95, none, false, .bin .add (.t 94) (.c (.int .i64 1))⟩,
   ⟨some 12, none, false, .mv (.t 95)⟩])))
/-- civiltime/civiltimeref28.Days -/
def af56 : AFun := ⟨126, true, [.tmp 4],
 (.seq (.region false [1, 2] [] [⟨some 2, none, false, .box (.t 0)⟩,
   ⟨some 4, none, false, .mv (.c .nilSl)⟩])
 (.seq (.seq (.region false [1, 2, 26] [] [⟨some 17, none, false, .mv (.t 1)⟩,
   ⟨some 18, none, false, .fldaddr 7 (.t 2)⟩,
   ⟨some 19, none, false, .load false 1 (.t 18)⟩,
   ⟨some 20, none, false, .bin .lss (.t 17) (.t 19)⟩,
   ⟨some 21, none, false, .mv (.t 20)⟩,
   ⟨some 22, some (21, false), false, .mv (.t 1)⟩,
   ⟨some 23, some (21, false), false, .fldaddr 8 (.t 2)⟩,
   ⟨some 24, some (21, false), false, .load false 1 (.t 23)⟩,
   ⟨some 25, some (21, false), false, .bin .gtr (.t 22) (.t 24)⟩,
   ⟨some 26, none, false, .pick (.t 21) (.c (.bool true)) (.t 25)⟩])
 (.cond (.t 26)
  (.seq (.region false [4] [] [⟨some 4, none, false, .mv (.c .nilSl)⟩])
  .ret)
  .skip))
 (.seq (.seq (.region false [1, 2, 28] [] [⟨some 27, none, false, .fldaddr 1 (.t 2)⟩,
   ⟨some 28, none, false, .load false 1 (.t 27)⟩])
 (.block 0 (.seq (.region false [1, 2, 28, 29] [] [⟨some 30, none, false, .bin .eql (.t 28) (.c (.int .i64 1))⟩,
    ⟨some 29, none, false, .mv (.t 30)⟩])
  (.cond (.t 29)
   (.seq (.region false [5, 6] [] [⟨some 32, none, false, .mv (.t 1)⟩,
     ⟨some 33, none, false, .fldaddr 2 (.t 2)⟩,
     ⟨some 34, none, false, .load false 1 (.t 33)⟩,
     ⟨some 35, none, false, .fldaddr 3 (.t 2)⟩,
     ⟨some 36, none, false, .load false 1 (.t 35)⟩,
     ⟨some 37, none, false, .build [(.int .i64 0), (.int .i64 0), (.int .i64 0)] [(0, 1, (.t 32)), (1, 1, (.t 34)), (2, 1, (.t 36))]⟩,
     ⟨some 38, none, false, .call (.f 105) [(.t 37)]⟩,
     ⟨some 31, none, false, .mv (.t 38)⟩,
     ⟨some 39, none, false, .ext 0 (.t 31)⟩,
     ⟨some 40, none, false, .ext 1 (.t 31)⟩,
     ⟨some 5, none, false, .mv (.t 39)⟩,
     ⟨some 6, none, false, .mv (.t 40)⟩])
   (.seq (.seq (.region false [5, 42] [] [⟨some 41, none, false, .mv (.t 6)⟩,
     ⟨some 42, none, false, .bin .neq (.t 41) (.c (.int .i64 0))⟩])
   (.cond (.t 42)
    (.seq (.region false [4] [] [⟨some 4, none, false, .mv (.c .nilSl)⟩])
    .ret)
    .skip))
   (.seq (.region false [4] [] [⟨some 43, none, false, .mv (.t 5)⟩,
     ⟨some 44, none, false, .bslice [(.int .i64 0)] [(0, 1, (.t 43))] 1 1⟩,
     ⟨some 4, none, false, .mv (.t 44)⟩])
   .ret)))
   (.seq (.region false [1, 2, 28, 45] [] [⟨some 46, none, false, .bin .eql (.t 28) (.c (.int .i64 2))⟩,
     ⟨some 45, none, false, .mv (.t 46)⟩])
   (.cond (.t 45)
    (.seq (.region false [2, 7, 8] [] [⟨some 48, none, false, .mv (.t 1)⟩,
      ⟨some 49, none, false, .fldaddr 2 (.t 2)⟩,
      ⟨some 50, none, false, .load false 1 (.t 49)⟩,
      ⟨some 51, none, false, .fldaddr 4 (.t 2)⟩,
      ⟨some 52, none, false, .load false 1 (.t 51)⟩,
      ⟨some 53, none, false, .fldaddr 5 (.t 2)⟩,
      ⟨some 54, none, false, .load false 1 (.t 53)⟩,
      ⟨some 55, none, false, .call (.f 106) [(.t 48), (.t 50), (.t 52), (.t 54)]⟩,
      ⟨some 47, none, false, .mv (.t 55)⟩,
      ⟨some 56, none, false, .ext 0 (.t 47)⟩,
      ⟨some 57, none, false, .ext 1 (.t 47)⟩,
      ⟨some 7, none, false, .mv (.t 56)⟩,
      ⟨some 8, none, false, .mv (.t 57)⟩])
    (.seq (.seq (.region false [2, 7, 59] [] [⟨some 58, none, false, .mv (.t 8)⟩,
      ⟨some 59, none, false, .bin .neq (.t 58) (.c (.int .i64 0))⟩])
    (.cond (.t 59)
     (.seq (.region false [4] [] [⟨some 4, none, false, .mv (.c .nilSl)⟩])
     .ret)
     .skip))
    (.seq (.region false [4] [] [⟨some 60, none, false, .mv (.t 7)⟩,
      ⟨some 61, none, false, .fldaddr 6 (.t 2)⟩,
      ⟨some 62, none, false, .load false 1 (.t 61)⟩,
      ⟨some 63, none, false, .bin .add (.t 60) (.t 62)⟩,
      ⟨some 64, none, false, .bslice [(.int .i64 0)] [(0, 1, (.t 63))] 1 1⟩,
      ⟨some 4, none, false, .mv (.t 64)⟩])
    .ret)))
    (.seq (.region false [1, 2, 28, 65] [] [⟨some 66, none, false, .bin .eql (.t 28) (.c (.int .i64 3))⟩,
      ⟨some 65, none, false, .mv (.t 66)⟩])
    (.cond (.t 65)
     (.seq (.region true [4] [] [⟨some 67, none, false, .mv (.t 1)⟩,
       ⟨some 68, none, true, .call (.f 107) [(.t 67)]⟩,
       ⟨some 69, none, false, .fldaddr 6 (.t 2)⟩,
       ⟨some 70, none, false, .load false 1 (.t 69)⟩,
       ⟨some 71, none, false, .bin .add (.t 68) (.t 70)⟩,
       ⟨some 72, none, false, .bslice [(.int .i64 0)] [(0, 1, (.t 71))] 1 1⟩,
       ⟨some 4, none, false, .mv (.t 72)⟩])
     .ret)
     (.seq (.region false [1, 2, 73] [] [⟨some 74, none, false, .bin .eql (.t 28) (.c (.int .i64 4))⟩,
       ⟨some 73, none, false, .mv (.t 74)⟩])
     (.cond (.t 73)
      (.seq (.region false [9] [] [⟨some 76, none, false, .fldaddr 5 (.t 2)⟩,
        ⟨some 77, none, false, .load false 1 (.t 76)⟩,
        ⟨some 78, none, false, .fldaddr 2 (.t 2)⟩,
        ⟨some 79, none, false, .load false 1 (.t 78)⟩,
        ⟨some 80, none, false, .fldaddr 3 (.t 2)⟩,
        ⟨some 81, none, false, .load false 1 (.t 80)⟩,
        ⟨some 82, none, false, .build [(.int .i64 0), (.int .i64 0), (.int .i64 0)] [(0, 1, (.c (.int .i64 1))), (1, 1, (.t 79)), (2, 1, (.t 81))]⟩,
        ⟨some 83, none, false, .mv (.t 1)⟩,
        ⟨some 84, none, false, .call (.f 108) [(.t 77), (.t 82), (.t 83)]⟩,
        ⟨some 75, none, false, .mv (.t 84)⟩,
        ⟨some 85, none, false, .ext 0 (.t 75)⟩,
        ⟨some 86, none, false, .ext 1 (.t 75)⟩,
        ⟨some 9, none, false, .mv (.t 85)⟩,
        ⟨some 10, none, false, .mv (.t 86)⟩])
      (.seq (.region false [4] [] [⟨some 87, none, false, .mv (.t 9)⟩,
        ⟨some 4, none, false, .mv (.t 87)⟩])
      .ret))
      .skip))))))))))
 (.seq (.region false [1, 2, 11] [] [⟨some 11, none, false, .mv (.c .nilSl)⟩])
 (.seq (.seq (.region false [1, 2, 11, 12] [] [⟨some 88, none, false, .mv (.t 1)⟩,
   ⟨some 89, none, false, .bin .add (.t 88) (.c (.int .i64 3759))⟩,
   ⟨some 12, none, false, .mv (.t 89)⟩])
 (.block 1 af56L0))
 (.seq (.region false [4] [] [⟨some 125, none, false, .mv (.t 11)⟩,
   ⟨some 4, none, false, .mv (.t 125)⟩])
 .ret))))))⟩
/-- civiltime/civiltimeref28.Observed -/
def af57 : AFun := ⟨35, true, [.tmp 4],
 (.seq (.region false [0, 1] [] [⟨some 4, none, false, .mv (.c (.int .i64 0))⟩])
 (.seq (.region false [0, 1, 5] [] [⟨some 6, none, false, .mv (.t 0)⟩,
   ⟨some 7, none, false, .call (.f 110) [(.t 6)]⟩,
   ⟨some 5, none, false, .mv (.t 7)⟩])
 (.seq (.seq (.region false [0, 1, 5, 13] [] [⟨some 8, none, false, .mv (.t 1)⟩,
   ⟨some 9, none, false, .bin .eql (.t 8) (.c (.int .i64 2))⟩,
   ⟨some 10, none, false, .mv (.t 9)⟩,
   ⟨some 11, some (10, true), false, .mv (.t 5)⟩,
   ⟨some 12, some (10, true), false, .bin .geq (.t 11) (.c (.int .i64 6))⟩,
   ⟨some 13, none, false, .pick (.t 10) (.t 12) (.c (.bool false))⟩])
 (.cond (.t 13)
  (.seq (.region false [4] [] [⟨some 14, none, false, .mv (.t 0)⟩,
    ⟨some 15, none, false, .bin .add (.t 14) (.c (.int .i64 8))⟩,
    ⟨some 16, none, false, .mv (.t 5)⟩,
    ⟨some 17, none, false, .bin .sub (.t 15) (.t 16)⟩,
    ⟨some 4, none, false, .mv (.t 17)⟩])
  .ret)
  .skip))
 (.seq (.seq (.region false [0, 1, 5, 23] [] [⟨some 18, none, false, .mv (.t 1)⟩,
   ⟨some 19, none, false, .bin .eql (.t 18) (.c (.int .i64 3))⟩,
   ⟨some 20, none, false, .mv (.t 19)⟩,
   ⟨some 21, some (20, true), false, .mv (.t 5)⟩,
   ⟨some 22, some (20, true), false, .bin .eql (.t 21) (.c (.int .i64 6))⟩,
   ⟨some 23, none, false, .pick (.t 20) (.t 22) (.c (.bool false))⟩])
 (.cond (.t 23)
  (.seq (.region false [4] [] [⟨some 24, none, false, .mv (.t 0)⟩,
    ⟨some 25, none, false, .bin .sub (.t 24) (.c (.int .i64 1))⟩,
    ⟨some 4, none, false, .mv (.t 25)⟩])
  .ret)
  .skip))
 (.seq (.seq (.region false [0, 31] [] [⟨some 26, none, false, .mv (.t 1)⟩,
   ⟨some 27, none, false, .bin .eql (.t 26) (.c (.int .i64 3))⟩,
   ⟨some 28, none, false, .mv (.t 27)⟩,
   ⟨some 29, some (28, true), false, .mv (.t 5)⟩,
   ⟨some 30, some (28, true), false, .bin .eql (.t 29) (.c (.int .i64 7))⟩,
   ⟨some 31, none, false, .pick (.t 28) (.t 30) (.c (.bool false))⟩])
 (.cond (.t 31)
  (.seq (.region false [4] [] [⟨some 32, none, false, .mv (.t 0)⟩,
    ⟨some 33, none, false, .bin .add (.t 32) (.c (.int .i64 1))⟩,
    ⟨some 4, none, false, .mv (.t 33)⟩])
  .ret)
  .skip))
 (.seq (.region false [4] [] [⟨some 34, none, false, .mv (.t 0)⟩,
   ⟨some 4, none, false, .mv (.t 34)⟩])
 .ret))))))⟩
def af58L0 : ACode := .loop [0, 3, 5]
 (.seq (.seq (.region true [0, 3, 5, 43] [] [⟨some 9, none, false, .mv (.t 5)⟩,
   ⟨some 10, none, false, .bin .gtr (.t 9) (.c (.int .i64 0))⟩,
   ⟨some 11, none, false, .mv (.t 10)⟩,
   ⟨some 12, some (11, true), false, .mv (.t 0)⟩,
   ⟨some 13, some (11, true), false, .mv (.t 5)⟩,
   ⟨some 14, some (11, true), false, .bin .sub (.t 13) (.c (.int .i64 1))⟩,
   ⟨some 15, some (11, true), false, .idxaddr none 2 (.t 12) (.t 14)⟩,
   ⟨some 16, some (11, true), false, .fldaddr 0 (.t 15)⟩,
   ⟨some 17, some (11, true), false, .load false 1 (.t 16)⟩,
   ⟨some 18, some (11, true), false, .fldaddr 0 (.t 3)⟩,
   ⟨some 19, some (11, true), false, .load false 1 (.t 18)⟩,
   ⟨some 20, some (11, true), false, .bin .gtr (.t 17) (.t 19)⟩,
   ⟨some 21, some (11, true), false, .mv (.t 20)⟩,
   ⟨some 22, some (21, false), false, .mv (.t 0)⟩,
   ⟨some 23, some (21, false), false, .mv (.t 5)⟩,
   ⟨some 24, some (21, false), false, .bin .sub (.t 23) (.c (.int .i64 1))⟩,
   ⟨some 25, some (21, false), false, .idxaddr none 2 (.t 22) (.t 24)⟩,
   ⟨some 26, some (21, false), false, .fldaddr 0 (.t 25)⟩,
   ⟨some 27, some (21, false), false, .load false 1 (.t 26)⟩,
   ⟨some 28, some (21, false), false, .fldaddr 0 (.t 3)⟩,
   ⟨some 29, some (21, false), false, .load false 1 (.t 28)⟩,
   ⟨some 30, some (21, false), false, .bin .eql (.t 27) (.t 29)⟩,
   ⟨some 31, some (21, false), false, .mv (.t 30)⟩,
   ⟨some 32, some (31, true), false, .mv (.t 0)⟩,
   ⟨some 33, some (31, true), false, .mv (.t 5)⟩,
   ⟨some 34, some (31, true), false, .bin .sub (.t 33) (.c (.int .i64 1))⟩,
   ⟨some 35, some (31, true), false, .idxaddr none 2 (.t 32) (.t 34)⟩,
   ⟨some 36, some (31, true), false, .fldaddr 1 (.t 35)⟩,
   ⟨some 37, some (31, true), false, .load false 1 (.t 36)⟩,
   ⟨some 38, some (31, true), false, .fldaddr 1 (.t 3)⟩,
   ⟨some 39, some (31, true), false, .load false 1 (.t 38)⟩,
   ⟨some 40, some (31, true), false, .bin .geq (.t 37) (.t 39)⟩,
   ⟨some 41, some (21, false), false, .pick (.t 31) (.t 40) (.c (.bool false))⟩,
   ⟨some 42, some (11, true), false, .pick (.t 21) (.c (.bool true)) (.t 41)⟩,
   ⟨some 43, none, false, .pick (.t 11) (.t 42) (.c (.bool false))⟩])
 (.cond (.t 43)
  .skip
  (.exit 0)))
 (.block 1 (.region false [0, 3, 5] [] [⟨some 44, none, false, .mv (.t 5)⟩,
    ⟨some 45, none, false, .bin .sub (.t 44) (.c (.int .i64 1))⟩,
    ⟨some 5, none, false, .mv (.t 45)⟩])))
/-- civiltime/civiltimeref28.insert -/
def af58 : AFun := ⟨85, true, [.tmp 4],
 (.seq (.region false [0, 3] [] [⟨some 3, none, false, .box (.t 1)⟩,
   ⟨some 4, none, false, .mv (.c .nilSl)⟩])
 (.seq (.region false [0, 3, 5] [] [⟨some 7, none, false, .mv (.t 0)⟩,
   ⟨some 8, none, false, .bi (.len 1) [(.t 7)]⟩,
   ⟨some 5, none, false, .mv (.t 8)⟩])
 (.seq (.block 0 af58L0)
 (.seq (.seq (.region true [0, 3, 5, 69] [] [⟨some 46, none, false, .mv (.t 5)⟩,
   ⟨some 47, none, false, .mv (.t 0)⟩,
   ⟨some 48, none, false, .bi (.len 1) [(.t 47)]⟩,
   ⟨some 49, none, false, .bin .lss (.t 46) (.t 48)⟩,
   ⟨some 50, none, false, .mv (.t 49)⟩,
   ⟨some 51, some (50, true), false, .mv (.t 0)⟩,
   ⟨some 52, some (50, true), false, .mv (.t 5)⟩,
   ⟨some 53, some (50, true), false, .idxaddr none 2 (.t 51) (.t 52)⟩,
   ⟨some 54, some (50, true), false, .fldaddr 0 (.t 53)⟩,
   ⟨some 55, some (50, true), false, .load false 1 (.t 54)⟩,
   ⟨some 56, some (50, true), false, .fldaddr 0 (.t 3)⟩,
   ⟨some 57, some (50, true), false, .load false 1 (.t 56)⟩,
   ⟨some 58, some (50, true), false, .bin .eql (.t 55) (.t 57)⟩,
   ⟨some 59, none, false, .pick (.t 50) (.t 58) (.c (.bool false))⟩,
   ⟨some 60, none, false, .mv (.t 59)⟩,
   ⟨some 61, some (60, true), false, .mv (.t 0)⟩,
   ⟨some 62, some (60, true), false, .mv (.t 5)⟩,
   ⟨some 63, some (60, true), false, .idxaddr none 2 (.t 61) (.t 62)⟩,
   ⟨some 64, some (60, true), false, .fldaddr 1 (.t 63)⟩,
   ⟨some 65, some (60, true), false, .load false 1 (.t 64)⟩,
   ⟨some 66, some (60, true), false, .fldaddr 1 (.t 3)⟩,
   ⟨some 67, some (60, true), false, .load false 1 (.t 66)⟩,
   ⟨some 68, some (60, true), false, .bin .eql (.t 65) (.t 67)⟩,
   ⟨some 69, none, false, .pick (.t 60) (.t 68) (.c (.bool false))⟩])
 (.cond (.t 69)
  (.seq (.region false [4] [] [⟨some 70, none, false, .mv (.t 0)⟩,
    ⟨some 4, none, false, .mv (.t 70)⟩])
  .ret)
  .skip))
 (.seq (.region false [0, 3, 5, 6] [] [⟨some 71, none, false, .bslice [] [] 0 2⟩,
   ⟨some 72, none, false, .mv (.t 0)⟩,
   ⟨some 73, none, false, .mv (.t 5)⟩,
   ⟨some 74, none, false, .slice (.slice 2) (.t 72) none (some (.t 73)) none⟩,
   ⟨some 75, none, false, .bi (.append 2 16) [(.t 71), (.t 74)]⟩,
   ⟨some 6, none, false, .mv (.t 75)⟩])
 (.seq (.region false [0, 5, 6] [] [⟨some 76, none, false, .mv (.t 6)⟩,
   ⟨some 77, none, false, .load true 2 (.t 3)⟩,
   ⟨some 78, none, false, .bslice [(.int .i64 0), (.int .i64 0)] [(0, 2, (.t 77))] 1 2⟩,
   ⟨some 79, none, false, .bi (.append 2 16) [(.t 76), (.t 78)]⟩,
   ⟨some 6, none, false, .mv (.t 79)⟩])
 (.seq (.region false [4] [] [⟨some 80, none, false, .mv (.t 6)⟩,
   ⟨some 81, none, false, .mv (.t 0)⟩,
   ⟨some 82, none, false, .mv (.t 5)⟩,
   ⟨some 83, none, false, .slice (.slice 2) (.t 81) (some (.t 82)) none none⟩,
   ⟨some 84, none, false, .bi (.append 2 16) [(.t 80), (.t 83)]⟩,
   ⟨some 4, none, false, .mv (.t 84)⟩])
 .ret)))))))⟩
/-- (*civiltime/holiday.reader).line -/
def af59 : AFun := ⟨133, true, [.cell 2 true 10],
 (.seq (.region false [0, 2] [] [⟨some 2, none, false, .new [(.str []), (.int .i64 0), (.int .i64 0), (.int .i64 0), (.int .i64 0), (.int .i64 0), (.int .i64 0), (.int .i64 0), (.int .i64 0), (.int .i64 0)]⟩])
 (.seq (.region false [0, 2, 3] [] [⟨some 3, none, false, .new [(.str []), (.int .i64 0), (.int .i64 0), (.int .i64 0), (.int .i64 0), (.int .i64 0), (.int .i64 0), (.int .i64 0), (.int .i64 0), (.int .i64 0)]⟩])
 (.seq (.seq (.region false [0, 2, 3, 4, 5] [] [⟨some 7, none, false, .mv (.t 0)⟩,
   ⟨some 8, none, false, .call (.f 111) [(.t 7)]⟩,
   ⟨some 6, none, false, .mv (.t 8)⟩,
   ⟨some 9, none, false, .ext 0 (.t 6)⟩,
   ⟨some 10, none, false, .ext 1 (.t 6)⟩,
   ⟨some 4, none, false, .mv (.t 9)⟩,
   ⟨some 5, none, false, .mv (.t 10)⟩])
 (.seq (.region false [0, 2, 3, 4, 11] [] [⟨some 11, none, false, .mv (.t 5)⟩])
 (.cond (.t 11)
  (.seq (.region false [0, 2, 3, 4] [] [⟨some 12, none, false, .mv (.t 4)⟩,
    ⟨some 13, none, false, .fldaddr 0 (.t 3)⟩,
    ⟨none, none, false, .store 1 (.t 13) (.t 12)⟩])
  (.seq (.region false [0, 2, 3, 16] [] [⟨some 14, none, false, .mv (.t 4)⟩,
    ⟨some 15, none, false, .call (.f 43) [(.t 14)]⟩,
    ⟨some 16, none, false, .un .not (.t 15)⟩])
  (.cond (.t 16)
   (.region false [0, 2, 3] [] [⟨some 17, none, false, .mv (.t 0)⟩,
     ⟨some 18, none, false, .call (.f 112) [(.t 17)]⟩])
   .skip)))
  .skip)))
 (.seq (.region false [0, 2, 3] [] [⟨some 19, none, false, .mv (.t 0)⟩,
   ⟨some 20, none, false, .bslice [(.str []), (.str []), (.str []), (.str []), (.str [])] [(0, 1, (.c (.str [102, 105, 120, 101, 100]))), (1, 1, (.c (.str [110, 116, 104]))), (2, 1, (.c (.str [101, 97, 115, 116, 101, 114]))), (3, 1, (.c (.str [105, 115, 108, 97, 109, 105, 99]))), (4, 1, (.c (.str [104, 101, 98, 114, 101, 119])))] 5 1⟩,
   ⟨some 21, none, false, .call (.f 113) [(.t 19), (.t 20)]⟩,
   ⟨some 22, none, false, .bin .add (.c (.int .i64 1)) (.t 21)⟩,
   ⟨some 23, none, false, .fldaddr 1 (.t 3)⟩,
   ⟨none, none, false, .store 1 (.t 23) (.t 22)⟩])
 (.seq (.seq (.region false [0, 2, 3, 25] [] [⟨some 24, none, false, .fldaddr 1 (.t 3)⟩,
   ⟨some 25, none, false, .load false 1 (.t 24)⟩])
 (.block 0 (.seq (.region false [0, 2, 3, 25, 26] [] [⟨some 27, none, false, .bin .eql (.t 25) (.c (.int .i64 1))⟩,
    ⟨some 26, none, false, .mv (.t 27)⟩])
  (.cond (.t 26)
   (.region false [0, 2, 3] [] [⟨some 28, none, false, .mv (.t 0)⟩,
     ⟨some 29, none, false, .call (.f 114) [(.t 28), (.f 115)]⟩,
     ⟨some 30, none, false, .mv (.t 0)⟩,
     ⟨some 31, none, false, .call (.f 116) [(.t 30)]⟩,
     ⟨some 32, none, false, .fldaddr 2 (.t 3)⟩,
     ⟨none, none, false, .store 1 (.t 32) (.t 29)⟩,
     ⟨some 33, none, false, .fldaddr 3 (.t 3)⟩,
     ⟨none, none, false, .store 1 (.t 33) (.t 31)⟩])
   (.seq (.region false [0, 2, 3, 25, 34] [] [⟨some 35, none, false, .bin .eql (.t 25) (.c (.int .i64 2))⟩,
     ⟨some 34, none, false, .mv (.t 35)⟩])
   (.cond (.t 34)
    (.seq (.region false [0, 2, 3] [] [⟨some 36, none, false, .mv (.t 0)⟩,
      ⟨some 37, none, false, .call (.f 116) [(.t 36)]⟩,
      ⟨some 38, none, false, .fldaddr 5 (.t 3)⟩,
      ⟨none, none, false, .store 1 (.t 38) (.t 37)⟩])
    (.region false [0, 2, 3] [] [⟨some 39, none, false, .mv (.t 0)⟩,
      ⟨some 40, none, false, .call (.f 114) [(.t 39), (.f 117)]⟩,
      ⟨some 41, none, false, .mv (.t 0)⟩,
      ⟨some 42, none, false, .call (.f 114) [(.t 41), (.f 115)]⟩,
      ⟨some 43, none, false, .mv (.t 0)⟩,
      ⟨some 44, none, false, .call (.f 116) [(.t 43)]⟩,
      ⟨some 45, none, false, .fldaddr 4 (.t 3)⟩,
      ⟨none, none, false, .store 1 (.t 45) (.t 40)⟩,
      ⟨some 46, none, false, .fldaddr 2 (.t 3)⟩,
      ⟨none, none, false, .store 1 (.t 46) (.t 42)⟩,
      ⟨some 47, none, false, .fldaddr 6 (.t 3)⟩,
      ⟨none, none, false, .store 1 (.t 47) (.t 44)⟩]))
    (.seq (.region false [0, 2, 3, 25, 48] [] [⟨some 49, none, false, .bin .eql (.t 25) (.c (.int .i64 3))⟩,
      ⟨some 48, none, false, .mv (.t 49)⟩])
    (.cond (.t 48)
     (.region false [0, 2, 3] [] [⟨some 50, none, false, .mv (.t 0)⟩,
       ⟨some 51, none, false, .call (.f 116) [(.t 50)]⟩,
       ⟨some 52, none, false, .fldaddr 6 (.t 3)⟩,
       ⟨none, none, false, .store 1 (.t 52) (.t 51)⟩])
     (.seq (.region false [0, 2, 3, 25, 53] [] [⟨some 54, none, false, .bin .eql (.t 25) (.c (.int .i64 4))⟩,
       ⟨some 53, none, false, .mv (.t 54)⟩])
     (.cond (.t 53)
      (.region false [0, 2, 3] [] [⟨some 55, none, false, .mv (.t 0)⟩,
        ⟨some 56, none, false, .call (.f 116) [(.t 55)]⟩,
        ⟨some 57, none, false, .mv (.t 0)⟩,
        ⟨some 58, none, false, .call (.f 116) [(.t 57)]⟩,
        ⟨some 59, none, false, .mv (.t 0)⟩,
        ⟨some 60, none, false, .call (.f 116) [(.t 59)]⟩,
        ⟨some 61, none, false, .fldaddr 5 (.t 3)⟩,
        ⟨none, none, false, .store 1 (.t 61) (.t 56)⟩,
        ⟨some 62, none, false, .fldaddr 2 (.t 3)⟩,
        ⟨none, none, false, .store 1 (.t 62) (.t 58)⟩,
        ⟨some 63, none, false, .fldaddr 3 (.t 3)⟩,
        ⟨none, none, false, .store 1 (.t 63) (.t 60)⟩])
      (.seq (.region false [0, 2, 3, 64] [] [⟨some 65, none, false, .bin .eql (.t 25) (.c (.int .i64 5))⟩,
        ⟨some 64, none, false, .mv (.t 65)⟩])
      (.cond (.t 64)
       (.region false [0, 2, 3] [] [⟨some 66, none, false, .mv (.t 0)⟩,
         ⟨some 67, none, false, .call (.f 116) [(.t 66)]⟩,
         ⟨some 68, none, false, .mv (.t 0)⟩,
         ⟨some 69, none, false, .call (.f 116) [(.t 68)]⟩,
         ⟨some 70, none, false, .fldaddr 2 (.t 3)⟩,
         ⟨none, none, false, .store 1 (.t 70) (.t 67)⟩,
         ⟨some 71, none, false, .fldaddr 3 (.t 3)⟩,
         ⟨none, none, false, .store 1 (.t 71) (.t 69)⟩])
       .skip))))))))))))
 (.seq (.region false [0, 2, 3] [] [⟨some 72, none, false, .mv (.t 0)⟩,
   ⟨some 73, none, false, .call (.f 116) [(.t 72)]⟩,
   ⟨some 74, none, false, .mv (.t 0)⟩,
   ⟨some 75, none, false, .call (.f 116) [(.t 74)]⟩,
   ⟨some 76, none, false, .fldaddr 7 (.t 3)⟩,
   ⟨none, none, false, .store 1 (.t 76) (.t 73)⟩,
   ⟨some 77, none, false, .fldaddr 8 (.t 3)⟩,
   ⟨none, none, false, .store 1 (.t 77) (.t 75)⟩])
 (.seq (.region false [0, 2, 3] [] [⟨some 78, none, false, .mv (.t 0)⟩,
   ⟨some 79, none, false, .bslice [(.str []), (.str []), (.str [])] [(0, 1, (.c (.str [101, 120, 97, 99, 116, 108, 121]))), (1, 1, (.c (.str [109, 111, 110, 100, 97, 121]))), (2, 1, (.c (.str [110, 101, 97, 114, 101, 115, 116])))] 3 1⟩,
   ⟨some 80, none, false, .call (.f 113) [(.t 78), (.t 79)]⟩,
   ⟨some 81, none, false, .bin .add (.c (.int .i64 1)) (.t 80)⟩,
   ⟨some 82, none, false, .fldaddr 9 (.t 3)⟩,
   ⟨none, none, false, .store 1 (.t 82) (.t 81)⟩])
 (.seq (.seq (.region true [0, 2, 3, 99] [] [⟨some 83, none, false, .mv (.t 0)⟩,
   ⟨some 84, none, false, .nilck (.t 83)⟩,
   ⟨some 85, none, false, .fldaddr 4 (.t 84)⟩,
   ⟨some 86, none, false, .load false 1 (.t 85)⟩,
   ⟨some 87, none, false, .bin .eql (.t 86) (.c (.int .i64 0))⟩,
   ⟨some 88, none, false, .mv (.t 87)⟩,
   ⟨some 89, some (88, true), false, .mv (.t 0)⟩,
   ⟨some 90, some (88, true), false, .nilck (.t 89)⟩,
   ⟨some 91, some (88, true), false, .fldaddr 1 (.t 90)⟩,
   ⟨some 92, some (88, true), false, .load false 1 (.t 91)⟩,
   ⟨some 93, some (88, true), false, .mv (.t 0)⟩,
   ⟨some 94, some (88, true), false, .nilck (.t 93)⟩,
   ⟨some 95, some (88, true), false, .fldaddr 0 (.t 94)⟩,
   ⟨some 96, some (88, true), false, .load false 1 (.t 95)⟩,
   ⟨some 97, some (88, true), false, .bi (.len 1) [(.t 96)]⟩,
   ⟨some 98, some (88, true), false, .bin .lss (.t 92) (.t 97)⟩,
   ⟨some 99, none, false, .pick (.t 88) (.t 98) (.c (.bool false))⟩])
 (.cond (.t 99)
  (.seq (.region false [0, 2, 3] [] [⟨some 100, none, false, .mv (.t 0)⟩,
    ⟨some 101, none, false, .nilck (.t 100)⟩,
    ⟨some 102, none, false, .fldaddr 1 (.t 101)⟩,
    ⟨some 103, none, false, .load false 1 (.t 102)⟩,
    ⟨some 104, none, false, .bin .add (.t 103) (.c (.int .i64 1))⟩,
    ⟨some 105, none, false, .nilck (.t 100)⟩,
    ⟨some 106, none, false, .fldaddr 1 (.t 105)⟩,
    ⟨none, none, false, .store 1 (.t 106) (.t 104)⟩])
  (.region false [0, 2, 3] [] [⟨some 107, none, false, .mv (.t 0)⟩,
    ⟨some 108, none, false, .call (.f 112) [(.t 107)]⟩]))
  .skip))
 (.seq (.seq (.region false [0, 2, 3, 118] [] [⟨some 109, none, false, .mv (.t 0)⟩,
   ⟨some 110, none, false, .nilck (.t 109)⟩,
   ⟨some 111, none, false, .fldaddr 4 (.t 110)⟩,
   ⟨some 112, none, false, .load false 1 (.t 111)⟩,
   ⟨some 113, none, false, .bin .eql (.t 112) (.c (.int .i64 0))⟩,
   ⟨some 114, none, false, .mv (.t 113)⟩,
   ⟨some 115, some (114, true), false, .load true 10 (.t 3)⟩,
   ⟨some 116, some (114, true), false, .call (.f 14) [(.t 115)]⟩,
   ⟨some 117, some (114, true), false, .un .not (.t 116)⟩,
   ⟨some 118, none, false, .pick (.t 114) (.t 117) (.c (.bool false))⟩])
 (.cond (.t 118)
  (.region false [2, 3] [] [⟨some 119, none, false, .mv (.t 0)⟩,
    ⟨some 120, none, false, .mv (.t 0)⟩,
    ⟨some 121, none, false, .mv (.t 0)⟩,
    ⟨some 122, none, false, .nilck (.t 121)⟩,
    ⟨some 123, none, false, .fldaddr 0 (.t 122)⟩,
    ⟨some 124, none, false, .load false 1 (.t 123)⟩,
    ⟨some 125, none, false, .idxaddr none 3 (.t 124) (.c (.int .i64 0))⟩,
    ⟨some 126, none, false, .fldaddr 1 (.t 125)⟩,
    ⟨some 127, none, false, .load true 2 (.t 126)⟩,
    ⟨some 128, none, false, .nilck (.t 119)⟩,
    ⟨some 129, none, false, .fldaddr 2 (.t 128)⟩,
    ⟨none, none, false, .store 2 (.t 129) (.t 127)⟩,
    ⟨some 130, none, false, .nilck (.t 120)⟩,
    ⟨some 131, none, false, .fldaddr 4 (.t 130)⟩,
    ⟨none, none, false, .store 1 (.t 131) (.c (.int .i64 1))⟩])
  .skip))
 (.seq (.region false [2] [] [⟨some 132, none, false, .load true 10 (.t 3)⟩,
   ⟨none, none, false, .store 10 (.t 2) (.t 132)⟩])
 .ret))))))))))⟩
/-- strings.Split -/
def af60 : AFun := ⟨8, true, [.tmp 4],
 (.seq (.region false [0, 1] [] [⟨some 4, none, false, .mv (.c .nilSl)⟩])
 (.seq (.region false [4] [] [⟨some 5, none, false, .mv (.t 0)⟩,
   ⟨some 6, none, false, .mv (.t 1)⟩,
   ⟨some 7, none, false, .call (.f 118) [(.t 5), (.t 6), (.c (.int .i64 0)), (.c (.int .i64 (-1)))]⟩,
   ⟨some 4, none, false, .mv (.t 7)⟩])
 .ret))⟩
/-- civiltime/civiltimeref28.Form -/
def af61 : AFun := ⟨14, true, [.tmp 2],
 (.seq (.region false [0] [] [⟨some 2, none, false, .mv (.c (.str []))⟩])
 (.seq (.seq (.region false [3] [] [⟨some 3, none, false, .mv (.t 0)⟩])
 (.block 0 (.seq (.region false [3, 4] [] [⟨some 5, none, false, .bin .eql (.t 3) (.c (.str [102, 105, 120, 101, 100]))⟩,
    ⟨some 4, none, false, .mv (.t 5)⟩])
  (.cond (.t 4)
   (.seq (.region false [2] [] [⟨some 2, none, false, .mv (.c (.str [109, 110]))⟩])
   .ret)
   (.seq (.region false [3, 6] [] [⟨some 7, none, false, .bin .eql (.t 3) (.c (.str [110, 116, 104]))⟩,
     ⟨some 6, none, false, .mv (.t 7)⟩])
   (.cond (.t 6)
    (.seq (.region false [2] [] [⟨some 2, none, false, .mv (.c (.str [110, 119, 109, 110]))⟩])
    .ret)
    (.seq (.region false [3, 8] [] [⟨some 9, none, false, .bin .eql (.t 3) (.c (.str [101, 97, 115, 116, 101, 114]))⟩,
      ⟨some 8, none, false, .mv (.t 9)⟩])
    (.cond (.t 8)
     (.seq (.region false [2] [] [⟨some 2, none, false, .mv (.c (.str [110]))⟩])
     .ret)
     (.seq (.region false [3, 10] [] [⟨some 11, none, false, .bin .eql (.t 3) (.c (.str [105, 115, 108, 97, 109, 105, 99]))⟩,
       ⟨some 10, none, false, .mv (.t 11)⟩])
     (.cond (.t 10)
      (.seq (.region false [2] [] [⟨some 2, none, false, .mv (.c (.str [110, 110, 110]))⟩])
      .ret)
      (.seq (.region false [12] [] [⟨some 13, none, false, .bin .eql (.t 3) (.c (.str [104, 101, 98, 114, 101, 119]))⟩,
        ⟨some 12, none, false, .mv (.t 13)⟩])
      (.cond (.t 12)
       (.seq (.region false [2] [] [⟨some 2, none, false, .mv (.c (.str [110, 110]))⟩])
       .ret)
       .skip))))))))))))
 (.seq (.region false [2] [] [⟨some 2, none, false, .mv (.c (.str []))⟩])
 .ret)))⟩
def af62L0 : ACode := .loop [1, 6]
 (.seq (.seq (.region false [1, 6, 11] [] [⟨some 10, none, false, .mv (.t 6)⟩,
   ⟨some 11, none, false, .bin .leq (.t 10) (.c (.int .i64 12))⟩])
 (.cond (.t 11)
  .skip
  (.exit 0)))
 (.seq (.block 1 (.seq (.region false [1, 6, 17] [] [⟨some 14, none, false, .mv (.t 6)⟩,
    ⟨some 15, none, false, .call (.f 119) [(.t 14)]⟩,
    ⟨some 16, none, false, .mv (.t 1)⟩,
    ⟨some 17, none, false, .bin .eql (.t 15) (.t 16)⟩])
  (.cond (.t 17)
   (.seq (.region false [4, 5] [] [⟨some 18, none, false, .mv (.t 6)⟩,
     ⟨some 4, none, false, .mv (.t 18)⟩,
     ⟨some 5, none, false, .mv (.c (.bool true))⟩])
   .ret)
   .skip)))
 (.region false [1, 6] [] [⟨some 12, none, false, .mv (.t 6)⟩,
   ⟨some 13, none, false, .bin .add (.t 12) (.c (.int .i64 1))⟩,
   ⟨some 6, none, false, .mv (.t 13)⟩])))
def af62L1 : ACode := .loop [1, 7]
 (.seq (.seq (.region false [1, 7, 22] [] [⟨some 21, none, false, .mv (.t 7)⟩,
   ⟨some 22, none, false, .bin .leq (.t 21) (.c (.int .i64 7))⟩])
 (.cond (.t 22)
  .skip
  (.exit 2)))
 (.seq (.block 3 (.seq (.region false [1, 7, 28] [] [⟨some 25, none, false, .mv (.t 7)⟩,
    ⟨some 26, none, false, .call (.f 120) [(.t 25)]⟩,
    ⟨some 27, none, false, .mv (.t 1)⟩,
    ⟨some 28, none, false, .bin .eql (.t 26) (.t 27)⟩])
  (.cond (.t 28)
   (.seq (.region false [4, 5] [] [⟨some 29, none, false, .mv (.t 7)⟩,
     ⟨some 4, none, false, .mv (.t 29)⟩,
     ⟨some 5, none, false, .mv (.c (.bool true))⟩])
   .ret)
   .skip)))
 (.region false [1, 7] [] [⟨some 23, none, false, .mv (.t 7)⟩,
   ⟨some 24, none, false, .bin .add (.t 23) (.c (.int .i64 1))⟩,
   ⟨some 7, none, false, .mv (.t 24)⟩])))
/-- civiltime/civiltimeref28.word -/
def af62 : AFun := ⟨34, true, [.tmp 4, .tmp 5],
 (.seq (.region false [0, 1] [] [⟨some 4, none, false, .mv (.c (.int .i64 0))⟩,
   ⟨some 5, none, false, .mv (.c (.bool false))⟩])
 (.seq (.seq (.region false [0, 1, 9] [] [⟨some 8, none, false, .mv (.t 0)⟩,
   ⟨some 9, none, false, .bin .eql (.t 8) (.c (.int .u8 109))⟩])
 (.cond (.t 9)
  (.seq (.seq (.region false [1, 6] [] [⟨some 6, none, false, .mv (.c (.int .i64 1))⟩])
  (.block 0 af62L0))
  (.seq (.region false [4, 5] [] [⟨some 4, none, false, .mv (.c (.int .i64 0))⟩,
    ⟨some 5, none, false, .mv (.c (.bool false))⟩])
  .ret))
  .skip))
 (.seq (.seq (.region false [1, 20] [] [⟨some 19, none, false, .mv (.t 0)⟩,
   ⟨some 20, none, false, .bin .eql (.t 19) (.c (.int .u8 119))⟩])
 (.cond (.t 20)
  (.seq (.seq (.region false [1, 7] [] [⟨some 7, none, false, .mv (.c (.int .i64 1))⟩])
  (.block 2 af62L1))
  (.seq (.region false [4, 5] [] [⟨some 4, none, false, .mv (.c (.int .i64 0))⟩,
    ⟨some 5, none, false, .mv (.c (.bool false))⟩])
  .ret))
  .skip))
 (.seq (.region false [4, 5] [] [⟨some 30, none, false, .mv (.t 1)⟩,
   ⟨some 31, none, false, .call (.f 121) [(.t 30)]⟩,
   ⟨some 32, none, false, .ext 0 (.t 31)⟩,
   ⟨some 33, none, false, .ext 1 (.t 31)⟩,
   ⟨some 4, none, false, .mv (.t 32)⟩,
   ⟨some 5, none, false, .mv (.t 33)⟩])
 .ret))))⟩
def af63L0 : ACode := .loop [0, 2, 4]
 (.seq (.seq (.region false [0, 2, 4, 22] [] [⟨some 14, none, false, .mv (.t 4)⟩,
   ⟨some 15, none, false, .bin .lss (.t 14) (.c (.int .i64 9999))⟩,
   ⟨some 16, none, false, .mv (.t 15)⟩,
   ⟨some 17, some (16, true), false, .mv (.t 4)⟩,
   ⟨some 18, some (16, true), false, .bin .add (.t 17) (.c (.int .i64 1))⟩,
   ⟨some 19, some (16, true), false, .call (.f 54) [(.t 18), (.c (.int .i64 1)), (.c (.int .i64 1))]⟩,
   ⟨some 20, some (16, true), false, .mv (.t 0)⟩,
   ⟨some 21, some (16, true), false, .bin .leq (.t 19) (.t 20)⟩,
   ⟨some 22, none, false, .pick (.t 16) (.t 21) (.c (.bool false))⟩])
 (.cond (.t 22)
  .skip
  (.exit 0)))
 (.block 1 (.region false [0, 2, 4] [] [⟨some 23, none, false, .mv (.t 4)⟩,
    ⟨some 24, none, false, .bin .add (.t 23) (.c (.int .i64 1))⟩,
    ⟨some 4, none, false, .mv (.t 24)⟩])))
def af63L1 : ACode := .loop [0, 2, 4, 5]
 (.seq (.seq (.region false [0, 2, 4, 5, 34] [] [⟨some 25, none, false, .mv (.t 5)⟩,
   ⟨some 26, none, false, .bin .lss (.t 25) (.c (.int .i64 12))⟩,
   ⟨some 27, none, false, .mv (.t 26)⟩,
   ⟨some 28, some (27, true), false, .mv (.t 4)⟩,
   ⟨some 29, some (27, true), false, .mv (.t 5)⟩,
   ⟨some 30, some (27, true), false, .bin .add (.t 29) (.c (.int .i64 1))⟩,
   ⟨some 31, some (27, true), false, .call (.f 54) [(.t 28), (.t 30), (.c (.int .i64 1))]⟩,
   ⟨some 32, some (27, true), false, .mv (.t 0)⟩,
   ⟨some 33, some (27, true), false, .bin .leq (.t 31) (.t 32)⟩,
   ⟨some 34, none, false, .pick (.t 27) (.t 33) (.c (.bool false))⟩])
 (.cond (.t 34)
  .skip
  (.exit 2)))
 (.block 3 (.region false [0, 2, 4, 5] [] [⟨some 35, none, false, .mv (.t 5)⟩,
    ⟨some 36, none, false, .bin .add (.t 35) (.c (.int .i64 1))⟩,
    ⟨some 5, none, false, .mv (.t 36)⟩])))
/-- civiltime/civil.Date -/
def af63 : AFun := ⟨46, true, [.cell 2 true 3, .tmp 3],
 (.seq (.region false [0, 2] [] [⟨some 2, none, false, .new [(.int .i64 0), (.int .i64 0), (.int .i64 0)]⟩,
   ⟨some 3, none, false, .mv (.c (.int .i64 0))⟩])
 (.seq (.seq (.region false [0, 2, 8] [] [⟨some 6, none, false, .mv (.t 0)⟩,
   ⟨some 7, none, false, .call (.f 51) [(.t 6)]⟩,
   ⟨some 8, none, false, .un .not (.t 7)⟩])
 (.cond (.t 8)
  (.seq (.region false [2, 3] [] [⟨some 9, none, false, .build [(.int .i64 0), (.int .i64 0), (.int .i64 0)] []⟩,
    ⟨none, none, false, .store 3 (.t 2) (.t 9)⟩,
    ⟨some 3, none, false, .mv (.c (.int .i64 2))⟩])
  .ret)
  .skip))
 (.seq (.region false [0, 2, 4] [] [⟨some 10, none, false, .mv (.t 0)⟩,
   ⟨some 11, none, false, .bin .sub (.t 10) (.c (.int .i64 (-719162)))⟩,
   ⟨some 12, none, false, .bin .quo (.t 11) (.c (.int .i64 366))⟩,
   ⟨some 13, none, false, .bin .add (.t 12) (.c (.int .i64 1))⟩,
   ⟨some 4, none, false, .mv (.t 13)⟩])
 (.seq (.block 0 af63L0)
 (.seq (.region false [0, 2, 4, 5] [] [⟨some 5, none, false, .mv (.c (.int .i64 1))⟩])
 (.seq (.block 2 af63L1)
 (.seq (.region false [2, 3] [] [⟨some 37, none, false, .mv (.t 4)⟩,
   ⟨some 38, none, false, .mv (.t 5)⟩,
   ⟨some 39, none, false, .mv (.t 0)⟩,
   ⟨some 40, none, false, .mv (.t 4)⟩,
   ⟨some 41, none, false, .mv (.t 5)⟩,
   ⟨some 42, none, false, .call (.f 54) [(.t 40), (.t 41), (.c (.int .i64 1))]⟩,
   ⟨some 43, none, false, .bin .sub (.t 39) (.t 42)⟩,
   ⟨some 44, none, false, .bin .add (.t 43) (.c (.int .i64 1))⟩,
   ⟨some 45, none, false, .build [(.int .i64 0), (.int .i64 0), (.int .i64 0)] [(0, 1, (.t 37)), (1, 1, (.t 38)), (2, 1, (.t 44))]⟩,
   ⟨none, none, false, .store 3 (.t 2) (.t 45)⟩,
   ⟨some 3, none, false, .mv (.c (.int .i64 0))⟩])
 .ret)))))))⟩
/-- slices.SortFunc[[]civiltime/api.HolidayDay,civiltime/api.HolidayDay] -/
def af64 : AFun := ⟨14, true, [],
 (.seq (.region false [0, 1, 4] [] [⟨some 5, none, false, .mv (.t 0)⟩,
   ⟨some 6, none, false, .bi (.len 1) [(.t 5)]⟩,
   ⟨some 4, none, false, .mv (.t 6)⟩])
 (.region false [] [] [⟨some 7, none, false, .mv (.t 0)⟩,
   ⟨some 8, none, false, .mv (.t 4)⟩,
   ⟨some 9, none, false, .mv (.t 4)⟩,
   ⟨some 10, none, false, .conv (.int .u64) (.t 9)⟩,
   ⟨some 11, none, false, .call (.f 123) [(.t 10)]⟩,
   ⟨some 12, none, false, .mv (.t 1)⟩,
   ⟨some 13, none, false, .call (.f 122) [(.t 7), (.c (.int .i64 0)), (.t 8), (.t 11), (.t 12)]⟩]))⟩
/-- civiltime/holiday.order -/
def af65 : AFun := ⟨17, true, [.tmp 4],
 (.seq (.region false [2, 3] [] [⟨some 2, none, false, .box (.t 0)⟩,
   ⟨some 3, none, false, .box (.t 1)⟩,
   ⟨some 4, none, false, .mv (.c (.int .i64 0))⟩])
 (.seq (.region true [4] [] [⟨some 5, none, false, .fldaddr 0 (.t 2)⟩,
   ⟨some 6, none, false, .load false 1 (.t 5)⟩,
   ⟨some 7, none, false, .fldaddr 0 (.t 3)⟩,
   ⟨some 8, none, false, .load false 1 (.t 7)⟩,
   ⟨some 9, none, true, .call (.f 125) [(.t 6), (.t 8)]⟩,
   ⟨some 10, none, false, .fldaddr 1 (.t 2)⟩,
   ⟨some 11, none, false, .load false 1 (.t 10)⟩,
   ⟨some 12, none, false, .fldaddr 1 (.t 3)⟩,
   ⟨some 13, none, false, .load false 1 (.t 12)⟩,
   ⟨some 14, none, false, .call (.f 125) [(.t 11), (.t 13)]⟩,
   ⟨some 15, none, false, .bslice [(.int .i64 0), (.int .i64 0)] [(0, 1, (.t 9)), (1, 1, (.t 14))] 2 1⟩,
   ⟨some 16, none, false, .call (.f 124) [(.t 15)]⟩,
   ⟨some 4, none, false, .mv (.t 16)⟩])
 .ret))⟩
def af66L0 : ACode := .loop [0, 3, 4, 5]
 (.seq (.seq (.region false [0, 3, 4, 5, 32] [] [⟨some 29, none, false, .mv (.t 5)⟩,
   ⟨some 30, none, false, .mv (.t 4)⟩,
   ⟨some 31, none, false, .bi (.len 1) [(.t 30)]⟩,
   ⟨some 32, none, false, .bin .lss (.t 29) (.t 31)⟩])
 (.cond (.t 32)
  .skip
  (.exit 2)))
 (.seq (.block 3 (.seq (.region true [0, 3, 4, 5, 44] [] [⟨some 35, none, false, .mv (.t 4)⟩,
    ⟨some 36, none, false, .mv (.t 5)⟩,
    ⟨some 37, none, false, .idxaddr none 2 (.t 35) (.t 36)⟩,
    ⟨some 38, none, false, .load true 2 (.t 37)⟩,
    ⟨some 39, none, false, .mv (.t 4)⟩,
    ⟨some 40, none, false, .mv (.t 5)⟩,
    ⟨some 41, none, false, .bin .sub (.t 40) (.c (.int .i64 1))⟩,
    ⟨some 42, none, false, .idxaddr none 2 (.t 39) (.t 41)⟩,
    ⟨some 43, none, false, .load true 2 (.t 42)⟩,
    ⟨some 44, none, false, .eq true (.flat [1, 1]) (.t 38) (.t 43)⟩])
  (.cond (.t 44)
   (.seq (.region false [0, 3, 4, 5] [] [⟨some 45, none, false, .mv (.t 0)⟩,
     ⟨some 46, none, false, .mv (.t 3)⟩,
     ⟨some 47, none, false, .mv (.t 4)⟩,
     ⟨some 48, none, false, .mv (.t 5)⟩,
     ⟨some 49, none, false, .idxaddr none 2 (.t 47) (.t 48)⟩,
     ⟨some 50, none, false, .load true 2 (.t 49)⟩,
     ⟨some 51, none, false, .idxaddr none 2 (.t 45) (.t 46)⟩,
     ⟨none, none, false, .store 2 (.t 51) (.t 50)⟩])
   (.region false [0, 3, 4, 5] [] [⟨some 52, none, false, .mv (.t 3)⟩,
     ⟨some 53, none, false, .bin .add (.t 52) (.c (.int .i64 1))⟩,
     ⟨some 3, none, false, .mv (.t 53)⟩]))
   .skip)))
 (.region false [0, 3, 4, 5] [] [⟨some 33, none, false, .mv (.t 5)⟩,
   ⟨some 34, none, false, .bin .add (.t 33) (.c (.int .i64 1))⟩,
   ⟨some 5, none, false, .mv (.t 34)⟩])))
def af66L1 : ACode := .loop [0, 3]
 (.seq (.seq (.region false [0, 3, 13] [] [⟨some 10, none, false, .mv (.t 3)⟩,
   ⟨some 11, none, false, .mv (.t 0)⟩,
   ⟨some 12, none, false, .bi (.len 1) [(.t 11)]⟩,
   ⟨some 13, none, false, .bin .lss (.t 10) (.t 12)⟩])
 (.cond (.t 13)
  .skip
  (.exit 0)))
 (.seq (.block 1 (.seq (.region true [0, 3, 25] [] [⟨some 16, none, false, .mv (.t 0)⟩,
    ⟨some 17, none, false, .mv (.t 3)⟩,
    ⟨some 18, none, false, .idxaddr none 2 (.t 16) (.t 17)⟩,
    ⟨some 19, none, false, .load true 2 (.t 18)⟩,
    ⟨some 20, none, false, .mv (.t 0)⟩,
    ⟨some 21, none, false, .mv (.t 3)⟩,
    ⟨some 22, none, false, .bin .sub (.t 21) (.c (.int .i64 1))⟩,
    ⟨some 23, none, false, .idxaddr none 2 (.t 20) (.t 22)⟩,
    ⟨some 24, none, false, .load true 2 (.t 23)⟩,
    ⟨some 25, none, false, .eq false (.flat [1, 1]) (.t 19) (.t 24)⟩])
  (.cond (.t 25)
   (.seq (.region false [0, 3, 4] [] [⟨some 26, none, false, .mv (.t 0)⟩,
     ⟨some 27, none, false, .mv (.t 3)⟩,
     ⟨some 28, none, false, .slice (.slice 2) (.t 26) (some (.t 27)) none none⟩,
     ⟨some 4, none, false, .mv (.t 28)⟩])
   (.seq (.seq (.region false [0, 3, 4, 5] [] [⟨some 5, none, false, .mv (.c (.int .i64 1))⟩])
   (.block 2 af66L0))
   (.seq (.region false [0, 3] [] [⟨some 54, none, false, .mv (.t 0)⟩,
     ⟨some 55, none, false, .mv (.t 3)⟩,
     ⟨some 56, none, false, .slice (.slice 2) (.t 54) (some (.t 55)) none none⟩,
     ⟨none, none, false, .bi (.clear [(.int .i64 0), (.int .i64 0)]) [(.t 56)]⟩])
   (.seq (.region false [2] [] [⟨some 57, none, false, .mv (.t 0)⟩,
     ⟨some 58, none, false, .mv (.t 3)⟩,
     ⟨some 59, none, false, .slice (.slice 2) (.t 57) none (some (.t 58)) none⟩,
     ⟨some 2, none, false, .mv (.t 59)⟩])
   .ret))))
   .skip)))
 (.region false [0, 3] [] [⟨some 14, none, false, .mv (.t 3)⟩,
   ⟨some 15, none, false, .bin .add (.t 14) (.c (.int .i64 1))⟩,
   ⟨some 3, none, false, .mv (.t 15)⟩])))
/-- slices.Compact[[]civiltime/api.HolidayDay,civiltime/api.HolidayDay] -/
def af66 : AFun := ⟨61, true, [.tmp 2],
 (.seq (.region false [0] [] [⟨some 2, none, false, .mv (.c .nilSl)⟩])
 (.seq (.seq (.region false [0, 8] [] [⟨some 6, none, false, .mv (.t 0)⟩,
   ⟨some 7, none, false, .bi (.len 1) [(.t 6)]⟩,
   ⟨some 8, none, false, .bin .lss (.t 7) (.c (.int .i64 2))⟩])
 (.cond (.t 8)
  (.seq (.region false [2] [] [⟨some 9, none, false, .mv (.t 0)⟩,
    ⟨some 2, none, false, .mv (.t 9)⟩])
  .ret)
  .skip))
 (.seq (.seq (.region false [0, 3] [] [⟨some 3, none, false, .mv (.c (.int .i64 1))⟩])
 (.block 0 af66L1))
 (.seq (.region false [2] [] [⟨some 60, none, false, .mv (.t 0)⟩,
   ⟨some 2, none, false, .mv (.t 60)⟩])
 .ret))))⟩
def af67L0 : ACode := .loop [0, 2, 4]
 (.seq (.seq (.region false [0, 2, 4, 22] [] [⟨some 18, none, false, .mv (.t 4)⟩,
   ⟨some 19, none, false, .bin .add (.t 18) (.c (.int .i64 1))⟩,
   ⟨some 20, none, false, .call (.f 126) [(.t 19)]⟩,
   ⟨some 21, none, false, .mv (.t 0)⟩,
   ⟨some 22, none, false, .bin .leq (.t 20) (.t 21)⟩])
 (.cond (.t 22)
  .skip
  (.exit 0)))
 (.block 1 (.region false [0, 2, 4] [] [⟨some 23, none, false, .mv (.t 4)⟩,
    ⟨some 24, none, false, .bin .add (.t 23) (.c (.int .i64 1))⟩,
    ⟨some 4, none, false, .mv (.t 24)⟩])))
def af67L1 : ACode := .loop [2, 4, 5, 6]
 (.seq (.seq (.region false [2, 4, 5, 6, 34] [] [⟨some 30, none, false, .mv (.t 5)⟩,
   ⟨some 31, none, false, .mv (.t 4)⟩,
   ⟨some 32, none, false, .mv (.t 6)⟩,
   ⟨some 33, none, false, .call (.f 48) [(.t 31), (.t 32)]⟩,
   ⟨some 34, none, false, .bin .gtr (.t 30) (.t 33)⟩])
 (.cond (.t 34)
  .skip
  (.exit 2)))
 (.block 3 (.seq (.region false [2, 4, 5, 6] [] [⟨some 35, none, false, .mv (.t 5)⟩,
    ⟨some 36, none, false, .mv (.t 4)⟩,
    ⟨some 37, none, false, .mv (.t 6)⟩,
    ⟨some 38, none, false, .call (.f 48) [(.t 36), (.t 37)]⟩,
    ⟨some 39, none, false, .bin .sub (.t 35) (.t 38)⟩,
    ⟨some 5, none, false, .mv (.t 39)⟩])
  (.region false [2, 4, 5, 6] [] [⟨some 40, none, false, .mv (.t 6)⟩,
    ⟨some 41, none, false, .bin .add (.t 40) (.c (.int .i64 1))⟩,
    ⟨some 6, none, false, .mv (.t 41)⟩]))))
/-- civiltime/civiltimeref02.Date -/
def af67 : AFun := ⟨46, true, [.cell 2 true 3, .tmp 3],
 (.seq (.region false [0, 2] [] [⟨some 2, none, false, .new [(.int .i64 0), (.int .i64 0), (.int .i64 0)]⟩,
   ⟨some 3, none, false, .mv (.c (.int .i64 0))⟩])
 (.seq (.seq (.region false [0, 2, 12] [] [⟨some 7, none, false, .mv (.t 0)⟩,
   ⟨some 8, none, false, .bin .lss (.t 7) (.c (.int .i64 (-719162)))⟩,
   ⟨some 9, none, false, .mv (.t 8)⟩,
   ⟨some 10, some (9, false), false, .mv (.t 0)⟩,
   ⟨some 11, some (9, false), false, .bin .geq (.t 10) (.c (.int .i64 2932897))⟩,
   ⟨some 12, none, false, .pick (.t 9) (.c (.bool true)) (.t 11)⟩])
 (.cond (.t 12)
  (.seq (.region false [2, 3] [] [⟨some 13, none, false, .build [(.int .i64 0), (.int .i64 0), (.int .i64 0)] []⟩,
    ⟨none, none, false, .store 3 (.t 2) (.t 13)⟩,
    ⟨some 3, none, false, .mv (.c (.int .i64 2))⟩])
  .ret)
  .skip))
 (.seq (.region false [0, 2, 4] [] [⟨some 14, none, false, .mv (.t 0)⟩,
   ⟨some 15, none, false, .bin .sub (.t 14) (.c (.int .i64 (-719162)))⟩,
   ⟨some 16, none, false, .bin .quo (.t 15) (.c (.int .i64 366))⟩,
   ⟨some 17, none, false, .bin .add (.t 16) (.c (.int .i64 1))⟩,
   ⟨some 4, none, false, .mv (.t 17)⟩])
 (.seq (.block 0 af67L0)
 (.seq (.region false [2, 4, 5] [] [⟨some 25, none, false, .mv (.t 0)⟩,
   ⟨some 26, none, false, .mv (.t 4)⟩,
   ⟨some 27, none, false, .call (.f 126) [(.t 26)]⟩,
   ⟨some 28, none, false, .bin .sub (.t 25) (.t 27)⟩,
   ⟨some 29, none, false, .bin .add (.t 28) (.c (.int .i64 1))⟩,
   ⟨some 5, none, false, .mv (.t 29)⟩])
 (.seq (.region false [2, 4, 5, 6] [] [⟨some 6, none, false, .mv (.c (.int .i64 1))⟩])
 (.seq (.block 2 af67L1)
 (.seq (.region false [2, 3] [] [⟨some 42, none, false, .mv (.t 4)⟩,
   ⟨some 43, none, false, .mv (.t 6)⟩,
   ⟨some 44, none, false, .mv (.t 5)⟩,
   ⟨some 45, none, false, .build [(.int .i64 0), (.int .i64 0), (.int .i64 0)] [(0, 1, (.t 42)), (1, 1, (.t 43)), (2, 1, (.t 44))]⟩,
   ⟨none, none, false, .store 3 (.t 2) (.t 45)⟩,
   ⟨some 3, none, false, .mv (.c (.int .i64 0))⟩])
 .ret))))))))⟩
/-- civiltime/zonelex.letter -/
def af88 : AFun := ⟨17, true, [.tmp 2],
 (.seq (.region false [0] [] [⟨some 2, none, false, .mv (.c (.bool false))⟩])
 (.seq (.region false [2] [] [⟨some 3, none, false, .mv (.t 0)⟩,
   ⟨some 4, none, false, .bin .geq (.t 3) (.c (.int .u8 65))⟩,
   ⟨some 5, none, false, .mv (.t 4)⟩,
   ⟨some 6, some (5, true), false, .mv (.t 0)⟩,
   ⟨some 7, some (5, true), false, .bin .leq (.t 6) (.c (.int .u8 90))⟩,
   ⟨some 8, none, false, .pick (.t 5) (.t 7) (.c (.bool false))⟩,
   ⟨some 9, none, false, .mv (.t 8)⟩,
   ⟨some 10, some (9, false), false, .mv (.t 0)⟩,
   ⟨some 11, some (9, false), false, .bin .geq (.t 10) (.c (.int .u8 97))⟩,
   ⟨some 12, some (9, false), false, .mv (.t 11)⟩,
   ⟨some 13, some (12, true), false, .mv (.t 0)⟩,
   ⟨some 14, some (12, true), false, .bin .leq (.t 13) (.c (.int .u8 122))⟩,
   ⟨some 15, some (9, false), false, .pick (.t 12) (.t 14) (.c (.bool false))⟩,
   ⟨some 16, none, false, .pick (.t 9) (.c (.bool true)) (.t 15)⟩,
   ⟨some 2, none, false, .mv (.t 16)⟩])
 .ret))⟩
/-- civiltime/zonelex.digit -/
def af89 : AFun := ⟨9, true, [.tmp 2],
 (.seq (.region false [0] [] [⟨some 2, none, false, .mv (.c (.bool false))⟩])
 (.seq (.region false [2] [] [⟨some 3, none, false, .mv (.t 0)⟩,
   ⟨some 4, none, false, .bin .geq (.t 3) (.c (.int .u8 48))⟩,
   ⟨some 5, none, false, .mv (.t 4)⟩,
   ⟨some 6, some (5, true), false, .mv (.t 0)⟩,
   ⟨some 7, some (5, true), false, .bin .leq (.t 6) (.c (.int .u8 57))⟩,
   ⟨some 8, none, false, .pick (.t 5) (.t 7) (.c (.bool false))⟩,
   ⟨some 2, none, false, .mv (.t 8)⟩])
 .ret))⟩
/-- strings.IndexByte -/
def af90 : AFun := ⟨8, true, [.tmp 4],
 (.seq (.region false [0, 1] [] [⟨some 4, none, false, .mv (.c (.int .i64 0))⟩])
 (.seq (.region false [4] [] [⟨some 5, none, false, .mv (.t 0)⟩,
   ⟨some 6, none, false, .mv (.t 1)⟩,
   ⟨some 7, none, false, .call (.f 154) [(.t 5), (.t 6)]⟩,
   ⟨some 4, none, false, .mv (.t 7)⟩])
 .ret))⟩
/-- civiltime/civil.year -/
def af91 : AFun := ⟨9, true, [.tmp 2],
 (.seq (.region false [0] [] [⟨some 2, none, false, .mv (.c (.bool false))⟩])
 (.seq (.region false [2] [] [⟨some 3, none, false, .mv (.t 0)⟩,
   ⟨some 4, none, false, .bin .geq (.t 3) (.c (.int .i64 1))⟩,
   ⟨some 5, none, false, .mv (.t 4)⟩,
   ⟨some 6, some (5, true), false, .mv (.t 0)⟩,
   ⟨some 7, some (5, true), false, .bin .leq (.t 6) (.c (.int .i64 9999))⟩,
   ⟨some 8, none, false, .pick (.t 5) (.t 7) (.c (.bool false))⟩,
   ⟨some 2, none, false, .mv (.t 8)⟩])
 .ret))⟩
/-- civiltime/civil.Leap -/
def af92 : AFun := ⟨20, true, [.tmp 2],
 (.seq (.region false [0] [] [⟨some 2, none, false, .mv (.c (.bool false))⟩])
 (.seq (.region false [2] [] [⟨some 3, none, false, .mv (.t 0)⟩,
   ⟨some 4, none, false, .call (.f 91) [(.t 3)]⟩,
   ⟨some 5, none, false, .mv (.t 4)⟩,
   ⟨some 6, some (5, true), false, .mv (.t 0)⟩,
   ⟨some 7, some (5, true), false, .bin .rem (.t 6) (.c (.int .i64 4))⟩,
   ⟨some 8, some (5, true), false, .bin .eql (.t 7) (.c (.int .i64 0))⟩,
   ⟨some 9, none, false, .pick (.t 5) (.t 8) (.c (.bool false))⟩,
   ⟨some 10, none, false, .mv (.t 9)⟩,
   ⟨some 11, some (10, true), false, .mv (.t 0)⟩,
   ⟨some 12, some (10, true), false, .bin .rem (.t 11) (.c (.int .i64 100))⟩,
   ⟨some 13, some (10, true), false, .bin .neq (.t 12) (.c (.int .i64 0))⟩,
   ⟨some 14, some (10, true), false, .mv (.t 13)⟩,
   ⟨some 15, some (14, false), false, .mv (.t 0)⟩,
   ⟨some 16, some (14, false), false, .bin .rem (.t 15) (.c (.int .i64 400))⟩,
   ⟨some 17, some (14, false), false, .bin .eql (.t 16) (.c (.int .i64 0))⟩,
   ⟨some 18, some (10, true), false, .pick (.t 14) (.c (.bool true)) (.t 17)⟩,
   ⟨some 19, none, false, .pick (.t 10) (.t 18) (.c (.bool false))⟩,
   ⟨some 2, none, false, .mv (.t 19)⟩])
 .ret))⟩
/-- civiltime/civiltimeref20.letter -/
def af93 : AFun := ⟨17, true, [.tmp 2],
 (.seq (.region false [0] [] [⟨some 2, none, false, .mv (.c (.bool false))⟩])
 (.seq (.region false [2] [] [⟨some 3, none, false, .mv (.t 0)⟩,
   ⟨some 4, none, false, .bin .geq (.t 3) (.c (.int .u8 97))⟩,
   ⟨some 5, none, false, .mv (.t 4)⟩,
   ⟨some 6, some (5, true), false, .mv (.t 0)⟩,
   ⟨some 7, some (5, true), false, .bin .leq (.t 6) (.c (.int .u8 122))⟩,
   ⟨some 8, none, false, .pick (.t 5) (.t 7) (.c (.bool false))⟩,
   ⟨some 9, none, false, .mv (.t 8)⟩,
   ⟨some 10, some (9, false), false, .mv (.t 0)⟩,
   ⟨some 11, some (9, false), false, .bin .geq (.t 10) (.c (.int .u8 65))⟩,
   ⟨some 12, some (9, false), false, .mv (.t 11)⟩,
   ⟨some 13, some (12, true), false, .mv (.t 0)⟩,
   ⟨some 14, some (12, true), false, .bin .leq (.t 13) (.c (.int .u8 90))⟩,
   ⟨some 15, some (9, false), false, .pick (.t 12) (.t 14) (.c (.bool false))⟩,
   ⟨some 16, none, false, .pick (.t 9) (.c (.bool true)) (.t 15)⟩,
   ⟨some 2, none, false, .mv (.t 16)⟩])
 .ret))⟩
/-- civiltime/civiltimeref20.digit -/
def af94 : AFun := ⟨9, true, [.tmp 2],
 (.seq (.region false [0] [] [⟨some 2, none, false, .mv (.c (.bool false))⟩])
 (.seq (.region false [2] [] [⟨some 3, none, false, .mv (.t 0)⟩,
   ⟨some 4, none, false, .bin .geq (.t 3) (.c (.int .u8 48))⟩,
   ⟨some 5, none, false, .mv (.t 4)⟩,
   ⟨some 6, some (5, true), false, .mv (.t 0)⟩,
   ⟨some 7, some (5, true), false, .bin .leq (.t 6) (.c (.int .u8 57))⟩,
   ⟨some 8, none, false, .pick (.t 5) (.t 7) (.c (.bool false))⟩,
   ⟨some 2, none, false, .mv (.t 8)⟩])
 .ret))⟩
/-- civiltime/civiltimeref02.Leap -/
def af95 : AFun := ⟨22, true, [.tmp 2],
 (.seq (.region false [0] [] [⟨some 2, none, false, .mv (.c (.bool false))⟩])
 (.seq (.seq (.region false [0, 8] [] [⟨some 3, none, false, .mv (.t 0)⟩,
   ⟨some 4, none, false, .bin .lss (.t 3) (.c (.int .i64 1))⟩,
   ⟨some 5, none, false, .mv (.t 4)⟩,
   ⟨some 6, some (5, false), false, .mv (.t 0)⟩,
   ⟨some 7, some (5, false), false, .bin .gtr (.t 6) (.c (.int .i64 9999))⟩,
   ⟨some 8, none, false, .pick (.t 5) (.c (.bool true)) (.t 7)⟩])
 (.cond (.t 8)
  (.seq (.region false [2] [] [⟨some 2, none, false, .mv (.c (.bool false))⟩])
  .ret)
  .skip))
 (.seq (.region false [2] [] [⟨some 9, none, false, .mv (.t 0)⟩,
   ⟨some 10, none, false, .bin .rem (.t 9) (.c (.int .i64 400))⟩,
   ⟨some 11, none, false, .bin .eql (.t 10) (.c (.int .i64 0))⟩,
   ⟨some 12, none, false, .mv (.t 11)⟩,
   ⟨some 13, some (12, false), false, .mv (.t 0)⟩,
   ⟨some 14, some (12, false), false, .bin .rem (.t 13) (.c (.int .i64 4))⟩,
   ⟨some 15, some (12, false), false, .bin .eql (.t 14) (.c (.int .i64 0))⟩,
   ⟨some 16, some (12, false), false, .mv (.t 15)⟩,
   ⟨some 17, some (16, true), false, .mv (.t 0)⟩,
   ⟨some 18, some (16, true), false, .bin .rem (.t 17) (.c (.int .i64 100))⟩,
   ⟨some 19, some (16, true), false, .bin .neq (.t 18) (.c (.int .i64 0))⟩,
   ⟨some 20, some (12, false), false, .pick (.t 16) (.t 19) (.c (.bool false))⟩,
   ⟨some 21, none, false, .pick (.t 12) (.c (.bool true)) (.t 20)⟩,
   ⟨some 2, none, false, .mv (.t 21)⟩])
 .ret)))⟩
/-- slices.ContainsFunc[[]civiltime/api.Holiday,civiltime/api.Holiday] -/
def af96 : AFun := ⟨9, true, [.tmp 4],
 (.seq (.region false [0, 1] [] [⟨some 4, none, false, .mv (.c (.bool false))⟩])
 (.seq (.region false [4] [] [⟨some 5, none, false, .mv (.t 0)⟩,
   ⟨some 6, none, false, .mv (.t 1)⟩,
   ⟨some 7, none, false, .call (.f 155) [(.t 5), (.t 6)]⟩,
   ⟨some 8, none, false, .bin .geq (.t 7) (.c (.int .i64 0))⟩,
   ⟨some 4, none, false, .mv (.t 8)⟩])
 .ret))⟩
/-- civiltime/holiday.all$1 -/
def af97 : AFun := ⟨6, true, [.tmp 2],
 (.seq (.region false [1] [] [⟨some 1, none, false, .box (.t 0)⟩,
   ⟨some 2, none, false, .mv (.c (.bool false))⟩])
 (.seq (.region false [2] [] [⟨some 3, none, false, .load true 10 (.t 1)⟩,
   ⟨some 4, none, false, .call (.f 14) [(.t 3)]⟩,
   ⟨some 5, none, false, .un .not (.t 4)⟩,
   ⟨some 2, none, false, .mv (.t 5)⟩])
 .ret))⟩
/-- civiltime/holiday.finders -/
def af98 : AFun := ⟨3, true, [.tmp 0],
 (.seq (.region false [] [] [⟨some 0, none, false, .mv (.c .nilMap)⟩])
 (.seq (.region false [0] [] [⟨some 1, none, false, .mkmap⟩,
   ⟨none, none, false, .mapset false (.t 1) (.c (.int .i64 1)) (.f 156)⟩,
   ⟨none, none, false, .mapset false (.t 1) (.c (.int .i64 2)) (.f 158)⟩,
   ⟨none, none, false, .mapset false (.t 1) (.c (.int .i64 3)) (.f 160)⟩,
   ⟨none, none, false, .mapset false (.t 1) (.c (.int .i64 4)) (.f 161)⟩,
   ⟨none, none, false, .mapset false (.t 1) (.c (.int .i64 5)) (.f 163)⟩,
   ⟨some 2, none, false, .mv (.t 1)⟩,
   ⟨some 0, none, false, .mv (.t 2)⟩])
 .ret))⟩
/-- civiltime/holiday.observed -/
def af99 : AFun := ⟨42, true, [.tmp 4],
 (.seq (.region false [0, 1] [] [⟨some 4, none, false, .mv (.c (.int .i64 0))⟩])
 (.seq (.region false [0, 1, 5] [] [⟨some 6, none, false, .mv (.t 0)⟩,
   ⟨some 7, none, false, .bin .add (.t 6) (.c (.int .i64 3))⟩,
   ⟨some 8, none, false, .bin .rem (.t 7) (.c (.int .i64 7))⟩,
   ⟨some 9, none, false, .bin .add (.t 8) (.c (.int .i64 7))⟩,
   ⟨some 10, none, false, .bin .rem (.t 9) (.c (.int .i64 7))⟩,
   ⟨some 11, none, false, .bin .add (.t 10) (.c (.int .i64 1))⟩,
   ⟨some 5, none, false, .mv (.t 11)⟩])
 (.seq (.block 0 (.seq (.region false [0, 1, 5, 12] [] [⟨some 13, none, false, .mv (.t 1)⟩,
    ⟨some 14, none, false, .bin .eql (.t 13) (.c (.int .i64 2))⟩,
    ⟨some 15, none, false, .mv (.t 14)⟩,
    ⟨some 16, some (15, true), false, .mv (.t 5)⟩,
    ⟨some 17, some (15, true), false, .bin .gtr (.t 16) (.c (.int .i64 5))⟩,
    ⟨some 18, none, false, .pick (.t 15) (.t 17) (.c (.bool false))⟩,
    ⟨some 12, none, false, .mv (.t 18)⟩])
  (.cond (.t 12)
   (.seq (.region false [4] [] [⟨some 19, none, false, .mv (.t 0)⟩,
     ⟨some 20, none, false, .bin .add (.t 19) (.c (.int .i64 8))⟩,
     ⟨some 21, none, false, .mv (.t 5)⟩,
     ⟨some 22, none, false, .bin .sub (.t 20) (.t 21)⟩,
     ⟨some 4, none, false, .mv (.t 22)⟩])
   .ret)
   (.seq (.region false [0, 1, 5, 23] [] [⟨some 24, none, false, .mv (.t 1)⟩,
     ⟨some 25, none, false, .bin .eql (.t 24) (.c (.int .i64 3))⟩,
     ⟨some 26, none, false, .mv (.t 25)⟩,
     ⟨some 27, some (26, true), false, .mv (.t 5)⟩,
     ⟨some 28, some (26, true), false, .bin .eql (.t 27) (.c (.int .i64 6))⟩,
     ⟨some 29, none, false, .pick (.t 26) (.t 28) (.c (.bool false))⟩,
     ⟨some 23, none, false, .mv (.t 29)⟩])
   (.cond (.t 23)
    (.seq (.region false [4] [] [⟨some 30, none, false, .mv (.t 0)⟩,
      ⟨some 31, none, false, .bin .sub (.t 30) (.c (.int .i64 1))⟩,
      ⟨some 4, none, false, .mv (.t 31)⟩])
    .ret)
    (.seq (.region false [0, 32] [] [⟨some 33, none, false, .mv (.t 1)⟩,
      ⟨some 34, none, false, .bin .eql (.t 33) (.c (.int .i64 3))⟩,
      ⟨some 35, none, false, .mv (.t 34)⟩,
      ⟨some 36, some (35, true), false, .mv (.t 5)⟩,
      ⟨some 37, some (35, true), false, .bin .eql (.t 36) (.c (.int .i64 7))⟩,
      ⟨some 38, none, false, .pick (.t 35) (.t 37) (.c (.bool false))⟩,
      ⟨some 32, none, false, .mv (.t 38)⟩])
    (.cond (.t 32)
     (.seq (.region false [4] [] [⟨some 39, none, false, .mv (.t 0)⟩,
       ⟨some 40, none, false, .bin .add (.t 39) (.c (.int .i64 1))⟩,
       ⟨some 4, none, false, .mv (.t 40)⟩])
     .ret)
     .skip)))))))
 (.seq (.region false [4] [] [⟨some 41, none, false, .mv (.t 0)⟩,
   ⟨some 4, none, false, .mv (.t 41)⟩])
 .ret))))⟩
/-- civiltime/integer.Div -/
def af100 : AFun := ⟨41, true, [.tmp 4, .tmp 5, .tmp 6],
 (.seq (.region false [0, 1] [] [⟨some 4, none, false, .mv (.c (.int .i64 0))⟩,
   ⟨some 5, none, false, .mv (.c (.int .i64 0))⟩,
   ⟨some 6, none, false, .mv (.c (.int .i64 0))⟩])
 (.seq (.block 0 (.seq (.region false [0, 1, 9] [] [⟨some 10, none, false, .mv (.t 1)⟩,
    ⟨some 11, none, false, .bin .eql (.t 10) (.c (.int .i64 0))⟩,
    ⟨some 9, none, false, .mv (.t 11)⟩])
  (.cond (.t 9)
   (.seq (.region false [4, 5, 6] [] [⟨some 4, none, false, .mv (.c (.int .i64 0))⟩,
     ⟨some 5, none, false, .mv (.c (.int .i64 0))⟩,
     ⟨some 6, none, false, .mv (.c (.int .i64 10))⟩])
   .ret)
   (.seq (.region false [0, 1, 12] [] [⟨some 13, none, false, .mv (.t 0)⟩,
     ⟨some 14, none, false, .bin .eql (.t 13) (.c (.int .i64 (-9223372036854775808)))⟩,
     ⟨some 15, none, false, .mv (.t 14)⟩,
     ⟨some 16, some (15, true), false, .mv (.t 1)⟩,
     ⟨some 17, some (15, true), false, .bin .eql (.t 16) (.c (.int .i64 (-1)))⟩,
     ⟨some 18, none, false, .pick (.t 15) (.t 17) (.c (.bool false))⟩,
     ⟨some 12, none, false, .mv (.t 18)⟩])
   (.cond (.t 12)
    (.seq (.region false [4, 5, 6] [] [⟨some 4, none, false, .mv (.c (.int .i64 0))⟩,
      ⟨some 5, none, false, .mv (.c (.int .i64 0))⟩,
      ⟨some 6, none, false, .mv (.c (.int .i64 9))⟩])
    .ret)
    .skip)))))
 (.seq (.region true [1, 7, 8] [] [⟨some 19, none, false, .mv (.t 0)⟩,
   ⟨some 20, none, false, .mv (.t 1)⟩,
   ⟨some 21, none, false, .bin .quo (.t 19) (.t 20)⟩,
   ⟨some 22, none, false, .mv (.t 0)⟩,
   ⟨some 23, none, false, .mv (.t 1)⟩,
   ⟨some 24, none, false, .bin .rem (.t 22) (.t 23)⟩,
   ⟨some 7, none, false, .mv (.t 21)⟩,
   ⟨some 8, none, false, .mv (.t 24)⟩])
 (.seq (.seq (.region false [1, 7, 8, 33] [] [⟨some 25, none, false, .mv (.t 8)⟩,
   ⟨some 26, none, false, .bin .neq (.t 25) (.c (.int .i64 0))⟩,
   ⟨some 27, none, false, .mv (.t 26)⟩,
   ⟨some 28, some (27, true), false, .mv (.t 8)⟩,
   ⟨some 29, some (27, true), false, .bin .lss (.t 28) (.c (.int .i64 0))⟩,
   ⟨some 30, some (27, true), false, .mv (.t 1)⟩,
   ⟨some 31, some (27, true), false, .bin .lss (.t 30) (.c (.int .i64 0))⟩,
   ⟨some 32, some (27, true), false, .eq true .bool (.t 29) (.t 31)⟩,
   ⟨some 33, none, false, .pick (.t 27) (.t 32) (.c (.bool false))⟩])
 (.cond (.t 33)
  (.region false [7, 8] [] [⟨some 34, none, false, .mv (.t 7)⟩,
    ⟨some 35, none, false, .bin .sub (.t 34) (.c (.int .i64 1))⟩,
    ⟨some 36, none, false, .mv (.t 8)⟩,
    ⟨some 37, none, false, .mv (.t 1)⟩,
    ⟨some 38, none, false, .bin .add (.t 36) (.t 37)⟩,
    ⟨some 7, none, false, .mv (.t 35)⟩,
    ⟨some 8, none, false, .mv (.t 38)⟩])
  .skip))
 (.seq (.region false [4, 5, 6] [] [⟨some 39, none, false, .mv (.t 7)⟩,
   ⟨some 40, none, false, .mv (.t 8)⟩,
   ⟨some 4, none, false, .mv (.t 39)⟩,
   ⟨some 5, none, false, .mv (.t 40)⟩,
   ⟨some 6, none, false, .mv (.c (.int .i64 0))⟩])
 .ret)))))⟩
/-- civiltime/feast.permitted -/
def af101 : AFun := ⟨9, true, [.tmp 2],
 (.seq (.region false [0] [] [⟨some 2, none, false, .mv (.c (.bool false))⟩])
 (.seq (.region false [2] [] [⟨some 3, none, false, .mv (.t 0)⟩,
   ⟨some 4, none, false, .bin .geq (.t 3) (.c (.int .i64 1))⟩,
   ⟨some 5, none, false, .mv (.t 4)⟩,
   ⟨some 6, some (5, true), false, .mv (.t 0)⟩,
   ⟨some 7, some (5, true), false, .bin .leq (.t 6) (.c (.int .i64 9999))⟩,
   ⟨some 8, none, false, .pick (.t 5) (.t 7) (.c (.bool false))⟩,
   ⟨some 2, none, false, .mv (.t 8)⟩])
 .ret))⟩
/-- civiltime/feast.Epact -/
def af102 : AFun := ⟨25, true, [.tmp 2],
 (.seq (.region false [0] [] [⟨some 2, none, false, .mv (.c (.int .i64 0))⟩])
 (.seq (.seq (.region false [0, 6] [] [⟨some 4, none, false, .mv (.t 0)⟩,
   ⟨some 5, none, false, .call (.f 101) [(.t 4)]⟩,
   ⟨some 6, none, false, .un .not (.t 5)⟩])
 (.cond (.t 6)
  (.seq (.region false [2] [] [⟨some 2, none, false, .mv (.c (.int .i64 (-1)))⟩])
  .ret)
  .skip))
 (.seq (.region false [0, 3] [] [⟨some 7, none, false, .mv (.t 0)⟩,
   ⟨some 8, none, false, .bin .quo (.t 7) (.c (.int .i64 100))⟩,
   ⟨some 3, none, false, .mv (.t 8)⟩])
 (.seq (.region false [2] [] [⟨some 9, none, false, .mv (.t 3)⟩,
   ⟨some 10, none, false, .bin .quo (.t 9) (.c (.int .i64 4))⟩,
   ⟨some 11, none, false, .bin .add (.c (.int .i64 8)) (.t 10)⟩,
   ⟨some 12, none, false, .mv (.t 3)⟩,
   ⟨some 13, none, false, .bin .sub (.t 11) (.t 12)⟩,
   ⟨some 14, none, false, .mv (.t 3)⟩,
   ⟨some 15, none, false, .bin .mul (.c (.int .i64 8)) (.t 14)⟩,
   ⟨some 16, none, false, .bin .add (.t 15) (.c (.int .i64 13))⟩,
   ⟨some 17, none, false, .bin .quo (.t 16) (.c (.int .i64 25))⟩,
   ⟨some 18, none, false, .bin .add (.t 13) (.t 17)⟩,
   ⟨some 19, none, false, .mv (.t 0)⟩,
   ⟨some 20, none, false, .call (.f 103) [(.t 19)]⟩,
   ⟨some 21, none, false, .bin .sub (.t 20) (.c (.int .i64 1))⟩,
   ⟨some 22, none, false, .bin .mul (.c (.int .i64 11)) (.t 21)⟩,
   ⟨some 23, none, false, .bin .add (.t 18) (.t 22)⟩,
   ⟨some 24, none, false, .call (.f 164) [(.t 23), (.c (.int .i64 30))]⟩,
   ⟨some 2, none, false, .mv (.t 24)⟩])
 .ret))))⟩
/-- civiltime/feast.Golden -/
def af103 : AFun := ⟨9, true, [.tmp 2],
 (.seq (.region false [0] [] [⟨some 2, none, false, .mv (.c (.int .i64 0))⟩])
 (.seq (.seq (.region false [0, 5] [] [⟨some 3, none, false, .mv (.t 0)⟩,
   ⟨some 4, none, false, .call (.f 101) [(.t 3)]⟩,
   ⟨some 5, none, false, .un .not (.t 4)⟩])
 (.cond (.t 5)
  (.seq (.region false [2] [] [⟨some 2, none, false, .mv (.c (.int .i64 0))⟩])
  .ret)
  .skip))
 (.seq (.region false [2] [] [⟨some 6, none, false, .mv (.t 0)⟩,
   ⟨some 7, none, false, .bin .rem (.t 6) (.c (.int .i64 19))⟩,
   ⟨some 8, none, false, .bin .add (.t 7) (.c (.int .i64 1))⟩,
   ⟨some 2, none, false, .mv (.t 8)⟩])
 .ret)))⟩
/-- civiltime/feast.sunday -/
def af104 : AFun := ⟨9, true, [.tmp 2],
 (.seq (.region false [0] [] [⟨some 2, none, false, .mv (.c (.int .i64 0))⟩])
 (.seq (.region false [2] [] [⟨some 3, none, false, .mv (.t 0)⟩,
   ⟨some 4, none, false, .bin .add (.t 3) (.c (.int .i64 8))⟩,
   ⟨some 5, none, false, .mv (.t 0)⟩,
   ⟨some 6, none, false, .bin .add (.t 5) (.c (.int .i64 1))⟩,
   ⟨some 7, none, false, .call (.f 18) [(.t 6)]⟩,
   ⟨some 8, none, false, .bin .sub (.t 4) (.t 7)⟩,
   ⟨some 2, none, false, .mv (.t 8)⟩])
 .ret))⟩
/-- civiltime/civiltimeref02.Day -/
def af105 : AFun := ⟨14, true, [.tmp 2, .tmp 3],
 (.seq (.region false [1] [] [⟨some 1, none, false, .box (.t 0)⟩,
   ⟨some 2, none, false, .mv (.c (.int .i64 0))⟩,
   ⟨some 3, none, false, .mv (.c (.int .i64 0))⟩])
 (.seq (.seq (.region false [1, 6] [] [⟨some 4, none, false, .load true 3 (.t 1)⟩,
   ⟨some 5, none, false, .call (.f 165) [(.t 4)]⟩,
   ⟨some 6, none, false, .un .not (.t 5)⟩])
 (.cond (.t 6)
  (.seq (.region false [2, 3] [] [⟨some 2, none, false, .mv (.c (.int .i64 0))⟩,
    ⟨some 3, none, false, .mv (.c (.int .i64 1))⟩])
  .ret)
  .skip))
 (.seq (.region true [2, 3] [] [⟨some 7, none, false, .fldaddr 0 (.t 1)⟩,
   ⟨some 8, none, false, .load false 1 (.t 7)⟩,
   ⟨some 9, none, true, .call (.f 126) [(.t 8)]⟩,
   ⟨some 10, none, false, .load true 3 (.t 1)⟩,
   ⟨some 11, none, false, .call (.f 166) [(.t 10)]⟩,
   ⟨some 12, none, false, .bin .add (.t 9) (.t 11)⟩,
   ⟨some 13, none, false, .bin .sub (.t 12) (.c (.int .i64 1))⟩,
   ⟨some 2, none, false, .mv (.t 13)⟩,
   ⟨some 3, none, false, .mv (.c (.int .i64 0))⟩])
 .ret)))⟩
def af106L0 : ACode := .loop [2, 3, 10, 11, 13, 14]
 (.seq (.seq (.region false [2, 3, 10, 11, 13, 14, 42] [] [⟨some 40, none, false, .mv (.t 14)⟩,
   ⟨some 41, none, false, .mv (.t 10)⟩,
   ⟨some 42, none, false, .bin .lss (.t 40) (.t 41)⟩])
 (.cond (.t 42)
  .skip
  (.exit 0)))
 (.seq (.block 1 (.seq (.region false [2, 3, 10, 11, 13, 14, 15] [] [⟨some 45, none, false, .mv (.t 11)⟩,
    ⟨some 46, none, false, .mv (.t 14)⟩,
    ⟨some 47, none, false, .bin .add (.t 45) (.t 46)⟩,
    ⟨some 15, none, false, .mv (.t 47)⟩])
  (.seq (.seq (.region false [2, 3, 10, 11, 13, 14, 15, 49] [] [⟨some 48, none, false, .mv (.t 3)⟩,
    ⟨some 49, none, false, .bin .lss (.t 48) (.c (.int .i64 0))⟩])
  (.cond (.t 49)
   (.region false [2, 3, 10, 11, 13, 14, 15] [] [⟨some 50, none, false, .mv (.t 11)⟩,
     ⟨some 51, none, false, .mv (.t 10)⟩,
     ⟨some 52, none, false, .bin .add (.t 50) (.t 51)⟩,
     ⟨some 53, none, false, .bin .sub (.t 52) (.c (.int .i64 1))⟩,
     ⟨some 54, none, false, .mv (.t 14)⟩,
     ⟨some 55, none, false, .bin .sub (.t 53) (.t 54)⟩,
     ⟨some 15, none, false, .mv (.t 55)⟩])
   .skip))
  (.seq (.region false [2, 3, 10, 11, 13, 14, 15, 59] [] [⟨some 56, none, false, .mv (.t 15)⟩,
    ⟨some 57, none, false, .call (.f 167) [(.t 56)]⟩,
    ⟨some 58, none, false, .mv (.t 2)⟩,
    ⟨some 59, none, false, .bin .eql (.t 57) (.t 58)⟩])
  (.cond (.t 59)
   (.seq (.region false [2, 3, 10, 11, 13, 14, 15] [] [⟨some 60, none, false, .mv (.t 13)⟩,
     ⟨some 61, none, false, .bin .add (.t 60) (.c (.int .i64 1))⟩,
     ⟨some 13, none, false, .mv (.t 61)⟩])
   (.seq (.region false [2, 3, 10, 11, 13, 14, 15, 70] [] [⟨some 62, none, false, .mv (.t 13)⟩,
     ⟨some 63, none, false, .mv (.t 3)⟩,
     ⟨some 64, none, false, .bin .eql (.t 62) (.t 63)⟩,
     ⟨some 65, none, false, .mv (.t 64)⟩,
     ⟨some 66, some (65, false), false, .mv (.t 13)⟩,
     ⟨some 67, some (65, false), false, .bin .sub (.c (.int .i64 0)) (.t 66)⟩,
     ⟨some 68, some (65, false), false, .mv (.t 3)⟩,
     ⟨some 69, some (65, false), false, .bin .eql (.t 67) (.t 68)⟩,
     ⟨some 70, none, false, .pick (.t 65) (.c (.bool true)) (.t 69)⟩])
   (.cond (.t 70)
    (.seq (.region false [8, 9] [] [⟨some 71, none, false, .mv (.t 15)⟩,
      ⟨some 8, none, false, .mv (.t 71)⟩,
      ⟨some 9, none, false, .mv (.c (.int .i64 0))⟩])
    .ret)
    .skip)))
   .skip)))))
 (.region false [2, 3, 10, 11, 13, 14] [] [⟨some 43, none, false, .mv (.t 14)⟩,
   ⟨some 44, none, false, .bin .add (.t 43) (.c (.int .i64 1))⟩,
   ⟨some 14, none, false, .mv (.t 44)⟩])))
/-- civiltime/civiltimeref02.Nth -/
def af106 : AFun := ⟨72, true, [.tmp 8, .tmp 9],
 (.seq (.region false [0, 1, 2, 3] [] [⟨some 8, none, false, .mv (.c (.int .i64 0))⟩,
   ⟨some 9, none, false, .mv (.c (.int .i64 0))⟩])
 (.seq (.region false [0, 1, 2, 3, 10] [] [⟨some 16, none, false, .mv (.t 0)⟩,
   ⟨some 17, none, false, .mv (.t 1)⟩,
   ⟨some 18, none, false, .call (.f 48) [(.t 16), (.t 17)]⟩,
   ⟨some 10, none, false, .mv (.t 18)⟩])
 (.seq (.seq (.region false [0, 1, 2, 3, 10, 32] [] [⟨some 19, none, false, .mv (.t 10)⟩,
   ⟨some 20, none, false, .bin .eql (.t 19) (.c (.int .i64 0))⟩,
   ⟨some 21, none, false, .mv (.t 20)⟩,
   ⟨some 22, some (21, false), false, .mv (.t 2)⟩,
   ⟨some 23, some (21, false), false, .bin .lss (.t 22) (.c (.int .i64 1))⟩,
   ⟨some 24, none, false, .pick (.t 21) (.c (.bool true)) (.t 23)⟩,
   ⟨some 25, none, false, .mv (.t 24)⟩,
   ⟨some 26, some (25, false), false, .mv (.t 2)⟩,
   ⟨some 27, some (25, false), false, .bin .gtr (.t 26) (.c (.int .i64 7))⟩,
   ⟨some 28, none, false, .pick (.t 25) (.c (.bool true)) (.t 27)⟩,
   ⟨some 29, none, false, .mv (.t 28)⟩,
   ⟨some 30, some (29, false), false, .mv (.t 3)⟩,
   ⟨some 31, some (29, false), false, .bin .eql (.t 30) (.c (.int .i64 0))⟩,
   ⟨some 32, none, false, .pick (.t 29) (.c (.bool true)) (.t 31)⟩])
 (.cond (.t 32)
  (.seq (.region false [8, 9] [] [⟨some 8, none, false, .mv (.c (.int .i64 0))⟩,
    ⟨some 9, none, false, .mv (.c (.int .i64 1))⟩])
  .ret)
  .skip))
 (.seq (.region false [2, 3, 10, 11] [] [⟨some 34, none, false, .mv (.t 0)⟩,
   ⟨some 35, none, false, .mv (.t 1)⟩,
   ⟨some 36, none, false, .build [(.int .i64 0), (.int .i64 0), (.int .i64 0)] [(0, 1, (.t 34)), (1, 1, (.t 35)), (2, 1, (.c (.int .i64 1)))]⟩,
   ⟨some 37, none, false, .call (.f 105) [(.t 36)]⟩,
   ⟨some 33, none, false, .mv (.t 37)⟩,
   ⟨some 38, none, false, .ext 0 (.t 33)⟩,
   ⟨some 39, none, false, .ext 1 (.t 33)⟩,
   ⟨some 11, none, false, .mv (.t 38)⟩,
   ⟨some 12, none, false, .mv (.t 39)⟩])
 (.seq (.region false [2, 3, 10, 11, 13] [] [⟨some 13, none, false, .mv (.c (.int .i64 0))⟩])
 (.seq (.seq (.region false [2, 3, 10, 11, 13, 14] [] [⟨some 14, none, false, .mv (.c (.int .i64 0))⟩])
 (.block 0 af106L0))
 (.seq (.region false [8, 9] [] [⟨some 8, none, false, .mv (.c (.int .i64 0))⟩,
   ⟨some 9, none, false, .mv (.c (.int .i64 7))⟩])
 .ret)))))))⟩
/-- civiltime/civiltimeref08.Easter -/
def af107 : AFun := ⟨76, true, [.tmp 2],
 (.seq (.region false [0] [] [⟨some 2, none, false, .mv (.c (.int .i64 0))⟩])
 (.seq (.region false [0, 3, 4, 5] [] [⟨some 12, none, false, .mv (.t 0)⟩,
   ⟨some 13, none, false, .bin .rem (.t 12) (.c (.int .i64 19))⟩,
   ⟨some 14, none, false, .mv (.t 0)⟩,
   ⟨some 15, none, false, .bin .quo (.t 14) (.c (.int .i64 100))⟩,
   ⟨some 16, none, false, .mv (.t 0)⟩,
   ⟨some 17, none, false, .bin .rem (.t 16) (.c (.int .i64 100))⟩,
   ⟨some 3, none, false, .mv (.t 13)⟩,
   ⟨some 4, none, false, .mv (.t 15)⟩,
   ⟨some 5, none, false, .mv (.t 17)⟩])
 (.seq (.region false [0, 3, 4, 5, 6] [] [⟨some 18, none, false, .mv (.t 3)⟩,
   ⟨some 19, none, false, .bin .mul (.c (.int .i64 19)) (.t 18)⟩,
   ⟨some 20, none, false, .mv (.t 4)⟩,
   ⟨some 21, none, false, .bin .add (.t 19) (.t 20)⟩,
   ⟨some 22, none, false, .mv (.t 4)⟩,
   ⟨some 23, none, false, .bin .quo (.t 22) (.c (.int .i64 4))⟩,
   ⟨some 24, none, false, .bin .sub (.t 21) (.t 23)⟩,
   ⟨some 25, none, false, .mv (.t 4)⟩,
   ⟨some 26, none, false, .mv (.t 4)⟩,
   ⟨some 27, none, false, .bin .add (.t 26) (.c (.int .i64 8))⟩,
   ⟨some 28, none, false, .bin .quo (.t 27) (.c (.int .i64 25))⟩,
   ⟨some 29, none, false, .bin .sub (.t 25) (.t 28)⟩,
   ⟨some 30, none, false, .bin .add (.t 29) (.c (.int .i64 1))⟩,
   ⟨some 31, none, false, .bin .quo (.t 30) (.c (.int .i64 3))⟩,
   ⟨some 32, none, false, .bin .sub (.t 24) (.t 31)⟩,
   ⟨some 33, none, false, .bin .add (.t 32) (.c (.int .i64 15))⟩,
   ⟨some 34, none, false, .bin .rem (.t 33) (.c (.int .i64 30))⟩,
   ⟨some 6, none, false, .mv (.t 34)⟩])
 (.seq (.region false [0, 3, 6, 7] [] [⟨some 35, none, false, .mv (.t 4)⟩,
   ⟨some 36, none, false, .bin .rem (.t 35) (.c (.int .i64 4))⟩,
   ⟨some 37, none, false, .bin .mul (.c (.int .i64 2)) (.t 36)⟩,
   ⟨some 38, none, false, .bin .add (.c (.int .i64 32)) (.t 37)⟩,
   ⟨some 39, none, false, .mv (.t 5)⟩,
   ⟨some 40, none, false, .bin .quo (.t 39) (.c (.int .i64 4))⟩,
   ⟨some 41, none, false, .bin .mul (.c (.int .i64 2)) (.t 40)⟩,
   ⟨some 42, none, false, .bin .add (.t 38) (.t 41)⟩,
   ⟨some 43, none, false, .mv (.t 6)⟩,
   ⟨some 44, none, false, .bin .sub (.t 42) (.t 43)⟩,
   ⟨some 45, none, false, .mv (.t 5)⟩,
   ⟨some 46, none, false, .bin .rem (.t 45) (.c (.int .i64 4))⟩,
   ⟨some 47, none, false, .bin .sub (.t 44) (.t 46)⟩,
   ⟨some 48, none, false, .bin .rem (.t 47) (.c (.int .i64 7))⟩,
   ⟨some 7, none, false, .mv (.t 48)⟩])
 (.seq (.region false [0, 6, 7, 8] [] [⟨some 49, none, false, .mv (.t 3)⟩,
   ⟨some 50, none, false, .mv (.t 6)⟩,
   ⟨some 51, none, false, .bin .mul (.c (.int .i64 11)) (.t 50)⟩,
   ⟨some 52, none, false, .bin .add (.t 49) (.t 51)⟩,
   ⟨some 53, none, false, .mv (.t 7)⟩,
   ⟨some 54, none, false, .bin .mul (.c (.int .i64 22)) (.t 53)⟩,
   ⟨some 55, none, false, .bin .add (.t 52) (.t 54)⟩,
   ⟨some 56, none, false, .bin .quo (.t 55) (.c (.int .i64 451))⟩,
   ⟨some 8, none, false, .mv (.t 56)⟩])
 (.seq (.region false [0, 9] [] [⟨some 57, none, false, .mv (.t 6)⟩,
   ⟨some 58, none, false, .mv (.t 7)⟩,
   ⟨some 59, none, false, .bin .add (.t 57) (.t 58)⟩,
   ⟨some 60, none, false, .mv (.t 8)⟩,
   ⟨some 61, none, false, .bin .mul (.c (.int .i64 7)) (.t 60)⟩,
   ⟨some 62, none, false, .bin .sub (.t 59) (.t 61)⟩,
   ⟨some 63, none, false, .bin .add (.t 62) (.c (.int .i64 114))⟩,
   ⟨some 9, none, false, .mv (.t 63)⟩])
 (.seq (.region false [10] [] [⟨some 65, none, false, .mv (.t 0)⟩,
   ⟨some 66, none, false, .mv (.t 9)⟩,
   ⟨some 67, none, false, .bin .quo (.t 66) (.c (.int .i64 31))⟩,
   ⟨some 68, none, false, .mv (.t 9)⟩,
   ⟨some 69, none, false, .bin .rem (.t 68) (.c (.int .i64 31))⟩,
   ⟨some 70, none, false, .bin .add (.t 69) (.c (.int .i64 1))⟩,
   ⟨some 71, none, false, .build [(.int .i64 0), (.int .i64 0), (.int .i64 0)] [(0, 1, (.t 65)), (1, 1, (.t 67)), (2, 1, (.t 70))]⟩,
   ⟨some 72, none, false, .call (.f 105) [(.t 71)]⟩,
   ⟨some 64, none, false, .mv (.t 72)⟩,
   ⟨some 73, none, false, .ext 0 (.t 64)⟩,
   ⟨some 74, none, false, .ext 1 (.t 64)⟩,
   ⟨some 10, none, false, .mv (.t 73)⟩,
   ⟨some 11, none, false, .mv (.t 74)⟩])
 (.seq (.region false [2] [] [⟨some 75, none, false, .mv (.t 10)⟩,
   ⟨some 2, none, false, .mv (.t 75)⟩])
 .ret))))))))⟩
def af108L0 : ACode := .loop [0, 4, 8, 10, 12, 13, 14]
 (.seq (.seq (.region false [0, 4, 8, 10, 12, 13, 14, 87] [] [⟨some 83, none, false, .mv (.t 14)⟩,
   ⟨some 84, none, false, .mv (.t 13)⟩,
   ⟨some 85, none, false, .bin .add (.t 84) (.c (.int .i64 35))⟩,
   ⟨some 86, none, false, .bi .min [(.t 85), (.c (.int .i64 9600))]⟩,
   ⟨some 87, none, false, .bin .leq (.t 83) (.t 86)⟩])
 (.cond (.t 87)
  .skip
  (.exit 0)))
 (.seq (.block 1 (.seq (.region false [0, 4, 8, 10, 12, 13, 14, 15, 16] [] [⟨some 91, none, false, .mv (.t 0)⟩,
    ⟨some 92, none, false, .mv (.t 14)⟩,
    ⟨some 93, none, false, .fldaddr 1 (.t 4)⟩,
    ⟨some 94, none, false, .load false 1 (.t 93)⟩,
    ⟨some 95, none, false, .fldaddr 2 (.t 4)⟩,
    ⟨some 96, none, false, .load false 1 (.t 95)⟩,
    ⟨some 97, none, false, .build [(.int .i64 0), (.int .i64 0), (.int .i64 0)] [(0, 1, (.t 92)), (1, 1, (.t 94)), (2, 1, (.t 96))]⟩,
    ⟨some 98, none, false, .call (.f 169) [(.t 91), (.t 97)]⟩,
    ⟨some 90, none, false, .mv (.t 98)⟩,
    ⟨some 99, none, false, .ext 0 (.t 90)⟩,
    ⟨some 100, none, false, .ext 1 (.t 90)⟩,
    ⟨some 15, none, false, .mv (.t 99)⟩,
    ⟨some 16, none, false, .mv (.t 100)⟩])
  (.seq (.region false [0, 4, 8, 10, 12, 13, 14, 15, 112] [] [⟨some 101, none, false, .mv (.t 16)⟩,
    ⟨some 102, none, false, .bin .eql (.t 101) (.c (.int .i64 0))⟩,
    ⟨some 103, none, false, .mv (.t 102)⟩,
    ⟨some 104, some (103, true), false, .mv (.t 15)⟩,
    ⟨some 105, some (103, true), false, .mv (.t 8)⟩,
    ⟨some 106, some (103, true), false, .bin .geq (.t 104) (.t 105)⟩,
    ⟨some 107, none, false, .pick (.t 103) (.t 106) (.c (.bool false))⟩,
    ⟨some 108, none, false, .mv (.t 107)⟩,
    ⟨some 109, some (108, true), false, .mv (.t 15)⟩,
    ⟨some 110, some (108, true), false, .mv (.t 10)⟩,
    ⟨some 111, some (108, true), false, .bin .leq (.t 109) (.t 110)⟩,
    ⟨some 112, none, false, .pick (.t 108) (.t 111) (.c (.bool false))⟩])
  (.cond (.t 112)
   (.region false [0, 4, 8, 10, 12, 13, 14] [] [⟨some 113, none, false, .mv (.t 12)⟩,
     ⟨some 114, none, false, .mv (.t 15)⟩,
     ⟨some 115, none, false, .bslice [(.int .i64 0)] [(0, 1, (.t 114))] 1 1⟩,
     ⟨some 116, none, false, .bi (.append 1 8) [(.t 113), (.t 115)]⟩,
     ⟨some 12, none, false, .mv (.t 116)⟩])
   .skip))))
 (.region false [0, 4, 8, 10, 12, 13, 14] [] [⟨some 88, none, false, .mv (.t 14)⟩,
   ⟨some 89, none, false, .bin .add (.t 88) (.c (.int .i64 1))⟩,
   ⟨some 14, none, false, .mv (.t 89)⟩])))
/-- civiltime/civiltimeref06.Moved -/
def af108 : AFun := ⟨118, true, [.tmp 6, .tmp 7],
 (.seq (.region false [0, 2, 4] [] [⟨some 4, none, false, .box (.t 1)⟩,
   ⟨some 6, none, false, .mv (.c .nilSl)⟩,
   ⟨some 7, none, false, .mv (.c (.int .i64 0))⟩])
 (.seq (.seq (.region false [0, 2, 4, 55] [] [⟨some 17, none, false, .mv (.t 0)⟩,
   ⟨some 18, none, false, .call (.f 168) [(.t 17)]⟩,
   ⟨some 19, none, false, .un .not (.t 18)⟩,
   ⟨some 20, none, false, .mv (.t 19)⟩,
   ⟨some 21, some (20, false), false, .fldaddr 1 (.t 4)⟩,
   ⟨some 22, some (20, false), false, .load false 1 (.t 21)⟩,
   ⟨some 23, some (20, false), false, .bin .lss (.t 22) (.c (.int .i64 1))⟩,
   ⟨some 24, none, false, .pick (.t 20) (.c (.bool true)) (.t 23)⟩,
   ⟨some 25, none, false, .mv (.t 24)⟩,
   ⟨some 26, some (25, false), false, .fldaddr 1 (.t 4)⟩,
   ⟨some 27, some (25, false), false, .load false 1 (.t 26)⟩,
   ⟨some 28, some (25, false), false, .bin .gtr (.t 27) (.c (.int .i64 12))⟩,
   ⟨some 29, none, false, .pick (.t 25) (.c (.bool true)) (.t 28)⟩,
   ⟨some 30, none, false, .mv (.t 29)⟩,
   ⟨some 31, some (30, false), false, .fldaddr 2 (.t 4)⟩,
   ⟨some 32, some (30, false), false, .load false 1 (.t 31)⟩,
   ⟨some 33, some (30, false), false, .bin .lss (.t 32) (.c (.int .i64 1))⟩,
   ⟨some 34, none, false, .pick (.t 30) (.c (.bool true)) (.t 33)⟩,
   ⟨some 35, none, false, .mv (.t 34)⟩,
   ⟨some 36, some (35, false), false, .fldaddr 2 (.t 4)⟩,
   ⟨some 37, some (35, false), false, .load false 1 (.t 36)⟩,
   ⟨some 38, some (35, false), false, .bin .gtr (.t 37) (.c (.int .i64 30))⟩,
   ⟨some 39, none, false, .pick (.t 35) (.c (.bool true)) (.t 38)⟩,
   ⟨some 40, none, false, .mv (.t 39)⟩,
   ⟨some 41, some (40, false), false, .fldaddr 2 (.t 4)⟩,
   ⟨some 42, some (40, false), false, .load false 1 (.t 41)⟩,
   ⟨some 43, some (40, false), false, .bin .eql (.t 42) (.c (.int .i64 30))⟩,
   ⟨some 44, some (40, false), false, .mv (.t 43)⟩,
   ⟨some 45, some (44, true), false, .fldaddr 1 (.t 4)⟩,
   ⟨some 46, some (44, true), false, .load false 1 (.t 45)⟩,
   ⟨some 47, some (44, true), false, .bin .rem (.t 46) (.c (.int .i64 2))⟩,
   ⟨some 48, some (44, true), false, .bin .eql (.t 47) (.c (.int .i64 0))⟩,
   ⟨some 49, some (40, false), false, .pick (.t 44) (.t 48) (.c (.bool false))⟩,
   ⟨some 50, some (40, false), false, .mv (.t 49)⟩,
   ⟨some 51, some (50, true), false, .fldaddr 1 (.t 4)⟩,
   ⟨some 52, some (50, true), false, .load false 1 (.t 51)⟩,
   ⟨some 53, some (50, true), false, .bin .neq (.t 52) (.c (.int .i64 12))⟩,
   ⟨some 54, some (40, false), false, .pick (.t 50) (.t 53) (.c (.bool false))⟩,
   ⟨some 55, none, false, .pick (.t 40) (.c (.bool true)) (.t 54)⟩])
 (.cond (.t 55)
  (.seq (.region false [6, 7] [] [⟨some 6, none, false, .mv (.c .nilSl)⟩,
    ⟨some 7, none, false, .mv (.c (.int .i64 1))⟩])
  .ret)
  .skip))
 (.seq (.seq (.region false [0, 2, 4, 61] [] [⟨some 56, none, false, .mv (.t 2)⟩,
   ⟨some 57, none, false, .bin .lss (.t 56) (.c (.int .i64 1))⟩,
   ⟨some 58, none, false, .mv (.t 57)⟩,
   ⟨some 59, some (58, false), false, .mv (.t 2)⟩,
   ⟨some 60, some (58, false), false, .bin .gtr (.t 59) (.c (.int .i64 9999))⟩,
   ⟨some 61, none, false, .pick (.t 58) (.c (.bool true)) (.t 60)⟩])
 (.cond (.t 61)
  (.seq (.region false [6, 7] [] [⟨some 6, none, false, .mv (.c .nilSl)⟩,
    ⟨some 7, none, false, .mv (.c (.int .i64 2))⟩])
  .ret)
  .skip))
 (.seq (.region false [0, 2, 4, 8] [] [⟨some 63, none, false, .mv (.t 2)⟩,
   ⟨some 64, none, false, .build [(.int .i64 0), (.int .i64 0), (.int .i64 0)] [(0, 1, (.t 63)), (1, 1, (.c (.int .i64 1))), (2, 1, (.c (.int .i64 1)))]⟩,
   ⟨some 65, none, false, .call (.f 105) [(.t 64)]⟩,
   ⟨some 62, none, false, .mv (.t 65)⟩,
   ⟨some 66, none, false, .ext 0 (.t 62)⟩,
   ⟨some 67, none, false, .ext 1 (.t 62)⟩,
   ⟨some 8, none, false, .mv (.t 66)⟩,
   ⟨some 9, none, false, .mv (.t 67)⟩])
 (.seq (.region false [0, 4, 8, 10] [] [⟨some 69, none, false, .mv (.t 2)⟩,
   ⟨some 70, none, false, .build [(.int .i64 0), (.int .i64 0), (.int .i64 0)] [(0, 1, (.t 69)), (1, 1, (.c (.int .i64 12))), (2, 1, (.c (.int .i64 31)))]⟩,
   ⟨some 71, none, false, .call (.f 105) [(.t 70)]⟩,
   ⟨some 68, none, false, .mv (.t 71)⟩,
   ⟨some 72, none, false, .ext 0 (.t 68)⟩,
   ⟨some 73, none, false, .ext 1 (.t 68)⟩,
   ⟨some 10, none, false, .mv (.t 72)⟩,
   ⟨some 11, none, false, .mv (.t 73)⟩])
 (.seq (.region false [0, 4, 8, 10, 12] [] [⟨some 12, none, false, .mv (.c .nilSl)⟩])
 (.seq (.region false [0, 4, 8, 10, 12, 13] [] [⟨some 74, none, false, .mv (.t 8)⟩,
   ⟨some 75, none, false, .bin .sub (.t 74) (.c (.int .i64 (-492148)))⟩,
   ⟨some 76, none, false, .bin .quo (.t 75) (.c (.int .i64 10631))⟩,
   ⟨some 77, none, false, .bin .mul (.c (.int .i64 30)) (.t 76)⟩,
   ⟨some 13, none, false, .mv (.t 77)⟩])
 (.seq (.seq (.region false [0, 4, 8, 10, 12, 13, 79] [] [⟨some 78, none, false, .mv (.t 8)⟩,
   ⟨some 79, none, false, .bin .lss (.t 78) (.c (.int .i64 (-492148)))⟩])
 (.cond (.t 79)
  (.region false [0, 4, 8, 10, 12, 13] [] [⟨some 13, none, false, .mv (.c (.int .i64 0))⟩])
  .skip))
 (.seq (.seq (.region false [0, 4, 8, 10, 12, 13, 14] [] [⟨some 80, none, false, .mv (.t 13)⟩,
   ⟨some 81, none, false, .bin .sub (.t 80) (.c (.int .i64 1))⟩,
   ⟨some 82, none, false, .bi .max [(.t 81), (.c (.int .i64 1))]⟩,
   ⟨some 14, none, false, .mv (.t 82)⟩])
 (.block 0 af108L0))
 (.seq (.region false [6, 7] [] [⟨some 117, none, false, .mv (.t 12)⟩,
   ⟨some 6, none, false, .mv (.t 117)⟩,
   ⟨some 7, none, false, .mv (.c (.int .i64 0))⟩])
 .ret))))))))))⟩
end Go.Proofs.YtkaadpkokmhfjaaGreatDoor
