/-
  The evaluator's functions of this seat's translation, printed by program (wip/engine/tool.lean): part 1.
-/
import Derived.Test.YtkaadpkokmhfjaaGreatDoorAb2
namespace Go.Proofs.YtkaadpkokmhfjaaGreatDoor
open Go Go.Ab
/-- civiltime/civiltimelaw28.HolidayValid -/
def af3 : AFun := ⟨11, true, [.tmp 2],
 (.seq (.region false [1] [] [⟨some 1, none, false, .box (.t 0)⟩,
   ⟨some 2, none, false, .mv (.c (.bool false))⟩])
 (.seq (.region true [2] [] [⟨some 3, none, false, .call (.f 13) []⟩,
   ⟨some 4, none, false, .mv (.t 3)⟩,
   ⟨some 5, some (4, true), false, .load true 10 (.t 1)⟩,
   ⟨some 6, some (4, true), true, .call (.f 14) [(.t 5)]⟩,
   ⟨some 7, some (4, true), false, .load true 10 (.t 1)⟩,
   ⟨some 8, some (4, true), false, .call (.f 15) [(.t 7)]⟩,
   ⟨some 9, some (4, true), false, .eq false .bool (.t 6) (.t 8)⟩,
   ⟨some 10, none, false, .pick (.t 4) (.t 9) (.c (.bool false))⟩,
   ⟨some 2, none, false, .mv (.t 10)⟩])
 .ret))⟩
/-- civiltime/civiltimelaw28.awake -/
def af13 : AFun := ⟨49, true, [.tmp 0],
 (.seq (.region false [] [] [⟨some 0, none, false, .mv (.c (.bool false))⟩])
 (.seq (.region false [1, 3] [] [⟨some 9, none, false, .call (.f 24) [(.c (.str [78, 101, 119, 89, 101, 97, 114, 32, 102, 105, 120, 101, 100, 32, 74, 97, 110, 32, 49, 32, 49, 32, 57, 57, 57, 57, 32, 109, 111, 110, 100, 97, 121, 10, 70, 114, 105, 100, 97, 121, 32, 110, 116, 104, 32, 52, 32, 84, 104, 117, 32, 78, 111, 118, 32, 49, 32, 50, 48, 48, 48, 32, 57, 57, 57, 57, 32, 101, 120, 97, 99, 116, 108, 121, 10]))]⟩,
   ⟨some 8, none, false, .mv (.t 9)⟩,
   ⟨some 10, none, false, .ext 0 (.t 8)⟩,
   ⟨some 11, none, false, .ext 1 (.t 8)⟩,
   ⟨some 12, none, false, .ext 2 (.t 8)⟩,
   ⟨some 2, none, false, .new [(.int .i64 0), (.int .i64 0)]⟩,
   ⟨some 1, none, false, .mv (.t 10)⟩,
   ⟨none, none, false, .store 2 (.t 2) (.t 11)⟩,
   ⟨some 3, none, false, .mv (.t 12)⟩])
 (.seq (.seq (.region false [1, 19] [] [⟨some 13, none, false, .mv (.t 3)⟩,
   ⟨some 14, none, false, .bin .neq (.t 13) (.c (.int .i64 0))⟩,
   ⟨some 15, none, false, .mv (.t 14)⟩,
   ⟨some 16, some (15, false), false, .mv (.t 1)⟩,
   ⟨some 17, some (15, false), false, .bi (.len 1) [(.t 16)]⟩,
   ⟨some 18, some (15, false), false, .bin .neq (.t 17) (.c (.int .i64 2))⟩,
   ⟨some 19, none, false, .pick (.t 15) (.c (.bool true)) (.t 18)⟩])
 (.cond (.t 19)
  (.seq (.region false [0] [] [⟨some 0, none, false, .mv (.c (.bool false))⟩])
  .ret)
  .skip))
 (.seq (.region false [4, 5] [] [⟨some 21, none, false, .mv (.t 1)⟩,
   ⟨some 22, none, false, .call (.f 17) [(.t 21), (.c (.int .i64 2023))]⟩,
   ⟨some 20, none, false, .mv (.t 22)⟩,
   ⟨some 23, none, false, .ext 0 (.t 20)⟩,
   ⟨some 24, none, false, .ext 1 (.t 20)⟩,
   ⟨some 4, none, false, .mv (.t 23)⟩,
   ⟨some 5, none, false, .mv (.t 24)⟩])
 (.seq (.region false [4, 5, 6, 7] [] [⟨some 26, none, false, .build [(.int .i64 0), (.int .i64 0), (.int .i64 0)] [(0, 1, (.c (.int .i64 2023))), (1, 1, (.c (.int .i64 1))), (2, 1, (.c (.int .i64 2)))]⟩,
   ⟨some 27, none, false, .call (.f 19) [(.t 26)]⟩,
   ⟨some 25, none, false, .mv (.t 27)⟩,
   ⟨some 28, none, false, .ext 0 (.t 25)⟩,
   ⟨some 29, none, false, .ext 1 (.t 25)⟩,
   ⟨some 6, none, false, .mv (.t 28)⟩,
   ⟨some 7, none, false, .mv (.t 29)⟩])
 (.seq (.region false [0] [] [⟨some 30, none, false, .mv (.t 5)⟩,
   ⟨some 31, none, false, .bin .eql (.t 30) (.c (.int .i64 0))⟩,
   ⟨some 32, none, false, .mv (.t 31)⟩,
   ⟨some 33, some (32, true), false, .mv (.t 7)⟩,
   ⟨some 34, some (32, true), false, .bin .eql (.t 33) (.c (.int .i64 0))⟩,
   ⟨some 35, none, false, .pick (.t 32) (.t 34) (.c (.bool false))⟩,
   ⟨some 36, none, false, .mv (.t 35)⟩,
   ⟨some 37, some (36, true), false, .mv (.t 4)⟩,
   ⟨some 38, some (36, true), false, .bi (.len 1) [(.t 37)]⟩,
   ⟨some 39, some (36, true), false, .bin .eql (.t 38) (.c (.int .i64 2))⟩,
   ⟨some 40, none, false, .pick (.t 36) (.t 39) (.c (.bool false))⟩,
   ⟨some 41, none, false, .mv (.t 40)⟩,
   ⟨some 42, some (41, true), false, .mv (.t 4)⟩,
   ⟨some 43, some (41, true), false, .idxaddr none 2 (.t 42) (.c (.int .i64 0))⟩,
   ⟨some 44, some (41, true), false, .load true 2 (.t 43)⟩,
   ⟨some 45, some (41, true), false, .mv (.t 6)⟩,
   ⟨some 46, some (41, true), false, .build [(.int .i64 0), (.int .i64 0)] [(0, 1, (.t 45)), (1, 1, (.c (.int .i64 0)))]⟩,
   ⟨some 47, some (41, true), false, .eq false (.flat [1, 1]) (.t 44) (.t 46)⟩,
   ⟨some 48, none, false, .pick (.t 41) (.t 47) (.c (.bool false))⟩,
   ⟨some 0, none, false, .mv (.t 48)⟩])
 .ret))))))⟩
/-- civiltime/holiday.Valid -/
def af14 : AFun := ⟨171, true, [.tmp 2],
 (.seq (.region false [1] [] [⟨some 1, none, false, .box (.t 0)⟩,
   ⟨some 2, none, false, .mv (.c (.bool false))⟩])
 (.seq (.seq (.region false [1, 31] [] [⟨some 5, none, false, .fldaddr 0 (.t 1)⟩,
   ⟨some 6, none, false, .load false 1 (.t 5)⟩,
   ⟨some 7, none, false, .call (.f 43) [(.t 6)]⟩,
   ⟨some 8, none, false, .un .not (.t 7)⟩,
   ⟨some 9, none, false, .mv (.t 8)⟩,
   ⟨some 10, some (9, false), false, .fldaddr 7 (.t 1)⟩,
   ⟨some 11, some (9, false), false, .load false 1 (.t 10)⟩,
   ⟨some 12, some (9, false), false, .bin .lss (.t 11) (.c (.int .i64 1))⟩,
   ⟨some 13, none, false, .pick (.t 9) (.c (.bool true)) (.t 12)⟩,
   ⟨some 14, none, false, .mv (.t 13)⟩,
   ⟨some 15, some (14, false), false, .fldaddr 7 (.t 1)⟩,
   ⟨some 16, some (14, false), false, .load false 1 (.t 15)⟩,
   ⟨some 17, some (14, false), false, .fldaddr 8 (.t 1)⟩,
   ⟨some 18, some (14, false), false, .load false 1 (.t 17)⟩,
   ⟨some 19, some (14, false), false, .bin .gtr (.t 16) (.t 18)⟩,
   ⟨some 20, none, false, .pick (.t 14) (.c (.bool true)) (.t 19)⟩,
   ⟨some 21, none, false, .mv (.t 20)⟩,
   ⟨some 22, some (21, false), false, .fldaddr 8 (.t 1)⟩,
   ⟨some 23, some (21, false), false, .load false 1 (.t 22)⟩,
   ⟨some 24, some (21, false), false, .bin .gtr (.t 23) (.c (.int .i64 9999))⟩,
   ⟨some 25, none, false, .pick (.t 21) (.c (.bool true)) (.t 24)⟩,
   ⟨some 26, none, false, .mv (.t 25)⟩,
   ⟨some 27, some (26, false), false, .fldaddr 9 (.t 1)⟩,
   ⟨some 28, some (26, false), false, .load false 1 (.t 27)⟩,
   ⟨some 29, some (26, false), false, .call (.f 44) [(.t 28), (.c (.int .i64 1)), (.c (.int .i64 3))]⟩,
   ⟨some 30, some (26, false), false, .un .not (.t 29)⟩,
   ⟨some 31, none, false, .pick (.t 26) (.c (.bool true)) (.t 30)⟩])
 (.cond (.t 31)
  (.seq (.region false [2] [] [⟨some 2, none, false, .mv (.c (.bool false))⟩])
  .ret)
  .skip))
 (.seq (.region false [1, 3] [] [⟨some 32, none, false, .fldaddr 0 (.t 1)⟩,
   ⟨some 33, none, false, .load false 1 (.t 32)⟩,
   ⟨some 34, none, false, .fldaddr 1 (.t 1)⟩,
   ⟨some 35, none, false, .load false 1 (.t 34)⟩,
   ⟨some 36, none, false, .fldaddr 7 (.t 1)⟩,
   ⟨some 37, none, false, .load false 1 (.t 36)⟩,
   ⟨some 38, none, false, .fldaddr 8 (.t 1)⟩,
   ⟨some 39, none, false, .load false 1 (.t 38)⟩,
   ⟨some 40, none, false, .fldaddr 9 (.t 1)⟩,
   ⟨some 41, none, false, .load false 1 (.t 40)⟩,
   ⟨some 42, none, false, .build [(.str []), (.int .i64 0), (.int .i64 0), (.int .i64 0), (.int .i64 0), (.int .i64 0), (.int .i64 0), (.int .i64 0), (.int .i64 0), (.int .i64 0)] [(0, 1, (.t 33)), (1, 1, (.t 35)), (7, 1, (.t 37)), (8, 1, (.t 39)), (9, 1, (.t 41))]⟩,
   ⟨some 3, none, false, .new [(.str []), (.int .i64 0), (.int .i64 0), (.int .i64 0), (.int .i64 0), (.int .i64 0), (.int .i64 0), (.int .i64 0), (.int .i64 0), (.int .i64 0)]⟩,
   ⟨none, none, false, .store 10 (.t 3) (.t 42)⟩])
 (.seq (.region false [1, 3, 4] [] [⟨some 4, none, false, .mv (.c (.bool false))⟩])
 (.seq (.seq (.region false [1, 3, 4, 44] [] [⟨some 43, none, false, .fldaddr 1 (.t 1)⟩,
   ⟨some 44, none, false, .load false 1 (.t 43)⟩])
 (.block 0 (.seq (.region false [1, 3, 4, 44, 45] [] [⟨some 46, none, false, .bin .eql (.t 44) (.c (.int .i64 1))⟩,
    ⟨some 45, none, false, .mv (.t 46)⟩])
  (.cond (.t 45)
   (.seq (.region true [1, 3, 4] [] [⟨some 47, none, false, .fldaddr 2 (.t 1)⟩,
     ⟨some 48, none, false, .load false 1 (.t 47)⟩,
     ⟨some 49, none, false, .call (.f 44) [(.t 48), (.c (.int .i64 1)), (.c (.int .i64 12))]⟩,
     ⟨some 50, none, false, .mv (.t 49)⟩,
     ⟨some 51, some (50, true), false, .fldaddr 3 (.t 1)⟩,
     ⟨some 52, some (50, true), false, .load false 1 (.t 51)⟩,
     ⟨some 53, some (50, true), false, .fldaddr 2 (.t 1)⟩,
     ⟨some 54, some (50, true), false, .load false 1 (.t 53)⟩,
     ⟨some 55, some (50, true), true, .call (.f 45) [(.c (.int .i64 2000)), (.t 54)]⟩,
     ⟨some 56, some (50, true), false, .call (.f 44) [(.t 52), (.c (.int .i64 1)), (.t 55)]⟩,
     ⟨some 57, none, false, .pick (.t 50) (.t 56) (.c (.bool false))⟩,
     ⟨some 4, none, false, .mv (.t 57)⟩])
   (.region true [1, 3, 4] [(3, 5)] [⟨some 58, none, false, .fldaddr 2 (.t 1)⟩,
     ⟨some 59, none, false, .load false 1 (.t 58)⟩,
     ⟨some 60, none, false, .fldaddr 3 (.t 1)⟩,
     ⟨some 61, none, false, .load false 1 (.t 60)⟩,
     ⟨some 62, none, false, .fldaddr 2 (.t 3)⟩,
     ⟨none, none, false, .store 1 (.t 62) (.t 59)⟩,
     ⟨some 63, none, false, .fldaddr 3 (.t 3)⟩,
     ⟨none, none, false, .store 1 (.t 63) (.t 61)⟩]))
   (.seq (.region false [1, 3, 4, 44, 64] [] [⟨some 65, none, false, .bin .eql (.t 44) (.c (.int .i64 2))⟩,
     ⟨some 64, none, false, .mv (.t 65)⟩])
   (.cond (.t 64)
    (.seq (.region false [1, 3, 4] [] [⟨some 66, none, false, .fldaddr 2 (.t 1)⟩,
      ⟨some 67, none, false, .load false 1 (.t 66)⟩,
      ⟨some 68, none, false, .call (.f 44) [(.t 67), (.c (.int .i64 1)), (.c (.int .i64 12))]⟩,
      ⟨some 69, none, false, .mv (.t 68)⟩,
      ⟨some 70, some (69, true), false, .fldaddr 4 (.t 1)⟩,
      ⟨some 71, some (69, true), false, .load false 1 (.t 70)⟩,
      ⟨some 72, some (69, true), false, .call (.f 44) [(.t 71), (.c (.int .i64 1)), (.c (.int .i64 7))]⟩,
      ⟨some 73, none, false, .pick (.t 69) (.t 72) (.c (.bool false))⟩,
      ⟨some 74, none, false, .mv (.t 73)⟩,
      ⟨some 75, some (74, true), false, .fldaddr 5 (.t 1)⟩,
      ⟨some 76, some (74, true), false, .load false 1 (.t 75)⟩,
      ⟨some 77, some (74, true), false, .call (.f 44) [(.t 76), (.c (.int .i64 (-5))), (.c (.int .i64 5))]⟩,
      ⟨some 78, none, false, .pick (.t 74) (.t 77) (.c (.bool false))⟩,
      ⟨some 79, none, false, .mv (.t 78)⟩,
      ⟨some 80, some (79, true), false, .fldaddr 5 (.t 1)⟩,
      ⟨some 81, some (79, true), false, .load false 1 (.t 80)⟩,
      ⟨some 82, some (79, true), false, .bin .neq (.t 81) (.c (.int .i64 0))⟩,
      ⟨some 83, none, false, .pick (.t 79) (.t 82) (.c (.bool false))⟩,
      ⟨some 84, none, false, .mv (.t 83)⟩,
      ⟨some 85, some (84, true), false, .fldaddr 6 (.t 1)⟩,
      ⟨some 86, some (84, true), false, .load false 1 (.t 85)⟩,
      ⟨some 87, some (84, true), false, .call (.f 44) [(.t 86), (.c (.int .i64 (-30))), (.c (.int .i64 30))]⟩,
      ⟨some 88, none, false, .pick (.t 84) (.t 87) (.c (.bool false))⟩,
      ⟨some 4, none, false, .mv (.t 88)⟩])
    (.region true [1, 3, 4] [(3, 9), (5, 9), (7, 9), (5, 11), (7, 11), (7, 13)] [⟨some 89, none, false, .fldaddr 2 (.t 1)⟩,
      ⟨some 90, none, false, .load false 1 (.t 89)⟩,
      ⟨some 91, none, false, .fldaddr 4 (.t 1)⟩,
      ⟨some 92, none, false, .load false 1 (.t 91)⟩,
      ⟨some 93, none, false, .fldaddr 5 (.t 1)⟩,
      ⟨some 94, none, false, .load false 1 (.t 93)⟩,
      ⟨some 95, none, false, .fldaddr 6 (.t 1)⟩,
      ⟨some 96, none, false, .load false 1 (.t 95)⟩,
      ⟨some 97, none, false, .fldaddr 2 (.t 3)⟩,
      ⟨none, none, false, .store 1 (.t 97) (.t 90)⟩,
      ⟨some 98, none, false, .fldaddr 4 (.t 3)⟩,
      ⟨none, none, false, .store 1 (.t 98) (.t 92)⟩,
      ⟨some 99, none, false, .fldaddr 5 (.t 3)⟩,
      ⟨none, none, false, .store 1 (.t 99) (.t 94)⟩,
      ⟨some 100, none, false, .fldaddr 6 (.t 3)⟩,
      ⟨none, none, false, .store 1 (.t 100) (.t 96)⟩]))
    (.seq (.region false [1, 3, 4, 44, 101] [] [⟨some 102, none, false, .bin .eql (.t 44) (.c (.int .i64 3))⟩,
      ⟨some 101, none, false, .mv (.t 102)⟩])
    (.cond (.t 101)
     (.seq (.region false [1, 3, 4] [] [⟨some 103, none, false, .fldaddr 6 (.t 1)⟩,
       ⟨some 104, none, false, .load false 1 (.t 103)⟩,
       ⟨some 105, none, false, .call (.f 44) [(.t 104), (.c (.int .i64 (-80))), (.c (.int .i64 250))]⟩,
       ⟨some 4, none, false, .mv (.t 105)⟩])
     (.region false [1, 3, 4] [] [⟨some 106, none, false, .fldaddr 6 (.t 1)⟩,
       ⟨some 107, none, false, .load false 1 (.t 106)⟩,
       ⟨some 108, none, false, .fldaddr 6 (.t 3)⟩,
       ⟨none, none, false, .store 1 (.t 108) (.t 107)⟩]))
     (.seq (.region false [1, 3, 4, 44, 109] [] [⟨some 110, none, false, .bin .eql (.t 44) (.c (.int .i64 4))⟩,
       ⟨some 109, none, false, .mv (.t 110)⟩])
     (.cond (.t 109)
      (.seq (.region false [1, 3, 4] [] [⟨some 111, none, false, .fldaddr 5 (.t 1)⟩,
        ⟨some 112, none, false, .load false 1 (.t 111)⟩,
        ⟨some 113, none, false, .call (.f 44) [(.t 112), (.c (.int .i64 1)), (.c (.int .i64 4))]⟩,
        ⟨some 114, none, false, .mv (.t 113)⟩,
        ⟨some 115, some (114, true), false, .fldaddr 2 (.t 1)⟩,
        ⟨some 116, some (114, true), false, .load false 1 (.t 115)⟩,
        ⟨some 117, some (114, true), false, .call (.f 44) [(.t 116), (.c (.int .i64 1)), (.c (.int .i64 12))]⟩,
        ⟨some 118, none, false, .pick (.t 114) (.t 117) (.c (.bool false))⟩,
        ⟨some 119, none, false, .mv (.t 118)⟩,
        ⟨some 120, some (119, true), false, .fldaddr 3 (.t 1)⟩,
        ⟨some 121, some (119, true), false, .load false 1 (.t 120)⟩,
        ⟨some 122, some (119, true), false, .call (.f 44) [(.t 121), (.c (.int .i64 1)), (.c (.int .i64 30))]⟩,
        ⟨some 123, none, false, .pick (.t 119) (.t 122) (.c (.bool false))⟩,
        ⟨some 124, none, false, .mv (.t 123)⟩,
        ⟨some 125, some (124, true), false, .fldaddr 3 (.t 1)⟩,
        ⟨some 126, some (124, true), false, .load false 1 (.t 125)⟩,
        ⟨some 127, some (124, true), false, .bin .lss (.t 126) (.c (.int .i64 30))⟩,
        ⟨some 128, some (124, true), false, .mv (.t 127)⟩,
        ⟨some 129, some (128, false), false, .fldaddr 2 (.t 1)⟩,
        ⟨some 130, some (128, false), false, .load false 1 (.t 129)⟩,
        ⟨some 131, some (128, false), false, .bin .rem (.t 130) (.c (.int .i64 2))⟩,
        ⟨some 132, some (128, false), false, .bin .eql (.t 131) (.c (.int .i64 1))⟩,
        ⟨some 133, some (124, true), false, .pick (.t 128) (.c (.bool true)) (.t 132)⟩,
        ⟨some 134, some (124, true), false, .mv (.t 133)⟩,
        ⟨some 135, some (134, false), false, .fldaddr 2 (.t 1)⟩,
        ⟨some 136, some (134, false), false, .load false 1 (.t 135)⟩,
        ⟨some 137, some (134, false), false, .bin .eql (.t 136) (.c (.int .i64 12))⟩,
        ⟨some 138, some (124, true), false, .pick (.t 134) (.c (.bool true)) (.t 137)⟩,
        ⟨some 139, none, false, .pick (.t 124) (.t 138) (.c (.bool false))⟩,
        ⟨some 4, none, false, .mv (.t 139)⟩])
      (.region true [1, 3, 4] [(3, 7), (5, 7), (5, 9)] [⟨some 140, none, false, .fldaddr 5 (.t 1)⟩,
        ⟨some 141, none, false, .load false 1 (.t 140)⟩,
        ⟨some 142, none, false, .fldaddr 2 (.t 1)⟩,
        ⟨some 143, none, false, .load false 1 (.t 142)⟩,
        ⟨some 144, none, false, .fldaddr 3 (.t 1)⟩,
        ⟨some 145, none, false, .load false 1 (.t 144)⟩,
        ⟨some 146, none, false, .fldaddr 5 (.t 3)⟩,
        ⟨none, none, false, .store 1 (.t 146) (.t 141)⟩,
        ⟨some 147, none, false, .fldaddr 2 (.t 3)⟩,
        ⟨none, none, false, .store 1 (.t 147) (.t 143)⟩,
        ⟨some 148, none, false, .fldaddr 3 (.t 3)⟩,
        ⟨none, none, false, .store 1 (.t 148) (.t 145)⟩]))
      (.seq (.region false [1, 3, 4, 149] [] [⟨some 150, none, false, .bin .eql (.t 44) (.c (.int .i64 5))⟩,
        ⟨some 149, none, false, .mv (.t 150)⟩])
      (.cond (.t 149)
       (.seq (.region false [1, 3, 4] [] [⟨some 151, none, false, .fldaddr 2 (.t 1)⟩,
         ⟨some 152, none, false, .load false 1 (.t 151)⟩,
         ⟨some 153, none, false, .call (.f 44) [(.t 152), (.c (.int .i64 1)), (.c (.int .i64 13))]⟩,
         ⟨some 154, none, false, .mv (.t 153)⟩,
         ⟨some 155, some (154, true), false, .fldaddr 3 (.t 1)⟩,
         ⟨some 156, some (154, true), false, .load false 1 (.t 155)⟩,
         ⟨some 157, some (154, true), false, .call (.f 44) [(.t 156), (.c (.int .i64 1)), (.c (.int .i64 30))]⟩,
         ⟨some 158, none, false, .pick (.t 154) (.t 157) (.c (.bool false))⟩,
         ⟨some 4, none, false, .mv (.t 158)⟩])
       (.region true [1, 3, 4] [(3, 5)] [⟨some 159, none, false, .fldaddr 2 (.t 1)⟩,
         ⟨some 160, none, false, .load false 1 (.t 159)⟩,
         ⟨some 161, none, false, .fldaddr 3 (.t 1)⟩,
         ⟨some 162, none, false, .load false 1 (.t 161)⟩,
         ⟨some 163, none, false, .fldaddr 2 (.t 3)⟩,
         ⟨none, none, false, .store 1 (.t 163) (.t 160)⟩,
         ⟨some 164, none, false, .fldaddr 3 (.t 3)⟩,
         ⟨none, none, false, .store 1 (.t 164) (.t 162)⟩]))
       .skip))))))))))))
 (.seq (.region false [2] [] [⟨some 165, none, false, .mv (.t 4)⟩,
   ⟨some 166, none, false, .mv (.t 165)⟩,
   ⟨some 167, some (166, true), false, .load true 10 (.t 3)⟩,
   ⟨some 168, some (166, true), false, .load true 10 (.t 1)⟩,
   ⟨some 169, some (166, true), false, .eq false (.flat [2, 1, 1, 1, 1, 1, 1, 1, 1, 1]) (.t 167) (.t 168)⟩,
   ⟨some 170, none, false, .pick (.t 166) (.t 169) (.c (.bool false))⟩,
   ⟨some 2, none, false, .mv (.t 170)⟩])
 .ret))))))⟩
/-- civiltime/civiltimeref28.Valid -/
def af15 : AFun := ⟨176, true, [.tmp 2],
 (.seq (.region false [1] [] [⟨some 1, none, false, .box (.t 0)⟩,
   ⟨some 2, none, false, .mv (.c (.bool false))⟩])
 (.seq (.seq (.region false [1, 30] [] [⟨some 4, none, false, .fldaddr 0 (.t 1)⟩,
   ⟨some 5, none, false, .load false 1 (.t 4)⟩,
   ⟨some 6, none, false, .call (.f 46) [(.t 5)]⟩,
   ⟨some 7, none, false, .un .not (.t 6)⟩,
   ⟨some 8, none, false, .mv (.t 7)⟩,
   ⟨some 9, some (8, false), false, .fldaddr 7 (.t 1)⟩,
   ⟨some 10, some (8, false), false, .load false 1 (.t 9)⟩,
   ⟨some 11, some (8, false), false, .bin .lss (.t 10) (.c (.int .i64 1))⟩,
   ⟨some 12, none, false, .pick (.t 8) (.c (.bool true)) (.t 11)⟩,
   ⟨some 13, none, false, .mv (.t 12)⟩,
   ⟨some 14, some (13, false), false, .fldaddr 7 (.t 1)⟩,
   ⟨some 15, some (13, false), false, .load false 1 (.t 14)⟩,
   ⟨some 16, some (13, false), false, .fldaddr 8 (.t 1)⟩,
   ⟨some 17, some (13, false), false, .load false 1 (.t 16)⟩,
   ⟨some 18, some (13, false), false, .bin .gtr (.t 15) (.t 17)⟩,
   ⟨some 19, none, false, .pick (.t 13) (.c (.bool true)) (.t 18)⟩,
   ⟨some 20, none, false, .mv (.t 19)⟩,
   ⟨some 21, some (20, false), false, .fldaddr 8 (.t 1)⟩,
   ⟨some 22, some (20, false), false, .load false 1 (.t 21)⟩,
   ⟨some 23, some (20, false), false, .bin .gtr (.t 22) (.c (.int .i64 9999))⟩,
   ⟨some 24, none, false, .pick (.t 20) (.c (.bool true)) (.t 23)⟩,
   ⟨some 25, none, false, .mv (.t 24)⟩,
   ⟨some 26, some (25, false), false, .fldaddr 9 (.t 1)⟩,
   ⟨some 27, some (25, false), false, .load false 1 (.t 26)⟩,
   ⟨some 28, some (25, false), false, .call (.f 47) [(.t 27), (.c (.int .i64 1)), (.c (.int .i64 3))]⟩,
   ⟨some 29, some (25, false), false, .un .not (.t 28)⟩,
   ⟨some 30, none, false, .pick (.t 25) (.c (.bool true)) (.t 29)⟩])
 (.cond (.t 30)
  (.seq (.region false [2] [] [⟨some 2, none, false, .mv (.c (.bool false))⟩])
  .ret)
  .skip))
 (.seq (.seq (.region false [1, 32] [] [⟨some 31, none, false, .fldaddr 1 (.t 1)⟩,
   ⟨some 32, none, false, .load false 1 (.t 31)⟩])
 (.block 0 (.seq (.region false [1, 32, 33] [] [⟨some 34, none, false, .bin .eql (.t 32) (.c (.int .i64 1))⟩,
    ⟨some 33, none, false, .mv (.t 34)⟩])
  (.cond (.t 33)
   (.seq (.region true [2] [] [⟨some 35, none, false, .fldaddr 2 (.t 1)⟩,
     ⟨some 36, none, false, .load false 1 (.t 35)⟩,
     ⟨some 37, none, false, .call (.f 47) [(.t 36), (.c (.int .i64 1)), (.c (.int .i64 12))]⟩,
     ⟨some 38, none, false, .mv (.t 37)⟩,
     ⟨some 39, some (38, true), false, .fldaddr 3 (.t 1)⟩,
     ⟨some 40, some (38, true), false, .load false 1 (.t 39)⟩,
     ⟨some 41, some (38, true), false, .fldaddr 2 (.t 1)⟩,
     ⟨some 42, some (38, true), false, .load false 1 (.t 41)⟩,
     ⟨some 43, some (38, true), true, .call (.f 48) [(.c (.int .i64 2000)), (.t 42)]⟩,
     ⟨some 44, some (38, true), false, .call (.f 47) [(.t 40), (.c (.int .i64 1)), (.t 43)]⟩,
     ⟨some 45, none, false, .pick (.t 38) (.t 44) (.c (.bool false))⟩,
     ⟨some 46, none, false, .mv (.t 45)⟩,
     ⟨some 47, some (46, true), false, .fldaddr 4 (.t 1)⟩,
     ⟨some 48, some (46, true), false, .load false 1 (.t 47)⟩,
     ⟨some 49, some (46, true), false, .bin .eql (.t 48) (.c (.int .i64 0))⟩,
     ⟨some 50, none, false, .pick (.t 46) (.t 49) (.c (.bool false))⟩,
     ⟨some 51, none, false, .mv (.t 50)⟩,
     ⟨some 52, some (51, true), false, .fldaddr 5 (.t 1)⟩,
     ⟨some 53, some (51, true), false, .load false 1 (.t 52)⟩,
     ⟨some 54, some (51, true), false, .bin .eql (.t 53) (.c (.int .i64 0))⟩,
     ⟨some 55, none, false, .pick (.t 51) (.t 54) (.c (.bool false))⟩,
     ⟨some 56, none, false, .mv (.t 55)⟩,
     ⟨some 57, some (56, true), false, .fldaddr 6 (.t 1)⟩,
     ⟨some 58, some (56, true), false, .load false 1 (.t 57)⟩,
     ⟨some 59, some (56, true), false, .bin .eql (.t 58) (.c (.int .i64 0))⟩,
     ⟨some 60, none, false, .pick (.t 56) (.t 59) (.c (.bool false))⟩,
     ⟨some 2, none, false, .mv (.t 60)⟩])
   .ret)
   (.seq (.region false [1, 32, 61] [] [⟨some 62, none, false, .bin .eql (.t 32) (.c (.int .i64 2))⟩,
     ⟨some 61, none, false, .mv (.t 62)⟩])
   (.cond (.t 61)
    (.seq (.region false [2] [] [⟨some 63, none, false, .fldaddr 2 (.t 1)⟩,
      ⟨some 64, none, false, .load false 1 (.t 63)⟩,
      ⟨some 65, none, false, .call (.f 47) [(.t 64), (.c (.int .i64 1)), (.c (.int .i64 12))]⟩,
      ⟨some 66, none, false, .mv (.t 65)⟩,
      ⟨some 67, some (66, true), false, .fldaddr 4 (.t 1)⟩,
      ⟨some 68, some (66, true), false, .load false 1 (.t 67)⟩,
      ⟨some 69, some (66, true), false, .call (.f 47) [(.t 68), (.c (.int .i64 1)), (.c (.int .i64 7))]⟩,
      ⟨some 70, none, false, .pick (.t 66) (.t 69) (.c (.bool false))⟩,
      ⟨some 71, none, false, .mv (.t 70)⟩,
      ⟨some 72, some (71, true), false, .fldaddr 5 (.t 1)⟩,
      ⟨some 73, some (71, true), false, .load false 1 (.t 72)⟩,
      ⟨some 74, some (71, true), false, .call (.f 47) [(.t 73), (.c (.int .i64 (-5))), (.c (.int .i64 5))]⟩,
      ⟨some 75, none, false, .pick (.t 71) (.t 74) (.c (.bool false))⟩,
      ⟨some 76, none, false, .mv (.t 75)⟩,
      ⟨some 77, some (76, true), false, .fldaddr 5 (.t 1)⟩,
      ⟨some 78, some (76, true), false, .load false 1 (.t 77)⟩,
      ⟨some 79, some (76, true), false, .bin .neq (.t 78) (.c (.int .i64 0))⟩,
      ⟨some 80, none, false, .pick (.t 76) (.t 79) (.c (.bool false))⟩,
      ⟨some 81, none, false, .mv (.t 80)⟩,
      ⟨some 82, some (81, true), false, .fldaddr 6 (.t 1)⟩,
      ⟨some 83, some (81, true), false, .load false 1 (.t 82)⟩,
      ⟨some 84, some (81, true), false, .call (.f 47) [(.t 83), (.c (.int .i64 (-30))), (.c (.int .i64 30))]⟩,
      ⟨some 85, none, false, .pick (.t 81) (.t 84) (.c (.bool false))⟩,
      ⟨some 86, none, false, .mv (.t 85)⟩,
      ⟨some 87, some (86, true), false, .fldaddr 3 (.t 1)⟩,
      ⟨some 88, some (86, true), false, .load false 1 (.t 87)⟩,
      ⟨some 89, some (86, true), false, .bin .eql (.t 88) (.c (.int .i64 0))⟩,
      ⟨some 90, none, false, .pick (.t 86) (.t 89) (.c (.bool false))⟩,
      ⟨some 2, none, false, .mv (.t 90)⟩])
    .ret)
    (.seq (.region false [1, 32, 91] [] [⟨some 92, none, false, .bin .eql (.t 32) (.c (.int .i64 3))⟩,
      ⟨some 91, none, false, .mv (.t 92)⟩])
    (.cond (.t 91)
     (.seq (.region false [2] [] [⟨some 93, none, false, .fldaddr 6 (.t 1)⟩,
       ⟨some 94, none, false, .load false 1 (.t 93)⟩,
       ⟨some 95, none, false, .call (.f 47) [(.t 94), (.c (.int .i64 (-80))), (.c (.int .i64 250))]⟩,
       ⟨some 96, none, false, .mv (.t 95)⟩,
       ⟨some 97, some (96, true), false, .fldaddr 2 (.t 1)⟩,
       ⟨some 98, some (96, true), false, .load false 1 (.t 97)⟩,
       ⟨some 99, some (96, true), false, .bin .eql (.t 98) (.c (.int .i64 0))⟩,
       ⟨some 100, none, false, .pick (.t 96) (.t 99) (.c (.bool false))⟩,
       ⟨some 101, none, false, .mv (.t 100)⟩,
       ⟨some 102, some (101, true), false, .fldaddr 3 (.t 1)⟩,
       ⟨some 103, some (101, true), false, .load false 1 (.t 102)⟩,
       ⟨some 104, some (101, true), false, .bin .eql (.t 103) (.c (.int .i64 0))⟩,
       ⟨some 105, none, false, .pick (.t 101) (.t 104) (.c (.bool false))⟩,
       ⟨some 106, none, false, .mv (.t 105)⟩,
       ⟨some 107, some (106, true), false, .fldaddr 4 (.t 1)⟩,
       ⟨some 108, some (106, true), false, .load false 1 (.t 107)⟩,
       ⟨some 109, some (106, true), false, .bin .eql (.t 108) (.c (.int .i64 0))⟩,
       ⟨some 110, none, false, .pick (.t 106) (.t 109) (.c (.bool false))⟩,
       ⟨some 111, none, false, .mv (.t 110)⟩,
       ⟨some 112, some (111, true), false, .fldaddr 5 (.t 1)⟩,
       ⟨some 113, some (111, true), false, .load false 1 (.t 112)⟩,
       ⟨some 114, some (111, true), false, .bin .eql (.t 113) (.c (.int .i64 0))⟩,
       ⟨some 115, none, false, .pick (.t 111) (.t 114) (.c (.bool false))⟩,
       ⟨some 2, none, false, .mv (.t 115)⟩])
     .ret)
     (.seq (.region false [1, 32, 116] [] [⟨some 117, none, false, .bin .eql (.t 32) (.c (.int .i64 4))⟩,
       ⟨some 116, none, false, .mv (.t 117)⟩])
     (.cond (.t 116)
      (.seq (.region false [1, 3] [] [⟨some 3, none, false, .mv (.c (.int .i64 30))⟩])
      (.seq (.seq (.region false [1, 3, 126] [] [⟨some 118, none, false, .fldaddr 2 (.t 1)⟩,
        ⟨some 119, none, false, .load false 1 (.t 118)⟩,
        ⟨some 120, none, false, .bin .rem (.t 119) (.c (.int .i64 2))⟩,
        ⟨some 121, none, false, .bin .eql (.t 120) (.c (.int .i64 0))⟩,
        ⟨some 122, none, false, .mv (.t 121)⟩,
        ⟨some 123, some (122, true), false, .fldaddr 2 (.t 1)⟩,
        ⟨some 124, some (122, true), false, .load false 1 (.t 123)⟩,
        ⟨some 125, some (122, true), false, .bin .neq (.t 124) (.c (.int .i64 12))⟩,
        ⟨some 126, none, false, .pick (.t 122) (.t 125) (.c (.bool false))⟩])
      (.cond (.t 126)
       (.region false [1, 3] [] [⟨some 3, none, false, .mv (.c (.int .i64 29))⟩])
       .skip))
      (.seq (.region false [2] [] [⟨some 127, none, false, .fldaddr 5 (.t 1)⟩,
        ⟨some 128, none, false, .load false 1 (.t 127)⟩,
        ⟨some 129, none, false, .call (.f 47) [(.t 128), (.c (.int .i64 1)), (.c (.int .i64 4))]⟩,
        ⟨some 130, none, false, .mv (.t 129)⟩,
        ⟨some 131, some (130, true), false, .fldaddr 2 (.t 1)⟩,
        ⟨some 132, some (130, true), false, .load false 1 (.t 131)⟩,
        ⟨some 133, some (130, true), false, .call (.f 47) [(.t 132), (.c (.int .i64 1)), (.c (.int .i64 12))]⟩,
        ⟨some 134, none, false, .pick (.t 130) (.t 133) (.c (.bool false))⟩,
        ⟨some 135, none, false, .mv (.t 134)⟩,
        ⟨some 136, some (135, true), false, .fldaddr 3 (.t 1)⟩,
        ⟨some 137, some (135, true), false, .load false 1 (.t 136)⟩,
        ⟨some 138, some (135, true), false, .mv (.t 3)⟩,
        ⟨some 139, some (135, true), false, .call (.f 47) [(.t 137), (.c (.int .i64 1)), (.t 138)]⟩,
        ⟨some 140, none, false, .pick (.t 135) (.t 139) (.c (.bool false))⟩,
        ⟨some 141, none, false, .mv (.t 140)⟩,
        ⟨some 142, some (141, true), false, .fldaddr 4 (.t 1)⟩,
        ⟨some 143, some (141, true), false, .load false 1 (.t 142)⟩,
        ⟨some 144, some (141, true), false, .bin .eql (.t 143) (.c (.int .i64 0))⟩,
        ⟨some 145, none, false, .pick (.t 141) (.t 144) (.c (.bool false))⟩,
        ⟨some 146, none, false, .mv (.t 145)⟩,
        ⟨some 147, some (146, true), false, .fldaddr 6 (.t 1)⟩,
        ⟨some 148, some (146, true), false, .load false 1 (.t 147)⟩,
        ⟨some 149, some (146, true), false, .bin .eql (.t 148) (.c (.int .i64 0))⟩,
        ⟨some 150, none, false, .pick (.t 146) (.t 149) (.c (.bool false))⟩,
        ⟨some 2, none, false, .mv (.t 150)⟩])
      .ret)))
      (.seq (.region false [1, 151] [] [⟨some 152, none, false, .bin .eql (.t 32) (.c (.int .i64 5))⟩,
        ⟨some 151, none, false, .mv (.t 152)⟩])
      (.cond (.t 151)
       (.seq (.region false [2] [] [⟨some 153, none, false, .fldaddr 2 (.t 1)⟩,
         ⟨some 154, none, false, .load false 1 (.t 153)⟩,
         ⟨some 155, none, false, .call (.f 47) [(.t 154), (.c (.int .i64 1)), (.c (.int .i64 13))]⟩,
         ⟨some 156, none, false, .mv (.t 155)⟩,
         ⟨some 157, some (156, true), false, .fldaddr 3 (.t 1)⟩,
         ⟨some 158, some (156, true), false, .load false 1 (.t 157)⟩,
         ⟨some 159, some (156, true), false, .call (.f 47) [(.t 158), (.c (.int .i64 1)), (.c (.int .i64 30))]⟩,
         ⟨some 160, none, false, .pick (.t 156) (.t 159) (.c (.bool false))⟩,
         ⟨some 161, none, false, .mv (.t 160)⟩,
         ⟨some 162, some (161, true), false, .fldaddr 4 (.t 1)⟩,
         ⟨some 163, some (161, true), false, .load false 1 (.t 162)⟩,
         ⟨some 164, some (161, true), false, .bin .eql (.t 163) (.c (.int .i64 0))⟩,
         ⟨some 165, none, false, .pick (.t 161) (.t 164) (.c (.bool false))⟩,
         ⟨some 166, none, false, .mv (.t 165)⟩,
         ⟨some 167, some (166, true), false, .fldaddr 5 (.t 1)⟩,
         ⟨some 168, some (166, true), false, .load false 1 (.t 167)⟩,
         ⟨some 169, some (166, true), false, .bin .eql (.t 168) (.c (.int .i64 0))⟩,
         ⟨some 170, none, false, .pick (.t 166) (.t 169) (.c (.bool false))⟩,
         ⟨some 171, none, false, .mv (.t 170)⟩,
         ⟨some 172, some (171, true), false, .fldaddr 6 (.t 1)⟩,
         ⟨some 173, some (171, true), false, .load false 1 (.t 172)⟩,
         ⟨some 174, some (171, true), false, .bin .eql (.t 173) (.c (.int .i64 0))⟩,
         ⟨some 175, none, false, .pick (.t 171) (.t 174) (.c (.bool false))⟩,
         ⟨some 2, none, false, .mv (.t 175)⟩])
       .ret)
       .skip))))))))))))
 (.seq (.region false [2] [] [⟨some 2, none, false, .mv (.c (.bool false))⟩])
 .ret))))⟩
/-- civiltime/holiday.Year -/
def af17 : AFun := ⟨25, true, [.tmp 4, .tmp 5],
 (.seq (.region false [0, 1] [] [⟨some 4, none, false, .mv (.c .nilSl)⟩,
   ⟨some 5, none, false, .mv (.c (.int .i64 0))⟩])
 (.seq (.block 0 (.seq (.region false [0, 1, 7] [] [⟨some 8, none, false, .mv (.t 0)⟩,
    ⟨some 9, none, false, .call (.f 49) [(.t 8)]⟩,
    ⟨some 10, none, false, .un .not (.t 9)⟩,
    ⟨some 7, none, false, .mv (.t 10)⟩])
  (.cond (.t 7)
   (.seq (.region false [4, 5] [] [⟨some 4, none, false, .mv (.c .nilSl)⟩,
     ⟨some 5, none, false, .mv (.c (.int .i64 1))⟩])
   .ret)
   (.seq (.region false [0, 1, 11] [] [⟨some 12, none, false, .mv (.t 1)⟩,
     ⟨some 13, none, false, .bin .lss (.t 12) (.c (.int .i64 1))⟩,
     ⟨some 14, none, false, .mv (.t 13)⟩,
     ⟨some 15, some (14, false), false, .mv (.t 1)⟩,
     ⟨some 16, some (14, false), false, .bin .gtr (.t 15) (.c (.int .i64 9999))⟩,
     ⟨some 17, none, false, .pick (.t 14) (.c (.bool true)) (.t 16)⟩,
     ⟨some 11, none, false, .mv (.t 17)⟩])
   (.cond (.t 11)
    (.seq (.region false [4, 5] [] [⟨some 4, none, false, .mv (.c .nilSl)⟩,
      ⟨some 5, none, false, .mv (.c (.int .i64 2))⟩])
    .ret)
    .skip)))))
 (.seq (.region false [6] [] [⟨some 18, none, false, .mv (.t 0)⟩,
   ⟨some 19, none, false, .mv (.t 1)⟩,
   ⟨some 20, none, false, .call (.f 50) [(.t 18), (.t 19)]⟩,
   ⟨some 6, none, false, .mv (.t 20)⟩])
 (.seq (.seq (.region false [6, 23] [] [⟨some 21, none, false, .mv (.t 6)⟩,
   ⟨some 22, none, false, .bi (.len 1) [(.t 21)]⟩,
   ⟨some 23, none, false, .bin .gtr (.t 22) (.c (.int .i64 1000))⟩])
 (.cond (.t 23)
  (.seq (.region false [4, 5] [] [⟨some 4, none, false, .mv (.c .nilSl)⟩,
    ⟨some 5, none, false, .mv (.c (.int .i64 5))⟩])
  .ret)
  .skip))
 (.seq (.region false [4, 5] [] [⟨some 24, none, false, .mv (.t 6)⟩,
   ⟨some 4, none, false, .mv (.t 24)⟩,
   ⟨some 5, none, false, .mv (.c (.int .i64 0))⟩])
 .ret)))))⟩
/-- civiltime/civil.Weekday -/
def af18 : AFun := ⟨10, true, [.tmp 2],
 (.seq (.region false [0] [] [⟨some 2, none, false, .mv (.c (.int .i64 0))⟩])
 (.seq (.seq (.region false [0, 5] [] [⟨some 3, none, false, .mv (.t 0)⟩,
   ⟨some 4, none, false, .call (.f 51) [(.t 3)]⟩,
   ⟨some 5, none, false, .un .not (.t 4)⟩])
 (.cond (.t 5)
  (.seq (.region false [2] [] [⟨some 2, none, false, .mv (.c (.int .i64 0))⟩])
  .ret)
  .skip))
 (.seq (.region false [2] [] [⟨some 6, none, false, .mv (.t 0)⟩,
   ⟨some 7, none, false, .bin .add (.t 6) (.c (.int .i64 3))⟩,
   ⟨some 8, none, false, .call (.f 52) [(.t 7), (.c (.int .i64 7))]⟩,
   ⟨some 9, none, false, .bin .add (.t 8) (.c (.int .i64 1))⟩,
   ⟨some 2, none, false, .mv (.t 9)⟩])
 .ret)))⟩
/-- civiltime/civil.Day -/
def af19 : AFun := ⟨14, true, [.tmp 2, .tmp 3],
 (.seq (.region false [1] [] [⟨some 1, none, false, .box (.t 0)⟩,
   ⟨some 2, none, false, .mv (.c (.int .i64 0))⟩,
   ⟨some 3, none, false, .mv (.c (.int .i64 0))⟩])
 (.seq (.seq (.region false [1, 6] [] [⟨some 4, none, false, .load true 3 (.t 1)⟩,
   ⟨some 5, none, false, .call (.f 53) [(.t 4)]⟩,
   ⟨some 6, none, false, .un .not (.t 5)⟩])
 (.cond (.t 6)
  (.seq (.region false [2, 3] [] [⟨some 2, none, false, .mv (.c (.int .i64 0))⟩,
    ⟨some 3, none, false, .mv (.c (.int .i64 1))⟩])
  .ret)
  .skip))
 (.seq (.region false [2, 3] [] [⟨some 7, none, false, .fldaddr 0 (.t 1)⟩,
   ⟨some 8, none, false, .load false 1 (.t 7)⟩,
   ⟨some 9, none, false, .fldaddr 1 (.t 1)⟩,
   ⟨some 10, none, false, .load false 1 (.t 9)⟩,
   ⟨some 11, none, false, .fldaddr 2 (.t 1)⟩,
   ⟨some 12, none, false, .load false 1 (.t 11)⟩,
   ⟨some 13, none, false, .call (.f 54) [(.t 8), (.t 10), (.t 12)]⟩,
   ⟨some 2, none, false, .mv (.t 13)⟩,
   ⟨some 3, none, false, .mv (.c (.int .i64 0))⟩])
 .ret)))⟩
def af24L0 : ACode := .loop [3, 8, 23, 24, 25]
 (.seq (.region false [3, 8, 23, 24, 25, 26] [] [⟨some 26, none, false, .bin .lss (.t 25) (.t 24)⟩])
 (.seq (.cond (.t 26)
  .skip
  (.exit 0))
 (.seq (.block 1 (.seq (.region false [3, 8, 10, 23, 24, 25] [] [⟨some 27, none, false, .idxaddr none 1 (.t 23) (.t 25)⟩,
    ⟨some 28, none, false, .load false 1 (.t 27)⟩,
    ⟨some 10, none, false, .mv (.t 28)⟩])
  (.seq (.seq (.region false [3, 8, 10, 23, 24, 25, 31] [] [⟨some 29, none, false, .mv (.t 10)⟩,
    ⟨some 30, none, false, .bi (.len 1) [(.t 29)]⟩,
    ⟨some 31, none, false, .bin .eql (.t 30) (.c (.int .i64 0))⟩])
  (.cond (.t 31)
   (.exit 1)
   .skip))
  (.seq (.region false [3, 8, 11, 23, 24, 25] [] [⟨some 32, none, false, .mv (.t 10)⟩,
    ⟨some 33, none, false, .build [.nilSl, (.int .i64 0), (.int .i64 0), (.int .i64 0), (.int .i64 0)] [(0, 1, (.t 32))]⟩,
    ⟨some 34, none, false, .box (.t 33)⟩,
    ⟨some 11, none, false, .mv (.t 34)⟩])
  (.seq (.region false [3, 8, 11, 12, 23, 24, 25] [] [⟨some 35, none, false, .mv (.t 11)⟩,
    ⟨some 36, none, false, .call (.f 59) [(.t 35)]⟩,
    ⟨some 12, none, false, .new [(.str []), (.int .i64 0), (.int .i64 0), (.int .i64 0), (.int .i64 0), (.int .i64 0), (.int .i64 0), (.int .i64 0), (.int .i64 0), (.int .i64 0)]⟩,
    ⟨none, none, false, .store 10 (.t 12) (.t 36)⟩])
  (.seq (.seq (.region false [3, 8, 11, 12, 23, 24, 25, 41] [] [⟨some 37, none, false, .mv (.t 11)⟩,
    ⟨some 38, none, false, .nilck (.t 37)⟩,
    ⟨some 39, none, false, .fldaddr 4 (.t 38)⟩,
    ⟨some 40, none, false, .load false 1 (.t 39)⟩,
    ⟨some 41, none, false, .bin .neq (.t 40) (.c (.int .i64 0))⟩])
  (.cond (.t 41)
   (.seq (.region true [2, 3, 4] [(7, 9)] [⟨some 42, none, false, .mv (.t 11)⟩,
     ⟨some 43, none, false, .nilck (.t 42)⟩,
     ⟨some 44, none, false, .fldaddr 2 (.t 43)⟩,
     ⟨some 45, none, false, .load true 2 (.t 44)⟩,
     ⟨some 46, none, false, .mv (.t 11)⟩,
     ⟨some 47, none, false, .nilck (.t 46)⟩,
     ⟨some 48, none, false, .fldaddr 4 (.t 47)⟩,
     ⟨some 49, none, false, .load false 1 (.t 48)⟩,
     ⟨some 2, none, false, .mv (.c .nilSl)⟩,
     ⟨none, none, false, .store 2 (.t 3) (.t 45)⟩,
     ⟨some 4, none, false, .mv (.t 49)⟩])
   .ret)
   .skip))
  (.region false [3, 8, 23, 24, 25] [] [⟨some 50, none, false, .mv (.t 8)⟩,
    ⟨some 51, none, false, .load true 10 (.t 12)⟩,
    ⟨some 52, none, false, .bslice [(.str []), (.int .i64 0), (.int .i64 0), (.int .i64 0), (.int .i64 0), (.int .i64 0), (.int .i64 0), (.int .i64 0), (.int .i64 0), (.int .i64 0)] [(0, 10, (.t 51))] 1 10⟩,
    ⟨some 53, none, false, .bi (.append 10 88) [(.t 50), (.t 52)]⟩,
    ⟨some 8, none, false, .mv (.t 53)⟩])))))))
 (.region false [3, 8, 23, 24, 25] [] [⟨some 54, none, false, .bin .add (.t 25) (.c (.int .i64 1))⟩,
   ⟨some 25, none, false, .mv (.t 54)⟩]))))
/-- civiltime/holiday.Parse -/
def af24 : AFun := ⟨61, true, [.tmp 2, .cell 3 true 2, .tmp 4],
 (.seq (.region false [0, 3] [] [⟨some 2, none, false, .mv (.c .nilSl)⟩,
   ⟨some 3, none, false, .new [(.int .i64 0), (.int .i64 0)]⟩,
   ⟨some 4, none, false, .mv (.c (.int .i64 0))⟩])
 (.seq (.region false [3, 5, 6, 7] [] [⟨some 14, none, false, .mv (.t 0)⟩,
   ⟨some 15, none, false, .call (.f 25) [(.t 14)]⟩,
   ⟨some 13, none, false, .mv (.t 15)⟩,
   ⟨some 16, none, false, .ext 0 (.t 13)⟩,
   ⟨some 17, none, false, .ext 1 (.t 13)⟩,
   ⟨some 18, none, false, .ext 2 (.t 13)⟩,
   ⟨some 6, none, false, .new [(.int .i64 0), (.int .i64 0)]⟩,
   ⟨some 5, none, false, .mv (.t 16)⟩,
   ⟨none, none, false, .store 2 (.t 6) (.t 17)⟩,
   ⟨some 7, none, false, .mv (.t 18)⟩])
 (.seq (.seq (.region false [3, 5, 6, 7, 20] [] [⟨some 19, none, false, .mv (.t 7)⟩,
   ⟨some 20, none, false, .bin .neq (.t 19) (.c (.int .i64 0))⟩])
 (.cond (.t 20)
  (.seq (.region true [2, 3, 4] [] [⟨some 21, none, false, .load true 2 (.t 6)⟩,
    ⟨some 22, none, false, .mv (.t 7)⟩,
    ⟨some 2, none, false, .mv (.c .nilSl)⟩,
    ⟨none, none, false, .store 2 (.t 3) (.t 21)⟩,
    ⟨some 4, none, false, .mv (.t 22)⟩])
  .ret)
  .skip))
 (.seq (.region false [3, 5, 8] [] [⟨some 8, none, false, .mv (.c .nilSl)⟩])
 (.seq (.seq (.region false [3, 8, 23, 24, 25] [] [⟨some 23, none, false, .mv (.t 5)⟩,
   ⟨some 24, none, false, .bi (.len 1) [(.t 23)]⟩,
   ⟨some 25, none, false, .mv (.c (.int .i64 0))⟩])
 (.block 0 af24L0))
 (.seq (.seq (.region false [3, 8, 57] [] [⟨some 55, none, false, .mv (.t 8)⟩,
   ⟨some 56, none, false, .bi (.len 1) [(.t 55)]⟩,
   ⟨some 57, none, false, .bin .gtr (.t 56) (.c (.int .i64 100))⟩])
 (.cond (.t 57)
  (.seq (.region false [2, 3, 4] [] [⟨some 58, none, false, .build [(.int .i64 0), (.int .i64 0)] []⟩,
    ⟨some 2, none, false, .mv (.c .nilSl)⟩,
    ⟨none, none, false, .store 2 (.t 3) (.t 58)⟩,
    ⟨some 4, none, false, .mv (.c (.int .i64 5))⟩])
  .ret)
  .skip))
 (.seq (.region false [2, 3, 4] [] [⟨some 59, none, false, .mv (.t 8)⟩,
   ⟨some 60, none, false, .build [(.int .i64 0), (.int .i64 0)] []⟩,
   ⟨some 2, none, false, .mv (.t 59)⟩,
   ⟨none, none, false, .store 2 (.t 3) (.t 60)⟩,
   ⟨some 4, none, false, .mv (.c (.int .i64 0))⟩])
 .ret)))))))⟩
def af25L0 : ACode := .loop [3, 5, 6, 7, 8, 9, 10, 19, 20, 21, 27, 28]
 (.seq (.region false [3, 5, 6, 7, 8, 9, 10, 19, 20, 21, 27, 28, 29] [] [⟨some 29, none, false, .bin .lss (.t 28) (.t 27)⟩])
 (.seq (.cond (.t 29)
  .skip
  (.exit 2))
 (.seq (.block 3 (.seq (.region false [3, 5, 6, 7, 8, 9, 10, 11, 19, 20, 21, 27, 28] [] [⟨some 30, none, false, .mv (.t 28)⟩,
    ⟨some 11, none, false, .mv (.t 30)⟩])
  (.seq (.region false [3, 5, 6, 7, 8, 9, 10, 11, 12, 19, 20, 21, 27, 28] [] [⟨some 31, none, false, .mv (.t 7)⟩,
    ⟨some 32, none, false, .mv (.t 11)⟩,
    ⟨some 33, none, false, .sidx (.t 31) (.t 32)⟩,
    ⟨some 12, none, false, .mv (.t 33)⟩])
  (.seq (.region false [3, 5, 6, 7, 8, 9, 10, 11, 12, 13, 19, 20, 21, 27, 28] [] [⟨some 34, none, false, .mv (.t 6)⟩,
    ⟨some 35, none, false, .bin .add (.t 34) (.c (.int .i64 1))⟩,
    ⟨some 36, none, false, .mv (.t 11)⟩,
    ⟨some 37, none, false, .bin .add (.t 36) (.c (.int .i64 1))⟩,
    ⟨some 38, none, false, .build [(.int .i64 0), (.int .i64 0)] [(0, 1, (.t 35)), (1, 1, (.t 37))]⟩,
    ⟨some 13, none, false, .new [(.int .i64 0), (.int .i64 0)]⟩,
    ⟨none, none, false, .store 2 (.t 13) (.t 38)⟩])
  (.seq (.seq (.region false [3, 5, 6, 7, 8, 9, 10, 11, 12, 13, 19, 20, 21, 27, 28, 48] [] [⟨some 39, none, false, .mv (.t 12)⟩,
    ⟨some 40, none, false, .bin .neq (.t 39) (.c (.int .u8 9))⟩,
    ⟨some 41, none, false, .mv (.t 40)⟩,
    ⟨some 42, some (41, true), false, .mv (.t 12)⟩,
    ⟨some 43, some (41, true), false, .bin .lss (.t 42) (.c (.int .u8 32))⟩,
    ⟨some 44, some (41, true), false, .mv (.t 43)⟩,
    ⟨some 45, some (44, false), false, .mv (.t 12)⟩,
    ⟨some 46, some (44, false), false, .bin .gtr (.t 45) (.c (.int .u8 126))⟩,
    ⟨some 47, some (41, true), false, .pick (.t 44) (.c (.bool true)) (.t 46)⟩,
    ⟨some 48, none, false, .pick (.t 41) (.t 47) (.c (.bool false))⟩])
  (.cond (.t 48)
   (.seq (.region true [2, 3, 4] [] [⟨some 49, none, false, .load true 2 (.t 13)⟩,
     ⟨some 2, none, false, .mv (.c .nilSl)⟩,
     ⟨none, none, false, .store 2 (.t 3) (.t 49)⟩,
     ⟨some 4, none, false, .mv (.c (.int .i64 3))⟩])
   .ret)
   .skip))
  (.seq (.region false [3, 5, 6, 7, 8, 9, 10, 11, 12, 13, 19, 20, 21, 27, 28] [] [⟨some 50, none, false, .mv (.t 9)⟩,
    ⟨some 51, none, false, .mv (.t 50)⟩,
    ⟨some 52, some (51, false), false, .mv (.t 12)⟩,
    ⟨some 53, some (51, false), false, .bin .eql (.t 52) (.c (.int .u8 35))⟩,
    ⟨some 54, none, false, .pick (.t 51) (.c (.bool true)) (.t 53)⟩,
    ⟨some 9, none, false, .mv (.t 54)⟩])
  (.seq (.seq (.region false [3, 5, 6, 7, 8, 9, 10, 11, 13, 19, 20, 21, 27, 28, 63] [] [⟨some 55, none, false, .mv (.t 9)⟩,
    ⟨some 56, none, false, .mv (.t 55)⟩,
    ⟨some 57, some (56, false), false, .mv (.t 12)⟩,
    ⟨some 58, some (56, false), false, .bin .eql (.t 57) (.c (.int .u8 32))⟩,
    ⟨some 59, none, false, .pick (.t 56) (.c (.bool true)) (.t 58)⟩,
    ⟨some 60, none, false, .mv (.t 59)⟩,
    ⟨some 61, some (60, false), false, .mv (.t 12)⟩,
    ⟨some 62, some (60, false), false, .bin .eql (.t 61) (.c (.int .u8 9))⟩,
    ⟨some 63, none, false, .pick (.t 60) (.c (.bool true)) (.t 62)⟩])
  (.cond (.t 63)
   (.seq (.region false [3, 5, 6, 7, 8, 9, 10, 19, 20, 21, 27, 28] [] [⟨some 10, none, false, .mv (.c (.bool false))⟩])
   (.exit 3))
   .skip))
  (.seq (.seq (.region false [3, 5, 6, 7, 8, 9, 10, 11, 13, 19, 20, 21, 27, 28, 65] [] [⟨some 64, none, false, .mv (.t 10)⟩,
    ⟨some 65, none, false, .un .not (.t 64)⟩])
  (.cond (.t 65)
   (.seq (.region false [3, 5, 6, 7, 8, 9, 11, 19, 20, 21, 27, 28] [] [⟨some 66, none, false, .mv (.t 8)⟩,
     ⟨some 67, none, false, .load true 2 (.t 13)⟩,
     ⟨some 68, none, false, .build [(.str []), (.int .i64 0), (.int .i64 0)] [(1, 2, (.t 67))]⟩,
     ⟨some 69, none, false, .bslice [(.str []), (.int .i64 0), (.int .i64 0)] [(0, 3, (.t 68))] 1 3⟩,
     ⟨some 70, none, false, .bi (.append 3 32) [(.t 66), (.t 69)]⟩,
     ⟨some 8, none, false, .mv (.t 70)⟩])
   (.region false [3, 5, 6, 7, 8, 9, 10, 11, 19, 20, 21, 27, 28] [] [⟨some 10, none, false, .mv (.c (.bool true))⟩]))
   .skip))
  (.region true [3, 5, 6, 7, 8, 9, 10, 19, 20, 21, 27, 28] [] [⟨some 71, none, false, .mv (.t 8)⟩,
    ⟨some 72, none, false, .mv (.t 8)⟩,
    ⟨some 73, none, false, .bi (.len 1) [(.t 72)]⟩,
    ⟨some 74, none, false, .bin .sub (.t 73) (.c (.int .i64 1))⟩,
    ⟨some 75, none, false, .idxaddr none 3 (.t 71) (.t 74)⟩,
    ⟨some 76, none, false, .fldaddr 0 (.t 75)⟩,
    ⟨some 77, none, false, .load false 1 (.t 76)⟩,
    ⟨some 78, none, false, .mv (.t 7)⟩,
    ⟨some 79, none, false, .mv (.t 11)⟩,
    ⟨some 80, none, false, .mv (.t 11)⟩,
    ⟨some 81, none, false, .bin .add (.t 80) (.c (.int .i64 1))⟩,
    ⟨some 82, none, false, .slice .str (.t 78) (some (.t 79)) (some (.t 81)) none⟩,
    ⟨some 83, none, false, .bin .add (.t 77) (.t 82)⟩,
    ⟨some 84, none, false, .idxaddr none 3 (.t 71) (.t 74)⟩,
    ⟨some 85, none, false, .fldaddr 0 (.t 84)⟩,
    ⟨none, none, false, .store 1 (.t 85) (.t 83)⟩])))))))))
 (.region false [3, 5, 6, 7, 8, 9, 10, 19, 20, 21, 27, 28] [] [⟨some 86, none, false, .bin .add (.t 28) (.c (.int .i64 1))⟩,
   ⟨some 28, none, false, .mv (.t 86)⟩]))))
def af25L1 : ACode := .loop [3, 5, 19, 20, 21]
 (.seq (.region false [3, 5, 19, 20, 21, 22] [] [⟨some 22, none, false, .bin .lss (.t 21) (.t 20)⟩])
 (.seq (.cond (.t 22)
  .skip
  (.exit 0))
 (.seq (.block 1 (.seq (.region false [3, 5, 6, 7, 19, 20, 21] [] [⟨some 23, none, false, .mv (.t 21)⟩,
    ⟨some 24, none, false, .idxaddr none 1 (.t 19) (.t 21)⟩,
    ⟨some 25, none, false, .load false 1 (.t 24)⟩,
    ⟨some 6, none, false, .mv (.t 23)⟩,
    ⟨some 7, none, false, .mv (.t 25)⟩])
  (.seq (.region false [3, 5, 6, 7, 8, 19, 20, 21] [] [⟨some 8, none, false, .mv (.c .nilSl)⟩])
  (.seq (.region false [3, 5, 6, 7, 8, 9, 10, 19, 20, 21] [] [⟨some 9, none, false, .mv (.c (.bool false))⟩,
    ⟨some 10, none, false, .mv (.c (.bool false))⟩])
  (.seq (.seq (.region false [3, 5, 6, 7, 8, 9, 10, 19, 20, 21, 27, 28] [] [⟨some 26, none, false, .mv (.t 7)⟩,
    ⟨some 27, none, false, .bi (.len 0) [(.t 26)]⟩,
    ⟨some 28, none, false, .mv (.c (.int .i64 0))⟩])
  (.block 2 af25L0))
  (.seq (.region false [3, 5, 8, 19, 20, 21, 89] [] [⟨some 87, none, false, .mv (.t 8)⟩,
    ⟨some 88, none, false, .bi (.len 1) [(.t 87)]⟩,
    ⟨some 89, none, false, .bin .gtr (.t 88) (.c (.int .i64 0))⟩])
  (.cond (.t 89)
   (.region false [3, 5, 19, 20, 21] [] [⟨some 90, none, false, .mv (.t 5)⟩,
     ⟨some 91, none, false, .mv (.t 8)⟩,
     ⟨some 92, none, false, .bslice [.nilSl] [(0, 1, (.t 91))] 1 1⟩,
     ⟨some 93, none, false, .bi (.append 1 24) [(.t 90), (.t 92)]⟩,
     ⟨some 5, none, false, .mv (.t 93)⟩])
   .skip)))))))
 (.region false [3, 5, 19, 20, 21] [] [⟨some 94, none, false, .bin .add (.t 21) (.c (.int .i64 1))⟩,
   ⟨some 21, none, false, .mv (.t 94)⟩]))))
/-- civiltime/zonelex.Lines -/
def af25 : AFun := ⟨97, true, [.tmp 2, .cell 3 true 2, .tmp 4],
 (.seq (.region false [0, 3] [] [⟨some 2, none, false, .mv (.c .nilSl)⟩,
   ⟨some 3, none, false, .new [(.int .i64 0), (.int .i64 0)]⟩,
   ⟨some 4, none, false, .mv (.c (.int .i64 0))⟩])
 (.seq (.seq (.region false [0, 3, 16] [] [⟨some 14, none, false, .mv (.t 0)⟩,
   ⟨some 15, none, false, .bi (.len 0) [(.t 14)]⟩,
   ⟨some 16, none, false, .bin .gtr (.t 15) (.c (.int .i64 65536))⟩])
 (.cond (.t 16)
  (.seq (.region false [2, 3, 4] [] [⟨some 17, none, false, .build [(.int .i64 0), (.int .i64 0)] []⟩,
    ⟨some 2, none, false, .mv (.c .nilSl)⟩,
    ⟨none, none, false, .store 2 (.t 3) (.t 17)⟩,
    ⟨some 4, none, false, .mv (.c (.int .i64 5))⟩])
  .ret)
  .skip))
 (.seq (.region false [0, 3, 5] [] [⟨some 5, none, false, .mv (.c .nilSl)⟩])
 (.seq (.seq (.region false [3, 5, 19, 20, 21] [] [⟨some 18, none, false, .mv (.t 0)⟩,
   ⟨some 19, none, false, .call (.f 60) [(.t 18), (.c (.str [10]))]⟩,
   ⟨some 20, none, false, .bi (.len 1) [(.t 19)]⟩,
   ⟨some 21, none, false, .mv (.c (.int .i64 0))⟩])
 (.block 0 af25L1))
 (.seq (.region false [2, 3, 4] [] [⟨some 95, none, false, .mv (.t 5)⟩,
   ⟨some 96, none, false, .build [(.int .i64 0), (.int .i64 0)] []⟩,
   ⟨some 2, none, false, .mv (.t 95)⟩,
   ⟨none, none, false, .store 2 (.t 3) (.t 96)⟩,
   ⟨some 4, none, false, .mv (.c (.int .i64 0))⟩])
 .ret)))))⟩
def af43L0 : ACode := .loop [0, 19, 20]
 (.seq (.region false [0, 19, 20, 21] [] [⟨some 21, none, false, .bin .lss (.t 20) (.t 19)⟩])
 (.seq (.cond (.t 21)
  .skip
  (.exit 0))
 (.seq (.block 1 (.seq (.region false [0, 3, 19, 20] [] [⟨some 22, none, false, .mv (.t 20)⟩,
    ⟨some 3, none, false, .mv (.t 22)⟩])
  (.seq (.region false [0, 19, 20, 41] [] [⟨some 23, none, false, .mv (.t 0)⟩,
    ⟨some 24, none, false, .mv (.t 3)⟩,
    ⟨some 25, none, false, .sidx (.t 23) (.t 24)⟩,
    ⟨some 26, none, false, .call (.f 88) [(.t 25)]⟩,
    ⟨some 27, none, false, .un .not (.t 26)⟩,
    ⟨some 28, none, false, .mv (.t 27)⟩,
    ⟨some 29, some (28, true), false, .mv (.t 0)⟩,
    ⟨some 30, some (28, true), false, .mv (.t 3)⟩,
    ⟨some 31, some (28, true), false, .sidx (.t 29) (.t 30)⟩,
    ⟨some 32, some (28, true), false, .call (.f 89) [(.t 31)]⟩,
    ⟨some 33, some (28, true), false, .un .not (.t 32)⟩,
    ⟨some 34, none, false, .pick (.t 28) (.t 33) (.c (.bool false))⟩,
    ⟨some 35, none, false, .mv (.t 34)⟩,
    ⟨some 36, some (35, true), false, .mv (.t 0)⟩,
    ⟨some 37, some (35, true), false, .mv (.t 3)⟩,
    ⟨some 38, some (35, true), false, .sidx (.t 36) (.t 37)⟩,
    ⟨some 39, some (35, true), false, .call (.f 90) [(.c (.str [95, 47, 43, 45])), (.t 38)]⟩,
    ⟨some 40, some (35, true), false, .bin .lss (.t 39) (.c (.int .i64 0))⟩,
    ⟨some 41, none, false, .pick (.t 35) (.t 40) (.c (.bool false))⟩])
  (.cond (.t 41)
   (.seq (.region false [2] [] [⟨some 2, none, false, .mv (.c (.bool false))⟩])
   .ret)
   .skip))))
 (.region false [0, 19, 20] [] [⟨some 42, none, false, .bin .add (.t 20) (.c (.int .i64 1))⟩,
   ⟨some 20, none, false, .mv (.t 42)⟩]))))
/-- civiltime/zonelex.Name -/
def af43 : AFun := ⟨43, true, [.tmp 2],
 (.seq (.region false [0] [] [⟨some 2, none, false, .mv (.c (.bool false))⟩])
 (.seq (.seq (.region false [0, 17] [] [⟨some 4, none, false, .mv (.t 0)⟩,
   ⟨some 5, none, false, .bi (.len 0) [(.t 4)]⟩,
   ⟨some 6, none, false, .bin .lss (.t 5) (.c (.int .i64 1))⟩,
   ⟨some 7, none, false, .mv (.t 6)⟩,
   ⟨some 8, some (7, false), false, .mv (.t 0)⟩,
   ⟨some 9, some (7, false), false, .bi (.len 0) [(.t 8)]⟩,
   ⟨some 10, some (7, false), false, .bin .gtr (.t 9) (.c (.int .i64 30))⟩,
   ⟨some 11, none, false, .pick (.t 7) (.c (.bool true)) (.t 10)⟩,
   ⟨some 12, none, false, .mv (.t 11)⟩,
   ⟨some 13, some (12, false), false, .mv (.t 0)⟩,
   ⟨some 14, some (12, false), false, .sidx (.t 13) (.c (.int .i64 0))⟩,
   ⟨some 15, some (12, false), false, .call (.f 88) [(.t 14)]⟩,
   ⟨some 16, some (12, false), false, .un .not (.t 15)⟩,
   ⟨some 17, none, false, .pick (.t 12) (.c (.bool true)) (.t 16)⟩])
 (.cond (.t 17)
  (.seq (.region false [2] [] [⟨some 2, none, false, .mv (.c (.bool false))⟩])
  .ret)
  .skip))
 (.seq (.seq (.region false [0, 19, 20] [] [⟨some 18, none, false, .mv (.t 0)⟩,
   ⟨some 19, none, false, .bi (.len 0) [(.t 18)]⟩,
   ⟨some 20, none, false, .mv (.c (.int .i64 0))⟩])
 (.block 0 af43L0))
 (.seq (.region false [2] [] [⟨some 2, none, false, .mv (.c (.bool true))⟩])
 .ret))))⟩
/-- civiltime/holiday.within -/
def af44 : AFun := ⟨15, true, [.tmp 6],
 (.seq (.region false [0, 1, 2] [] [⟨some 6, none, false, .mv (.c (.bool false))⟩])
 (.seq (.region false [6] [] [⟨some 7, none, false, .mv (.t 0)⟩,
   ⟨some 8, none, false, .mv (.t 1)⟩,
   ⟨some 9, none, false, .bin .geq (.t 7) (.t 8)⟩,
   ⟨some 10, none, false, .mv (.t 9)⟩,
   ⟨some 11, some (10, true), false, .mv (.t 0)⟩,
   ⟨some 12, some (10, true), false, .mv (.t 2)⟩,
   ⟨some 13, some (10, true), false, .bin .leq (.t 11) (.t 12)⟩,
   ⟨some 14, none, false, .pick (.t 10) (.t 13) (.c (.bool false))⟩,
   ⟨some 6, none, false, .mv (.t 14)⟩])
 .ret))⟩
/-- civiltime/civil.Length -/
def af45 : AFun := ⟨26, true, [.tmp 4],
 (.seq (.region false [0, 1] [] [⟨some 4, none, false, .mv (.c (.int .i64 0))⟩])
 (.seq (.seq (.region false [0, 1, 15] [] [⟨some 5, none, false, .mv (.t 0)⟩,
   ⟨some 6, none, false, .call (.f 91) [(.t 5)]⟩,
   ⟨some 7, none, false, .un .not (.t 6)⟩,
   ⟨some 8, none, false, .mv (.t 7)⟩,
   ⟨some 9, some (8, false), false, .mv (.t 1)⟩,
   ⟨some 10, some (8, false), false, .bin .lss (.t 9) (.c (.int .i64 1))⟩,
   ⟨some 11, none, false, .pick (.t 8) (.c (.bool true)) (.t 10)⟩,
   ⟨some 12, none, false, .mv (.t 11)⟩,
   ⟨some 13, some (12, false), false, .mv (.t 1)⟩,
   ⟨some 14, some (12, false), false, .bin .gtr (.t 13) (.c (.int .i64 12))⟩,
   ⟨some 15, none, false, .pick (.t 12) (.c (.bool true)) (.t 14)⟩])
 (.cond (.t 15)
  (.seq (.region false [4] [] [⟨some 4, none, false, .mv (.c (.int .i64 0))⟩])
  .ret)
  .skip))
 (.seq (.seq (.region false [1, 21] [] [⟨some 16, none, false, .mv (.t 1)⟩,
   ⟨some 17, none, false, .bin .eql (.t 16) (.c (.int .i64 2))⟩,
   ⟨some 18, none, false, .mv (.t 17)⟩,
   ⟨some 19, some (18, true), false, .mv (.t 0)⟩,
   ⟨some 20, some (18, true), false, .call (.f 92) [(.t 19)]⟩,
   ⟨some 21, none, false, .pick (.t 18) (.t 20) (.c (.bool false))⟩])
 (.cond (.t 21)
  (.seq (.region false [4] [] [⟨some 4, none, false, .mv (.c (.int .i64 29))⟩])
  .ret)
  .skip))
 (.seq (.region false [4] [] [⟨some 22, none, false, .build [(.int .i64 0), (.int .i64 0), (.int .i64 0), (.int .i64 0), (.int .i64 0), (.int .i64 0), (.int .i64 0), (.int .i64 0), (.int .i64 0), (.int .i64 0), (.int .i64 0), (.int .i64 0)] [(0, 1, (.c (.int .i64 31))), (1, 1, (.c (.int .i64 28))), (2, 1, (.c (.int .i64 31))), (3, 1, (.c (.int .i64 30))), (4, 1, (.c (.int .i64 31))), (5, 1, (.c (.int .i64 30))), (6, 1, (.c (.int .i64 31))), (7, 1, (.c (.int .i64 31))), (8, 1, (.c (.int .i64 30))), (9, 1, (.c (.int .i64 31))), (10, 1, (.c (.int .i64 30))), (11, 1, (.c (.int .i64 31)))]⟩,
   ⟨some 23, none, false, .mv (.t 1)⟩,
   ⟨some 24, none, false, .bin .sub (.t 23) (.c (.int .i64 1))⟩,
   ⟨some 25, none, false, .idx 12 false 1 (.t 22) (.t 24)⟩,
   ⟨some 4, none, false, .mv (.t 25)⟩])
 .ret))))⟩
def af46L0 : ACode := .loop [0, 3]
 (.seq (.seq (.region false [0, 3, 21] [] [⟨some 18, none, false, .mv (.t 3)⟩,
   ⟨some 19, none, false, .mv (.t 0)⟩,
   ⟨some 20, none, false, .bi (.len 0) [(.t 19)]⟩,
   ⟨some 21, none, false, .bin .lss (.t 18) (.t 20)⟩])
 (.cond (.t 21)
  .skip
  (.exit 0)))
 (.seq (.block 1 (.seq (.region false [0, 3, 59] [] [⟨some 24, none, false, .mv (.t 0)⟩,
    ⟨some 25, none, false, .mv (.t 3)⟩,
    ⟨some 26, none, false, .sidx (.t 24) (.t 25)⟩,
    ⟨some 27, none, false, .call (.f 93) [(.t 26)]⟩,
    ⟨some 28, none, false, .un .not (.t 27)⟩,
    ⟨some 29, none, false, .mv (.t 28)⟩,
    ⟨some 30, some (29, true), false, .mv (.t 0)⟩,
    ⟨some 31, some (29, true), false, .mv (.t 3)⟩,
    ⟨some 32, some (29, true), false, .sidx (.t 30) (.t 31)⟩,
    ⟨some 33, some (29, true), false, .call (.f 94) [(.t 32)]⟩,
    ⟨some 34, some (29, true), false, .un .not (.t 33)⟩,
    ⟨some 35, none, false, .pick (.t 29) (.t 34) (.c (.bool false))⟩,
    ⟨some 36, none, false, .mv (.t 35)⟩,
    ⟨some 37, some (36, true), false, .mv (.t 0)⟩,
    ⟨some 38, some (36, true), false, .mv (.t 3)⟩,
    ⟨some 39, some (36, true), false, .sidx (.t 37) (.t 38)⟩,
    ⟨some 40, some (36, true), false, .bin .neq (.t 39) (.c (.int .u8 95))⟩,
    ⟨some 41, none, false, .pick (.t 36) (.t 40) (.c (.bool false))⟩,
    ⟨some 42, none, false, .mv (.t 41)⟩,
    ⟨some 43, some (42, true), false, .mv (.t 0)⟩,
    ⟨some 44, some (42, true), false, .mv (.t 3)⟩,
    ⟨some 45, some (42, true), false, .sidx (.t 43) (.t 44)⟩,
    ⟨some 46, some (42, true), false, .bin .neq (.t 45) (.c (.int .u8 47))⟩,
    ⟨some 47, none, false, .pick (.t 42) (.t 46) (.c (.bool false))⟩,
    ⟨some 48, none, false, .mv (.t 47)⟩,
    ⟨some 49, some (48, true), false, .mv (.t 0)⟩,
    ⟨some 50, some (48, true), false, .mv (.t 3)⟩,
    ⟨some 51, some (48, true), false, .sidx (.t 49) (.t 50)⟩,
    ⟨some 52, some (48, true), false, .bin .neq (.t 51) (.c (.int .u8 43))⟩,
    ⟨some 53, none, false, .pick (.t 48) (.t 52) (.c (.bool false))⟩,
    ⟨some 54, none, false, .mv (.t 53)⟩,
    ⟨some 55, some (54, true), false, .mv (.t 0)⟩,
    ⟨some 56, some (54, true), false, .mv (.t 3)⟩,
    ⟨some 57, some (54, true), false, .sidx (.t 55) (.t 56)⟩,
    ⟨some 58, some (54, true), false, .bin .neq (.t 57) (.c (.int .u8 45))⟩,
    ⟨some 59, none, false, .pick (.t 54) (.t 58) (.c (.bool false))⟩])
  (.cond (.t 59)
   (.seq (.region false [2] [] [⟨some 2, none, false, .mv (.c (.bool false))⟩])
   .ret)
   .skip)))
 (.region false [0, 3] [] [⟨some 22, none, false, .mv (.t 3)⟩,
   ⟨some 23, none, false, .bin .add (.t 22) (.c (.int .i64 1))⟩,
   ⟨some 3, none, false, .mv (.t 23)⟩])))
/-- civiltime/civiltimeref20.Name -/
def af46 : AFun := ⟨60, true, [.tmp 2],
 (.seq (.region false [0] [] [⟨some 2, none, false, .mv (.c (.bool false))⟩])
 (.seq (.seq (.region false [0, 17] [] [⟨some 4, none, false, .mv (.t 0)⟩,
   ⟨some 5, none, false, .bi (.len 0) [(.t 4)]⟩,
   ⟨some 6, none, false, .bin .lss (.t 5) (.c (.int .i64 1))⟩,
   ⟨some 7, none, false, .mv (.t 6)⟩,
   ⟨some 8, some (7, false), false, .mv (.t 0)⟩,
   ⟨some 9, some (7, false), false, .bi (.len 0) [(.t 8)]⟩,
   ⟨some 10, some (7, false), false, .bin .gtr (.t 9) (.c (.int .i64 30))⟩,
   ⟨some 11, none, false, .pick (.t 7) (.c (.bool true)) (.t 10)⟩,
   ⟨some 12, none, false, .mv (.t 11)⟩,
   ⟨some 13, some (12, false), false, .mv (.t 0)⟩,
   ⟨some 14, some (12, false), false, .sidx (.t 13) (.c (.int .i64 0))⟩,
   ⟨some 15, some (12, false), false, .call (.f 93) [(.t 14)]⟩,
   ⟨some 16, some (12, false), false, .un .not (.t 15)⟩,
   ⟨some 17, none, false, .pick (.t 12) (.c (.bool true)) (.t 16)⟩])
 (.cond (.t 17)
  (.seq (.region false [2] [] [⟨some 2, none, false, .mv (.c (.bool false))⟩])
  .ret)
  .skip))
 (.seq (.seq (.region false [0, 3] [] [⟨some 3, none, false, .mv (.c (.int .i64 0))⟩])
 (.block 0 af46L0))
 (.seq (.region false [2] [] [⟨some 2, none, false, .mv (.c (.bool true))⟩])
 .ret))))⟩
/-- civiltime/civiltimeref28.between -/
def af47 : AFun := ⟨15, true, [.tmp 6],
 (.seq (.region false [0, 1, 2] [] [⟨some 6, none, false, .mv (.c (.bool false))⟩])
 (.seq (.region false [6] [] [⟨some 7, none, false, .mv (.t 0)⟩,
   ⟨some 8, none, false, .mv (.t 1)⟩,
   ⟨some 9, none, false, .bin .geq (.t 7) (.t 8)⟩,
   ⟨some 10, none, false, .mv (.t 9)⟩,
   ⟨some 11, some (10, true), false, .mv (.t 0)⟩,
   ⟨some 12, some (10, true), false, .mv (.t 2)⟩,
   ⟨some 13, some (10, true), false, .bin .leq (.t 11) (.t 12)⟩,
   ⟨some 14, none, false, .pick (.t 10) (.t 13) (.c (.bool false))⟩,
   ⟨some 6, none, false, .mv (.t 14)⟩])
 .ret))⟩
/-- civiltime/civiltimeref02.Length -/
def af48 : AFun := ⟨37, true, [.tmp 4],
 (.seq (.region false [0, 1] [] [⟨some 4, none, false, .mv (.c (.int .i64 0))⟩])
 (.seq (.seq (.region false [0, 1, 18] [] [⟨some 5, none, false, .mv (.t 0)⟩,
   ⟨some 6, none, false, .bin .lss (.t 5) (.c (.int .i64 1))⟩,
   ⟨some 7, none, false, .mv (.t 6)⟩,
   ⟨some 8, some (7, false), false, .mv (.t 0)⟩,
   ⟨some 9, some (7, false), false, .bin .gtr (.t 8) (.c (.int .i64 9999))⟩,
   ⟨some 10, none, false, .pick (.t 7) (.c (.bool true)) (.t 9)⟩,
   ⟨some 11, none, false, .mv (.t 10)⟩,
   ⟨some 12, some (11, false), false, .mv (.t 1)⟩,
   ⟨some 13, some (11, false), false, .bin .lss (.t 12) (.c (.int .i64 1))⟩,
   ⟨some 14, none, false, .pick (.t 11) (.c (.bool true)) (.t 13)⟩,
   ⟨some 15, none, false, .mv (.t 14)⟩,
   ⟨some 16, some (15, false), false, .mv (.t 1)⟩,
   ⟨some 17, some (15, false), false, .bin .gtr (.t 16) (.c (.int .i64 12))⟩,
   ⟨some 18, none, false, .pick (.t 15) (.c (.bool true)) (.t 17)⟩])
 (.cond (.t 18)
  (.seq (.region false [4] [] [⟨some 4, none, false, .mv (.c (.int .i64 0))⟩])
  .ret)
  .skip))
 (.seq (.seq (.region false [0, 1, 20] [] [⟨some 19, none, false, .mv (.t 1)⟩,
   ⟨some 20, none, false, .bin .eql (.t 19) (.c (.int .i64 2))⟩])
 (.cond (.t 20)
  (.seq (.seq (.region false [22] [] [⟨some 21, none, false, .mv (.t 0)⟩,
    ⟨some 22, none, false, .call (.f 95) [(.t 21)]⟩])
  (.cond (.t 22)
   (.seq (.region false [4] [] [⟨some 4, none, false, .mv (.c (.int .i64 29))⟩])
   .ret)
   .skip))
  (.seq (.region false [4] [] [⟨some 4, none, false, .mv (.c (.int .i64 28))⟩])
  .ret))
  .skip))
 (.seq (.seq (.region false [36] [] [⟨some 23, none, false, .mv (.t 1)⟩,
   ⟨some 24, none, false, .bin .eql (.t 23) (.c (.int .i64 4))⟩,
   ⟨some 25, none, false, .mv (.t 24)⟩,
   ⟨some 26, some (25, false), false, .mv (.t 1)⟩,
   ⟨some 27, some (25, false), false, .bin .eql (.t 26) (.c (.int .i64 6))⟩,
   ⟨some 28, none, false, .pick (.t 25) (.c (.bool true)) (.t 27)⟩,
   ⟨some 29, none, false, .mv (.t 28)⟩,
   ⟨some 30, some (29, false), false, .mv (.t 1)⟩,
   ⟨some 31, some (29, false), false, .bin .eql (.t 30) (.c (.int .i64 9))⟩,
   ⟨some 32, none, false, .pick (.t 29) (.c (.bool true)) (.t 31)⟩,
   ⟨some 33, none, false, .mv (.t 32)⟩,
   ⟨some 34, some (33, false), false, .mv (.t 1)⟩,
   ⟨some 35, some (33, false), false, .bin .eql (.t 34) (.c (.int .i64 11))⟩,
   ⟨some 36, none, false, .pick (.t 33) (.c (.bool true)) (.t 35)⟩])
 (.cond (.t 36)
  (.seq (.region false [4] [] [⟨some 4, none, false, .mv (.c (.int .i64 30))⟩])
  .ret)
  .skip))
 (.seq (.region false [4] [] [⟨some 4, none, false, .mv (.c (.int .i64 31))⟩])
 .ret)))))⟩
/-- civiltime/holiday.all -/
def af49 : AFun := ⟨11, true, [.tmp 2],
 (.seq (.region false [0] [] [⟨some 2, none, false, .mv (.c (.bool false))⟩])
 (.seq (.region false [2] [] [⟨some 3, none, false, .mv (.t 0)⟩,
   ⟨some 4, none, false, .bi (.len 1) [(.t 3)]⟩,
   ⟨some 5, none, false, .bin .leq (.t 4) (.c (.int .i64 100))⟩,
   ⟨some 6, none, false, .mv (.t 5)⟩,
   ⟨some 7, some (6, true), false, .mv (.t 0)⟩,
   ⟨some 8, some (6, true), false, .call (.f 96) [(.t 7), (.f 97)]⟩,
   ⟨some 9, some (6, true), false, .un .not (.t 8)⟩,
   ⟨some 10, none, false, .pick (.t 6) (.t 9) (.c (.bool false))⟩,
   ⟨some 2, none, false, .mv (.t 10)⟩])
 .ret))⟩
def af50L0 : ACode := .loop [1, 5, 6, 7, 8, 13, 14, 15, 36, 37, 38]
 (.seq (.region false [1, 5, 6, 7, 8, 13, 14, 15, 36, 37, 38, 39] [] [⟨some 39, none, false, .bin .lss (.t 38) (.t 37)⟩])
 (.seq (.cond (.t 39)
  .skip
  (.exit 2))
 (.seq (.block 3 (.seq (.region false [1, 5, 6, 7, 8, 10, 13, 14, 15, 36, 37, 38] [] [⟨some 40, none, false, .idxaddr none 1 (.t 36) (.t 38)⟩,
    ⟨some 41, none, false, .load false 1 (.t 40)⟩,
    ⟨some 10, none, false, .mv (.t 41)⟩])
  (.seq (.region false [1, 5, 6, 7, 8, 11, 13, 14, 15, 36, 37, 38] [] [⟨some 42, none, false, .mv (.t 10)⟩,
    ⟨some 43, none, false, .fldaddr 9 (.t 8)⟩,
    ⟨some 44, none, false, .load false 1 (.t 43)⟩,
    ⟨some 45, none, false, .call (.f 99) [(.t 42), (.t 44)]⟩,
    ⟨some 11, none, false, .mv (.t 45)⟩])
  (.seq (.region false [1, 5, 6, 7, 8, 11, 13, 14, 15, 36, 37, 38, 51] [] [⟨some 46, none, false, .mv (.t 11)⟩,
    ⟨some 47, none, false, .bin .geq (.t 46) (.c (.int .i64 (-719162)))⟩,
    ⟨some 48, none, false, .mv (.t 47)⟩,
    ⟨some 49, some (48, true), false, .mv (.t 11)⟩,
    ⟨some 50, some (48, true), false, .bin .lss (.t 49) (.c (.int .i64 2932897))⟩,
    ⟨some 51, none, false, .pick (.t 48) (.t 50) (.c (.bool false))⟩])
  (.cond (.t 51)
   (.region false [1, 5, 6, 7, 8, 13, 14, 15, 36, 37, 38] [] [⟨some 52, none, false, .mv (.t 5)⟩,
     ⟨some 53, none, false, .mv (.t 11)⟩,
     ⟨some 54, none, false, .mv (.t 7)⟩,
     ⟨some 55, none, false, .build [(.int .i64 0), (.int .i64 0)] [(0, 1, (.t 53)), (1, 1, (.t 54))]⟩,
     ⟨some 56, none, false, .bslice [(.int .i64 0), (.int .i64 0)] [(0, 2, (.t 55))] 1 2⟩,
     ⟨some 57, none, false, .bi (.append 2 16) [(.t 52), (.t 56)]⟩,
     ⟨some 5, none, false, .mv (.t 57)⟩])
   .skip)))))
 (.region false [1, 5, 6, 7, 8, 13, 14, 15, 36, 37, 38] [] [⟨some 58, none, false, .bin .add (.t 38) (.c (.int .i64 1))⟩,
   ⟨some 38, none, false, .mv (.t 58)⟩]))))
def af50L1 : ACode := .loop [1, 5, 6, 13, 14, 15]
 (.seq (.region false [1, 5, 6, 13, 14, 15, 16] [] [⟨some 16, none, false, .bin .lss (.t 15) (.t 14)⟩])
 (.seq (.cond (.t 16)
  .skip
  (.exit 0))
 (.seq (.block 1 (.seq (.region false [1, 5, 6, 7, 8, 13, 14, 15] [] [⟨some 17, none, false, .mv (.t 15)⟩,
    ⟨some 18, none, false, .idxaddr none 10 (.t 13) (.t 15)⟩,
    ⟨some 19, none, false, .load true 10 (.t 18)⟩,
    ⟨some 8, none, false, .new [(.str []), (.int .i64 0), (.int .i64 0), (.int .i64 0), (.int .i64 0), (.int .i64 0), (.int .i64 0), (.int .i64 0), (.int .i64 0), (.int .i64 0)]⟩,
    ⟨some 7, none, false, .mv (.t 17)⟩,
    ⟨none, none, false, .store 10 (.t 8) (.t 19)⟩])
  (.seq (.seq (.region false [1, 5, 6, 7, 8, 13, 14, 15, 29] [] [⟨some 20, none, false, .mv (.t 1)⟩,
    ⟨some 21, none, false, .fldaddr 7 (.t 8)⟩,
    ⟨some 22, none, false, .load false 1 (.t 21)⟩,
    ⟨some 23, none, false, .bin .lss (.t 20) (.t 22)⟩,
    ⟨some 24, none, false, .mv (.t 23)⟩,
    ⟨some 25, some (24, false), false, .mv (.t 1)⟩,
    ⟨some 26, some (24, false), false, .fldaddr 8 (.t 8)⟩,
    ⟨some 27, some (24, false), false, .load false 1 (.t 26)⟩,
    ⟨some 28, some (24, false), false, .bin .gtr (.t 25) (.t 27)⟩,
    ⟨some 29, none, false, .pick (.t 24) (.c (.bool true)) (.t 28)⟩])
  (.cond (.t 29)
   (.exit 1)
   .skip))
  (.seq (.region false [1, 5, 6, 7, 8, 13, 14, 15, 36, 37, 38] [] [⟨some 30, none, false, .mv (.t 6)⟩,
    ⟨some 31, none, false, .fldaddr 1 (.t 8)⟩,
    ⟨some 32, none, false, .load false 1 (.t 31)⟩,
    ⟨some 33, none, false, .lookup false .nilFn false (.t 30) (.t 32)⟩,
    ⟨some 34, none, false, .load true 10 (.t 8)⟩,
    ⟨some 35, none, false, .mv (.t 1)⟩,
    ⟨some 36, none, false, .call (.t 33) [(.t 34), (.t 35)]⟩,
    ⟨some 37, none, false, .bi (.len 1) [(.t 36)]⟩,
    ⟨some 38, none, false, .mv (.c (.int .i64 0))⟩])
  (.block 2 af50L0)))))
 (.region false [1, 5, 6, 13, 14, 15] [] [⟨some 59, none, false, .bin .add (.t 15) (.c (.int .i64 1))⟩,
   ⟨some 15, none, false, .mv (.t 59)⟩]))))
/-- civiltime/holiday.year -/
def af50 : AFun := ⟨64, true, [.tmp 4],
 (.seq (.region false [0, 1] [] [⟨some 4, none, false, .mv (.c .nilSl)⟩])
 (.seq (.region false [0, 1, 5] [] [⟨some 5, none, false, .mv (.c .nilSl)⟩])
 (.seq (.region false [0, 1, 5, 6] [] [⟨some 12, none, false, .call (.f 98) []⟩,
   ⟨some 6, none, false, .mv (.t 12)⟩])
 (.seq (.seq (.region false [1, 5, 6, 13, 14, 15] [] [⟨some 13, none, false, .mv (.t 0)⟩,
   ⟨some 14, none, false, .bi (.len 1) [(.t 13)]⟩,
   ⟨some 15, none, false, .mv (.c (.int .i64 0))⟩])
 (.block 0 af50L1))
 (.seq (.region false [5] [] [⟨some 60, none, false, .mv (.t 5)⟩,
   ⟨some 61, none, false, .call (.f 64) [(.t 60), (.f 65)]⟩])
 (.seq (.region false [4] [] [⟨some 62, none, false, .mv (.t 5)⟩,
   ⟨some 63, none, false, .call (.f 66) [(.t 62)]⟩,
   ⟨some 4, none, false, .mv (.t 63)⟩])
 .ret))))))⟩
/-- civiltime/civil.inside -/
def af51 : AFun := ⟨9, true, [.tmp 2],
 (.seq (.region false [0] [] [⟨some 2, none, false, .mv (.c (.bool false))⟩])
 (.seq (.region false [2] [] [⟨some 3, none, false, .mv (.t 0)⟩,
   ⟨some 4, none, false, .bin .geq (.t 3) (.c (.int .i64 (-719162)))⟩,
   ⟨some 5, none, false, .mv (.t 4)⟩,
   ⟨some 6, some (5, true), false, .mv (.t 0)⟩,
   ⟨some 7, some (5, true), false, .bin .lss (.t 6) (.c (.int .i64 2932897))⟩,
   ⟨some 8, none, false, .pick (.t 5) (.t 7) (.c (.bool false))⟩,
   ⟨some 2, none, false, .mv (.t 8)⟩])
 .ret))⟩
/-- civiltime/integer.Mod -/
def af52 : AFun := ⟨16, true, [.tmp 4],
 (.seq (.region false [0, 1] [] [⟨some 4, none, false, .mv (.c (.int .i64 0))⟩])
 (.seq (.region false [6] [] [⟨some 9, none, false, .mv (.t 0)⟩,
   ⟨some 10, none, false, .mv (.t 1)⟩,
   ⟨some 11, none, false, .call (.f 100) [(.t 9), (.t 10)]⟩,
   ⟨some 8, none, false, .mv (.t 11)⟩,
   ⟨some 12, none, false, .ext 0 (.t 8)⟩,
   ⟨some 13, none, false, .ext 1 (.t 8)⟩,
   ⟨some 14, none, false, .ext 2 (.t 8)⟩,
   ⟨some 5, none, false, .mv (.t 12)⟩,
   ⟨some 6, none, false, .mv (.t 13)⟩,
   ⟨some 7, none, false, .mv (.t 14)⟩])
 (.seq (.region false [4] [] [⟨some 15, none, false, .mv (.t 6)⟩,
   ⟨some 4, none, false, .mv (.t 15)⟩])
 .ret)))⟩
/-- civiltime/civil.Valid -/
def af53 : AFun := ⟨16, true, [.tmp 2],
 (.seq (.region false [1] [] [⟨some 1, none, false, .box (.t 0)⟩,
   ⟨some 2, none, false, .mv (.c (.bool false))⟩])
 (.seq (.region true [2] [] [⟨some 3, none, false, .fldaddr 2 (.t 1)⟩,
   ⟨some 4, none, false, .load false 1 (.t 3)⟩,
   ⟨some 5, none, false, .bin .geq (.t 4) (.c (.int .i64 1))⟩,
   ⟨some 6, none, false, .mv (.t 5)⟩,
   ⟨some 7, some (6, true), false, .fldaddr 2 (.t 1)⟩,
   ⟨some 8, some (6, true), false, .load false 1 (.t 7)⟩,
   ⟨some 9, some (6, true), false, .fldaddr 0 (.t 1)⟩,
   ⟨some 10, some (6, true), false, .load false 1 (.t 9)⟩,
   ⟨some 11, some (6, true), false, .fldaddr 1 (.t 1)⟩,
   ⟨some 12, some (6, true), false, .load false 1 (.t 11)⟩,
   ⟨some 13, some (6, true), true, .call (.f 45) [(.t 10), (.t 12)]⟩,
   ⟨some 14, some (6, true), false, .bin .leq (.t 8) (.t 13)⟩,
   ⟨some 15, none, false, .pick (.t 6) (.t 14) (.c (.bool false))⟩,
   ⟨some 2, none, false, .mv (.t 15)⟩])
 .ret))⟩
/-- civiltime/civil.count -/
def af54 : AFun := ⟨34, true, [.tmp 6],
 (.seq (.region false [0, 1, 2] [] [⟨some 6, none, false, .mv (.c (.int .i64 0))⟩])
 (.seq (.seq (.region false [0, 1, 2, 8] [] [⟨some 7, none, false, .mv (.t 1)⟩,
   ⟨some 8, none, false, .bin .leq (.t 7) (.c (.int .i64 2))⟩])
 (.cond (.t 8)
  (.region false [0, 1, 2] [] [⟨some 9, none, false, .mv (.t 0)⟩,
    ⟨some 10, none, false, .bin .sub (.t 9) (.c (.int .i64 1))⟩,
    ⟨some 11, none, false, .mv (.t 1)⟩,
    ⟨some 12, none, false, .bin .add (.t 11) (.c (.int .i64 12))⟩,
    ⟨some 0, none, false, .mv (.t 10)⟩,
    ⟨some 1, none, false, .mv (.t 12)⟩])
  .skip))
 (.seq (.region false [6] [] [⟨some 13, none, false, .mv (.t 0)⟩,
   ⟨some 14, none, false, .bin .mul (.c (.int .i64 365)) (.t 13)⟩,
   ⟨some 15, none, false, .mv (.t 0)⟩,
   ⟨some 16, none, false, .bin .quo (.t 15) (.c (.int .i64 4))⟩,
   ⟨some 17, none, false, .bin .add (.t 14) (.t 16)⟩,
   ⟨some 18, none, false, .mv (.t 0)⟩,
   ⟨some 19, none, false, .bin .quo (.t 18) (.c (.int .i64 100))⟩,
   ⟨some 20, none, false, .bin .sub (.t 17) (.t 19)⟩,
   ⟨some 21, none, false, .mv (.t 0)⟩,
   ⟨some 22, none, false, .bin .quo (.t 21) (.c (.int .i64 400))⟩,
   ⟨some 23, none, false, .bin .add (.t 20) (.t 22)⟩,
   ⟨some 24, none, false, .mv (.t 1)⟩,
   ⟨some 25, none, false, .bin .sub (.t 24) (.c (.int .i64 3))⟩,
   ⟨some 26, none, false, .bin .mul (.c (.int .i64 153)) (.t 25)⟩,
   ⟨some 27, none, false, .bin .add (.t 26) (.c (.int .i64 2))⟩,
   ⟨some 28, none, false, .bin .quo (.t 27) (.c (.int .i64 5))⟩,
   ⟨some 29, none, false, .bin .add (.t 23) (.t 28)⟩,
   ⟨some 30, none, false, .mv (.t 2)⟩,
   ⟨some 31, none, false, .bin .add (.t 29) (.t 30)⟩,
   ⟨some 32, none, false, .bin .sub (.t 31) (.c (.int .i64 307))⟩,
   ⟨some 33, none, false, .bin .add (.t 32) (.c (.int .i64 (-719162)))⟩,
   ⟨some 6, none, false, .mv (.t 33)⟩])
 .ret)))⟩
/-- civiltime/feast.Easter -/
def af55 : AFun := ⟨47, true, [.tmp 2, .tmp 3],
 (.seq (.region false [0] [] [⟨some 2, none, false, .mv (.c (.int .i64 0))⟩,
   ⟨some 3, none, false, .mv (.c (.int .i64 0))⟩])
 (.seq (.seq (.region false [0, 11] [] [⟨some 9, none, false, .mv (.t 0)⟩,
   ⟨some 10, none, false, .call (.f 101) [(.t 9)]⟩,
   ⟨some 11, none, false, .un .not (.t 10)⟩])
 (.cond (.t 11)
  (.seq (.region false [2, 3] [] [⟨some 2, none, false, .mv (.c (.int .i64 0))⟩,
    ⟨some 3, none, false, .mv (.c (.int .i64 2))⟩])
  .ret)
  .skip))
 (.seq (.region false [0, 4, 5] [] [⟨some 12, none, false, .mv (.t 0)⟩,
   ⟨some 13, none, false, .call (.f 102) [(.t 12)]⟩,
   ⟨some 14, none, false, .mv (.t 0)⟩,
   ⟨some 15, none, false, .call (.f 103) [(.t 14)]⟩,
   ⟨some 4, none, false, .mv (.t 13)⟩,
   ⟨some 5, none, false, .mv (.t 15)⟩])
 (.seq (.seq (.region false [0, 4, 25] [] [⟨some 16, none, false, .mv (.t 4)⟩,
   ⟨some 17, none, false, .bin .eql (.t 16) (.c (.int .i64 24))⟩,
   ⟨some 18, none, false, .mv (.t 17)⟩,
   ⟨some 19, some (18, false), false, .mv (.t 4)⟩,
   ⟨some 20, some (18, false), false, .bin .eql (.t 19) (.c (.int .i64 25))⟩,
   ⟨some 21, some (18, false), false, .mv (.t 20)⟩,
   ⟨some 22, some (21, true), false, .mv (.t 5)⟩,
   ⟨some 23, some (21, true), false, .bin .gtr (.t 22) (.c (.int .i64 11))⟩,
   ⟨some 24, some (18, false), false, .pick (.t 21) (.t 23) (.c (.bool false))⟩,
   ⟨some 25, none, false, .pick (.t 18) (.c (.bool true)) (.t 24)⟩])
 (.cond (.t 25)
  (.region false [0, 4] [] [⟨some 26, none, false, .mv (.t 4)⟩,
    ⟨some 27, none, false, .bin .add (.t 26) (.c (.int .i64 1))⟩,
    ⟨some 4, none, false, .mv (.t 27)⟩])
  .skip))
 (.seq (.region false [0, 6] [] [⟨some 28, none, false, .mv (.t 4)⟩,
   ⟨some 29, none, false, .bin .sub (.c (.int .i64 44)) (.t 28)⟩,
   ⟨some 6, none, false, .mv (.t 29)⟩])
 (.seq (.seq (.region false [0, 6, 31] [] [⟨some 30, none, false, .mv (.t 6)⟩,
   ⟨some 31, none, false, .bin .lss (.t 30) (.c (.int .i64 21))⟩])
 (.cond (.t 31)
  (.region false [0, 6] [] [⟨some 32, none, false, .mv (.t 6)⟩,
    ⟨some 33, none, false, .bin .add (.t 32) (.c (.int .i64 30))⟩,
    ⟨some 6, none, false, .mv (.t 33)⟩])
  .skip))
 (.seq (.region false [6, 7, 8] [] [⟨some 35, none, false, .mv (.t 0)⟩,
   ⟨some 36, none, false, .build [(.int .i64 0), (.int .i64 0), (.int .i64 0)] [(0, 1, (.t 35)), (1, 1, (.c (.int .i64 3))), (2, 1, (.c (.int .i64 1)))]⟩,
   ⟨some 37, none, false, .call (.f 19) [(.t 36)]⟩,
   ⟨some 34, none, false, .mv (.t 37)⟩,
   ⟨some 38, none, false, .ext 0 (.t 34)⟩,
   ⟨some 39, none, false, .ext 1 (.t 34)⟩,
   ⟨some 7, none, false, .mv (.t 38)⟩,
   ⟨some 8, none, false, .mv (.t 39)⟩])
 (.seq (.seq (.region false [6, 7, 41] [] [⟨some 40, none, false, .mv (.t 8)⟩,
   ⟨some 41, none, false, .bin .neq (.t 40) (.c (.int .i64 0))⟩])
 (.cond (.t 41)
  (.seq (.region false [2, 3] [] [⟨some 2, none, false, .mv (.c (.int .i64 0))⟩,
    ⟨some 3, none, false, .mv (.c (.int .i64 2))⟩])
  .ret)
  .skip))
 (.seq (.region false [2, 3] [] [⟨some 42, none, false, .mv (.t 7)⟩,
   ⟨some 43, none, false, .mv (.t 6)⟩,
   ⟨some 44, none, false, .bin .add (.t 42) (.t 43)⟩,
   ⟨some 45, none, false, .bin .sub (.t 44) (.c (.int .i64 1))⟩,
   ⟨some 46, none, false, .call (.f 104) [(.t 45)]⟩,
   ⟨some 2, none, false, .mv (.t 46)⟩,
   ⟨some 3, none, false, .mv (.c (.int .i64 0))⟩])
 .ret)))))))))⟩
/-- (*civiltime/holiday.reader).line -/
def af59 : AFun := ⟨133, true, [.cell 2 true 10],
 (.seq (.region false [0, 2] [] [⟨some 2, none, false, .new [(.str []), (.int .i64 0), (.int .i64 0), (.int .i64 0), (.int .i64 0), (.int .i64 0), (.int .i64 0), (.int .i64 0), (.int .i64 0), (.int .i64 0)]⟩])
 (.seq (.region false [0, 2, 3] [] [⟨some 3, none, false, .new [(.str []), (.int .i64 0), (.int .i64 0), (.int .i64 0), (.int .i64 0), (.int .i64 0), (.int .i64 0), (.int .i64 0), (.int .i64 0), (.int .i64 0)]⟩])
 (.seq (.seq (.region false [0, 2, 3, 4, 5] [] [⟨some 7, none, false, .mv (.t 0)⟩,
   ⟨some 8, none, false, .call (.f 111) [(.t 7)]⟩,
   ⟨some 6, none, false, .mv (.t 8)⟩,
   ⟨some 9, none, false, .ext 0 (.t 6)⟩,
   ⟨some 10, none, false, .ext 1 (.t 6)⟩,
   ⟨some 4, none, false, .mv (.t 9)⟩,
   ⟨some 5, none, false, .mv (.t 10)⟩])
 (.seq (.region false [0, 2, 3, 4, 11] [] [⟨some 11, none, false, .mv (.t 5)⟩])
 (.cond (.t 11)
  (.seq (.region false [0, 2, 3, 4] [] [⟨some 12, none, false, .mv (.t 4)⟩,
    ⟨some 13, none, false, .fldaddr 0 (.t 3)⟩,
    ⟨none, none, false, .store 1 (.t 13) (.t 12)⟩])
  (.seq (.region false [0, 2, 3, 16] [] [⟨some 14, none, false, .mv (.t 4)⟩,
    ⟨some 15, none, false, .call (.f 43) [(.t 14)]⟩,
    ⟨some 16, none, false, .un .not (.t 15)⟩])
  (.cond (.t 16)
   (.region false [0, 2, 3] [] [⟨some 17, none, false, .mv (.t 0)⟩,
     ⟨some 18, none, false, .call (.f 112) [(.t 17)]⟩])
   .skip)))
  .skip)))
 (.seq (.region false [0, 2, 3] [] [⟨some 19, none, false, .mv (.t 0)⟩,
   ⟨some 20, none, false, .bslice [(.str []), (.str []), (.str []), (.str []), (.str [])] [(0, 1, (.c (.str [102, 105, 120, 101, 100]))), (1, 1, (.c (.str [110, 116, 104]))), (2, 1, (.c (.str [101, 97, 115, 116, 101, 114]))), (3, 1, (.c (.str [105, 115, 108, 97, 109, 105, 99]))), (4, 1, (.c (.str [104, 101, 98, 114, 101, 119])))] 5 1⟩,
   ⟨some 21, none, false, .call (.f 113) [(.t 19), (.t 20)]⟩,
   ⟨some 22, none, false, .bin .add (.c (.int .i64 1)) (.t 21)⟩,
   ⟨some 23, none, false, .fldaddr 1 (.t 3)⟩,
   ⟨none, none, false, .store 1 (.t 23) (.t 22)⟩])
 (.seq (.seq (.region false [0, 2, 3, 25] [] [⟨some 24, none, false, .fldaddr 1 (.t 3)⟩,
   ⟨some 25, none, false, .load false 1 (.t 24)⟩])
 (.block 0 (.seq (.region false [0, 2, 3, 25, 26] [] [⟨some 27, none, false, .bin .eql (.t 25) (.c (.int .i64 1))⟩,
    ⟨some 26, none, false, .mv (.t 27)⟩])
  (.cond (.t 26)
   (.region false [0, 2, 3] [] [⟨some 28, none, false, .mv (.t 0)⟩,
     ⟨some 29, none, false, .call (.f 114) [(.t 28), (.f 115)]⟩,
     ⟨some 30, none, false, .mv (.t 0)⟩,
     ⟨some 31, none, false, .call (.f 116) [(.t 30)]⟩,
     ⟨some 32, none, false, .fldaddr 2 (.t 3)⟩,
     ⟨none, none, false, .store 1 (.t 32) (.t 29)⟩,
     ⟨some 33, none, false, .fldaddr 3 (.t 3)⟩,
     ⟨none, none, false, .store 1 (.t 33) (.t 31)⟩])
   (.seq (.region false [0, 2, 3, 25, 34] [] [⟨some 35, none, false, .bin .eql (.t 25) (.c (.int .i64 2))⟩,
     ⟨some 34, none, false, .mv (.t 35)⟩])
   (.cond (.t 34)
    (.seq (.region false [0, 2, 3] [] [⟨some 36, none, false, .mv (.t 0)⟩,
      ⟨some 37, none, false, .call (.f 116) [(.t 36)]⟩,
      ⟨some 38, none, false, .fldaddr 5 (.t 3)⟩,
      ⟨none, none, false, .store 1 (.t 38) (.t 37)⟩])
    (.region false [0, 2, 3] [] [⟨some 39, none, false, .mv (.t 0)⟩,
      ⟨some 40, none, false, .call (.f 114) [(.t 39), (.f 117)]⟩,
      ⟨some 41, none, false, .mv (.t 0)⟩,
      ⟨some 42, none, false, .call (.f 114) [(.t 41), (.f 115)]⟩,
      ⟨some 43, none, false, .mv (.t 0)⟩,
      ⟨some 44, none, false, .call (.f 116) [(.t 43)]⟩,
      ⟨some 45, none, false, .fldaddr 4 (.t 3)⟩,
      ⟨none, none, false, .store 1 (.t 45) (.t 40)⟩,
      ⟨some 46, none, false, .fldaddr 2 (.t 3)⟩,
      ⟨none, none, false, .store 1 (.t 46) (.t 42)⟩,
      ⟨some 47, none, false, .fldaddr 6 (.t 3)⟩,
      ⟨none, none, false, .store 1 (.t 47) (.t 44)⟩]))
    (.seq (.region false [0, 2, 3, 25, 48] [] [⟨some 49, none, false, .bin .eql (.t 25) (.c (.int .i64 3))⟩,
      ⟨some 48, none, false, .mv (.t 49)⟩])
    (.cond (.t 48)
     (.region false [0, 2, 3] [] [⟨some 50, none, false, .mv (.t 0)⟩,
       ⟨some 51, none, false, .call (.f 116) [(.t 50)]⟩,
       ⟨some 52, none, false, .fldaddr 6 (.t 3)⟩,
       ⟨none, none, false, .store 1 (.t 52) (.t 51)⟩])
     (.seq (.region false [0, 2, 3, 25, 53] [] [⟨some 54, none, false, .bin .eql (.t 25) (.c (.int .i64 4))⟩,
       ⟨some 53, none, false, .mv (.t 54)⟩])
     (.cond (.t 53)
      (.region false [0, 2, 3] [] [⟨some 55, none, false, .mv (.t 0)⟩,
        ⟨some 56, none, false, .call (.f 116) [(.t 55)]⟩,
        ⟨some 57, none, false, .mv (.t 0)⟩,
        ⟨some 58, none, false, .call (.f 116) [(.t 57)]⟩,
        ⟨some 59, none, false, .mv (.t 0)⟩,
        ⟨some 60, none, false, .call (.f 116) [(.t 59)]⟩,
        ⟨some 61, none, false, .fldaddr 5 (.t 3)⟩,
        ⟨none, none, false, .store 1 (.t 61) (.t 56)⟩,
        ⟨some 62, none, false, .fldaddr 2 (.t 3)⟩,
        ⟨none, none, false, .store 1 (.t 62) (.t 58)⟩,
        ⟨some 63, none, false, .fldaddr 3 (.t 3)⟩,
        ⟨none, none, false, .store 1 (.t 63) (.t 60)⟩])
      (.seq (.region false [0, 2, 3, 64] [] [⟨some 65, none, false, .bin .eql (.t 25) (.c (.int .i64 5))⟩,
        ⟨some 64, none, false, .mv (.t 65)⟩])
      (.cond (.t 64)
       (.region false [0, 2, 3] [] [⟨some 66, none, false, .mv (.t 0)⟩,
         ⟨some 67, none, false, .call (.f 116) [(.t 66)]⟩,
         ⟨some 68, none, false, .mv (.t 0)⟩,
         ⟨some 69, none, false, .call (.f 116) [(.t 68)]⟩,
         ⟨some 70, none, false, .fldaddr 2 (.t 3)⟩,
         ⟨none, none, false, .store 1 (.t 70) (.t 67)⟩,
         ⟨some 71, none, false, .fldaddr 3 (.t 3)⟩,
         ⟨none, none, false, .store 1 (.t 71) (.t 69)⟩])
       .skip))))))))))))
 (.seq (.region false [0, 2, 3] [] [⟨some 72, none, false, .mv (.t 0)⟩,
   ⟨some 73, none, false, .call (.f 116) [(.t 72)]⟩,
   ⟨some 74, none, false, .mv (.t 0)⟩,
   ⟨some 75, none, false, .call (.f 116) [(.t 74)]⟩,
   ⟨some 76, none, false, .fldaddr 7 (.t 3)⟩,
   ⟨none, none, false, .store 1 (.t 76) (.t 73)⟩,
   ⟨some 77, none, false, .fldaddr 8 (.t 3)⟩,
   ⟨none, none, false, .store 1 (.t 77) (.t 75)⟩])
 (.seq (.region false [0, 2, 3] [] [⟨some 78, none, false, .mv (.t 0)⟩,
   ⟨some 79, none, false, .bslice [(.str []), (.str []), (.str [])] [(0, 1, (.c (.str [101, 120, 97, 99, 116, 108, 121]))), (1, 1, (.c (.str [109, 111, 110, 100, 97, 121]))), (2, 1, (.c (.str [110, 101, 97, 114, 101, 115, 116])))] 3 1⟩,
   ⟨some 80, none, false, .call (.f 113) [(.t 78), (.t 79)]⟩,
   ⟨some 81, none, false, .bin .add (.c (.int .i64 1)) (.t 80)⟩,
   ⟨some 82, none, false, .fldaddr 9 (.t 3)⟩,
   ⟨none, none, false, .store 1 (.t 82) (.t 81)⟩])
 (.seq (.seq (.region true [0, 2, 3, 99] [] [⟨some 83, none, false, .mv (.t 0)⟩,
   ⟨some 84, none, false, .nilck (.t 83)⟩,
   ⟨some 85, none, false, .fldaddr 4 (.t 84)⟩,
   ⟨some 86, none, false, .load false 1 (.t 85)⟩,
   ⟨some 87, none, false, .bin .eql (.t 86) (.c (.int .i64 0))⟩,
   ⟨some 88, none, false, .mv (.t 87)⟩,
   ⟨some 89, some (88, true), false, .mv (.t 0)⟩,
   ⟨some 90, some (88, true), false, .nilck (.t 89)⟩,
   ⟨some 91, some (88, true), false, .fldaddr 1 (.t 90)⟩,
   ⟨some 92, some (88, true), false, .load false 1 (.t 91)⟩,
   ⟨some 93, some (88, true), false, .mv (.t 0)⟩,
   ⟨some 94, some (88, true), false, .nilck (.t 93)⟩,
   ⟨some 95, some (88, true), false, .fldaddr 0 (.t 94)⟩,
   ⟨some 96, some (88, true), false, .load false 1 (.t 95)⟩,
   ⟨some 97, some (88, true), false, .bi (.len 1) [(.t 96)]⟩,
   ⟨some 98, some (88, true), false, .bin .lss (.t 92) (.t 97)⟩,
   ⟨some 99, none, false, .pick (.t 88) (.t 98) (.c (.bool false))⟩])
 (.cond (.t 99)
  (.seq (.region false [0, 2, 3] [] [⟨some 100, none, false, .mv (.t 0)⟩,
    ⟨some 101, none, false, .nilck (.t 100)⟩,
    ⟨some 102, none, false, .fldaddr 1 (.t 101)⟩,
    ⟨some 103, none, false, .load false 1 (.t 102)⟩,
    ⟨some 104, none, false, .bin .add (.t 103) (.c (.int .i64 1))⟩,
    ⟨some 105, none, false, .nilck (.t 100)⟩,
    ⟨some 106, none, false, .fldaddr 1 (.t 105)⟩,
    ⟨none, none, false, .store 1 (.t 106) (.t 104)⟩])
  (.region false [0, 2, 3] [] [⟨some 107, none, false, .mv (.t 0)⟩,
    ⟨some 108, none, false, .call (.f 112) [(.t 107)]⟩]))
  .skip))
 (.seq (.seq (.region false [0, 2, 3, 118] [] [⟨some 109, none, false, .mv (.t 0)⟩,
   ⟨some 110, none, false, .nilck (.t 109)⟩,
   ⟨some 111, none, false, .fldaddr 4 (.t 110)⟩,
   ⟨some 112, none, false, .load false 1 (.t 111)⟩,
   ⟨some 113, none, false, .bin .eql (.t 112) (.c (.int .i64 0))⟩,
   ⟨some 114, none, false, .mv (.t 113)⟩,
   ⟨some 115, some (114, true), false, .load true 10 (.t 3)⟩,
   ⟨some 116, some (114, true), false, .call (.f 14) [(.t 115)]⟩,
   ⟨some 117, some (114, true), false, .un .not (.t 116)⟩,
   ⟨some 118, none, false, .pick (.t 114) (.t 117) (.c (.bool false))⟩])
 (.cond (.t 118)
  (.region false [2, 3] [] [⟨some 119, none, false, .mv (.t 0)⟩,
    ⟨some 120, none, false, .mv (.t 0)⟩,
    ⟨some 121, none, false, .mv (.t 0)⟩,
    ⟨some 122, none, false, .nilck (.t 121)⟩,
    ⟨some 123, none, false, .fldaddr 0 (.t 122)⟩,
    ⟨some 124, none, false, .load false 1 (.t 123)⟩,
    ⟨some 125, none, false, .idxaddr none 3 (.t 124) (.c (.int .i64 0))⟩,
    ⟨some 126, none, false, .fldaddr 1 (.t 125)⟩,
    ⟨some 127, none, false, .load true 2 (.t 126)⟩,
    ⟨some 128, none, false, .nilck (.t 119)⟩,
    ⟨some 129, none, false, .fldaddr 2 (.t 128)⟩,
    ⟨none, none, false, .store 2 (.t 129) (.t 127)⟩,
    ⟨some 130, none, false, .nilck (.t 120)⟩,
    ⟨some 131, none, false, .fldaddr 4 (.t 130)⟩,
    ⟨none, none, false, .store 1 (.t 131) (.c (.int .i64 1))⟩])
  .skip))
 (.seq (.region false [2] [] [⟨some 132, none, false, .load true 10 (.t 3)⟩,
   ⟨none, none, false, .store 10 (.t 2) (.t 132)⟩])
 .ret))))))))))⟩
/-- strings.Split -/
def af60 : AFun := ⟨8, true, [.tmp 4],
 (.seq (.region false [0, 1] [] [⟨some 4, none, false, .mv (.c .nilSl)⟩])
 (.seq (.region false [4] [] [⟨some 5, none, false, .mv (.t 0)⟩,
   ⟨some 6, none, false, .mv (.t 1)⟩,
   ⟨some 7, none, false, .call (.f 118) [(.t 5), (.t 6), (.c (.int .i64 0)), (.c (.int .i64 (-1)))]⟩,
   ⟨some 4, none, false, .mv (.t 7)⟩])
 .ret))⟩
/-- slices.SortFunc[[]civiltime/api.HolidayDay,civiltime/api.HolidayDay] -/
def af64 : AFun := ⟨14, true, [],
 (.seq (.region false [0, 1, 4] [] [⟨some 5, none, false, .mv (.t 0)⟩,
   ⟨some 6, none, false, .bi (.len 1) [(.t 5)]⟩,
   ⟨some 4, none, false, .mv (.t 6)⟩])
 (.region false [] [] [⟨some 7, none, false, .mv (.t 0)⟩,
   ⟨some 8, none, false, .mv (.t 4)⟩,
   ⟨some 9, none, false, .mv (.t 4)⟩,
   ⟨some 10, none, false, .conv (.int .u64) (.t 9)⟩,
   ⟨some 11, none, false, .call (.f 123) [(.t 10)]⟩,
   ⟨some 12, none, false, .mv (.t 1)⟩,
   ⟨some 13, none, false, .call (.f 122) [(.t 7), (.c (.int .i64 0)), (.t 8), (.t 11), (.t 12)]⟩]))⟩
/-- civiltime/holiday.order -/
def af65 : AFun := ⟨17, true, [.tmp 4],
 (.seq (.region false [2, 3] [] [⟨some 2, none, false, .box (.t 0)⟩,
   ⟨some 3, none, false, .box (.t 1)⟩,
   ⟨some 4, none, false, .mv (.c (.int .i64 0))⟩])
 (.seq (.region true [4] [] [⟨some 5, none, false, .fldaddr 0 (.t 2)⟩,
   ⟨some 6, none, false, .load false 1 (.t 5)⟩,
   ⟨some 7, none, false, .fldaddr 0 (.t 3)⟩,
   ⟨some 8, none, false, .load false 1 (.t 7)⟩,
   ⟨some 9, none, true, .call (.f 125) [(.t 6), (.t 8)]⟩,
   ⟨some 10, none, false, .fldaddr 1 (.t 2)⟩,
   ⟨some 11, none, false, .load false 1 (.t 10)⟩,
   ⟨some 12, none, false, .fldaddr 1 (.t 3)⟩,
   ⟨some 13, none, false, .load false 1 (.t 12)⟩,
   ⟨some 14, none, false, .call (.f 125) [(.t 11), (.t 13)]⟩,
   ⟨some 15, none, false, .bslice [(.int .i64 0), (.int .i64 0)] [(0, 1, (.t 9)), (1, 1, (.t 14))] 2 1⟩,
   ⟨some 16, none, false, .call (.f 124) [(.t 15)]⟩,
   ⟨some 4, none, false, .mv (.t 16)⟩])
 .ret))⟩
def af66L0 : ACode := .loop [0, 3, 4, 5]
 (.seq (.seq (.region false [0, 3, 4, 5, 32] [] [⟨some 29, none, false, .mv (.t 5)⟩,
   ⟨some 30, none, false, .mv (.t 4)⟩,
   ⟨some 31, none, false, .bi (.len 1) [(.t 30)]⟩,
   ⟨some 32, none, false, .bin .lss (.t 29) (.t 31)⟩])
 (.cond (.t 32)
  .skip
  (.exit 2)))
 (.seq (.block 3 (.seq (.region true [0, 3, 4, 5, 44] [] [⟨some 35, none, false, .mv (.t 4)⟩,
    ⟨some 36, none, false, .mv (.t 5)⟩,
    ⟨some 37, none, false, .idxaddr none 2 (.t 35) (.t 36)⟩,
    ⟨some 38, none, false, .load true 2 (.t 37)⟩,
    ⟨some 39, none, false, .mv (.t 4)⟩,
    ⟨some 40, none, false, .mv (.t 5)⟩,
    ⟨some 41, none, false, .bin .sub (.t 40) (.c (.int .i64 1))⟩,
    ⟨some 42, none, false, .idxaddr none 2 (.t 39) (.t 41)⟩,
    ⟨some 43, none, false, .load true 2 (.t 42)⟩,
    ⟨some 44, none, false, .eq true (.flat [1, 1]) (.t 38) (.t 43)⟩])
  (.cond (.t 44)
   (.seq (.region false [0, 3, 4, 5] [] [⟨some 45, none, false, .mv (.t 0)⟩,
     ⟨some 46, none, false, .mv (.t 3)⟩,
     ⟨some 47, none, false, .mv (.t 4)⟩,
     ⟨some 48, none, false, .mv (.t 5)⟩,
     ⟨some 49, none, false, .idxaddr none 2 (.t 47) (.t 48)⟩,
     ⟨some 50, none, false, .load true 2 (.t 49)⟩,
     ⟨some 51, none, false, .idxaddr none 2 (.t 45) (.t 46)⟩,
     ⟨none, none, false, .store 2 (.t 51) (.t 50)⟩])
   (.region false [0, 3, 4, 5] [] [⟨some 52, none, false, .mv (.t 3)⟩,
     ⟨some 53, none, false, .bin .add (.t 52) (.c (.int .i64 1))⟩,
     ⟨some 3, none, false, .mv (.t 53)⟩]))
   .skip)))
 (.region false [0, 3, 4, 5] [] [⟨some 33, none, false, .mv (.t 5)⟩,
   ⟨some 34, none, false, .bin .add (.t 33) (.c (.int .i64 1))⟩,
   ⟨some 5, none, false, .mv (.t 34)⟩])))
def af66L1 : ACode := .loop [0, 3]
 (.seq (.seq (.region false [0, 3, 13] [] [⟨some 10, none, false, .mv (.t 3)⟩,
   ⟨some 11, none, false, .mv (.t 0)⟩,
   ⟨some 12, none, false, .bi (.len 1) [(.t 11)]⟩,
   ⟨some 13, none, false, .bin .lss (.t 10) (.t 12)⟩])
 (.cond (.t 13)
  .skip
  (.exit 0)))
 (.seq (.block 1 (.seq (.region true [0, 3, 25] [] [⟨some 16, none, false, .mv (.t 0)⟩,
    ⟨some 17, none, false, .mv (.t 3)⟩,
    ⟨some 18, none, false, .idxaddr none 2 (.t 16) (.t 17)⟩,
    ⟨some 19, none, false, .load true 2 (.t 18)⟩,
    ⟨some 20, none, false, .mv (.t 0)⟩,
    ⟨some 21, none, false, .mv (.t 3)⟩,
    ⟨some 22, none, false, .bin .sub (.t 21) (.c (.int .i64 1))⟩,
    ⟨some 23, none, false, .idxaddr none 2 (.t 20) (.t 22)⟩,
    ⟨some 24, none, false, .load true 2 (.t 23)⟩,
    ⟨some 25, none, false, .eq false (.flat [1, 1]) (.t 19) (.t 24)⟩])
  (.cond (.t 25)
   (.seq (.region false [0, 3, 4] [] [⟨some 26, none, false, .mv (.t 0)⟩,
     ⟨some 27, none, false, .mv (.t 3)⟩,
     ⟨some 28, none, false, .slice (.slice 2) (.t 26) (some (.t 27)) none none⟩,
     ⟨some 4, none, false, .mv (.t 28)⟩])
   (.seq (.seq (.region false [0, 3, 4, 5] [] [⟨some 5, none, false, .mv (.c (.int .i64 1))⟩])
   (.block 2 af66L0))
   (.seq (.region false [0, 3] [] [⟨some 54, none, false, .mv (.t 0)⟩,
     ⟨some 55, none, false, .mv (.t 3)⟩,
     ⟨some 56, none, false, .slice (.slice 2) (.t 54) (some (.t 55)) none none⟩,
     ⟨none, none, false, .bi (.clear [(.int .i64 0), (.int .i64 0)]) [(.t 56)]⟩])
   (.seq (.region false [2] [] [⟨some 57, none, false, .mv (.t 0)⟩,
     ⟨some 58, none, false, .mv (.t 3)⟩,
     ⟨some 59, none, false, .slice (.slice 2) (.t 57) none (some (.t 58)) none⟩,
     ⟨some 2, none, false, .mv (.t 59)⟩])
   .ret))))
   .skip)))
 (.region false [0, 3] [] [⟨some 14, none, false, .mv (.t 3)⟩,
   ⟨some 15, none, false, .bin .add (.t 14) (.c (.int .i64 1))⟩,
   ⟨some 3, none, false, .mv (.t 15)⟩])))
/-- slices.Compact[[]civiltime/api.HolidayDay,civiltime/api.HolidayDay] -/
def af66 : AFun := ⟨61, true, [.tmp 2],
 (.seq (.region false [0] [] [⟨some 2, none, false, .mv (.c .nilSl)⟩])
 (.seq (.seq (.region false [0, 8] [] [⟨some 6, none, false, .mv (.t 0)⟩,
   ⟨some 7, none, false, .bi (.len 1) [(.t 6)]⟩,
   ⟨some 8, none, false, .bin .lss (.t 7) (.c (.int .i64 2))⟩])
 (.cond (.t 8)
  (.seq (.region false [2] [] [⟨some 9, none, false, .mv (.t 0)⟩,
    ⟨some 2, none, false, .mv (.t 9)⟩])
  .ret)
  .skip))
 (.seq (.seq (.region false [0, 3] [] [⟨some 3, none, false, .mv (.c (.int .i64 1))⟩])
 (.block 0 af66L1))
 (.seq (.region false [2] [] [⟨some 60, none, false, .mv (.t 0)⟩,
   ⟨some 2, none, false, .mv (.t 60)⟩])
 .ret))))⟩
/-- civiltime/zonelex.letter -/
def af88 : AFun := ⟨17, true, [.tmp 2],
 (.seq (.region false [0] [] [⟨some 2, none, false, .mv (.c (.bool false))⟩])
 (.seq (.region false [2] [] [⟨some 3, none, false, .mv (.t 0)⟩,
   ⟨some 4, none, false, .bin .geq (.t 3) (.c (.int .u8 65))⟩,
   ⟨some 5, none, false, .mv (.t 4)⟩,
   ⟨some 6, some (5, true), false, .mv (.t 0)⟩,
   ⟨some 7, some (5, true), false, .bin .leq (.t 6) (.c (.int .u8 90))⟩,
   ⟨some 8, none, false, .pick (.t 5) (.t 7) (.c (.bool false))⟩,
   ⟨some 9, none, false, .mv (.t 8)⟩,
   ⟨some 10, some (9, false), false, .mv (.t 0)⟩,
   ⟨some 11, some (9, false), false, .bin .geq (.t 10) (.c (.int .u8 97))⟩,
   ⟨some 12, some (9, false), false, .mv (.t 11)⟩,
   ⟨some 13, some (12, true), false, .mv (.t 0)⟩,
   ⟨some 14, some (12, true), false, .bin .leq (.t 13) (.c (.int .u8 122))⟩,
   ⟨some 15, some (9, false), false, .pick (.t 12) (.t 14) (.c (.bool false))⟩,
   ⟨some 16, none, false, .pick (.t 9) (.c (.bool true)) (.t 15)⟩,
   ⟨some 2, none, false, .mv (.t 16)⟩])
 .ret))⟩
/-- civiltime/zonelex.digit -/
def af89 : AFun := ⟨9, true, [.tmp 2],
 (.seq (.region false [0] [] [⟨some 2, none, false, .mv (.c (.bool false))⟩])
 (.seq (.region false [2] [] [⟨some 3, none, false, .mv (.t 0)⟩,
   ⟨some 4, none, false, .bin .geq (.t 3) (.c (.int .u8 48))⟩,
   ⟨some 5, none, false, .mv (.t 4)⟩,
   ⟨some 6, some (5, true), false, .mv (.t 0)⟩,
   ⟨some 7, some (5, true), false, .bin .leq (.t 6) (.c (.int .u8 57))⟩,
   ⟨some 8, none, false, .pick (.t 5) (.t 7) (.c (.bool false))⟩,
   ⟨some 2, none, false, .mv (.t 8)⟩])
 .ret))⟩
/-- strings.IndexByte -/
def af90 : AFun := ⟨8, true, [.tmp 4],
 (.seq (.region false [0, 1] [] [⟨some 4, none, false, .mv (.c (.int .i64 0))⟩])
 (.seq (.region false [4] [] [⟨some 5, none, false, .mv (.t 0)⟩,
   ⟨some 6, none, false, .mv (.t 1)⟩,
   ⟨some 7, none, false, .call (.f 154) [(.t 5), (.t 6)]⟩,
   ⟨some 4, none, false, .mv (.t 7)⟩])
 .ret))⟩
/-- civiltime/civil.year -/
def af91 : AFun := ⟨9, true, [.tmp 2],
 (.seq (.region false [0] [] [⟨some 2, none, false, .mv (.c (.bool false))⟩])
 (.seq (.region false [2] [] [⟨some 3, none, false, .mv (.t 0)⟩,
   ⟨some 4, none, false, .bin .geq (.t 3) (.c (.int .i64 1))⟩,
   ⟨some 5, none, false, .mv (.t 4)⟩,
   ⟨some 6, some (5, true), false, .mv (.t 0)⟩,
   ⟨some 7, some (5, true), false, .bin .leq (.t 6) (.c (.int .i64 9999))⟩,
   ⟨some 8, none, false, .pick (.t 5) (.t 7) (.c (.bool false))⟩,
   ⟨some 2, none, false, .mv (.t 8)⟩])
 .ret))⟩
/-- civiltime/civil.Leap -/
def af92 : AFun := ⟨20, true, [.tmp 2],
 (.seq (.region false [0] [] [⟨some 2, none, false, .mv (.c (.bool false))⟩])
 (.seq (.region false [2] [] [⟨some 3, none, false, .mv (.t 0)⟩,
   ⟨some 4, none, false, .call (.f 91) [(.t 3)]⟩,
   ⟨some 5, none, false, .mv (.t 4)⟩,
   ⟨some 6, some (5, true), false, .mv (.t 0)⟩,
   ⟨some 7, some (5, true), false, .bin .rem (.t 6) (.c (.int .i64 4))⟩,
   ⟨some 8, some (5, true), false, .bin .eql (.t 7) (.c (.int .i64 0))⟩,
   ⟨some 9, none, false, .pick (.t 5) (.t 8) (.c (.bool false))⟩,
   ⟨some 10, none, false, .mv (.t 9)⟩,
   ⟨some 11, some (10, true), false, .mv (.t 0)⟩,
   ⟨some 12, some (10, true), false, .bin .rem (.t 11) (.c (.int .i64 100))⟩,
   ⟨some 13, some (10, true), false, .bin .neq (.t 12) (.c (.int .i64 0))⟩,
   ⟨some 14, some (10, true), false, .mv (.t 13)⟩,
   ⟨some 15, some (14, false), false, .mv (.t 0)⟩,
   ⟨some 16, some (14, false), false, .bin .rem (.t 15) (.c (.int .i64 400))⟩,
   ⟨some 17, some (14, false), false, .bin .eql (.t 16) (.c (.int .i64 0))⟩,
   ⟨some 18, some (10, true), false, .pick (.t 14) (.c (.bool true)) (.t 17)⟩,
   ⟨some 19, none, false, .pick (.t 10) (.t 18) (.c (.bool false))⟩,
   ⟨some 2, none, false, .mv (.t 19)⟩])
 .ret))⟩
/-- civiltime/civiltimeref20.letter -/
def af93 : AFun := ⟨17, true, [.tmp 2],
 (.seq (.region false [0] [] [⟨some 2, none, false, .mv (.c (.bool false))⟩])
 (.seq (.region false [2] [] [⟨some 3, none, false, .mv (.t 0)⟩,
   ⟨some 4, none, false, .bin .geq (.t 3) (.c (.int .u8 97))⟩,
   ⟨some 5, none, false, .mv (.t 4)⟩,
   ⟨some 6, some (5, true), false, .mv (.t 0)⟩,
   ⟨some 7, some (5, true), false, .bin .leq (.t 6) (.c (.int .u8 122))⟩,
   ⟨some 8, none, false, .pick (.t 5) (.t 7) (.c (.bool false))⟩,
   ⟨some 9, none, false, .mv (.t 8)⟩,
   ⟨some 10, some (9, false), false, .mv (.t 0)⟩,
   ⟨some 11, some (9, false), false, .bin .geq (.t 10) (.c (.int .u8 65))⟩,
   ⟨some 12, some (9, false), false, .mv (.t 11)⟩,
   ⟨some 13, some (12, true), false, .mv (.t 0)⟩,
   ⟨some 14, some (12, true), false, .bin .leq (.t 13) (.c (.int .u8 90))⟩,
   ⟨some 15, some (9, false), false, .pick (.t 12) (.t 14) (.c (.bool false))⟩,
   ⟨some 16, none, false, .pick (.t 9) (.c (.bool true)) (.t 15)⟩,
   ⟨some 2, none, false, .mv (.t 16)⟩])
 .ret))⟩
/-- civiltime/civiltimeref20.digit -/
def af94 : AFun := ⟨9, true, [.tmp 2],
 (.seq (.region false [0] [] [⟨some 2, none, false, .mv (.c (.bool false))⟩])
 (.seq (.region false [2] [] [⟨some 3, none, false, .mv (.t 0)⟩,
   ⟨some 4, none, false, .bin .geq (.t 3) (.c (.int .u8 48))⟩,
   ⟨some 5, none, false, .mv (.t 4)⟩,
   ⟨some 6, some (5, true), false, .mv (.t 0)⟩,
   ⟨some 7, some (5, true), false, .bin .leq (.t 6) (.c (.int .u8 57))⟩,
   ⟨some 8, none, false, .pick (.t 5) (.t 7) (.c (.bool false))⟩,
   ⟨some 2, none, false, .mv (.t 8)⟩])
 .ret))⟩
/-- civiltime/civiltimeref02.Leap -/
def af95 : AFun := ⟨22, true, [.tmp 2],
 (.seq (.region false [0] [] [⟨some 2, none, false, .mv (.c (.bool false))⟩])
 (.seq (.seq (.region false [0, 8] [] [⟨some 3, none, false, .mv (.t 0)⟩,
   ⟨some 4, none, false, .bin .lss (.t 3) (.c (.int .i64 1))⟩,
   ⟨some 5, none, false, .mv (.t 4)⟩,
   ⟨some 6, some (5, false), false, .mv (.t 0)⟩,
   ⟨some 7, some (5, false), false, .bin .gtr (.t 6) (.c (.int .i64 9999))⟩,
   ⟨some 8, none, false, .pick (.t 5) (.c (.bool true)) (.t 7)⟩])
 (.cond (.t 8)
  (.seq (.region false [2] [] [⟨some 2, none, false, .mv (.c (.bool false))⟩])
  .ret)
  .skip))
 (.seq (.region false [2] [] [⟨some 9, none, false, .mv (.t 0)⟩,
   ⟨some 10, none, false, .bin .rem (.t 9) (.c (.int .i64 400))⟩,
   ⟨some 11, none, false, .bin .eql (.t 10) (.c (.int .i64 0))⟩,
   ⟨some 12, none, false, .mv (.t 11)⟩,
   ⟨some 13, some (12, false), false, .mv (.t 0)⟩,
   ⟨some 14, some (12, false), false, .bin .rem (.t 13) (.c (.int .i64 4))⟩,
   ⟨some 15, some (12, false), false, .bin .eql (.t 14) (.c (.int .i64 0))⟩,
   ⟨some 16, some (12, false), false, .mv (.t 15)⟩,
   ⟨some 17, some (16, true), false, .mv (.t 0)⟩,
   ⟨some 18, some (16, true), false, .bin .rem (.t 17) (.c (.int .i64 100))⟩,
   ⟨some 19, some (16, true), false, .bin .neq (.t 18) (.c (.int .i64 0))⟩,
   ⟨some 20, some (12, false), false, .pick (.t 16) (.t 19) (.c (.bool false))⟩,
   ⟨some 21, none, false, .pick (.t 12) (.c (.bool true)) (.t 20)⟩,
   ⟨some 2, none, false, .mv (.t 21)⟩])
 .ret)))⟩
/-- slices.ContainsFunc[[]civiltime/api.Holiday,civiltime/api.Holiday] -/
def af96 : AFun := ⟨9, true, [.tmp 4],
 (.seq (.region false [0, 1] [] [⟨some 4, none, false, .mv (.c (.bool false))⟩])
 (.seq (.region false [4] [] [⟨some 5, none, false, .mv (.t 0)⟩,
   ⟨some 6, none, false, .mv (.t 1)⟩,
   ⟨some 7, none, false, .call (.f 155) [(.t 5), (.t 6)]⟩,
   ⟨some 8, none, false, .bin .geq (.t 7) (.c (.int .i64 0))⟩,
   ⟨some 4, none, false, .mv (.t 8)⟩])
 .ret))⟩
/-- civiltime/holiday.all$1 -/
def af97 : AFun := ⟨6, true, [.tmp 2],
 (.seq (.region false [1] [] [⟨some 1, none, false, .box (.t 0)⟩,
   ⟨some 2, none, false, .mv (.c (.bool false))⟩])
 (.seq (.region false [2] [] [⟨some 3, none, false, .load true 10 (.t 1)⟩,
   ⟨some 4, none, false, .call (.f 14) [(.t 3)]⟩,
   ⟨some 5, none, false, .un .not (.t 4)⟩,
   ⟨some 2, none, false, .mv (.t 5)⟩])
 .ret))⟩
/-- civiltime/holiday.finders -/
def af98 : AFun := ⟨3, true, [.tmp 0],
 (.seq (.region false [] [] [⟨some 0, none, false, .mv (.c .nilMap)⟩])
 (.seq (.region false [0] [] [⟨some 1, none, false, .mkmap⟩,
   ⟨none, none, false, .mapset false (.t 1) (.c (.int .i64 1)) (.f 156)⟩,
   ⟨none, none, false, .mapset false (.t 1) (.c (.int .i64 2)) (.f 158)⟩,
   ⟨none, none, false, .mapset false (.t 1) (.c (.int .i64 3)) (.f 160)⟩,
   ⟨none, none, false, .mapset false (.t 1) (.c (.int .i64 4)) (.f 161)⟩,
   ⟨none, none, false, .mapset false (.t 1) (.c (.int .i64 5)) (.f 163)⟩,
   ⟨some 2, none, false, .mv (.t 1)⟩,
   ⟨some 0, none, false, .mv (.t 2)⟩])
 .ret))⟩
/-- civiltime/holiday.observed -/
def af99 : AFun := ⟨42, true, [.tmp 4],
 (.seq (.region false [0, 1] [] [⟨some 4, none, false, .mv (.c (.int .i64 0))⟩])
 (.seq (.region false [0, 1, 5] [] [⟨some 6, none, false, .mv (.t 0)⟩,
   ⟨some 7, none, false, .bin .add (.t 6) (.c (.int .i64 3))⟩,
   ⟨some 8, none, false, .bin .rem (.t 7) (.c (.int .i64 7))⟩,
   ⟨some 9, none, false, .bin .add (.t 8) (.c (.int .i64 7))⟩,
   ⟨some 10, none, false, .bin .rem (.t 9) (.c (.int .i64 7))⟩,
   ⟨some 11, none, false, .bin .add (.t 10) (.c (.int .i64 1))⟩,
   ⟨some 5, none, false, .mv (.t 11)⟩])
 (.seq (.block 0 (.seq (.region false [0, 1, 5, 12] [] [⟨some 13, none, false, .mv (.t 1)⟩,
    ⟨some 14, none, false, .bin .eql (.t 13) (.c (.int .i64 2))⟩,
    ⟨some 15, none, false, .mv (.t 14)⟩,
    ⟨some 16, some (15, true), false, .mv (.t 5)⟩,
    ⟨some 17, some (15, true), false, .bin .gtr (.t 16) (.c (.int .i64 5))⟩,
    ⟨some 18, none, false, .pick (.t 15) (.t 17) (.c (.bool false))⟩,
    ⟨some 12, none, false, .mv (.t 18)⟩])
  (.cond (.t 12)
   (.seq (.region false [4] [] [⟨some 19, none, false, .mv (.t 0)⟩,
     ⟨some 20, none, false, .bin .add (.t 19) (.c (.int .i64 8))⟩,
     ⟨some 21, none, false, .mv (.t 5)⟩,
     ⟨some 22, none, false, .bin .sub (.t 20) (.t 21)⟩,
     ⟨some 4, none, false, .mv (.t 22)⟩])
   .ret)
   (.seq (.region false [0, 1, 5, 23] [] [⟨some 24, none, false, .mv (.t 1)⟩,
     ⟨some 25, none, false, .bin .eql (.t 24) (.c (.int .i64 3))⟩,
     ⟨some 26, none, false, .mv (.t 25)⟩,
     ⟨some 27, some (26, true), false, .mv (.t 5)⟩,
     ⟨some 28, some (26, true), false, .bin .eql (.t 27) (.c (.int .i64 6))⟩,
     ⟨some 29, none, false, .pick (.t 26) (.t 28) (.c (.bool false))⟩,
     ⟨some 23, none, false, .mv (.t 29)⟩])
   (.cond (.t 23)
    (.seq (.region false [4] [] [⟨some 30, none, false, .mv (.t 0)⟩,
      ⟨some 31, none, false, .bin .sub (.t 30) (.c (.int .i64 1))⟩,
      ⟨some 4, none, false, .mv (.t 31)⟩])
    .ret)
    (.seq (.region false [0, 32] [] [⟨some 33, none, false, .mv (.t 1)⟩,
      ⟨some 34, none, false, .bin .eql (.t 33) (.c (.int .i64 3))⟩,
      ⟨some 35, none, false, .mv (.t 34)⟩,
      ⟨some 36, some (35, true), false, .mv (.t 5)⟩,
      ⟨some 37, some (35, true), false, .bin .eql (.t 36) (.c (.int .i64 7))⟩,
      ⟨some 38, none, false, .pick (.t 35) (.t 37) (.c (.bool false))⟩,
      ⟨some 32, none, false, .mv (.t 38)⟩])
    (.cond (.t 32)
     (.seq (.region false [4] [] [⟨some 39, none, false, .mv (.t 0)⟩,
       ⟨some 40, none, false, .bin .add (.t 39) (.c (.int .i64 1))⟩,
       ⟨some 4, none, false, .mv (.t 40)⟩])
     .ret)
     .skip)))))))
 (.seq (.region false [4] [] [⟨some 41, none, false, .mv (.t 0)⟩,
   ⟨some 4, none, false, .mv (.t 41)⟩])
 .ret))))⟩
/-- civiltime/integer.Div -/
def af100 : AFun := ⟨41, true, [.tmp 4, .tmp 5, .tmp 6],
 (.seq (.region false [0, 1] [] [⟨some 4, none, false, .mv (.c (.int .i64 0))⟩,
   ⟨some 5, none, false, .mv (.c (.int .i64 0))⟩,
   ⟨some 6, none, false, .mv (.c (.int .i64 0))⟩])
 (.seq (.block 0 (.seq (.region false [0, 1, 9] [] [⟨some 10, none, false, .mv (.t 1)⟩,
    ⟨some 11, none, false, .bin .eql (.t 10) (.c (.int .i64 0))⟩,
    ⟨some 9, none, false, .mv (.t 11)⟩])
  (.cond (.t 9)
   (.seq (.region false [4, 5, 6] [] [⟨some 4, none, false, .mv (.c (.int .i64 0))⟩,
     ⟨some 5, none, false, .mv (.c (.int .i64 0))⟩,
     ⟨some 6, none, false, .mv (.c (.int .i64 10))⟩])
   .ret)
   (.seq (.region false [0, 1, 12] [] [⟨some 13, none, false, .mv (.t 0)⟩,
     ⟨some 14, none, false, .bin .eql (.t 13) (.c (.int .i64 (-9223372036854775808)))⟩,
     ⟨some 15, none, false, .mv (.t 14)⟩,
     ⟨some 16, some (15, true), false, .mv (.t 1)⟩,
     ⟨some 17, some (15, true), false, .bin .eql (.t 16) (.c (.int .i64 (-1)))⟩,
     ⟨some 18, none, false, .pick (.t 15) (.t 17) (.c (.bool false))⟩,
     ⟨some 12, none, false, .mv (.t 18)⟩])
   (.cond (.t 12)
    (.seq (.region false [4, 5, 6] [] [⟨some 4, none, false, .mv (.c (.int .i64 0))⟩,
      ⟨some 5, none, false, .mv (.c (.int .i64 0))⟩,
      ⟨some 6, none, false, .mv (.c (.int .i64 9))⟩])
    .ret)
    .skip)))))
 (.seq (.region true [1, 7, 8] [] [⟨some 19, none, false, .mv (.t 0)⟩,
   ⟨some 20, none, false, .mv (.t 1)⟩,
   ⟨some 21, none, false, .bin .quo (.t 19) (.t 20)⟩,
   ⟨some 22, none, false, .mv (.t 0)⟩,
   ⟨some 23, none, false, .mv (.t 1)⟩,
   ⟨some 24, none, false, .bin .rem (.t 22) (.t 23)⟩,
   ⟨some 7, none, false, .mv (.t 21)⟩,
   ⟨some 8, none, false, .mv (.t 24)⟩])
 (.seq (.seq (.region false [1, 7, 8, 33] [] [⟨some 25, none, false, .mv (.t 8)⟩,
   ⟨some 26, none, false, .bin .neq (.t 25) (.c (.int .i64 0))⟩,
   ⟨some 27, none, false, .mv (.t 26)⟩,
   ⟨some 28, some (27, true), false, .mv (.t 8)⟩,
   ⟨some 29, some (27, true), false, .bin .lss (.t 28) (.c (.int .i64 0))⟩,
   ⟨some 30, some (27, true), false, .mv (.t 1)⟩,
   ⟨some 31, some (27, true), false, .bin .lss (.t 30) (.c (.int .i64 0))⟩,
   ⟨some 32, some (27, true), false, .eq true .bool (.t 29) (.t 31)⟩,
   ⟨some 33, none, false, .pick (.t 27) (.t 32) (.c (.bool false))⟩])
 (.cond (.t 33)
  (.region false [7, 8] [] [⟨some 34, none, false, .mv (.t 7)⟩,
    ⟨some 35, none, false, .bin .sub (.t 34) (.c (.int .i64 1))⟩,
    ⟨some 36, none, false, .mv (.t 8)⟩,
    ⟨some 37, none, false, .mv (.t 1)⟩,
    ⟨some 38, none, false, .bin .add (.t 36) (.t 37)⟩,
    ⟨some 7, none, false, .mv (.t 35)⟩,
    ⟨some 8, none, false, .mv (.t 38)⟩])
  .skip))
 (.seq (.region false [4, 5, 6] [] [⟨some 39, none, false, .mv (.t 7)⟩,
   ⟨some 40, none, false, .mv (.t 8)⟩,
   ⟨some 4, none, false, .mv (.t 39)⟩,
   ⟨some 5, none, false, .mv (.t 40)⟩,
   ⟨some 6, none, false, .mv (.c (.int .i64 0))⟩])
 .ret)))))⟩
/-- civiltime/feast.permitted -/
def af101 : AFun := ⟨9, true, [.tmp 2],
 (.seq (.region false [0] [] [⟨some 2, none, false, .mv (.c (.bool false))⟩])
 (.seq (.region false [2] [] [⟨some 3, none, false, .mv (.t 0)⟩,
   ⟨some 4, none, false, .bin .geq (.t 3) (.c (.int .i64 1))⟩,
   ⟨some 5, none, false, .mv (.t 4)⟩,
   ⟨some 6, some (5, true), false, .mv (.t 0)⟩,
   ⟨some 7, some (5, true), false, .bin .leq (.t 6) (.c (.int .i64 9999))⟩,
   ⟨some 8, none, false, .pick (.t 5) (.t 7) (.c (.bool false))⟩,
   ⟨some 2, none, false, .mv (.t 8)⟩])
 .ret))⟩
/-- civiltime/feast.Epact -/
def af102 : AFun := ⟨25, true, [.tmp 2],
 (.seq (.region false [0] [] [⟨some 2, none, false, .mv (.c (.int .i64 0))⟩])
 (.seq (.seq (.region false [0, 6] [] [⟨some 4, none, false, .mv (.t 0)⟩,
   ⟨some 5, none, false, .call (.f 101) [(.t 4)]⟩,
   ⟨some 6, none, false, .un .not (.t 5)⟩])
 (.cond (.t 6)
  (.seq (.region false [2] [] [⟨some 2, none, false, .mv (.c (.int .i64 (-1)))⟩])
  .ret)
  .skip))
 (.seq (.region false [0, 3] [] [⟨some 7, none, false, .mv (.t 0)⟩,
   ⟨some 8, none, false, .bin .quo (.t 7) (.c (.int .i64 100))⟩,
   ⟨some 3, none, false, .mv (.t 8)⟩])
 (.seq (.region false [2] [] [⟨some 9, none, false, .mv (.t 3)⟩,
   ⟨some 10, none, false, .bin .quo (.t 9) (.c (.int .i64 4))⟩,
   ⟨some 11, none, false, .bin .add (.c (.int .i64 8)) (.t 10)⟩,
   ⟨some 12, none, false, .mv (.t 3)⟩,
   ⟨some 13, none, false, .bin .sub (.t 11) (.t 12)⟩,
   ⟨some 14, none, false, .mv (.t 3)⟩,
   ⟨some 15, none, false, .bin .mul (.c (.int .i64 8)) (.t 14)⟩,
   ⟨some 16, none, false, .bin .add (.t 15) (.c (.int .i64 13))⟩,
   ⟨some 17, none, false, .bin .quo (.t 16) (.c (.int .i64 25))⟩,
   ⟨some 18, none, false, .bin .add (.t 13) (.t 17)⟩,
   ⟨some 19, none, false, .mv (.t 0)⟩,
   ⟨some 20, none, false, .call (.f 103) [(.t 19)]⟩,
   ⟨some 21, none, false, .bin .sub (.t 20) (.c (.int .i64 1))⟩,
   ⟨some 22, none, false, .bin .mul (.c (.int .i64 11)) (.t 21)⟩,
   ⟨some 23, none, false, .bin .add (.t 18) (.t 22)⟩,
   ⟨some 24, none, false, .call (.f 164) [(.t 23), (.c (.int .i64 30))]⟩,
   ⟨some 2, none, false, .mv (.t 24)⟩])
 .ret))))⟩
/-- civiltime/feast.Golden -/
def af103 : AFun := ⟨9, true, [.tmp 2],
 (.seq (.region false [0] [] [⟨some 2, none, false, .mv (.c (.int .i64 0))⟩])
 (.seq (.seq (.region false [0, 5] [] [⟨some 3, none, false, .mv (.t 0)⟩,
   ⟨some 4, none, false, .call (.f 101) [(.t 3)]⟩,
   ⟨some 5, none, false, .un .not (.t 4)⟩])
 (.cond (.t 5)
  (.seq (.region false [2] [] [⟨some 2, none, false, .mv (.c (.int .i64 0))⟩])
  .ret)
  .skip))
 (.seq (.region false [2] [] [⟨some 6, none, false, .mv (.t 0)⟩,
   ⟨some 7, none, false, .bin .rem (.t 6) (.c (.int .i64 19))⟩,
   ⟨some 8, none, false, .bin .add (.t 7) (.c (.int .i64 1))⟩,
   ⟨some 2, none, false, .mv (.t 8)⟩])
 .ret)))⟩
/-- civiltime/feast.sunday -/
def af104 : AFun := ⟨9, true, [.tmp 2],
 (.seq (.region false [0] [] [⟨some 2, none, false, .mv (.c (.int .i64 0))⟩])
 (.seq (.region false [2] [] [⟨some 3, none, false, .mv (.t 0)⟩,
   ⟨some 4, none, false, .bin .add (.t 3) (.c (.int .i64 8))⟩,
   ⟨some 5, none, false, .mv (.t 0)⟩,
   ⟨some 6, none, false, .bin .add (.t 5) (.c (.int .i64 1))⟩,
   ⟨some 7, none, false, .call (.f 18) [(.t 6)]⟩,
   ⟨some 8, none, false, .bin .sub (.t 4) (.t 7)⟩,
   ⟨some 2, none, false, .mv (.t 8)⟩])
 .ret))⟩
/-- (*civiltime/holiday.reader).word -/
def af111 : AFun := ⟨57, true, [.tmp 2, .tmp 3],
 (.seq (.region false [0] [] [⟨some 2, none, false, .mv (.c (.str []))⟩,
   ⟨some 3, none, false, .mv (.c (.bool false))⟩])
 (.seq (.seq (.region false [0, 8] [] [⟨some 4, none, false, .mv (.t 0)⟩,
   ⟨some 5, none, false, .nilck (.t 4)⟩,
   ⟨some 6, none, false, .fldaddr 4 (.t 5)⟩,
   ⟨some 7, none, false, .load false 1 (.t 6)⟩,
   ⟨some 8, none, false, .bin .neq (.t 7) (.c (.int .i64 0))⟩])
 (.cond (.t 8)
  (.seq (.region false [2, 3] [] [⟨some 2, none, false, .mv (.c (.str []))⟩,
    ⟨some 3, none, false, .mv (.c (.bool false))⟩])
  .ret)
  .skip))
 (.seq (.seq (.region true [0, 18] [] [⟨some 9, none, false, .mv (.t 0)⟩,
   ⟨some 10, none, false, .nilck (.t 9)⟩,
   ⟨some 11, none, false, .fldaddr 1 (.t 10)⟩,
   ⟨some 12, none, false, .load false 1 (.t 11)⟩,
   ⟨some 13, none, false, .mv (.t 0)⟩,
   ⟨some 14, none, false, .nilck (.t 13)⟩,
   ⟨some 15, none, false, .fldaddr 0 (.t 14)⟩,
   ⟨some 16, none, false, .load false 1 (.t 15)⟩,
   ⟨some 17, none, false, .bi (.len 1) [(.t 16)]⟩,
   ⟨some 18, none, false, .bin .eql (.t 12) (.t 17)⟩])
 (.cond (.t 18)
  (.seq (.region true [] [] [⟨some 19, none, false, .mv (.t 0)⟩,
    ⟨some 20, none, false, .mv (.t 0)⟩,
    ⟨some 21, none, false, .mv (.t 0)⟩,
    ⟨some 22, none, false, .nilck (.t 21)⟩,
    ⟨some 23, none, false, .fldaddr 0 (.t 22)⟩,
    ⟨some 24, none, false, .load false 1 (.t 23)⟩,
    ⟨some 25, none, false, .mv (.t 0)⟩,
    ⟨some 26, none, false, .nilck (.t 25)⟩,
    ⟨some 27, none, false, .fldaddr 0 (.t 26)⟩,
    ⟨some 28, none, false, .load false 1 (.t 27)⟩,
    ⟨some 29, none, false, .bi (.len 1) [(.t 28)]⟩,
    ⟨some 30, none, false, .bin .sub (.t 29) (.c (.int .i64 1))⟩,
    ⟨some 31, none, false, .idxaddr none 3 (.t 24) (.t 30)⟩,
    ⟨some 32, none, false, .fldaddr 1 (.t 31)⟩,
    ⟨some 33, none, false, .load true 2 (.t 32)⟩,
    ⟨some 34, none, false, .nilck (.t 19)⟩,
    ⟨some 35, none, false, .fldaddr 2 (.t 34)⟩,
    ⟨none, none, false, .store 2 (.t 35) (.t 33)⟩,
    ⟨some 36, none, false, .nilck (.t 20)⟩,
    ⟨some 37, none, false, .fldaddr 4 (.t 36)⟩,
    ⟨none, none, false, .store 1 (.t 37) (.c (.int .i64 3))⟩])
  (.seq (.region false [2, 3] [] [⟨some 2, none, false, .mv (.c (.str []))⟩,
    ⟨some 3, none, false, .mv (.c (.bool false))⟩])
  .ret))
  .skip))
 (.seq (.region false [0] [] [⟨some 38, none, false, .mv (.t 0)⟩,
   ⟨some 39, none, false, .nilck (.t 38)⟩,
   ⟨some 40, none, false, .fldaddr 1 (.t 39)⟩,
   ⟨some 41, none, false, .load false 1 (.t 40)⟩,
   ⟨some 42, none, false, .bin .add (.t 41) (.c (.int .i64 1))⟩,
   ⟨some 43, none, false, .nilck (.t 38)⟩,
   ⟨some 44, none, false, .fldaddr 1 (.t 43)⟩,
   ⟨none, none, false, .store 1 (.t 44) (.t 42)⟩])
 (.seq (.region true [2, 3] [] [⟨some 45, none, false, .mv (.t 0)⟩,
   ⟨some 46, none, false, .nilck (.t 45)⟩,
   ⟨some 47, none, false, .fldaddr 0 (.t 46)⟩,
   ⟨some 48, none, false, .load false 1 (.t 47)⟩,
   ⟨some 49, none, false, .mv (.t 0)⟩,
   ⟨some 50, none, false, .nilck (.t 49)⟩,
   ⟨some 51, none, false, .fldaddr 1 (.t 50)⟩,
   ⟨some 52, none, false, .load false 1 (.t 51)⟩,
   ⟨some 53, none, false, .bin .sub (.t 52) (.c (.int .i64 1))⟩,
   ⟨some 54, none, false, .idxaddr none 3 (.t 48) (.t 53)⟩,
   ⟨some 55, none, false, .fldaddr 0 (.t 54)⟩,
   ⟨some 56, none, false, .load false 1 (.t 55)⟩,
   ⟨some 2, none, false, .mv (.t 56)⟩,
   ⟨some 3, none, false, .mv (.c (.bool true))⟩])
 .ret)))))⟩
/-- (*civiltime/holiday.reader).wrong -/
def af112 : AFun := ⟨20, true, [],
 (.region true [] [] [⟨some 2, none, false, .mv (.t 0)⟩,
   ⟨some 3, none, false, .mv (.t 0)⟩,
   ⟨some 4, none, false, .mv (.t 0)⟩,
   ⟨some 5, none, false, .nilck (.t 4)⟩,
   ⟨some 6, none, false, .fldaddr 0 (.t 5)⟩,
   ⟨some 7, none, false, .load false 1 (.t 6)⟩,
   ⟨some 8, none, false, .mv (.t 0)⟩,
   ⟨some 9, none, false, .nilck (.t 8)⟩,
   ⟨some 10, none, false, .fldaddr 1 (.t 9)⟩,
   ⟨some 11, none, false, .load false 1 (.t 10)⟩,
   ⟨some 12, none, false, .bin .sub (.t 11) (.c (.int .i64 1))⟩,
   ⟨some 13, none, false, .idxaddr none 3 (.t 7) (.t 12)⟩,
   ⟨some 14, none, false, .fldaddr 1 (.t 13)⟩,
   ⟨some 15, none, false, .load true 2 (.t 14)⟩,
   ⟨some 16, none, false, .nilck (.t 2)⟩,
   ⟨some 17, none, false, .fldaddr 2 (.t 16)⟩,
   ⟨none, none, false, .store 2 (.t 17) (.t 15)⟩,
   ⟨some 18, none, false, .nilck (.t 3)⟩,
   ⟨some 19, none, false, .fldaddr 4 (.t 18)⟩,
   ⟨none, none, false, .store 1 (.t 19) (.c (.int .i64 3))⟩])⟩
/-- (*civiltime/holiday.reader).choice -/
def af113 : AFun := ⟨8, true, [.tmp 4],
 (.seq (.region false [0, 3] [] [⟨some 3, none, false, .box (.t 1)⟩,
   ⟨some 4, none, false, .mv (.c (.int .i64 0))⟩])
 (.seq (.region false [4] [] [⟨some 5, none, false, .mv (.t 0)⟩,
   ⟨some 6, none, false, .mkfn 173 [] [(.t 3)]⟩,
   ⟨some 7, none, false, .call (.f 114) [(.t 5), (.t 6)]⟩,
   ⟨some 4, none, false, .mv (.t 7)⟩])
 .ret))⟩
/-- (*civiltime/holiday.reader).read -/
def af114 : AFun := ⟨27, true, [.tmp 4],
 (.seq (.region false [0, 1] [] [⟨some 4, none, false, .mv (.c (.int .i64 0))⟩])
 (.seq (.region false [0, 1, 5, 6] [] [⟨some 10, none, false, .mv (.t 0)⟩,
   ⟨some 11, none, false, .call (.f 111) [(.t 10)]⟩,
   ⟨some 9, none, false, .mv (.t 11)⟩,
   ⟨some 12, none, false, .ext 0 (.t 9)⟩,
   ⟨some 13, none, false, .ext 1 (.t 9)⟩,
   ⟨some 5, none, false, .mv (.t 12)⟩,
   ⟨some 6, none, false, .mv (.t 13)⟩])
 (.seq (.seq (.region false [0, 1, 5, 15] [] [⟨some 14, none, false, .mv (.t 6)⟩,
   ⟨some 15, none, false, .un .not (.t 14)⟩])
 (.cond (.t 15)
  (.seq (.region false [4] [] [⟨some 4, none, false, .mv (.c (.int .i64 0))⟩])
  .ret)
  .skip))
 (.seq (.region false [0, 7, 8] [] [⟨some 17, none, false, .mv (.t 1)⟩,
   ⟨some 18, none, false, .mv (.t 5)⟩,
   ⟨some 19, none, false, .call (.t 17) [(.t 18)]⟩,
   ⟨some 16, none, false, .mv (.t 19)⟩,
   ⟨some 20, none, false, .ext 0 (.t 16)⟩,
   ⟨some 21, none, false, .ext 1 (.t 16)⟩,
   ⟨some 7, none, false, .mv (.t 20)⟩,
   ⟨some 8, none, false, .mv (.t 21)⟩])
 (.seq (.seq (.region false [0, 7, 23] [] [⟨some 22, none, false, .mv (.t 8)⟩,
   ⟨some 23, none, false, .bin .neq (.t 22) (.c (.int .i64 0))⟩])
 (.cond (.t 23)
  (.region false [7] [] [⟨some 24, none, false, .mv (.t 0)⟩,
    ⟨some 25, none, false, .call (.f 112) [(.t 24)]⟩])
  .skip))
 (.seq (.region false [4] [] [⟨some 26, none, false, .mv (.t 7)⟩,
   ⟨some 4, none, false, .mv (.t 26)⟩])
 .ret))))))⟩
/-- civiltime/zonelex.Month -/
def af115 : AFun := ⟨9, true, [.tmp 2, .tmp 3],
 (.seq (.region false [0] [] [⟨some 2, none, false, .mv (.c (.int .i64 0))⟩,
   ⟨some 3, none, false, .mv (.c (.int .i64 0))⟩])
 (.seq (.region false [2, 3] [] [⟨some 4, none, false, .call (.f 129) []⟩,
   ⟨some 5, none, false, .mv (.t 0)⟩,
   ⟨some 6, none, false, .call (.f 175) [(.t 4), (.t 5)]⟩,
   ⟨some 7, none, false, .ext 0 (.t 6)⟩,
   ⟨some 8, none, false, .ext 1 (.t 6)⟩,
   ⟨some 2, none, false, .mv (.t 7)⟩,
   ⟨some 3, none, false, .mv (.t 8)⟩])
 .ret))⟩
/-- (*civiltime/holiday.reader).number -/
def af116 : AFun := ⟨5, true, [.tmp 2],
 (.seq (.region false [0] [] [⟨some 2, none, false, .mv (.c (.int .i64 0))⟩])
 (.seq (.region false [2] [] [⟨some 3, none, false, .mv (.t 0)⟩,
   ⟨some 4, none, false, .call (.f 114) [(.t 3), (.f 176)]⟩,
   ⟨some 2, none, false, .mv (.t 4)⟩])
 .ret))⟩
/-- civiltime/zonelex.Weekday -/
def af117 : AFun := ⟨9, true, [.tmp 2, .tmp 3],
 (.seq (.region false [0] [] [⟨some 2, none, false, .mv (.c (.int .i64 0))⟩,
   ⟨some 3, none, false, .mv (.c (.int .i64 0))⟩])
 (.seq (.region false [2, 3] [] [⟨some 4, none, false, .call (.f 130) []⟩,
   ⟨some 5, none, false, .mv (.t 0)⟩,
   ⟨some 6, none, false, .call (.f 175) [(.t 4), (.t 5)]⟩,
   ⟨some 7, none, false, .ext 0 (.t 6)⟩,
   ⟨some 8, none, false, .ext 1 (.t 6)⟩,
   ⟨some 2, none, false, .mv (.t 7)⟩,
   ⟨some 3, none, false, .mv (.t 8)⟩])
 .ret))⟩
def af118L0 : ACode := .loop [0, 1, 2, 3, 9, 10]
 (.seq (.seq (.region false [0, 1, 2, 3, 9, 10, 36] [] [⟨some 34, none, false, .mv (.t 10)⟩,
   ⟨some 35, none, false, .mv (.t 3)⟩,
   ⟨some 36, none, false, .bin .lss (.t 34) (.t 35)⟩])
 (.cond (.t 36)
  .skip
  (.exit 0)))
 (.block 1 (.seq (.region false [0, 1, 2, 3, 9, 10, 11] [] [⟨some 37, none, false, .mv (.t 0)⟩,
    ⟨some 38, none, false, .mv (.t 1)⟩,
    ⟨some 39, none, false, .call (.f 134) [(.t 37), (.t 38)]⟩,
    ⟨some 11, none, false, .mv (.t 39)⟩])
  (.seq (.seq (.region false [0, 1, 2, 3, 9, 10, 11, 41] [] [⟨some 40, none, false, .mv (.t 11)⟩,
    ⟨some 41, none, false, .bin .lss (.t 40) (.c (.int .i64 0))⟩])
  (.cond (.t 41)
   (.exit 0)
   .skip))
  (.seq (.region false [0, 1, 2, 3, 9, 10, 11] [] [⟨some 42, none, false, .mv (.t 9)⟩,
    ⟨some 43, none, false, .mv (.t 10)⟩,
    ⟨some 44, none, false, .mv (.t 0)⟩,
    ⟨some 45, none, false, .mv (.t 11)⟩,
    ⟨some 46, none, false, .mv (.t 2)⟩,
    ⟨some 47, none, false, .bin .add (.t 45) (.t 46)⟩,
    ⟨some 48, none, false, .slice .str (.t 44) none (some (.t 47)) none⟩,
    ⟨some 49, none, false, .idxaddr none 1 (.t 42) (.t 43)⟩,
    ⟨none, none, false, .store 1 (.t 49) (.t 48)⟩])
  (.seq (.region false [0, 1, 2, 3, 9, 10] [] [⟨some 50, none, false, .mv (.t 0)⟩,
    ⟨some 51, none, false, .mv (.t 11)⟩,
    ⟨some 52, none, false, .mv (.t 1)⟩,
    ⟨some 53, none, false, .bi (.len 0) [(.t 52)]⟩,
    ⟨some 54, none, false, .bin .add (.t 51) (.t 53)⟩,
    ⟨some 55, none, false, .slice .str (.t 50) (some (.t 54)) none none⟩,
    ⟨some 0, none, false, .mv (.t 55)⟩])
  (.region false [0, 1, 2, 3, 9, 10] [] [⟨some 56, none, false, .mv (.t 10)⟩,
    ⟨some 57, none, false, .bin .add (.t 56) (.c (.int .i64 1))⟩,
    ⟨some 10, none, false, .mv (.t 57)⟩])))))))
/-- strings.genSplit -/
def af118 : AFun := ⟨66, true, [.tmp 8],
 (.seq (.region false [0, 1, 2, 3] [] [⟨some 8, none, false, .mv (.c .nilSl)⟩])
 (.seq (.seq (.region false [0, 1, 2, 3, 13] [] [⟨some 12, none, false, .mv (.t 3)⟩,
   ⟨some 13, none, false, .bin .eql (.t 12) (.c (.int .i64 0))⟩])
 (.cond (.t 13)
  (.seq (.region false [8] [] [⟨some 8, none, false, .mv (.c .nilSl)⟩])
  .ret)
  .skip))
 (.seq (.seq (.region false [0, 1, 2, 3, 15] [] [⟨some 14, none, false, .mv (.t 1)⟩,
   ⟨some 15, none, false, .bin .eql (.t 14) (.c (.str []))⟩])
 (.cond (.t 15)
  (.seq (.region false [8] [] [⟨some 16, none, false, .mv (.t 0)⟩,
    ⟨some 17, none, false, .mv (.t 3)⟩,
    ⟨some 18, none, false, .call (.f 178) [(.t 16), (.t 17)]⟩,
    ⟨some 8, none, false, .mv (.t 18)⟩])
  .ret)
  .skip))
 (.seq (.seq (.region false [0, 1, 2, 3, 20] [] [⟨some 19, none, false, .mv (.t 3)⟩,
   ⟨some 20, none, false, .bin .lss (.t 19) (.c (.int .i64 0))⟩])
 (.cond (.t 20)
  (.region false [0, 1, 2, 3] [] [⟨some 21, none, false, .mv (.t 0)⟩,
    ⟨some 22, none, false, .mv (.t 1)⟩,
    ⟨some 23, none, false, .call (.f 133) [(.t 21), (.t 22)]⟩,
    ⟨some 24, none, false, .bin .add (.t 23) (.c (.int .i64 1))⟩,
    ⟨some 3, none, false, .mv (.t 24)⟩])
  .skip))
 (.seq (.region false [0, 1, 2, 3] [] [⟨some 25, none, false, .mv (.t 3)⟩,
   ⟨some 26, none, false, .mv (.t 0)⟩,
   ⟨some 27, none, false, .bi (.len 0) [(.t 26)]⟩,
   ⟨some 28, none, false, .bin .add (.t 27) (.c (.int .i64 1))⟩,
   ⟨some 29, none, false, .bi .min [(.t 25), (.t 28)]⟩,
   ⟨some 3, none, false, .mv (.t 29)⟩])
 (.seq (.region false [0, 1, 2, 3, 9] [] [⟨some 30, none, false, .mv (.t 3)⟩,
   ⟨some 31, none, false, .mkslice [(.str [])] 16 (.t 30) (.t 30)⟩,
   ⟨some 9, none, false, .mv (.t 31)⟩])
 (.seq (.region false [0, 1, 2, 3, 9] [] [⟨some 32, none, false, .mv (.t 3)⟩,
   ⟨some 33, none, false, .bin .sub (.t 32) (.c (.int .i64 1))⟩,
   ⟨some 3, none, false, .mv (.t 33)⟩])
 (.seq (.region false [0, 1, 2, 3, 9, 10] [] [⟨some 10, none, false, .mv (.c (.int .i64 0))⟩])
 (.seq (.block 0 af118L0)
 (.seq (.region false [9, 10] [] [⟨some 58, none, false, .mv (.t 9)⟩,
   ⟨some 59, none, false, .mv (.t 10)⟩,
   ⟨some 60, none, false, .mv (.t 0)⟩,
   ⟨some 61, none, false, .idxaddr none 1 (.t 58) (.t 59)⟩,
   ⟨none, none, false, .store 1 (.t 61) (.t 60)⟩])
 (.seq (.region false [8] [] [⟨some 62, none, false, .mv (.t 9)⟩,
   ⟨some 63, none, false, .mv (.t 10)⟩,
   ⟨some 64, none, false, .bin .add (.t 63) (.c (.int .i64 1))⟩,
   ⟨some 65, none, false, .slice (.slice 1) (.t 62) none (some (.t 64)) none⟩,
   ⟨some 8, none, false, .mv (.t 65)⟩])
 .ret)))))))))))⟩
def af122L0 : ACode := .loop [0, 1, 2, 3, 4, 10, 11]
 (.block 1 (.seq (.region false [0, 1, 2, 3, 4, 10, 11, 12] [] [⟨some 21, none, false, .mv (.t 2)⟩,
    ⟨some 22, none, false, .mv (.t 1)⟩,
    ⟨some 23, none, false, .bin .sub (.t 21) (.t 22)⟩,
    ⟨some 12, none, false, .mv (.t 23)⟩])
  (.seq (.seq (.region false [0, 1, 2, 3, 4, 10, 11, 12, 25] [] [⟨some 24, none, false, .mv (.t 12)⟩,
    ⟨some 25, none, false, .bin .leq (.t 24) (.c (.int .i64 12))⟩])
  (.cond (.t 25)
   (.seq (.region false [] [] [⟨some 26, none, false, .mv (.t 0)⟩,
     ⟨some 27, none, false, .mv (.t 1)⟩,
     ⟨some 28, none, false, .mv (.t 2)⟩,
     ⟨some 29, none, false, .mv (.t 4)⟩,
     ⟨some 30, none, false, .call (.f 179) [(.t 26), (.t 27), (.t 28), (.t 29)]⟩])
   .ret)
   .skip))
  (.seq (.seq (.region false [0, 1, 2, 3, 4, 10, 11, 12, 32] [] [⟨some 31, none, false, .mv (.t 3)⟩,
    ⟨some 32, none, false, .bin .eql (.t 31) (.c (.int .i64 0))⟩])
  (.cond (.t 32)
   (.seq (.region false [] [] [⟨some 33, none, false, .mv (.t 0)⟩,
     ⟨some 34, none, false, .mv (.t 1)⟩,
     ⟨some 35, none, false, .mv (.t 2)⟩,
     ⟨some 36, none, false, .mv (.t 4)⟩,
     ⟨some 37, none, false, .call (.f 180) [(.t 33), (.t 34), (.t 35), (.t 36)]⟩])
   .ret)
   .skip))
  (.seq (.seq (.region false [0, 1, 2, 3, 4, 10, 11, 12, 39] [] [⟨some 38, none, false, .mv (.t 10)⟩,
    ⟨some 39, none, false, .un .not (.t 38)⟩])
  (.cond (.t 39)
   (.seq (.region false [0, 1, 2, 3, 4, 10, 11, 12] [] [⟨some 40, none, false, .mv (.t 0)⟩,
     ⟨some 41, none, false, .mv (.t 1)⟩,
     ⟨some 42, none, false, .mv (.t 2)⟩,
     ⟨some 43, none, false, .mv (.t 4)⟩,
     ⟨some 44, none, false, .call (.f 181) [(.t 40), (.t 41), (.t 42), (.t 43)]⟩])
   (.region false [0, 1, 2, 3, 4, 10, 11, 12] [] [⟨some 45, none, false, .mv (.t 3)⟩,
     ⟨some 46, none, false, .bin .sub (.t 45) (.c (.int .i64 1))⟩,
     ⟨some 3, none, false, .mv (.t 46)⟩]))
   .skip))
  (.seq (.region false [0, 1, 2, 3, 4, 10, 11, 12, 13, 14] [] [⟨some 48, none, false, .mv (.t 0)⟩,
    ⟨some 49, none, false, .mv (.t 1)⟩,
    ⟨some 50, none, false, .mv (.t 2)⟩,
    ⟨some 51, none, false, .mv (.t 4)⟩,
    ⟨some 52, none, false, .call (.f 182) [(.t 48), (.t 49), (.t 50), (.t 51)]⟩,
    ⟨some 47, none, false, .mv (.t 52)⟩,
    ⟨some 53, none, false, .ext 0 (.t 47)⟩,
    ⟨some 54, none, false, .ext 1 (.t 47)⟩,
    ⟨some 13, none, false, .mv (.t 53)⟩,
    ⟨some 14, none, false, .mv (.t 54)⟩])
  (.seq (.seq (.region false [0, 1, 2, 3, 4, 10, 11, 12, 13, 14, 56] [] [⟨some 55, none, false, .mv (.t 14)⟩,
    ⟨some 56, none, false, .bin .eql (.t 55) (.c (.int .i64 2))⟩])
  (.cond (.t 56)
   (.seq (.region false [0, 1, 2, 3, 4, 10, 11, 12, 13] [] [⟨some 57, none, false, .mv (.t 0)⟩,
     ⟨some 58, none, false, .mv (.t 1)⟩,
     ⟨some 59, none, false, .mv (.t 2)⟩,
     ⟨some 60, none, false, .mv (.t 4)⟩,
     ⟨some 61, none, false, .call (.f 183) [(.t 57), (.t 58), (.t 59), (.t 60)]⟩])
   (.seq (.region false [0, 1, 2, 3, 4, 10, 11, 12, 13] [] [⟨some 62, none, false, .mv (.t 2)⟩,
     ⟨some 63, none, false, .bin .sub (.t 62) (.c (.int .i64 1))⟩,
     ⟨some 64, none, false, .mv (.t 13)⟩,
     ⟨some 65, none, false, .mv (.t 1)⟩,
     ⟨some 66, none, false, .bin .sub (.t 64) (.t 65)⟩,
     ⟨some 67, none, false, .bin .sub (.t 63) (.t 66)⟩,
     ⟨some 13, none, false, .mv (.t 67)⟩])
   (.region false [0, 1, 2, 3, 4, 10, 11, 12, 13, 14] [] [⟨some 14, none, false, .mv (.c (.int .i64 1))⟩])))
   .skip))
  (.seq (.seq (.region false [0, 1, 2, 3, 4, 10, 11, 12, 13, 75] [] [⟨some 68, none, false, .mv (.t 10)⟩,
    ⟨some 69, none, false, .mv (.t 68)⟩,
    ⟨some 70, some (69, true), false, .mv (.t 11)⟩,
    ⟨some 71, none, false, .pick (.t 69) (.t 70) (.c (.bool false))⟩,
    ⟨some 72, none, false, .mv (.t 71)⟩,
    ⟨some 73, some (72, true), false, .mv (.t 14)⟩,
    ⟨some 74, some (72, true), false, .bin .eql (.t 73) (.c (.int .i64 1))⟩,
    ⟨some 75, none, false, .pick (.t 72) (.t 74) (.c (.bool false))⟩])
  (.cond (.t 75)
   (.seq (.region false [0, 1, 2, 3, 4, 10, 11, 12, 13, 80] [] [⟨some 76, none, false, .mv (.t 0)⟩,
     ⟨some 77, none, false, .mv (.t 1)⟩,
     ⟨some 78, none, false, .mv (.t 2)⟩,
     ⟨some 79, none, false, .mv (.t 4)⟩,
     ⟨some 80, none, false, .call (.f 184) [(.t 76), (.t 77), (.t 78), (.t 79)]⟩])
   (.cond (.t 80)
    .ret
    .skip))
   .skip))
  (.seq (.seq (.region true [0, 1, 2, 3, 4, 10, 11, 12, 13, 97] [] [⟨some 81, none, false, .mv (.t 1)⟩,
    ⟨some 82, none, false, .bin .gtr (.t 81) (.c (.int .i64 0))⟩,
    ⟨some 83, none, false, .mv (.t 82)⟩,
    ⟨some 84, some (83, true), false, .mv (.t 4)⟩,
    ⟨some 85, some (83, true), false, .mv (.t 0)⟩,
    ⟨some 86, some (83, true), false, .mv (.t 1)⟩,
    ⟨some 87, some (83, true), false, .bin .sub (.t 86) (.c (.int .i64 1))⟩,
    ⟨some 88, some (83, true), false, .idxaddr none 2 (.t 85) (.t 87)⟩,
    ⟨some 89, some (83, true), false, .load true 2 (.t 88)⟩,
    ⟨some 90, some (83, true), false, .mv (.t 0)⟩,
    ⟨some 91, some (83, true), false, .mv (.t 13)⟩,
    ⟨some 92, some (83, true), false, .idxaddr none 2 (.t 90) (.t 91)⟩,
    ⟨some 93, some (83, true), false, .load true 2 (.t 92)⟩,
    ⟨some 94, some (83, true), false, .call (.t 84) [(.t 89), (.t 93)]⟩,
    ⟨some 95, some (83, true), false, .bin .lss (.t 94) (.c (.int .i64 0))⟩,
    ⟨some 96, some (83, true), false, .un .not (.t 95)⟩,
    ⟨some 97, none, false, .pick (.t 83) (.t 96) (.c (.bool false))⟩])
  (.cond (.t 97)
   (.seq (.region false [0, 2, 3, 4, 10, 11, 15] [] [⟨some 98, none, false, .mv (.t 0)⟩,
     ⟨some 99, none, false, .mv (.t 1)⟩,
     ⟨some 100, none, false, .mv (.t 2)⟩,
     ⟨some 101, none, false, .mv (.t 13)⟩,
     ⟨some 102, none, false, .mv (.t 4)⟩,
     ⟨some 103, none, false, .call (.f 185) [(.t 98), (.t 99), (.t 100), (.t 101), (.t 102)]⟩,
     ⟨some 15, none, false, .mv (.t 103)⟩])
   (.seq (.region false [0, 1, 2, 3, 4, 10, 11] [] [⟨some 104, none, false, .mv (.t 15)⟩,
     ⟨some 1, none, false, .mv (.t 104)⟩])
   (.exit 1)))
   .skip))
  (.seq (.region false [0, 1, 2, 3, 4, 12, 16, 17] [] [⟨some 106, none, false, .mv (.t 0)⟩,
    ⟨some 107, none, false, .mv (.t 1)⟩,
    ⟨some 108, none, false, .mv (.t 2)⟩,
    ⟨some 109, none, false, .mv (.t 13)⟩,
    ⟨some 110, none, false, .mv (.t 4)⟩,
    ⟨some 111, none, false, .call (.f 186) [(.t 106), (.t 107), (.t 108), (.t 109), (.t 110)]⟩,
    ⟨some 105, none, false, .mv (.t 111)⟩,
    ⟨some 112, none, false, .ext 0 (.t 105)⟩,
    ⟨some 113, none, false, .ext 1 (.t 105)⟩,
    ⟨some 16, none, false, .mv (.t 112)⟩,
    ⟨some 17, none, false, .mv (.t 113)⟩])
  (.seq (.region false [0, 1, 2, 3, 4, 11, 12, 16] [] [⟨some 114, none, false, .mv (.t 17)⟩,
    ⟨some 11, none, false, .mv (.t 114)⟩])
  (.seq (.region false [0, 1, 2, 3, 4, 11, 12, 16, 18, 19] [] [⟨some 115, none, false, .mv (.t 16)⟩,
    ⟨some 116, none, false, .mv (.t 1)⟩,
    ⟨some 117, none, false, .bin .sub (.t 115) (.t 116)⟩,
    ⟨some 118, none, false, .mv (.t 2)⟩,
    ⟨some 119, none, false, .mv (.t 16)⟩,
    ⟨some 120, none, false, .bin .sub (.t 118) (.t 119)⟩,
    ⟨some 18, none, false, .mv (.t 117)⟩,
    ⟨some 19, none, false, .mv (.t 120)⟩])
  (.seq (.region false [0, 1, 2, 3, 4, 11, 16, 18, 19, 20] [] [⟨some 121, none, false, .mv (.t 12)⟩,
    ⟨some 122, none, false, .bin .quo (.t 121) (.c (.int .i64 8))⟩,
    ⟨some 20, none, false, .mv (.t 122)⟩])
  (.seq (.region false [0, 1, 2, 3, 4, 11, 16, 18, 19, 20, 125] [] [⟨some 123, none, false, .mv (.t 18)⟩,
    ⟨some 124, none, false, .mv (.t 19)⟩,
    ⟨some 125, none, false, .bin .lss (.t 123) (.t 124)⟩])
  (.cond (.t 125)
   (.seq (.region false [0, 1, 2, 3, 4, 10, 11, 16] [] [⟨some 126, none, false, .mv (.t 18)⟩,
     ⟨some 127, none, false, .mv (.t 20)⟩,
     ⟨some 128, none, false, .bin .geq (.t 126) (.t 127)⟩,
     ⟨some 10, none, false, .mv (.t 128)⟩])
   (.seq (.region false [0, 2, 3, 4, 10, 11, 16] [] [⟨some 129, none, false, .mv (.t 0)⟩,
     ⟨some 130, none, false, .mv (.t 1)⟩,
     ⟨some 131, none, false, .mv (.t 16)⟩,
     ⟨some 132, none, false, .mv (.t 3)⟩,
     ⟨some 133, none, false, .mv (.t 4)⟩,
     ⟨some 134, none, false, .call (.f 122) [(.t 129), (.t 130), (.t 131), (.t 132), (.t 133)]⟩])
   (.region false [0, 1, 2, 3, 4, 10, 11] [] [⟨some 135, none, false, .mv (.t 16)⟩,
     ⟨some 136, none, false, .bin .add (.t 135) (.c (.int .i64 1))⟩,
     ⟨some 1, none, false, .mv (.t 136)⟩])))
   (.seq (.region false [0, 1, 2, 3, 4, 10, 11, 16] [] [⟨some 137, none, false, .mv (.t 19)⟩,
     ⟨some 138, none, false, .mv (.t 20)⟩,
     ⟨some 139, none, false, .bin .geq (.t 137) (.t 138)⟩,
     ⟨some 10, none, false, .mv (.t 139)⟩])
   (.seq (.region false [0, 1, 3, 4, 10, 11, 16] [] [⟨some 140, none, false, .mv (.t 0)⟩,
     ⟨some 141, none, false, .mv (.t 16)⟩,
     ⟨some 142, none, false, .bin .add (.t 141) (.c (.int .i64 1))⟩,
     ⟨some 143, none, false, .mv (.t 2)⟩,
     ⟨some 144, none, false, .mv (.t 3)⟩,
     ⟨some 145, none, false, .mv (.t 4)⟩,
     ⟨some 146, none, false, .call (.f 122) [(.t 140), (.t 142), (.t 143), (.t 144), (.t 145)]⟩])
   (.region false [0, 1, 2, 3, 4, 10, 11] [] [⟨some 147, none, false, .mv (.t 16)⟩,
     ⟨some 2, none, false, .mv (.t 147)⟩]))))))))))))))))))
/-- slices.pdqsortCmpFunc[civiltime/api.HolidayDay] -/
def af122 : AFun := ⟨148, true, [],
 (.seq (.region false [0, 1, 2, 3, 4, 10] [] [⟨some 10, none, false, .mv (.c (.bool true))⟩])
 (.seq (.region false [0, 1, 2, 3, 4, 10, 11] [] [⟨some 11, none, false, .mv (.c (.bool true))⟩])
 (.block 0 af122L0)))⟩
/-- math/bits.Len -/
def af123 : AFun := ⟨8, true, [.tmp 2],
 (.seq (.region false [0] [] [⟨some 2, none, false, .mv (.c (.int .i64 0))⟩])
 (.seq (.cond (.c (.bool false))
  (.seq (.region false [2] [] [⟨some 3, none, false, .mv (.t 0)⟩,
    ⟨some 4, none, false, .conv (.int .u32) (.t 3)⟩,
    ⟨some 5, none, false, .call (.f 187) [(.t 4)]⟩,
    ⟨some 2, none, false, .mv (.t 5)⟩])
  .ret)
  .skip)
 (.seq (.region false [2] [] [⟨some 6, none, false, .mv (.t 0)⟩,
   ⟨some 7, none, false, .call (.f 188) [(.t 6)]⟩,
   ⟨some 2, none, false, .mv (.t 7)⟩])
 .ret)))⟩
def af124L0 : ACode := .loop [3, 6, 7, 8]
 (.seq (.region false [3, 6, 7, 8, 9] [] [⟨some 9, none, false, .bin .lss (.t 8) (.t 7)⟩])
 (.seq (.cond (.t 9)
  .skip
  (.exit 0))
 (.seq (.block 1 (.seq (.region false [3, 5, 6, 7, 8] [] [⟨some 10, none, false, .idxaddr none 1 (.t 6) (.t 8)⟩,
    ⟨some 11, none, false, .load false 1 (.t 10)⟩,
    ⟨some 5, none, false, .mv (.t 11)⟩])
  (.seq (.region false [3, 5, 6, 7, 8, 14] [] [⟨some 12, none, false, .mv (.t 5)⟩,
    ⟨some 13, none, false, .mv (.t 3)⟩,
    ⟨some 14, none, false, .bin .neq (.t 12) (.t 13)⟩])
  (.cond (.t 14)
   (.seq (.region false [2] [] [⟨some 15, none, false, .mv (.t 5)⟩,
     ⟨some 2, none, false, .mv (.t 15)⟩])
   .ret)
   .skip))))
 (.region false [3, 6, 7, 8] [] [⟨some 16, none, false, .bin .add (.t 8) (.c (.int .i64 1))⟩,
   ⟨some 8, none, false, .mv (.t 16)⟩]))))
/-- cmp.Or[int] -/
def af124 : AFun := ⟨18, true, [.tmp 2],
 (.seq (.region false [0] [] [⟨some 2, none, false, .mv (.c (.int .i64 0))⟩])
 (.seq (.region false [0, 3] [] [⟨some 3, none, false, .mv (.c (.int .i64 0))⟩])
 (.seq (.seq (.region false [3, 6, 7, 8] [] [⟨some 6, none, false, .mv (.t 0)⟩,
   ⟨some 7, none, false, .bi (.len 1) [(.t 6)]⟩,
   ⟨some 8, none, false, .mv (.c (.int .i64 0))⟩])
 (.block 0 af124L0))
 (.seq (.region false [2] [] [⟨some 17, none, false, .mv (.t 3)⟩,
   ⟨some 2, none, false, .mv (.t 17)⟩])
 .ret))))⟩
/-- cmp.Compare[int] -/
def af125 : AFun := ⟨20, true, [.tmp 4],
 (.seq (.region false [0, 1] [] [⟨some 4, none, false, .mv (.c (.int .i64 0))⟩])
 (.seq (.region false [0, 1, 5] [] [⟨some 7, none, false, .mv (.t 0)⟩,
   ⟨some 8, none, false, .call (.f 189) [(.t 7)]⟩,
   ⟨some 5, none, false, .mv (.t 8)⟩])
 (.seq (.region false [0, 1, 5, 6] [] [⟨some 9, none, false, .mv (.t 1)⟩,
   ⟨some 10, none, false, .call (.f 189) [(.t 9)]⟩,
   ⟨some 6, none, false, .mv (.t 10)⟩])
 (.seq (.seq (.region false [0, 1, 6, 11] [] [⟨some 11, none, false, .mv (.t 5)⟩])
 (.cond (.t 11)
  (.seq (.seq (.region false [12] [] [⟨some 12, none, false, .mv (.t 6)⟩])
  (.cond (.t 12)
   (.seq (.region false [4] [] [⟨some 4, none, false, .mv (.c (.int .i64 0))⟩])
   .ret)
   .skip))
  (.seq (.region false [4] [] [⟨some 4, none, false, .mv (.c (.int .i64 (-1)))⟩])
  .ret))
  .skip))
 (.seq (.seq (.region false [0, 1, 13] [] [⟨some 13, none, false, .mv (.t 6)⟩])
 (.cond (.t 13)
  (.seq (.region false [4] [] [⟨some 4, none, false, .mv (.c (.int .i64 1))⟩])
  .ret)
  .skip))
 (.seq (.seq (.region false [0, 1, 16] [] [⟨some 14, none, false, .mv (.t 0)⟩,
   ⟨some 15, none, false, .mv (.t 1)⟩,
   ⟨some 16, none, false, .bin .lss (.t 14) (.t 15)⟩])
 (.cond (.t 16)
  (.seq (.region false [4] [] [⟨some 4, none, false, .mv (.c (.int .i64 (-1)))⟩])
  .ret)
  .skip))
 (.seq (.seq (.region false [19] [] [⟨some 17, none, false, .mv (.t 0)⟩,
   ⟨some 18, none, false, .mv (.t 1)⟩,
   ⟨some 19, none, false, .bin .gtr (.t 17) (.t 18)⟩])
 (.cond (.t 19)
  (.seq (.region false [4] [] [⟨some 4, none, false, .mv (.c (.int .i64 1))⟩])
  .ret)
  .skip))
 (.seq (.region false [4] [] [⟨some 4, none, false, .mv (.c (.int .i64 0))⟩])
 .ret))))))))⟩
/-- civiltime/zonelex.months -/
def af129 : AFun := ⟨2, true, [.tmp 0],
 (.seq (.region false [] [] [⟨some 0, none, false, .mv (.c .nilSl)⟩])
 (.seq (.region false [0] [] [⟨some 1, none, false, .bslice [(.str []), (.str []), (.str []), (.str []), (.str []), (.str []), (.str []), (.str []), (.str []), (.str []), (.str []), (.str [])] [(0, 1, (.c (.str [74, 97, 110]))), (1, 1, (.c (.str [70, 101, 98]))), (2, 1, (.c (.str [77, 97, 114]))), (3, 1, (.c (.str [65, 112, 114]))), (4, 1, (.c (.str [77, 97, 121]))), (5, 1, (.c (.str [74, 117, 110]))), (6, 1, (.c (.str [74, 117, 108]))), (7, 1, (.c (.str [65, 117, 103]))), (8, 1, (.c (.str [83, 101, 112]))), (9, 1, (.c (.str [79, 99, 116]))), (10, 1, (.c (.str [78, 111, 118]))), (11, 1, (.c (.str [68, 101, 99])))] 12 1⟩,
   ⟨some 0, none, false, .mv (.t 1)⟩])
 .ret))⟩
/-- civiltime/zonelex.weekdays -/
def af130 : AFun := ⟨2, true, [.tmp 0],
 (.seq (.region false [] [] [⟨some 0, none, false, .mv (.c .nilSl)⟩])
 (.seq (.region false [0] [] [⟨some 1, none, false, .bslice [(.str []), (.str []), (.str []), (.str []), (.str []), (.str []), (.str [])] [(0, 1, (.c (.str [77, 111, 110]))), (1, 1, (.c (.str [84, 117, 101]))), (2, 1, (.c (.str [87, 101, 100]))), (3, 1, (.c (.str [84, 104, 117]))), (4, 1, (.c (.str [70, 114, 105]))), (5, 1, (.c (.str [83, 97, 116]))), (6, 1, (.c (.str [83, 117, 110])))] 7 1⟩,
   ⟨some 0, none, false, .mv (.t 1)⟩])
 .ret))⟩
def af133L0 : ACode := .loop [0, 1, 5]
 (.block 1 (.seq (.region false [0, 1, 5, 6] [] [⟨some 20, none, false, .mv (.t 0)⟩,
    ⟨some 21, none, false, .mv (.t 1)⟩,
    ⟨some 22, none, false, .call (.f 134) [(.t 20), (.t 21)]⟩,
    ⟨some 6, none, false, .mv (.t 22)⟩])
  (.seq (.seq (.region false [0, 1, 5, 6, 24] [] [⟨some 23, none, false, .mv (.t 6)⟩,
    ⟨some 24, none, false, .bin .eql (.t 23) (.c (.int .i64 (-1)))⟩])
  (.cond (.t 24)
   (.seq (.region false [4] [] [⟨some 25, none, false, .mv (.t 5)⟩,
     ⟨some 4, none, false, .mv (.t 25)⟩])
   .ret)
   .skip))
  (.seq (.region false [0, 1, 5, 6] [] [⟨some 26, none, false, .mv (.t 5)⟩,
    ⟨some 27, none, false, .bin .add (.t 26) (.c (.int .i64 1))⟩,
    ⟨some 5, none, false, .mv (.t 27)⟩])
  (.region false [0, 1, 5] [] [⟨some 28, none, false, .mv (.t 0)⟩,
    ⟨some 29, none, false, .mv (.t 6)⟩,
    ⟨some 30, none, false, .mv (.t 1)⟩,
    ⟨some 31, none, false, .bi (.len 0) [(.t 30)]⟩,
    ⟨some 32, none, false, .bin .add (.t 29) (.t 31)⟩,
    ⟨some 33, none, false, .slice .str (.t 28) (some (.t 32)) none none⟩,
    ⟨some 0, none, false, .mv (.t 33)⟩])))))
/-- strings.Count -/
def af133 : AFun := ⟨34, true, [.tmp 4],
 (.seq (.region false [0, 1] [] [⟨some 4, none, false, .mv (.c (.int .i64 0))⟩])
 (.seq (.seq (.region false [0, 1, 9] [] [⟨some 7, none, false, .mv (.t 1)⟩,
   ⟨some 8, none, false, .bi (.len 0) [(.t 7)]⟩,
   ⟨some 9, none, false, .bin .eql (.t 8) (.c (.int .i64 0))⟩])
 (.cond (.t 9)
  (.seq (.region false [4] [] [⟨some 10, none, false, .mv (.t 0)⟩,
    ⟨some 11, none, false, .call (.f 192) [(.t 10)]⟩,
    ⟨some 12, none, false, .bin .add (.t 11) (.c (.int .i64 1))⟩,
    ⟨some 4, none, false, .mv (.t 12)⟩])
  .ret)
  .skip))
 (.seq (.seq (.region false [0, 1, 15] [] [⟨some 13, none, false, .mv (.t 1)⟩,
   ⟨some 14, none, false, .bi (.len 0) [(.t 13)]⟩,
   ⟨some 15, none, false, .bin .eql (.t 14) (.c (.int .i64 1))⟩])
 (.cond (.t 15)
  (.seq (.region false [4] [] [⟨some 16, none, false, .mv (.t 0)⟩,
    ⟨some 17, none, false, .mv (.t 1)⟩,
    ⟨some 18, none, false, .sidx (.t 17) (.c (.int .i64 0))⟩,
    ⟨some 19, none, false, .call (.f 193) [(.t 16), (.t 18)]⟩,
    ⟨some 4, none, false, .mv (.t 19)⟩])
  .ret)
  .skip))
 (.seq (.region false [0, 1, 5] [] [⟨some 5, none, false, .mv (.c (.int .i64 0))⟩])
 (.block 0 af133L0)))))⟩
/-- strings.Index -/
def af134 : AFun := ⟨8, true, [.tmp 4],
 (.seq (.region false [0, 1] [] [⟨some 4, none, false, .mv (.c (.int .i64 0))⟩])
 (.seq (.region false [4] [] [⟨some 5, none, false, .mv (.t 0)⟩,
   ⟨some 6, none, false, .mv (.t 1)⟩,
   ⟨some 7, none, false, .call (.f 194) [(.t 5), (.t 6)]⟩,
   ⟨some 4, none, false, .mv (.t 7)⟩])
 .ret))⟩
/-- unicode/utf8.DecodeRuneInString -/
def af135 : AFun := ⟨19, true, [.tmp 2, .tmp 3],
 (.seq (.region false [0] [] [⟨some 2, none, false, .mv (.c (.int .i32 0))⟩,
   ⟨some 3, none, false, .mv (.c (.int .i64 0))⟩])
 (.seq (.seq (.region false [0, 10] [] [⟨some 4, none, false, .mv (.t 0)⟩,
   ⟨some 5, none, false, .bin .neq (.t 4) (.c (.str []))⟩,
   ⟨some 6, none, false, .mv (.t 5)⟩,
   ⟨some 7, some (6, true), false, .mv (.t 0)⟩,
   ⟨some 8, some (6, true), false, .sidx (.t 7) (.c (.int .i64 0))⟩,
   ⟨some 9, some (6, true), false, .bin .lss (.t 8) (.c (.int .u8 128))⟩,
   ⟨some 10, none, false, .pick (.t 6) (.t 9) (.c (.bool false))⟩])
 (.cond (.t 10)
  (.seq (.region false [2, 3] [] [⟨some 11, none, false, .mv (.t 0)⟩,
    ⟨some 12, none, false, .sidx (.t 11) (.c (.int .i64 0))⟩,
    ⟨some 13, none, false, .conv (.int .i32) (.t 12)⟩,
    ⟨some 2, none, false, .mv (.t 13)⟩,
    ⟨some 3, none, false, .mv (.c (.int .i64 1))⟩])
  .ret)
  (.region false [2, 3] [] [⟨some 15, none, false, .mv (.t 0)⟩,
    ⟨some 16, none, false, .call (.f 195) [(.t 15)]⟩,
    ⟨some 14, none, false, .mv (.t 16)⟩,
    ⟨some 17, none, false, .ext 0 (.t 14)⟩,
    ⟨some 18, none, false, .ext 1 (.t 14)⟩,
    ⟨some 2, none, false, .mv (.t 17)⟩,
    ⟨some 3, none, false, .mv (.t 18)⟩])))
 .ret))⟩
/-- internal/stringslite.HasPrefix -/
def af138 : AFun := ⟨18, true, [.tmp 4],
 (.seq (.region false [0, 1] [] [⟨some 4, none, false, .mv (.c (.bool false))⟩])
 (.seq (.region false [4] [] [⟨some 5, none, false, .mv (.t 0)⟩,
   ⟨some 6, none, false, .bi (.len 0) [(.t 5)]⟩,
   ⟨some 7, none, false, .mv (.t 1)⟩,
   ⟨some 8, none, false, .bi (.len 0) [(.t 7)]⟩,
   ⟨some 9, none, false, .bin .geq (.t 6) (.t 8)⟩,
   ⟨some 10, none, false, .mv (.t 9)⟩,
   ⟨some 11, some (10, true), false, .mv (.t 0)⟩,
   ⟨some 12, some (10, true), false, .mv (.t 1)⟩,
   ⟨some 13, some (10, true), false, .bi (.len 0) [(.t 12)]⟩,
   ⟨some 14, some (10, true), false, .slice .str (.t 11) none (some (.t 13)) none⟩,
   ⟨some 15, some (10, true), false, .mv (.t 1)⟩,
   ⟨some 16, some (10, true), false, .bin .eql (.t 14) (.t 15)⟩,
   ⟨some 17, none, false, .pick (.t 10) (.t 16) (.c (.bool false))⟩,
   ⟨some 4, none, false, .mv (.t 17)⟩])
 .ret))⟩
/-- internal/stringslite.IndexByte -/
def af154 : AFun := ⟨8, true, [.tmp 4],
 (.seq (.region false [0, 1] [] [⟨some 4, none, false, .mv (.c (.int .i64 0))⟩])
 (.seq (.region false [4] [] [⟨some 5, none, false, .mv (.t 0)⟩,
   ⟨some 6, none, false, .mv (.t 1)⟩,
   ⟨some 7, none, false, .call (.f 209) [(.t 5), (.t 6)]⟩,
   ⟨some 4, none, false, .mv (.t 7)⟩])
 .ret))⟩
def af155L0 : ACode := .loop [0, 1, 7, 8]
 (.seq (.region false [0, 1, 7, 8, 9] [] [⟨some 9, none, false, .bin .lss (.t 8) (.t 7)⟩])
 (.seq (.cond (.t 9)
  .skip
  (.exit 0))
 (.seq (.block 1 (.seq (.region false [0, 1, 5, 7, 8] [] [⟨some 10, none, false, .mv (.t 8)⟩,
    ⟨some 5, none, false, .mv (.t 10)⟩])
  (.seq (.region false [0, 1, 5, 7, 8, 16] [] [⟨some 11, none, false, .mv (.t 1)⟩,
    ⟨some 12, none, false, .mv (.t 0)⟩,
    ⟨some 13, none, false, .mv (.t 5)⟩,
    ⟨some 14, none, false, .idxaddr none 10 (.t 12) (.t 13)⟩,
    ⟨some 15, none, false, .load true 10 (.t 14)⟩,
    ⟨some 16, none, false, .call (.t 11) [(.t 15)]⟩])
  (.cond (.t 16)
   (.seq (.region false [4] [] [⟨some 17, none, false, .mv (.t 5)⟩,
     ⟨some 4, none, false, .mv (.t 17)⟩])
   .ret)
   .skip))))
 (.region false [0, 1, 7, 8] [] [⟨some 18, none, false, .bin .add (.t 8) (.c (.int .i64 1))⟩,
   ⟨some 8, none, false, .mv (.t 18)⟩]))))
/-- slices.IndexFunc[[]civiltime/api.Holiday,civiltime/api.Holiday] -/
def af155 : AFun := ⟨19, true, [.tmp 4],
 (.seq (.region false [0, 1] [] [⟨some 4, none, false, .mv (.c (.int .i64 0))⟩])
 (.seq (.seq (.region false [0, 1, 7, 8] [] [⟨some 6, none, false, .mv (.t 0)⟩,
   ⟨some 7, none, false, .bi (.len 1) [(.t 6)]⟩,
   ⟨some 8, none, false, .mv (.c (.int .i64 0))⟩])
 (.block 0 af155L0))
 (.seq (.region false [4] [] [⟨some 4, none, false, .mv (.c (.int .i64 (-1)))⟩])
 .ret)))⟩
/-- civiltime/holiday.finders$1 -/
def af156 : AFun := ⟨15, true, [.tmp 4],
 (.seq (.region false [1, 2] [] [⟨some 2, none, false, .box (.t 0)⟩,
   ⟨some 4, none, false, .mv (.c .nilSl)⟩])
 (.seq (.region false [4] [] [⟨some 5, none, false, .mv (.t 1)⟩,
   ⟨some 6, none, false, .fldaddr 2 (.t 2)⟩,
   ⟨some 7, none, false, .load false 1 (.t 6)⟩,
   ⟨some 8, none, false, .fldaddr 3 (.t 2)⟩,
   ⟨some 9, none, false, .load false 1 (.t 8)⟩,
   ⟨some 10, none, false, .build [(.int .i64 0), (.int .i64 0), (.int .i64 0)] [(0, 1, (.t 5)), (1, 1, (.t 7)), (2, 1, (.t 9))]⟩,
   ⟨some 11, none, false, .call (.f 19) [(.t 10)]⟩,
   ⟨some 12, none, false, .ext 0 (.t 11)⟩,
   ⟨some 13, none, false, .ext 1 (.t 11)⟩,
   ⟨some 14, none, false, .call (.f 157) [(.t 12), (.t 13)]⟩,
   ⟨some 4, none, false, .mv (.t 14)⟩])
 .ret))⟩
/-- civiltime/holiday.one -/
def af157 : AFun := ⟨9, true, [.tmp 4],
 (.seq (.region false [0, 1] [] [⟨some 4, none, false, .mv (.c .nilSl)⟩])
 (.seq (.seq (.region false [0, 6] [] [⟨some 5, none, false, .mv (.t 1)⟩,
   ⟨some 6, none, false, .bin .neq (.t 5) (.c (.int .i64 0))⟩])
 (.cond (.t 6)
  (.seq (.region false [4] [] [⟨some 4, none, false, .mv (.c .nilSl)⟩])
  .ret)
  .skip))
 (.seq (.region false [4] [] [⟨some 7, none, false, .mv (.t 0)⟩,
   ⟨some 8, none, false, .bslice [(.int .i64 0)] [(0, 1, (.t 7))] 1 1⟩,
   ⟨some 4, none, false, .mv (.t 8)⟩])
 .ret)))⟩
/-- civiltime/holiday.finders$2 -/
def af158 : AFun := ⟨24, true, [.tmp 4],
 (.seq (.region false [1, 2] [] [⟨some 2, none, false, .box (.t 0)⟩,
   ⟨some 4, none, false, .mv (.c .nilSl)⟩])
 (.seq (.region false [2, 5, 6] [] [⟨some 8, none, false, .mv (.t 1)⟩,
   ⟨some 9, none, false, .fldaddr 2 (.t 2)⟩,
   ⟨some 10, none, false, .load false 1 (.t 9)⟩,
   ⟨some 11, none, false, .fldaddr 4 (.t 2)⟩,
   ⟨some 12, none, false, .load false 1 (.t 11)⟩,
   ⟨some 13, none, false, .fldaddr 5 (.t 2)⟩,
   ⟨some 14, none, false, .load false 1 (.t 13)⟩,
   ⟨some 15, none, false, .call (.f 159) [(.t 8), (.t 10), (.t 12), (.t 14)]⟩,
   ⟨some 7, none, false, .mv (.t 15)⟩,
   ⟨some 16, none, false, .ext 0 (.t 7)⟩,
   ⟨some 17, none, false, .ext 1 (.t 7)⟩,
   ⟨some 5, none, false, .mv (.t 16)⟩,
   ⟨some 6, none, false, .mv (.t 17)⟩])
 (.seq (.region false [4] [] [⟨some 18, none, false, .mv (.t 5)⟩,
   ⟨some 19, none, false, .fldaddr 6 (.t 2)⟩,
   ⟨some 20, none, false, .load false 1 (.t 19)⟩,
   ⟨some 21, none, false, .bin .add (.t 18) (.t 20)⟩,
   ⟨some 22, none, false, .mv (.t 6)⟩,
   ⟨some 23, none, false, .call (.f 157) [(.t 21), (.t 22)]⟩,
   ⟨some 4, none, false, .mv (.t 23)⟩])
 .ret)))⟩
/-- civiltime/civil.Nth -/
def af159 : AFun := ⟨78, true, [.tmp 8, .tmp 9],
 (.seq (.region false [0, 1, 2, 3] [] [⟨some 8, none, false, .mv (.c (.int .i64 0))⟩,
   ⟨some 9, none, false, .mv (.c (.int .i64 0))⟩])
 (.seq (.region false [0, 1, 2, 3, 10] [] [⟨some 14, none, false, .mv (.t 0)⟩,
   ⟨some 15, none, false, .mv (.t 1)⟩,
   ⟨some 16, none, false, .call (.f 45) [(.t 14), (.t 15)]⟩,
   ⟨some 10, none, false, .mv (.t 16)⟩])
 (.seq (.seq (.region false [0, 1, 2, 3, 10, 30] [] [⟨some 17, none, false, .mv (.t 10)⟩,
   ⟨some 18, none, false, .bin .eql (.t 17) (.c (.int .i64 0))⟩,
   ⟨some 19, none, false, .mv (.t 18)⟩,
   ⟨some 20, some (19, false), false, .mv (.t 2)⟩,
   ⟨some 21, some (19, false), false, .bin .lss (.t 20) (.c (.int .i64 1))⟩,
   ⟨some 22, none, false, .pick (.t 19) (.c (.bool true)) (.t 21)⟩,
   ⟨some 23, none, false, .mv (.t 22)⟩,
   ⟨some 24, some (23, false), false, .mv (.t 2)⟩,
   ⟨some 25, some (23, false), false, .bin .gtr (.t 24) (.c (.int .i64 7))⟩,
   ⟨some 26, none, false, .pick (.t 23) (.c (.bool true)) (.t 25)⟩,
   ⟨some 27, none, false, .mv (.t 26)⟩,
   ⟨some 28, some (27, false), false, .mv (.t 3)⟩,
   ⟨some 29, some (27, false), false, .bin .eql (.t 28) (.c (.int .i64 0))⟩,
   ⟨some 30, none, false, .pick (.t 27) (.c (.bool true)) (.t 29)⟩])
 (.cond (.t 30)
  (.seq (.region false [8, 9] [] [⟨some 8, none, false, .mv (.c (.int .i64 0))⟩,
    ⟨some 9, none, false, .mv (.c (.int .i64 1))⟩])
  .ret)
  .skip))
 (.seq (.seq (.region false [0, 1, 2, 3, 10, 36] [] [⟨some 31, none, false, .mv (.t 3)⟩,
   ⟨some 32, none, false, .bin .lss (.t 31) (.c (.int .i64 (-5)))⟩,
   ⟨some 33, none, false, .mv (.t 32)⟩,
   ⟨some 34, some (33, false), false, .mv (.t 3)⟩,
   ⟨some 35, some (33, false), false, .bin .gtr (.t 34) (.c (.int .i64 5))⟩,
   ⟨some 36, none, false, .pick (.t 33) (.c (.bool true)) (.t 35)⟩])
 (.cond (.t 36)
  (.seq (.region false [8, 9] [] [⟨some 8, none, false, .mv (.c (.int .i64 0))⟩,
    ⟨some 9, none, false, .mv (.c (.int .i64 7))⟩])
  .ret)
  .skip))
 (.seq (.region false [2, 3, 10, 11] [] [⟨some 37, none, false, .mv (.t 0)⟩,
   ⟨some 38, none, false, .mv (.t 1)⟩,
   ⟨some 39, none, false, .call (.f 54) [(.t 37), (.t 38), (.c (.int .i64 1))]⟩,
   ⟨some 11, none, false, .mv (.t 39)⟩])
 (.seq (.region false [2, 3, 10, 11, 12] [] [⟨some 40, none, false, .mv (.t 2)⟩,
   ⟨some 41, none, false, .mv (.t 11)⟩,
   ⟨some 42, none, false, .call (.f 18) [(.t 41)]⟩,
   ⟨some 43, none, false, .bin .sub (.t 40) (.t 42)⟩,
   ⟨some 44, none, false, .call (.f 52) [(.t 43), (.c (.int .i64 7))]⟩,
   ⟨some 45, none, false, .bin .add (.c (.int .i64 1)) (.t 44)⟩,
   ⟨some 46, none, false, .mv (.t 3)⟩,
   ⟨some 47, none, false, .bin .sub (.t 46) (.c (.int .i64 1))⟩,
   ⟨some 48, none, false, .bin .mul (.c (.int .i64 7)) (.t 47)⟩,
   ⟨some 49, none, false, .bin .add (.t 45) (.t 48)⟩,
   ⟨some 12, none, false, .mv (.t 49)⟩])
 (.seq (.seq (.region false [2, 3, 10, 11, 12, 51] [] [⟨some 50, none, false, .mv (.t 3)⟩,
   ⟨some 51, none, false, .bin .lss (.t 50) (.c (.int .i64 0))⟩])
 (.cond (.t 51)
  (.seq (.region false [2, 3, 10, 11, 13] [] [⟨some 52, none, false, .mv (.t 11)⟩,
    ⟨some 53, none, false, .mv (.t 10)⟩,
    ⟨some 54, none, false, .bin .add (.t 52) (.t 53)⟩,
    ⟨some 55, none, false, .bin .sub (.t 54) (.c (.int .i64 1))⟩,
    ⟨some 13, none, false, .mv (.t 55)⟩])
  (.region false [10, 11, 12] [] [⟨some 56, none, false, .mv (.t 10)⟩,
    ⟨some 57, none, false, .mv (.t 13)⟩,
    ⟨some 58, none, false, .call (.f 18) [(.t 57)]⟩,
    ⟨some 59, none, false, .mv (.t 2)⟩,
    ⟨some 60, none, false, .bin .sub (.t 58) (.t 59)⟩,
    ⟨some 61, none, false, .call (.f 52) [(.t 60), (.c (.int .i64 7))]⟩,
    ⟨some 62, none, false, .bin .sub (.t 56) (.t 61)⟩,
    ⟨some 63, none, false, .mv (.t 3)⟩,
    ⟨some 64, none, false, .bin .add (.t 63) (.c (.int .i64 1))⟩,
    ⟨some 65, none, false, .bin .mul (.c (.int .i64 7)) (.t 64)⟩,
    ⟨some 66, none, false, .bin .add (.t 62) (.t 65)⟩,
    ⟨some 12, none, false, .mv (.t 66)⟩]))
  .skip))
 (.seq (.seq (.region false [11, 12, 73] [] [⟨some 67, none, false, .mv (.t 12)⟩,
   ⟨some 68, none, false, .bin .lss (.t 67) (.c (.int .i64 1))⟩,
   ⟨some 69, none, false, .mv (.t 68)⟩,
   ⟨some 70, some (69, false), false, .mv (.t 12)⟩,
   ⟨some 71, some (69, false), false, .mv (.t 10)⟩,
   ⟨some 72, some (69, false), false, .bin .gtr (.t 70) (.t 71)⟩,
   ⟨some 73, none, false, .pick (.t 69) (.c (.bool true)) (.t 72)⟩])
 (.cond (.t 73)
  (.seq (.region false [8, 9] [] [⟨some 8, none, false, .mv (.c (.int .i64 0))⟩,
    ⟨some 9, none, false, .mv (.c (.int .i64 7))⟩])
  .ret)
  .skip))
 (.seq (.region false [8, 9] [] [⟨some 74, none, false, .mv (.t 11)⟩,
   ⟨some 75, none, false, .mv (.t 12)⟩,
   ⟨some 76, none, false, .bin .add (.t 74) (.t 75)⟩,
   ⟨some 77, none, false, .bin .sub (.t 76) (.c (.int .i64 1))⟩,
   ⟨some 8, none, false, .mv (.t 77)⟩,
   ⟨some 9, none, false, .mv (.c (.int .i64 0))⟩])
 .ret)))))))))⟩
/-- civiltime/holiday.finders$3 -/
def af160 : AFun := ⟨18, true, [.tmp 4],
 (.seq (.region false [1, 2] [] [⟨some 2, none, false, .box (.t 0)⟩,
   ⟨some 4, none, false, .mv (.c .nilSl)⟩])
 (.seq (.region false [2, 5, 6] [] [⟨some 8, none, false, .mv (.t 1)⟩,
   ⟨some 9, none, false, .call (.f 55) [(.t 8)]⟩,
   ⟨some 7, none, false, .mv (.t 9)⟩,
   ⟨some 10, none, false, .ext 0 (.t 7)⟩,
   ⟨some 11, none, false, .ext 1 (.t 7)⟩,
   ⟨some 5, none, false, .mv (.t 10)⟩,
   ⟨some 6, none, false, .mv (.t 11)⟩])
 (.seq (.region false [4] [] [⟨some 12, none, false, .mv (.t 5)⟩,
   ⟨some 13, none, false, .fldaddr 6 (.t 2)⟩,
   ⟨some 14, none, false, .load false 1 (.t 13)⟩,
   ⟨some 15, none, false, .bin .add (.t 12) (.t 14)⟩,
   ⟨some 16, none, false, .mv (.t 6)⟩,
   ⟨some 17, none, false, .call (.f 157) [(.t 15), (.t 16)]⟩,
   ⟨some 4, none, false, .mv (.t 17)⟩])
 .ret)))⟩
/-- civiltime/holiday.finders$4 -/
def af161 : AFun := ⟨20, true, [.tmp 4],
 (.seq (.region false [1, 2] [] [⟨some 2, none, false, .box (.t 0)⟩,
   ⟨some 4, none, false, .mv (.c .nilSl)⟩])
 (.seq (.region false [5] [] [⟨some 8, none, false, .fldaddr 5 (.t 2)⟩,
   ⟨some 9, none, false, .load false 1 (.t 8)⟩,
   ⟨some 10, none, false, .fldaddr 2 (.t 2)⟩,
   ⟨some 11, none, false, .load false 1 (.t 10)⟩,
   ⟨some 12, none, false, .fldaddr 3 (.t 2)⟩,
   ⟨some 13, none, false, .load false 1 (.t 12)⟩,
   ⟨some 14, none, false, .build [(.int .i64 0), (.int .i64 0), (.int .i64 0)] [(0, 1, (.c (.int .i64 1))), (1, 1, (.t 11)), (2, 1, (.t 13))]⟩,
   ⟨some 15, none, false, .mv (.t 1)⟩,
   ⟨some 16, none, false, .call (.f 162) [(.t 9), (.t 14), (.t 15)]⟩,
   ⟨some 7, none, false, .mv (.t 16)⟩,
   ⟨some 17, none, false, .ext 0 (.t 7)⟩,
   ⟨some 18, none, false, .ext 1 (.t 7)⟩,
   ⟨some 5, none, false, .mv (.t 17)⟩,
   ⟨some 6, none, false, .mv (.t 18)⟩])
 (.seq (.region false [4] [] [⟨some 19, none, false, .mv (.t 5)⟩,
   ⟨some 4, none, false, .mv (.t 19)⟩])
 .ret)))⟩
def af162L0 : ACode := .loop [0, 4, 8, 10, 12, 14]
 (.seq (.seq (.region false [0, 4, 8, 10, 12, 14, 89] [] [⟨some 81, none, false, .mv (.t 14)⟩,
   ⟨some 82, none, false, .bin .leq (.t 81) (.c (.int .i64 9600))⟩,
   ⟨some 83, none, false, .mv (.t 82)⟩,
   ⟨some 84, some (83, true), false, .mv (.t 0)⟩,
   ⟨some 85, some (83, true), false, .mv (.t 14)⟩,
   ⟨some 86, some (83, true), false, .call (.f 212) [(.t 84), (.t 85)]⟩,
   ⟨some 87, some (83, true), false, .mv (.t 10)⟩,
   ⟨some 88, some (83, true), false, .bin .leq (.t 86) (.t 87)⟩,
   ⟨some 89, none, false, .pick (.t 83) (.t 88) (.c (.bool false))⟩])
 (.cond (.t 89)
  .skip
  (.exit 1)))
 (.seq (.block 2 (.seq (.region false [0, 4, 8, 10, 12, 14, 15, 16] [] [⟨some 93, none, false, .mv (.t 0)⟩,
    ⟨some 94, none, false, .mv (.t 14)⟩,
    ⟨some 95, none, false, .fldaddr 1 (.t 4)⟩,
    ⟨some 96, none, false, .load false 1 (.t 95)⟩,
    ⟨some 97, none, false, .fldaddr 2 (.t 4)⟩,
    ⟨some 98, none, false, .load false 1 (.t 97)⟩,
    ⟨some 99, none, false, .build [(.int .i64 0), (.int .i64 0), (.int .i64 0)] [(0, 1, (.t 94)), (1, 1, (.t 96)), (2, 1, (.t 98))]⟩,
    ⟨some 100, none, false, .call (.f 213) [(.t 93), (.t 99)]⟩,
    ⟨some 92, none, false, .mv (.t 100)⟩,
    ⟨some 101, none, false, .ext 0 (.t 92)⟩,
    ⟨some 102, none, false, .ext 1 (.t 92)⟩,
    ⟨some 15, none, false, .mv (.t 101)⟩,
    ⟨some 16, none, false, .mv (.t 102)⟩])
  (.seq (.region false [0, 4, 8, 10, 12, 14, 15, 114] [] [⟨some 103, none, false, .mv (.t 16)⟩,
    ⟨some 104, none, false, .bin .eql (.t 103) (.c (.int .i64 0))⟩,
    ⟨some 105, none, false, .mv (.t 104)⟩,
    ⟨some 106, some (105, true), false, .mv (.t 15)⟩,
    ⟨some 107, some (105, true), false, .mv (.t 8)⟩,
    ⟨some 108, some (105, true), false, .bin .geq (.t 106) (.t 107)⟩,
    ⟨some 109, none, false, .pick (.t 105) (.t 108) (.c (.bool false))⟩,
    ⟨some 110, none, false, .mv (.t 109)⟩,
    ⟨some 111, some (110, true), false, .mv (.t 15)⟩,
    ⟨some 112, some (110, true), false, .mv (.t 10)⟩,
    ⟨some 113, some (110, true), false, .bin .leq (.t 111) (.t 112)⟩,
    ⟨some 114, none, false, .pick (.t 110) (.t 113) (.c (.bool false))⟩])
  (.cond (.t 114)
   (.region false [0, 4, 8, 10, 12, 14] [] [⟨some 115, none, false, .mv (.t 12)⟩,
     ⟨some 116, none, false, .mv (.t 15)⟩,
     ⟨some 117, none, false, .bslice [(.int .i64 0)] [(0, 1, (.t 116))] 1 1⟩,
     ⟨some 118, none, false, .bi (.append 1 8) [(.t 115), (.t 117)]⟩,
     ⟨some 12, none, false, .mv (.t 118)⟩])
   .skip))))
 (.region false [0, 4, 8, 10, 12, 14] [] [⟨some 90, none, false, .mv (.t 14)⟩,
   ⟨some 91, none, false, .bin .add (.t 90) (.c (.int .i64 1))⟩,
   ⟨some 14, none, false, .mv (.t 91)⟩])))
/-- civiltime/islamic.Moved -/
def af162 : AFun := ⟨120, true, [.tmp 6, .tmp 7],
 (.seq (.region false [0, 2, 4] [] [⟨some 4, none, false, .box (.t 1)⟩,
   ⟨some 6, none, false, .mv (.c .nilSl)⟩,
   ⟨some 7, none, false, .mv (.c (.int .i64 0))⟩])
 (.seq (.block 0 (.seq (.region false [0, 2, 4, 17] [] [⟨some 18, none, false, .mv (.t 0)⟩,
    ⟨some 19, none, false, .call (.f 210) [(.t 18)]⟩,
    ⟨some 20, none, false, .un .not (.t 19)⟩,
    ⟨some 21, none, false, .mv (.t 20)⟩,
    ⟨some 22, some (21, false), false, .fldaddr 1 (.t 4)⟩,
    ⟨some 23, some (21, false), false, .load false 1 (.t 22)⟩,
    ⟨some 24, some (21, false), false, .bin .lss (.t 23) (.c (.int .i64 1))⟩,
    ⟨some 25, none, false, .pick (.t 21) (.c (.bool true)) (.t 24)⟩,
    ⟨some 26, none, false, .mv (.t 25)⟩,
    ⟨some 27, some (26, false), false, .fldaddr 1 (.t 4)⟩,
    ⟨some 28, some (26, false), false, .load false 1 (.t 27)⟩,
    ⟨some 29, some (26, false), false, .bin .gtr (.t 28) (.c (.int .i64 12))⟩,
    ⟨some 30, none, false, .pick (.t 26) (.c (.bool true)) (.t 29)⟩,
    ⟨some 31, none, false, .mv (.t 30)⟩,
    ⟨some 32, some (31, false), false, .fldaddr 2 (.t 4)⟩,
    ⟨some 33, some (31, false), false, .load false 1 (.t 32)⟩,
    ⟨some 34, some (31, false), false, .bin .lss (.t 33) (.c (.int .i64 1))⟩,
    ⟨some 35, none, false, .pick (.t 31) (.c (.bool true)) (.t 34)⟩,
    ⟨some 36, none, false, .mv (.t 35)⟩,
    ⟨some 37, some (36, false), false, .fldaddr 2 (.t 4)⟩,
    ⟨some 38, some (36, false), false, .load false 1 (.t 37)⟩,
    ⟨some 39, some (36, false), false, .bin .gtr (.t 38) (.c (.int .i64 30))⟩,
    ⟨some 40, none, false, .pick (.t 36) (.c (.bool true)) (.t 39)⟩,
    ⟨some 41, none, false, .mv (.t 40)⟩,
    ⟨some 42, some (41, false), false, .fldaddr 2 (.t 4)⟩,
    ⟨some 43, some (41, false), false, .load false 1 (.t 42)⟩,
    ⟨some 44, some (41, false), false, .bin .eql (.t 43) (.c (.int .i64 30))⟩,
    ⟨some 45, some (41, false), false, .mv (.t 44)⟩,
    ⟨some 46, some (45, true), false, .fldaddr 1 (.t 4)⟩,
    ⟨some 47, some (45, true), false, .load false 1 (.t 46)⟩,
    ⟨some 48, some (45, true), false, .bin .rem (.t 47) (.c (.int .i64 2))⟩,
    ⟨some 49, some (45, true), false, .bin .eql (.t 48) (.c (.int .i64 0))⟩,
    ⟨some 50, some (41, false), false, .pick (.t 45) (.t 49) (.c (.bool false))⟩,
    ⟨some 51, some (41, false), false, .mv (.t 50)⟩,
    ⟨some 52, some (51, true), false, .fldaddr 1 (.t 4)⟩,
    ⟨some 53, some (51, true), false, .load false 1 (.t 52)⟩,
    ⟨some 54, some (51, true), false, .bin .neq (.t 53) (.c (.int .i64 12))⟩,
    ⟨some 55, some (41, false), false, .pick (.t 51) (.t 54) (.c (.bool false))⟩,
    ⟨some 56, none, false, .pick (.t 41) (.c (.bool true)) (.t 55)⟩,
    ⟨some 17, none, false, .mv (.t 56)⟩])
  (.cond (.t 17)
   (.seq (.region false [6, 7] [] [⟨some 6, none, false, .mv (.c .nilSl)⟩,
     ⟨some 7, none, false, .mv (.c (.int .i64 1))⟩])
   .ret)
   (.seq (.region false [0, 2, 4, 57] [] [⟨some 58, none, false, .mv (.t 2)⟩,
     ⟨some 59, none, false, .bin .lss (.t 58) (.c (.int .i64 1))⟩,
     ⟨some 60, none, false, .mv (.t 59)⟩,
     ⟨some 61, some (60, false), false, .mv (.t 2)⟩,
     ⟨some 62, some (60, false), false, .bin .gtr (.t 61) (.c (.int .i64 9999))⟩,
     ⟨some 63, none, false, .pick (.t 60) (.c (.bool true)) (.t 62)⟩,
     ⟨some 57, none, false, .mv (.t 63)⟩])
   (.cond (.t 57)
    (.seq (.region false [6, 7] [] [⟨some 6, none, false, .mv (.c .nilSl)⟩,
      ⟨some 7, none, false, .mv (.c (.int .i64 2))⟩])
    .ret)
    .skip)))))
 (.seq (.region false [0, 2, 4, 8] [] [⟨some 65, none, false, .mv (.t 2)⟩,
   ⟨some 66, none, false, .build [(.int .i64 0), (.int .i64 0), (.int .i64 0)] [(0, 1, (.t 65)), (1, 1, (.c (.int .i64 1))), (2, 1, (.c (.int .i64 1)))]⟩,
   ⟨some 67, none, false, .call (.f 19) [(.t 66)]⟩,
   ⟨some 64, none, false, .mv (.t 67)⟩,
   ⟨some 68, none, false, .ext 0 (.t 64)⟩,
   ⟨some 69, none, false, .ext 1 (.t 64)⟩,
   ⟨some 8, none, false, .mv (.t 68)⟩,
   ⟨some 9, none, false, .mv (.t 69)⟩])
 (.seq (.region false [0, 4, 8, 10] [] [⟨some 71, none, false, .mv (.t 2)⟩,
   ⟨some 72, none, false, .build [(.int .i64 0), (.int .i64 0), (.int .i64 0)] [(0, 1, (.t 71)), (1, 1, (.c (.int .i64 12))), (2, 1, (.c (.int .i64 31)))]⟩,
   ⟨some 73, none, false, .call (.f 19) [(.t 72)]⟩,
   ⟨some 70, none, false, .mv (.t 73)⟩,
   ⟨some 74, none, false, .ext 0 (.t 70)⟩,
   ⟨some 75, none, false, .ext 1 (.t 70)⟩,
   ⟨some 10, none, false, .mv (.t 74)⟩,
   ⟨some 11, none, false, .mv (.t 75)⟩])
 (.seq (.region false [0, 4, 8, 10, 12] [] [⟨some 12, none, false, .mv (.c .nilSl)⟩])
 (.seq (.region false [0, 4, 8, 10, 12, 13] [] [⟨some 76, none, false, .mv (.t 8)⟩,
   ⟨some 77, none, false, .bin .sub (.t 76) (.c (.int .i64 (-492148)))⟩,
   ⟨some 78, none, false, .call (.f 211) [(.t 77), (.c (.int .i64 355))]⟩,
   ⟨some 13, none, false, .mv (.t 78)⟩])
 (.seq (.seq (.region false [0, 4, 8, 10, 12, 14] [] [⟨some 79, none, false, .mv (.t 13)⟩,
   ⟨some 80, none, false, .bi .max [(.c (.int .i64 1)), (.t 79)]⟩,
   ⟨some 14, none, false, .mv (.t 80)⟩])
 (.block 1 af162L0))
 (.seq (.region false [6, 7] [] [⟨some 119, none, false, .mv (.t 12)⟩,
   ⟨some 6, none, false, .mv (.t 119)⟩,
   ⟨some 7, none, false, .mv (.c (.int .i64 0))⟩])
 .ret))))))))⟩
def af163L0 : ACode := .loop [2, 7, 9, 10]
 (.seq (.seq (.region false [2, 7, 9, 10, 30] [] [⟨some 28, none, false, .mv (.t 10)⟩,
   ⟨some 29, none, false, .mv (.t 7)⟩,
   ⟨some 30, none, false, .bin .leq (.t 28) (.t 29)⟩])
 (.cond (.t 30)
  .skip
  (.exit 0)))
 (.seq (.block 1 (.seq (.region false [2, 7, 9, 10, 11, 12] [] [⟨some 34, none, false, .mv (.t 10)⟩,
    ⟨some 35, none, false, .call (.f 214) [(.t 34)]⟩,
    ⟨some 33, none, false, .mv (.t 35)⟩,
    ⟨some 36, none, false, .ext 0 (.t 33)⟩,
    ⟨some 37, none, false, .ext 1 (.t 33)⟩,
    ⟨some 11, none, false, .new [(.int .i64 0), (.int .i64 0), (.int .i64 0)]⟩,
    ⟨none, none, false, .store 3 (.t 11) (.t 36)⟩,
    ⟨some 12, none, false, .mv (.t 37)⟩])
  (.seq (.region false [2, 7, 9, 10, 53] [] [⟨some 38, none, false, .mv (.t 12)⟩,
    ⟨some 39, none, false, .bin .eql (.t 38) (.c (.int .i64 0))⟩,
    ⟨some 40, none, false, .mv (.t 39)⟩,
    ⟨some 41, some (40, true), false, .fldaddr 1 (.t 11)⟩,
    ⟨some 42, some (40, true), false, .load false 1 (.t 41)⟩,
    ⟨some 43, some (40, true), false, .fldaddr 2 (.t 2)⟩,
    ⟨some 44, some (40, true), false, .load false 1 (.t 43)⟩,
    ⟨some 45, some (40, true), false, .bin .eql (.t 42) (.t 44)⟩,
    ⟨some 46, none, false, .pick (.t 40) (.t 45) (.c (.bool false))⟩,
    ⟨some 47, none, false, .mv (.t 46)⟩,
    ⟨some 48, some (47, true), false, .fldaddr 2 (.t 11)⟩,
    ⟨some 49, some (47, true), false, .load false 1 (.t 48)⟩,
    ⟨some 50, some (47, true), false, .fldaddr 3 (.t 2)⟩,
    ⟨some 51, some (47, true), false, .load false 1 (.t 50)⟩,
    ⟨some 52, some (47, true), false, .bin .eql (.t 49) (.t 51)⟩,
    ⟨some 53, none, false, .pick (.t 47) (.t 52) (.c (.bool false))⟩])
  (.cond (.t 53)
   (.region false [2, 7, 9, 10] [] [⟨some 54, none, false, .mv (.t 9)⟩,
     ⟨some 55, none, false, .mv (.t 10)⟩,
     ⟨some 56, none, false, .bslice [(.int .i64 0)] [(0, 1, (.t 55))] 1 1⟩,
     ⟨some 57, none, false, .bi (.append 1 8) [(.t 54), (.t 56)]⟩,
     ⟨some 9, none, false, .mv (.t 57)⟩])
   .skip))))
 (.region false [2, 7, 9, 10] [] [⟨some 31, none, false, .mv (.t 10)⟩,
   ⟨some 32, none, false, .bin .add (.t 31) (.c (.int .i64 1))⟩,
   ⟨some 10, none, false, .mv (.t 32)⟩])))
/-- civiltime/holiday.hebrewDays -/
def af163 : AFun := ⟨59, true, [.tmp 4],
 (.seq (.region false [1, 2] [] [⟨some 2, none, false, .box (.t 0)⟩,
   ⟨some 4, none, false, .mv (.c .nilSl)⟩])
 (.seq (.region false [1, 2, 5, 6] [] [⟨some 14, none, false, .mv (.t 1)⟩,
   ⟨some 15, none, false, .build [(.int .i64 0), (.int .i64 0), (.int .i64 0)] [(0, 1, (.t 14)), (1, 1, (.c (.int .i64 1))), (2, 1, (.c (.int .i64 1)))]⟩,
   ⟨some 16, none, false, .call (.f 19) [(.t 15)]⟩,
   ⟨some 13, none, false, .mv (.t 16)⟩,
   ⟨some 17, none, false, .ext 0 (.t 13)⟩,
   ⟨some 18, none, false, .ext 1 (.t 13)⟩,
   ⟨some 5, none, false, .mv (.t 17)⟩,
   ⟨some 6, none, false, .mv (.t 18)⟩])
 (.seq (.seq (.region false [1, 2, 5, 20] [] [⟨some 19, none, false, .mv (.t 6)⟩,
   ⟨some 20, none, false, .bin .neq (.t 19) (.c (.int .i64 0))⟩])
 (.cond (.t 20)
  (.seq (.region false [4] [] [⟨some 4, none, false, .mv (.c .nilSl)⟩])
  .ret)
  .skip))
 (.seq (.region false [2, 5, 7] [] [⟨some 22, none, false, .mv (.t 1)⟩,
   ⟨some 23, none, false, .build [(.int .i64 0), (.int .i64 0), (.int .i64 0)] [(0, 1, (.t 22)), (1, 1, (.c (.int .i64 12))), (2, 1, (.c (.int .i64 31)))]⟩,
   ⟨some 24, none, false, .call (.f 19) [(.t 23)]⟩,
   ⟨some 21, none, false, .mv (.t 24)⟩,
   ⟨some 25, none, false, .ext 0 (.t 21)⟩,
   ⟨some 26, none, false, .ext 1 (.t 21)⟩,
   ⟨some 7, none, false, .mv (.t 25)⟩,
   ⟨some 8, none, false, .mv (.t 26)⟩])
 (.seq (.region false [2, 5, 7, 9] [] [⟨some 9, none, false, .mv (.c .nilSl)⟩])
 (.seq (.seq (.region false [2, 7, 9, 10] [] [⟨some 27, none, false, .mv (.t 5)⟩,
   ⟨some 10, none, false, .mv (.t 27)⟩])
 (.block 0 af163L0))
 (.seq (.region false [4] [] [⟨some 58, none, false, .mv (.t 9)⟩,
   ⟨some 4, none, false, .mv (.t 58)⟩])
 .ret)))))))⟩
/-- civiltime/feast.mod -/
def af164 : AFun := ⟨12, true, [.tmp 4],
 (.seq (.region false [0, 1] [] [⟨some 4, none, false, .mv (.c (.int .i64 0))⟩])
 (.seq (.region false [4] [] [⟨some 5, none, false, .mv (.t 0)⟩,
   ⟨some 6, none, false, .mv (.t 1)⟩,
   ⟨some 7, none, false, .bin .rem (.t 5) (.t 6)⟩,
   ⟨some 8, none, false, .mv (.t 1)⟩,
   ⟨some 9, none, false, .bin .add (.t 7) (.t 8)⟩,
   ⟨some 10, none, false, .mv (.t 1)⟩,
   ⟨some 11, none, false, .bin .rem (.t 9) (.t 10)⟩,
   ⟨some 4, none, false, .mv (.t 11)⟩])
 .ret))⟩
/-- (*civiltime/holiday.reader).choice$1 -/
def af173 : AFun := ⟨12, true, [.tmp 3, .tmp 4],
 (.seq (.region false [0, 1] [] [⟨some 3, none, false, .mv (.c (.int .i64 0))⟩,
   ⟨some 4, none, false, .mv (.c (.int .i64 0))⟩])
 (.seq (.seq (.region false [5] [] [⟨some 6, none, false, .load false 1 (.t 1)⟩,
   ⟨some 7, none, false, .mv (.t 0)⟩,
   ⟨some 8, none, false, .call (.f 174) [(.t 6), (.t 7)]⟩,
   ⟨some 5, none, false, .mv (.t 8)⟩])
 (.seq (.region false [5, 10] [] [⟨some 9, none, false, .mv (.t 5)⟩,
   ⟨some 10, none, false, .bin .geq (.t 9) (.c (.int .i64 0))⟩])
 (.cond (.t 10)
  (.seq (.region false [3, 4] [] [⟨some 11, none, false, .mv (.t 5)⟩,
    ⟨some 3, none, false, .mv (.t 11)⟩,
    ⟨some 4, none, false, .mv (.c (.int .i64 0))⟩])
  .ret)
  .skip)))
 (.seq (.region false [3, 4] [] [⟨some 3, none, false, .mv (.c (.int .i64 0))⟩,
   ⟨some 4, none, false, .mv (.c (.int .i64 3))⟩])
 .ret)))⟩
def af174L0 : ACode := .loop [0, 1, 7, 8]
 (.seq (.region false [0, 1, 7, 8, 9] [] [⟨some 9, none, false, .bin .lss (.t 8) (.t 7)⟩])
 (.seq (.cond (.t 9)
  .skip
  (.exit 0))
 (.seq (.block 1 (.seq (.region false [0, 1, 5, 7, 8] [] [⟨some 10, none, false, .mv (.t 8)⟩,
    ⟨some 5, none, false, .mv (.t 10)⟩])
  (.seq (.region false [0, 1, 5, 7, 8, 16] [] [⟨some 11, none, false, .mv (.t 1)⟩,
    ⟨some 12, none, false, .mv (.t 0)⟩,
    ⟨some 13, none, false, .mv (.t 5)⟩,
    ⟨some 14, none, false, .idxaddr none 1 (.t 12) (.t 13)⟩,
    ⟨some 15, none, false, .load false 1 (.t 14)⟩,
    ⟨some 16, none, false, .bin .eql (.t 11) (.t 15)⟩])
  (.cond (.t 16)
   (.seq (.region false [4] [] [⟨some 17, none, false, .mv (.t 5)⟩,
     ⟨some 4, none, false, .mv (.t 17)⟩])
   .ret)
   .skip))))
 (.region false [0, 1, 7, 8] [] [⟨some 18, none, false, .bin .add (.t 8) (.c (.int .i64 1))⟩,
   ⟨some 8, none, false, .mv (.t 18)⟩]))))
/-- slices.Index[[]string,string] -/
def af174 : AFun := ⟨19, true, [.tmp 4],
 (.seq (.region false [0, 1] [] [⟨some 4, none, false, .mv (.c (.int .i64 0))⟩])
 (.seq (.seq (.region false [0, 1, 7, 8] [] [⟨some 6, none, false, .mv (.t 0)⟩,
   ⟨some 7, none, false, .bi (.len 1) [(.t 6)]⟩,
   ⟨some 8, none, false, .mv (.c (.int .i64 0))⟩])
 (.block 0 af174L0))
 (.seq (.region false [4] [] [⟨some 4, none, false, .mv (.c (.int .i64 (-1)))⟩])
 .ret)))⟩
/-- civiltime/zonelex.find -/
def af175 : AFun := ⟨14, true, [.tmp 4, .tmp 5],
 (.seq (.region false [0, 1] [] [⟨some 4, none, false, .mv (.c (.int .i64 0))⟩,
   ⟨some 5, none, false, .mv (.c (.int .i64 0))⟩])
 (.seq (.region false [6] [] [⟨some 7, none, false, .mv (.t 0)⟩,
   ⟨some 8, none, false, .mv (.t 1)⟩,
   ⟨some 9, none, false, .call (.f 174) [(.t 7), (.t 8)]⟩,
   ⟨some 6, none, false, .mv (.t 9)⟩])
 (.seq (.seq (.region false [6, 11] [] [⟨some 10, none, false, .mv (.t 6)⟩,
   ⟨some 11, none, false, .bin .lss (.t 10) (.c (.int .i64 0))⟩])
 (.cond (.t 11)
  (.seq (.region false [4, 5] [] [⟨some 4, none, false, .mv (.c (.int .i64 0))⟩,
    ⟨some 5, none, false, .mv (.c (.int .i64 3))⟩])
  .ret)
  .skip))
 (.seq (.region false [4, 5] [] [⟨some 12, none, false, .mv (.t 6)⟩,
   ⟨some 13, none, false, .bin .add (.t 12) (.c (.int .i64 1))⟩,
   ⟨some 4, none, false, .mv (.t 13)⟩,
   ⟨some 5, none, false, .mv (.c (.int .i64 0))⟩])
 .ret))))⟩
/-- (*civiltime/holiday.reader).number$1 -/
def af176 : AFun := ⟨8, true, [.tmp 2, .tmp 3],
 (.seq (.region false [0] [] [⟨some 2, none, false, .mv (.c (.int .i64 0))⟩,
   ⟨some 3, none, false, .mv (.c (.int .i64 0))⟩])
 (.seq (.region false [2, 3] [] [⟨some 4, none, false, .mv (.t 0)⟩,
   ⟨some 5, none, false, .call (.f 177) [(.t 4), (.c (.int .i64 (-99999))), (.c (.int .i64 99999))]⟩,
   ⟨some 6, none, false, .ext 0 (.t 5)⟩,
   ⟨some 7, none, false, .ext 1 (.t 5)⟩,
   ⟨some 2, none, false, .mv (.t 6)⟩,
   ⟨some 3, none, false, .mv (.t 7)⟩])
 .ret))⟩
def af177L0 : ACode := .loop [1, 2, 8, 9, 10, 11, 35, 36]
 (.seq (.region false [1, 2, 8, 9, 10, 11, 35, 36, 37] [] [⟨some 37, none, false, .bin .lss (.t 36) (.t 35)⟩])
 (.seq (.cond (.t 37)
  .skip
  (.exit 0))
 (.seq (.block 1 (.seq (.region false [1, 2, 8, 9, 10, 11, 12, 35, 36] [] [⟨some 38, none, false, .mv (.t 36)⟩,
    ⟨some 12, none, false, .mv (.t 38)⟩])
  (.seq (.seq (.region false [1, 2, 8, 9, 10, 11, 12, 35, 36, 43] [] [⟨some 39, none, false, .mv (.t 8)⟩,
    ⟨some 40, none, false, .mv (.t 12)⟩,
    ⟨some 41, none, false, .sidx (.t 39) (.t 40)⟩,
    ⟨some 42, none, false, .call (.f 89) [(.t 41)]⟩,
    ⟨some 43, none, false, .un .not (.t 42)⟩])
  (.cond (.t 43)
   (.seq (.region false [6, 7] [] [⟨some 6, none, false, .mv (.c (.int .i64 0))⟩,
     ⟨some 7, none, false, .mv (.c (.int .i64 3))⟩])
   .ret)
   .skip))
  (.seq (.region false [1, 2, 8, 9, 10, 11, 13, 35, 36] [] [⟨some 44, none, false, .mv (.t 8)⟩,
    ⟨some 45, none, false, .mv (.t 12)⟩,
    ⟨some 46, none, false, .sidx (.t 44) (.t 45)⟩,
    ⟨some 47, none, false, .bin .sub (.t 46) (.c (.int .u8 48))⟩,
    ⟨some 48, none, false, .conv (.int .i64) (.t 47)⟩,
    ⟨some 13, none, false, .mv (.t 48)⟩])
  (.seq (.region false [1, 2, 8, 9, 10, 11, 13, 35, 36] [] [⟨some 49, none, false, .mv (.t 11)⟩,
    ⟨some 50, none, false, .mv (.t 49)⟩,
    ⟨some 51, some (50, false), false, .mv (.t 10)⟩,
    ⟨some 52, some (50, false), false, .mv (.t 13)⟩,
    ⟨some 53, some (50, false), false, .bin .add (.c (.int .i64 (-9223372036854775808))) (.t 52)⟩,
    ⟨some 54, some (50, false), false, .bin .quo (.t 53) (.c (.int .i64 10))⟩,
    ⟨some 55, some (50, false), false, .bin .lss (.t 51) (.t 54)⟩,
    ⟨some 56, none, false, .pick (.t 50) (.c (.bool true)) (.t 55)⟩,
    ⟨some 11, none, false, .mv (.t 56)⟩])
  (.seq (.region false [1, 2, 8, 9, 10, 11, 13, 35, 36, 58] [] [⟨some 57, none, false, .mv (.t 11)⟩,
    ⟨some 58, none, false, .un .not (.t 57)⟩])
  (.cond (.t 58)
   (.region false [1, 2, 8, 9, 10, 11, 35, 36] [] [⟨some 59, none, false, .mv (.t 10)⟩,
     ⟨some 60, none, false, .bin .mul (.c (.int .i64 10)) (.t 59)⟩,
     ⟨some 61, none, false, .mv (.t 13)⟩,
     ⟨some 62, none, false, .bin .sub (.t 60) (.t 61)⟩,
     ⟨some 10, none, false, .mv (.t 62)⟩])
   .skip)))))))
 (.region false [1, 2, 8, 9, 10, 11, 35, 36] [] [⟨some 63, none, false, .bin .add (.t 36) (.c (.int .i64 1))⟩,
   ⟨some 36, none, false, .mv (.t 63)⟩]))))
/-- civiltime/zonelex.Number -/
def af177 : AFun := ⟨86, true, [.tmp 6, .tmp 7],
 (.seq (.region false [0, 1, 2] [] [⟨some 6, none, false, .mv (.c (.int .i64 0))⟩,
   ⟨some 7, none, false, .mv (.c (.int .i64 0))⟩])
 (.seq (.region false [1, 2, 8, 9] [] [⟨some 15, none, false, .mv (.t 0)⟩,
   ⟨some 16, none, false, .call (.f 222) [(.t 15), (.c (.str [45]))]⟩,
   ⟨some 14, none, false, .mv (.t 16)⟩,
   ⟨some 17, none, false, .ext 0 (.t 14)⟩,
   ⟨some 18, none, false, .ext 1 (.t 14)⟩,
   ⟨some 8, none, false, .mv (.t 17)⟩,
   ⟨some 9, none, false, .mv (.t 18)⟩])
 (.seq (.seq (.region false [1, 2, 8, 9, 33] [] [⟨some 19, none, false, .mv (.t 8)⟩,
   ⟨some 20, none, false, .bin .eql (.t 19) (.c (.str []))⟩,
   ⟨some 21, none, false, .mv (.t 20)⟩,
   ⟨some 22, some (21, false), false, .mv (.t 8)⟩,
   ⟨some 23, some (21, false), false, .sidx (.t 22) (.c (.int .i64 0))⟩,
   ⟨some 24, some (21, false), false, .bin .eql (.t 23) (.c (.int .u8 48))⟩,
   ⟨some 25, some (21, false), false, .mv (.t 24)⟩,
   ⟨some 26, some (25, true), false, .mv (.t 8)⟩,
   ⟨some 27, some (25, true), false, .bi (.len 0) [(.t 26)]⟩,
   ⟨some 28, some (25, true), false, .bin .gtr (.t 27) (.c (.int .i64 1))⟩,
   ⟨some 29, some (25, true), false, .mv (.t 28)⟩,
   ⟨some 30, some (29, false), false, .mv (.t 9)⟩,
   ⟨some 31, some (25, true), false, .pick (.t 29) (.c (.bool true)) (.t 30)⟩,
   ⟨some 32, some (21, false), false, .pick (.t 25) (.t 31) (.c (.bool false))⟩,
   ⟨some 33, none, false, .pick (.t 21) (.c (.bool true)) (.t 32)⟩])
 (.cond (.t 33)
  (.seq (.region false [6, 7] [] [⟨some 6, none, false, .mv (.c (.int .i64 0))⟩,
    ⟨some 7, none, false, .mv (.c (.int .i64 3))⟩])
  .ret)
  .skip))
 (.seq (.region false [1, 2, 8, 9, 10, 11] [] [⟨some 10, none, false, .mv (.c (.int .i64 0))⟩,
   ⟨some 11, none, false, .mv (.c (.bool false))⟩])
 (.seq (.seq (.region false [1, 2, 8, 9, 10, 11, 35, 36] [] [⟨some 34, none, false, .mv (.t 8)⟩,
   ⟨some 35, none, false, .bi (.len 0) [(.t 34)]⟩,
   ⟨some 36, none, false, .mv (.c (.int .i64 0))⟩])
 (.block 0 af177L0))
 (.seq (.seq (.region false [1, 2, 9, 10, 72] [] [⟨some 64, none, false, .mv (.t 11)⟩,
   ⟨some 65, none, false, .mv (.t 64)⟩,
   ⟨some 66, some (65, false), false, .mv (.t 9)⟩,
   ⟨some 67, some (65, false), false, .un .not (.t 66)⟩,
   ⟨some 68, some (65, false), false, .mv (.t 67)⟩,
   ⟨some 69, some (68, true), false, .mv (.t 10)⟩,
   ⟨some 70, some (68, true), false, .bin .eql (.t 69) (.c (.int .i64 (-9223372036854775808)))⟩,
   ⟨some 71, some (65, false), false, .pick (.t 68) (.t 70) (.c (.bool false))⟩,
   ⟨some 72, none, false, .pick (.t 65) (.c (.bool true)) (.t 71)⟩])
 (.cond (.t 72)
  (.seq (.region false [6, 7] [] [⟨some 6, none, false, .mv (.c (.int .i64 0))⟩,
    ⟨some 7, none, false, .mv (.c (.int .i64 2))⟩])
  .ret)
  .skip))
 (.seq (.seq (.region false [1, 2, 10, 74] [] [⟨some 73, none, false, .mv (.t 9)⟩,
   ⟨some 74, none, false, .un .not (.t 73)⟩])
 (.cond (.t 74)
  (.region false [1, 2, 10] [] [⟨some 75, none, false, .mv (.t 10)⟩,
    ⟨some 76, none, false, .un .neg (.t 75)⟩,
    ⟨some 10, none, false, .mv (.t 76)⟩])
  .skip))
 (.seq (.seq (.region false [10, 84] [] [⟨some 77, none, false, .mv (.t 10)⟩,
   ⟨some 78, none, false, .mv (.t 1)⟩,
   ⟨some 79, none, false, .bin .lss (.t 77) (.t 78)⟩,
   ⟨some 80, none, false, .mv (.t 79)⟩,
   ⟨some 81, some (80, false), false, .mv (.t 10)⟩,
   ⟨some 82, some (80, false), false, .mv (.t 2)⟩,
   ⟨some 83, some (80, false), false, .bin .gtr (.t 81) (.t 82)⟩,
   ⟨some 84, none, false, .pick (.t 80) (.c (.bool true)) (.t 83)⟩])
 (.cond (.t 84)
  (.seq (.region false [6, 7] [] [⟨some 6, none, false, .mv (.c (.int .i64 0))⟩,
    ⟨some 7, none, false, .mv (.c (.int .i64 2))⟩])
  .ret)
  .skip))
 (.seq (.region false [6, 7] [] [⟨some 85, none, false, .mv (.t 10)⟩,
   ⟨some 6, none, false, .mv (.t 85)⟩,
   ⟨some 7, none, false, .mv (.c (.int .i64 0))⟩])
 .ret)))))))))⟩
def af178L0 : ACode := .loop [0, 1, 6, 7]
 (.seq (.seq (.region false [0, 1, 6, 7, 25] [] [⟨some 22, none, false, .mv (.t 7)⟩,
   ⟨some 23, none, false, .mv (.t 1)⟩,
   ⟨some 24, none, false, .bin .sub (.t 23) (.c (.int .i64 1))⟩,
   ⟨some 25, none, false, .bin .lss (.t 22) (.t 24)⟩])
 (.cond (.t 25)
  .skip
  (.exit 0)))
 (.seq (.block 1 (.seq (.region false [0, 1, 6, 7, 9] [] [⟨some 29, none, false, .mv (.t 0)⟩,
    ⟨some 30, none, false, .call (.f 135) [(.t 29)]⟩,
    ⟨some 28, none, false, .mv (.t 30)⟩,
    ⟨some 31, none, false, .ext 0 (.t 28)⟩,
    ⟨some 32, none, false, .ext 1 (.t 28)⟩,
    ⟨some 8, none, false, .mv (.t 31)⟩,
    ⟨some 9, none, false, .mv (.t 32)⟩])
  (.seq (.region false [0, 1, 6, 7, 9] [] [⟨some 33, none, false, .mv (.t 6)⟩,
    ⟨some 34, none, false, .mv (.t 7)⟩,
    ⟨some 35, none, false, .mv (.t 0)⟩,
    ⟨some 36, none, false, .mv (.t 9)⟩,
    ⟨some 37, none, false, .slice .str (.t 35) none (some (.t 36)) none⟩,
    ⟨some 38, none, false, .idxaddr none 1 (.t 33) (.t 34)⟩,
    ⟨none, none, false, .store 1 (.t 38) (.t 37)⟩])
  (.region false [0, 1, 6, 7] [] [⟨some 39, none, false, .mv (.t 0)⟩,
    ⟨some 40, none, false, .mv (.t 9)⟩,
    ⟨some 41, none, false, .slice .str (.t 39) (some (.t 40)) none none⟩,
    ⟨some 0, none, false, .mv (.t 41)⟩]))))
 (.region false [0, 1, 6, 7] [] [⟨some 26, none, false, .mv (.t 7)⟩,
   ⟨some 27, none, false, .bin .add (.t 26) (.c (.int .i64 1))⟩,
   ⟨some 7, none, false, .mv (.t 27)⟩])))
/-- strings.explode -/
def af178 : AFun := ⟨50, true, [.tmp 4],
 (.seq (.region false [0, 1] [] [⟨some 4, none, false, .mv (.c .nilSl)⟩])
 (.seq (.region false [0, 1, 5] [] [⟨some 10, none, false, .mv (.t 0)⟩,
   ⟨some 11, none, false, .call (.f 192) [(.t 10)]⟩,
   ⟨some 5, none, false, .mv (.t 11)⟩])
 (.seq (.seq (.region false [0, 1, 5, 18] [] [⟨some 12, none, false, .mv (.t 1)⟩,
   ⟨some 13, none, false, .bin .lss (.t 12) (.c (.int .i64 0))⟩,
   ⟨some 14, none, false, .mv (.t 13)⟩,
   ⟨some 15, some (14, false), false, .mv (.t 1)⟩,
   ⟨some 16, some (14, false), false, .mv (.t 5)⟩,
   ⟨some 17, some (14, false), false, .bin .gtr (.t 15) (.t 16)⟩,
   ⟨some 18, none, false, .pick (.t 14) (.c (.bool true)) (.t 17)⟩])
 (.cond (.t 18)
  (.region false [0, 1] [] [⟨some 19, none, false, .mv (.t 5)⟩,
    ⟨some 1, none, false, .mv (.t 19)⟩])
  .skip))
 (.seq (.region false [0, 1, 6] [] [⟨some 20, none, false, .mv (.t 1)⟩,
   ⟨some 21, none, false, .mkslice [(.str [])] 16 (.t 20) (.t 20)⟩,
   ⟨some 6, none, false, .mv (.t 21)⟩])
 (.seq (.seq (.region false [0, 1, 6, 7] [] [⟨some 7, none, false, .mv (.c (.int .i64 0))⟩])
 (.block 0 af178L0))
 (.seq (.seq (.region false [0, 1, 6, 43] [] [⟨some 42, none, false, .mv (.t 1)⟩,
   ⟨some 43, none, false, .bin .gtr (.t 42) (.c (.int .i64 0))⟩])
 (.cond (.t 43)
  (.region false [6] [] [⟨some 44, none, false, .mv (.t 6)⟩,
    ⟨some 45, none, false, .mv (.t 1)⟩,
    ⟨some 46, none, false, .bin .sub (.t 45) (.c (.int .i64 1))⟩,
    ⟨some 47, none, false, .mv (.t 0)⟩,
    ⟨some 48, none, false, .idxaddr none 1 (.t 44) (.t 46)⟩,
    ⟨none, none, false, .store 1 (.t 48) (.t 47)⟩])
  .skip))
 (.seq (.region false [4] [] [⟨some 49, none, false, .mv (.t 6)⟩,
   ⟨some 4, none, false, .mv (.t 49)⟩])
 .ret)))))))⟩
def af179L0 : ACode := .loop [0, 1, 2, 3, 8, 9]
 (.seq (.seq (.region true [0, 1, 2, 3, 8, 9, 34] [] [⟨some 18, none, false, .mv (.t 9)⟩,
   ⟨some 19, none, false, .mv (.t 1)⟩,
   ⟨some 20, none, false, .bin .gtr (.t 18) (.t 19)⟩,
   ⟨some 21, none, false, .mv (.t 20)⟩,
   ⟨some 22, some (21, true), false, .mv (.t 3)⟩,
   ⟨some 23, some (21, true), false, .mv (.t 0)⟩,
   ⟨some 24, some (21, true), false, .mv (.t 9)⟩,
   ⟨some 25, some (21, true), false, .idxaddr none 2 (.t 23) (.t 24)⟩,
   ⟨some 26, some (21, true), false, .load true 2 (.t 25)⟩,
   ⟨some 27, some (21, true), false, .mv (.t 0)⟩,
   ⟨some 28, some (21, true), false, .mv (.t 9)⟩,
   ⟨some 29, some (21, true), false, .bin .sub (.t 28) (.c (.int .i64 1))⟩,
   ⟨some 30, some (21, true), false, .idxaddr none 2 (.t 27) (.t 29)⟩,
   ⟨some 31, some (21, true), false, .load true 2 (.t 30)⟩,
   ⟨some 32, some (21, true), false, .call (.t 22) [(.t 26), (.t 31)]⟩,
   ⟨some 33, some (21, true), false, .bin .lss (.t 32) (.c (.int .i64 0))⟩,
   ⟨some 34, none, false, .pick (.t 21) (.t 33) (.c (.bool false))⟩])
 (.cond (.t 34)
  .skip
  (.exit 2)))
 (.seq (.block 3 (.region true [0, 1, 2, 3, 8, 9] [] [⟨some 37, none, false, .mv (.t 0)⟩,
    ⟨some 38, none, false, .mv (.t 9)⟩,
    ⟨some 39, none, false, .mv (.t 0)⟩,
    ⟨some 40, none, false, .mv (.t 9)⟩,
    ⟨some 41, none, false, .bin .sub (.t 40) (.c (.int .i64 1))⟩,
    ⟨some 42, none, false, .mv (.t 0)⟩,
    ⟨some 43, none, false, .mv (.t 9)⟩,
    ⟨some 44, none, false, .bin .sub (.t 43) (.c (.int .i64 1))⟩,
    ⟨some 45, none, false, .idxaddr none 2 (.t 42) (.t 44)⟩,
    ⟨some 46, none, false, .load true 2 (.t 45)⟩,
    ⟨some 47, none, false, .mv (.t 0)⟩,
    ⟨some 48, none, false, .mv (.t 9)⟩,
    ⟨some 49, none, false, .idxaddr none 2 (.t 47) (.t 48)⟩,
    ⟨some 50, none, false, .load true 2 (.t 49)⟩,
    ⟨some 51, none, false, .idxaddr none 2 (.t 37) (.t 38)⟩,
    ⟨none, none, false, .store 2 (.t 51) (.t 46)⟩,
    ⟨some 52, none, false, .idxaddr none 2 (.t 39) (.t 41)⟩,
    ⟨none, none, false, .store 2 (.t 52) (.t 50)⟩]))
 (.region false [0, 1, 2, 3, 8, 9] [] [⟨some 35, none, false, .mv (.t 9)⟩,
   ⟨some 36, none, false, .bin .sub (.t 35) (.c (.int .i64 1))⟩,
   ⟨some 9, none, false, .mv (.t 36)⟩])))
def af179L1 : ACode := .loop [0, 1, 2, 3, 8]
 (.seq (.seq (.region false [0, 1, 2, 3, 8, 14] [] [⟨some 12, none, false, .mv (.t 8)⟩,
   ⟨some 13, none, false, .mv (.t 2)⟩,
   ⟨some 14, none, false, .bin .lss (.t 12) (.t 13)⟩])
 (.cond (.t 14)
  .skip
  (.exit 0)))
 (.seq (.block 1 (.seq (.region false [0, 1, 2, 3, 8, 9] [] [⟨some 17, none, false, .mv (.t 8)⟩,
    ⟨some 9, none, false, .mv (.t 17)⟩])
  (.block 2 af179L0)))
 (.region false [0, 1, 2, 3, 8] [] [⟨some 15, none, false, .mv (.t 8)⟩,
   ⟨some 16, none, false, .bin .add (.t 15) (.c (.int .i64 1))⟩,
   ⟨some 8, none, false, .mv (.t 16)⟩])))
/-- slices.insertionSortCmpFunc[civiltime/api.HolidayDay] -/
def af179 : AFun := ⟨53, true, [],
 (.seq (.region false [0, 1, 2, 3, 8] [] [⟨some 10, none, false, .mv (.t 1)⟩,
   ⟨some 11, none, false, .bin .add (.t 10) (.c (.int .i64 1))⟩,
   ⟨some 8, none, false, .mv (.t 11)⟩])
 (.block 0 af179L1))⟩
def af180L0 : ACode := .loop [0, 3, 8, 9, 10, 11]
 (.seq (.seq (.region false [0, 3, 8, 9, 10, 11, 21] [] [⟨some 20, none, false, .mv (.t 11)⟩,
   ⟨some 21, none, false, .bin .geq (.t 20) (.c (.int .i64 0))⟩])
 (.cond (.t 21)
  .skip
  (.exit 0)))
 (.seq (.block 1 (.region false [0, 3, 8, 9, 10, 11] [] [⟨some 24, none, false, .mv (.t 0)⟩,
    ⟨some 25, none, false, .mv (.t 11)⟩,
    ⟨some 26, none, false, .mv (.t 10)⟩,
    ⟨some 27, none, false, .mv (.t 8)⟩,
    ⟨some 28, none, false, .mv (.t 3)⟩,
    ⟨some 29, none, false, .call (.f 223) [(.t 24), (.t 25), (.t 26), (.t 27), (.t 28)]⟩]))
 (.region false [0, 3, 8, 9, 10, 11] [] [⟨some 22, none, false, .mv (.t 11)⟩,
   ⟨some 23, none, false, .bin .sub (.t 22) (.c (.int .i64 1))⟩,
   ⟨some 11, none, false, .mv (.t 23)⟩])))
def af180L1 : ACode := .loop [0, 3, 8, 9, 12]
 (.seq (.seq (.region false [0, 3, 8, 9, 12, 33] [] [⟨some 32, none, false, .mv (.t 12)⟩,
   ⟨some 33, none, false, .bin .geq (.t 32) (.c (.int .i64 0))⟩])
 (.cond (.t 33)
  .skip
  (.exit 2)))
 (.seq (.block 3 (.seq (.region true [0, 3, 8, 9, 12] [] [⟨some 36, none, false, .mv (.t 0)⟩,
    ⟨some 37, none, false, .mv (.t 8)⟩,
    ⟨some 38, none, false, .mv (.t 0)⟩,
    ⟨some 39, none, false, .mv (.t 8)⟩,
    ⟨some 40, none, false, .mv (.t 12)⟩,
    ⟨some 41, none, false, .bin .add (.t 39) (.t 40)⟩,
    ⟨some 42, none, false, .mv (.t 0)⟩,
    ⟨some 43, none, false, .mv (.t 8)⟩,
    ⟨some 44, none, false, .mv (.t 12)⟩,
    ⟨some 45, none, false, .bin .add (.t 43) (.t 44)⟩,
    ⟨some 46, none, false, .idxaddr none 2 (.t 42) (.t 45)⟩,
    ⟨some 47, none, false, .load true 2 (.t 46)⟩,
    ⟨some 48, none, false, .mv (.t 0)⟩,
    ⟨some 49, none, false, .mv (.t 8)⟩,
    ⟨some 50, none, false, .idxaddr none 2 (.t 48) (.t 49)⟩,
    ⟨some 51, none, false, .load true 2 (.t 50)⟩,
    ⟨some 52, none, false, .idxaddr none 2 (.t 36) (.t 37)⟩,
    ⟨none, none, false, .store 2 (.t 52) (.t 47)⟩,
    ⟨some 53, none, false, .idxaddr none 2 (.t 38) (.t 41)⟩,
    ⟨none, none, false, .store 2 (.t 53) (.t 51)⟩])
  (.region false [0, 3, 8, 9, 12] [] [⟨some 54, none, false, .mv (.t 0)⟩,
    ⟨some 55, none, false, .mv (.t 9)⟩,
    ⟨some 56, none, false, .mv (.t 12)⟩,
    ⟨some 57, none, false, .mv (.t 8)⟩,
    ⟨some 58, none, false, .mv (.t 3)⟩,
    ⟨some 59, none, false, .call (.f 223) [(.t 54), (.t 55), (.t 56), (.t 57), (.t 58)]⟩])))
 (.region false [0, 3, 8, 9, 12] [] [⟨some 34, none, false, .mv (.t 12)⟩,
   ⟨some 35, none, false, .bin .sub (.t 34) (.c (.int .i64 1))⟩,
   ⟨some 12, none, false, .mv (.t 35)⟩])))
/-- slices.heapSortCmpFunc[civiltime/api.HolidayDay] -/
def af180 : AFun := ⟨60, true, [],
 (.seq (.region false [0, 1, 2, 3, 8] [] [⟨some 13, none, false, .mv (.t 1)⟩,
   ⟨some 8, none, false, .mv (.t 13)⟩])
 (.seq (.region false [0, 1, 2, 3, 8, 9] [] [⟨some 9, none, false, .mv (.c (.int .i64 0))⟩])
 (.seq (.region false [0, 3, 8, 9, 10] [] [⟨some 14, none, false, .mv (.t 2)⟩,
   ⟨some 15, none, false, .mv (.t 1)⟩,
   ⟨some 16, none, false, .bin .sub (.t 14) (.t 15)⟩,
   ⟨some 10, none, false, .mv (.t 16)⟩])
 (.seq (.seq (.region false [0, 3, 8, 9, 10, 11] [] [⟨some 17, none, false, .mv (.t 10)⟩,
   ⟨some 18, none, false, .bin .sub (.t 17) (.c (.int .i64 1))⟩,
   ⟨some 19, none, false, .bin .quo (.t 18) (.c (.int .i64 2))⟩,
   ⟨some 11, none, false, .mv (.t 19)⟩])
 (.block 0 af180L0))
 (.seq (.region false [0, 3, 8, 9, 12] [] [⟨some 30, none, false, .mv (.t 10)⟩,
   ⟨some 31, none, false, .bin .sub (.t 30) (.c (.int .i64 1))⟩,
   ⟨some 12, none, false, .mv (.t 31)⟩])
 (.block 2 af180L1))))))⟩
def af181L0 : ACode := .loop [0, 1, 8, 9, 10, 11]
 (.seq (.seq (.region false [0, 1, 8, 9, 10, 11, 35] [] [⟨some 28, none, false, .mv (.t 11)⟩,
   ⟨some 29, none, false, .mv (.t 1)⟩,
   ⟨some 30, none, false, .mv (.t 8)⟩,
   ⟨some 31, none, false, .bin .quo (.t 30) (.c (.int .i64 4))⟩,
   ⟨some 32, none, false, .bin .mul (.t 31) (.c (.int .i64 2))⟩,
   ⟨some 33, none, false, .bin .add (.t 29) (.t 32)⟩,
   ⟨some 34, none, false, .bin .add (.t 33) (.c (.int .i64 1))⟩,
   ⟨some 35, none, false, .bin .leq (.t 28) (.t 34)⟩])
 (.cond (.t 35)
  .skip
  (.exit 0)))
 (.seq (.block 1 (.seq (.region false [0, 1, 8, 9, 10, 11, 12] [] [⟨some 38, none, false, .call (.f 225) [(.t 9)]⟩,
    ⟨some 39, none, false, .mv (.t 10)⟩,
    ⟨some 40, none, false, .bin .sub (.t 39) (.c (.int .u64 1))⟩,
    ⟨some 41, none, false, .bin .and (.t 38) (.t 40)⟩,
    ⟨some 42, none, false, .conv (.int .i64) (.t 41)⟩,
    ⟨some 12, none, false, .mv (.t 42)⟩])
  (.seq (.seq (.region false [0, 1, 8, 9, 10, 11, 12, 45] [] [⟨some 43, none, false, .mv (.t 12)⟩,
    ⟨some 44, none, false, .mv (.t 8)⟩,
    ⟨some 45, none, false, .bin .geq (.t 43) (.t 44)⟩])
  (.cond (.t 45)
   (.region false [0, 1, 8, 9, 10, 11, 12] [] [⟨some 46, none, false, .mv (.t 12)⟩,
     ⟨some 47, none, false, .mv (.t 8)⟩,
     ⟨some 48, none, false, .bin .sub (.t 46) (.t 47)⟩,
     ⟨some 12, none, false, .mv (.t 48)⟩])
   .skip))
  (.region true [0, 1, 8, 9, 10, 11] [] [⟨some 49, none, false, .mv (.t 0)⟩,
    ⟨some 50, none, false, .mv (.t 11)⟩,
    ⟨some 51, none, false, .mv (.t 0)⟩,
    ⟨some 52, none, false, .mv (.t 1)⟩,
    ⟨some 53, none, false, .mv (.t 12)⟩,
    ⟨some 54, none, false, .bin .add (.t 52) (.t 53)⟩,
    ⟨some 55, none, false, .mv (.t 0)⟩,
    ⟨some 56, none, false, .mv (.t 1)⟩,
    ⟨some 57, none, false, .mv (.t 12)⟩,
    ⟨some 58, none, false, .bin .add (.t 56) (.t 57)⟩,
    ⟨some 59, none, false, .idxaddr none 2 (.t 55) (.t 58)⟩,
    ⟨some 60, none, false, .load true 2 (.t 59)⟩,
    ⟨some 61, none, false, .mv (.t 0)⟩,
    ⟨some 62, none, false, .mv (.t 11)⟩,
    ⟨some 63, none, false, .idxaddr none 2 (.t 61) (.t 62)⟩,
    ⟨some 64, none, false, .load true 2 (.t 63)⟩,
    ⟨some 65, none, false, .idxaddr none 2 (.t 49) (.t 50)⟩,
    ⟨none, none, false, .store 2 (.t 65) (.t 60)⟩,
    ⟨some 66, none, false, .idxaddr none 2 (.t 51) (.t 54)⟩,
    ⟨none, none, false, .store 2 (.t 66) (.t 64)⟩]))))
 (.region false [0, 1, 8, 9, 10, 11] [] [⟨some 36, none, false, .mv (.t 11)⟩,
   ⟨some 37, none, false, .bin .add (.t 36) (.c (.int .i64 1))⟩,
   ⟨some 11, none, false, .mv (.t 37)⟩])))
/-- slices.breakPatternsCmpFunc[civiltime/api.HolidayDay] -/
def af181 : AFun := ⟨67, true, [],
 (.seq (.region false [0, 1, 8] [] [⟨some 13, none, false, .mv (.t 2)⟩,
   ⟨some 14, none, false, .mv (.t 1)⟩,
   ⟨some 15, none, false, .bin .sub (.t 13) (.t 14)⟩,
   ⟨some 8, none, false, .mv (.t 15)⟩])
 (.seq (.region false [0, 1, 8, 17] [] [⟨some 16, none, false, .mv (.t 8)⟩,
   ⟨some 17, none, false, .bin .geq (.t 16) (.c (.int .i64 8))⟩])
 (.cond (.t 17)
  (.seq (.region false [0, 1, 8, 9] [] [⟨some 18, none, false, .mv (.t 8)⟩,
    ⟨some 19, none, false, .conv (.int .u64) (.t 18)⟩,
    ⟨some 9, none, false, .new [(.int .u64 0)]⟩,
    ⟨none, none, false, .store 1 (.t 9) (.t 19)⟩])
  (.seq (.region false [0, 1, 8, 9, 10] [] [⟨some 20, none, false, .mv (.t 8)⟩,
    ⟨some 21, none, false, .call (.f 224) [(.t 20)]⟩,
    ⟨some 10, none, false, .mv (.t 21)⟩])
  (.seq (.region false [0, 1, 8, 9, 10, 11] [] [⟨some 22, none, false, .mv (.t 1)⟩,
    ⟨some 23, none, false, .mv (.t 8)⟩,
    ⟨some 24, none, false, .bin .quo (.t 23) (.c (.int .i64 4))⟩,
    ⟨some 25, none, false, .bin .mul (.t 24) (.c (.int .i64 2))⟩,
    ⟨some 26, none, false, .bin .add (.t 22) (.t 25)⟩,
    ⟨some 27, none, false, .bin .sub (.t 26) (.c (.int .i64 1))⟩,
    ⟨some 11, none, false, .mv (.t 27)⟩])
  (.block 0 af181L0))))
  .skip)))⟩
/-- slices.choosePivotCmpFunc[civiltime/api.HolidayDay] -/
def af182 : AFun := ⟨63, true, [.tmp 8, .tmp 9],
 (.seq (.region false [0, 1, 2, 3] [] [⟨some 8, none, false, .mv (.c (.int .i64 0))⟩,
   ⟨some 9, none, false, .mv (.c (.int .i64 0))⟩])
 (.seq (.region false [0, 1, 3, 10] [] [⟨some 15, none, false, .mv (.t 2)⟩,
   ⟨some 16, none, false, .mv (.t 1)⟩,
   ⟨some 17, none, false, .bin .sub (.t 15) (.t 16)⟩,
   ⟨some 10, none, false, .mv (.t 17)⟩])
 (.seq (.region false [0, 1, 3, 10, 11] [] [⟨some 11, none, false, .new [(.int .i64 0)]⟩])
 (.seq (.region false [0, 1, 3, 10, 11, 12] [] [⟨some 18, none, false, .mv (.t 1)⟩,
   ⟨some 19, none, false, .mv (.t 10)⟩,
   ⟨some 20, none, false, .bin .quo (.t 19) (.c (.int .i64 4))⟩,
   ⟨some 21, none, false, .bin .mul (.t 20) (.c (.int .i64 1))⟩,
   ⟨some 22, none, false, .bin .add (.t 18) (.t 21)⟩,
   ⟨some 12, none, false, .mv (.t 22)⟩])
 (.seq (.region false [0, 1, 3, 10, 11, 12, 13] [] [⟨some 23, none, false, .mv (.t 1)⟩,
   ⟨some 24, none, false, .mv (.t 10)⟩,
   ⟨some 25, none, false, .bin .quo (.t 24) (.c (.int .i64 4))⟩,
   ⟨some 26, none, false, .bin .mul (.t 25) (.c (.int .i64 2))⟩,
   ⟨some 27, none, false, .bin .add (.t 23) (.t 26)⟩,
   ⟨some 13, none, false, .mv (.t 27)⟩])
 (.seq (.region false [0, 3, 10, 11, 12, 13, 14] [] [⟨some 28, none, false, .mv (.t 1)⟩,
   ⟨some 29, none, false, .mv (.t 10)⟩,
   ⟨some 30, none, false, .bin .quo (.t 29) (.c (.int .i64 4))⟩,
   ⟨some 31, none, false, .bin .mul (.t 30) (.c (.int .i64 3))⟩,
   ⟨some 32, none, false, .bin .add (.t 28) (.t 31)⟩,
   ⟨some 14, none, false, .mv (.t 32)⟩])
 (.seq (.seq (.region false [0, 3, 10, 11, 12, 13, 14, 34] [] [⟨some 33, none, false, .mv (.t 10)⟩,
   ⟨some 34, none, false, .bin .geq (.t 33) (.c (.int .i64 8))⟩])
 (.cond (.t 34)
  (.seq (.seq (.region false [0, 3, 11, 12, 13, 14, 36] [] [⟨some 35, none, false, .mv (.t 10)⟩,
    ⟨some 36, none, false, .bin .geq (.t 35) (.c (.int .i64 50))⟩])
  (.cond (.t 36)
   (.seq (.region false [0, 3, 11, 12, 13, 14] [] [⟨some 37, none, false, .mv (.t 0)⟩,
     ⟨some 38, none, false, .mv (.t 12)⟩,
     ⟨some 39, none, false, .mv (.t 3)⟩,
     ⟨some 40, none, false, .call (.f 226) [(.t 37), (.t 38), (.t 11), (.t 39)]⟩,
     ⟨some 12, none, false, .mv (.t 40)⟩])
   (.seq (.region false [0, 3, 11, 12, 13, 14] [] [⟨some 41, none, false, .mv (.t 0)⟩,
     ⟨some 42, none, false, .mv (.t 13)⟩,
     ⟨some 43, none, false, .mv (.t 3)⟩,
     ⟨some 44, none, false, .call (.f 226) [(.t 41), (.t 42), (.t 11), (.t 43)]⟩,
     ⟨some 13, none, false, .mv (.t 44)⟩])
   (.region false [0, 3, 11, 12, 13, 14] [] [⟨some 45, none, false, .mv (.t 0)⟩,
     ⟨some 46, none, false, .mv (.t 14)⟩,
     ⟨some 47, none, false, .mv (.t 3)⟩,
     ⟨some 48, none, false, .call (.f 226) [(.t 45), (.t 46), (.t 11), (.t 47)]⟩,
     ⟨some 14, none, false, .mv (.t 48)⟩])))
   .skip))
  (.region false [11, 13] [] [⟨some 49, none, false, .mv (.t 0)⟩,
    ⟨some 50, none, false, .mv (.t 12)⟩,
    ⟨some 51, none, false, .mv (.t 13)⟩,
    ⟨some 52, none, false, .mv (.t 14)⟩,
    ⟨some 53, none, false, .mv (.t 3)⟩,
    ⟨some 54, none, false, .call (.f 227) [(.t 49), (.t 50), (.t 51), (.t 52), (.t 11), (.t 53)]⟩,
    ⟨some 13, none, false, .mv (.t 54)⟩]))
  .skip))
 (.seq (.region false [13, 55] [] [⟨some 55, none, false, .load false 1 (.t 11)⟩])
 (.block 0 (.seq (.region false [13, 55, 57] [] [⟨some 58, none, false, .bin .eql (.t 55) (.c (.int .i64 0))⟩,
    ⟨some 57, none, false, .mv (.t 58)⟩])
  (.cond (.t 57)
   (.seq (.region false [8, 9] [] [⟨some 59, none, false, .mv (.t 13)⟩,
     ⟨some 8, none, false, .mv (.t 59)⟩,
     ⟨some 9, none, false, .mv (.c (.int .i64 1))⟩])
   .ret)
   (.seq (.region false [13, 60] [] [⟨some 61, none, false, .bin .eql (.t 55) (.c (.int .i64 12))⟩,
     ⟨some 60, none, false, .mv (.t 61)⟩])
   (.cond (.t 60)
    (.seq (.region false [8, 9] [] [⟨some 62, none, false, .mv (.t 13)⟩,
      ⟨some 8, none, false, .mv (.t 62)⟩,
      ⟨some 9, none, false, .mv (.c (.int .i64 2))⟩])
    .ret)
    (.seq (.region false [8, 9] [] [⟨some 56, none, false, .mv (.t 13)⟩,
      ⟨some 8, none, false, .mv (.t 56)⟩,
      ⟨some 9, none, false, .mv (.c (.int .i64 0))⟩])
    .ret))))))))))))))⟩
def af183L0 : ACode := .loop [0, 8, 9]
 (.seq (.seq (.region false [0, 8, 9, 15] [] [⟨some 13, none, false, .mv (.t 8)⟩,
   ⟨some 14, none, false, .mv (.t 9)⟩,
   ⟨some 15, none, false, .bin .lss (.t 13) (.t 14)⟩])
 (.cond (.t 15)
  .skip
  (.exit 0)))
 (.block 1 (.seq (.region true [0, 8, 9] [] [⟨some 16, none, false, .mv (.t 0)⟩,
    ⟨some 17, none, false, .mv (.t 8)⟩,
    ⟨some 18, none, false, .mv (.t 0)⟩,
    ⟨some 19, none, false, .mv (.t 9)⟩,
    ⟨some 20, none, false, .mv (.t 0)⟩,
    ⟨some 21, none, false, .mv (.t 9)⟩,
    ⟨some 22, none, false, .idxaddr none 2 (.t 20) (.t 21)⟩,
    ⟨some 23, none, false, .load true 2 (.t 22)⟩,
    ⟨some 24, none, false, .mv (.t 0)⟩,
    ⟨some 25, none, false, .mv (.t 8)⟩,
    ⟨some 26, none, false, .idxaddr none 2 (.t 24) (.t 25)⟩,
    ⟨some 27, none, false, .load true 2 (.t 26)⟩,
    ⟨some 28, none, false, .idxaddr none 2 (.t 16) (.t 17)⟩,
    ⟨none, none, false, .store 2 (.t 28) (.t 23)⟩,
    ⟨some 29, none, false, .idxaddr none 2 (.t 18) (.t 19)⟩,
    ⟨none, none, false, .store 2 (.t 29) (.t 27)⟩])
  (.seq (.region false [0, 8, 9] [] [⟨some 30, none, false, .mv (.t 8)⟩,
    ⟨some 31, none, false, .bin .add (.t 30) (.c (.int .i64 1))⟩,
    ⟨some 8, none, false, .mv (.t 31)⟩])
  (.region false [0, 8, 9] [] [⟨some 32, none, false, .mv (.t 9)⟩,
    ⟨some 33, none, false, .bin .sub (.t 32) (.c (.int .i64 1))⟩,
    ⟨some 9, none, false, .mv (.t 33)⟩])))))
/-- slices.reverseRangeCmpFunc[civiltime/api.HolidayDay] -/
def af183 : AFun := ⟨34, true, [],
 (.seq (.region false [0, 2, 8] [] [⟨some 10, none, false, .mv (.t 1)⟩,
   ⟨some 8, none, false, .mv (.t 10)⟩])
 (.seq (.region false [0, 8, 9] [] [⟨some 11, none, false, .mv (.t 2)⟩,
   ⟨some 12, none, false, .bin .sub (.t 11) (.c (.int .i64 1))⟩,
   ⟨some 9, none, false, .mv (.t 12)⟩])
 (.block 0 af183L0)))⟩
def af184L0 : ACode := .loop [0, 1, 2, 3, 9, 10]
 (.seq (.seq (.region true [0, 1, 2, 3, 9, 10, 36] [] [⟨some 19, none, false, .mv (.t 9)⟩,
   ⟨some 20, none, false, .mv (.t 2)⟩,
   ⟨some 21, none, false, .bin .lss (.t 19) (.t 20)⟩,
   ⟨some 22, none, false, .mv (.t 21)⟩,
   ⟨some 23, some (22, true), false, .mv (.t 3)⟩,
   ⟨some 24, some (22, true), false, .mv (.t 0)⟩,
   ⟨some 25, some (22, true), false, .mv (.t 9)⟩,
   ⟨some 26, some (22, true), false, .idxaddr none 2 (.t 24) (.t 25)⟩,
   ⟨some 27, some (22, true), false, .load true 2 (.t 26)⟩,
   ⟨some 28, some (22, true), false, .mv (.t 0)⟩,
   ⟨some 29, some (22, true), false, .mv (.t 9)⟩,
   ⟨some 30, some (22, true), false, .bin .sub (.t 29) (.c (.int .i64 1))⟩,
   ⟨some 31, some (22, true), false, .idxaddr none 2 (.t 28) (.t 30)⟩,
   ⟨some 32, some (22, true), false, .load true 2 (.t 31)⟩,
   ⟨some 33, some (22, true), false, .call (.t 23) [(.t 27), (.t 32)]⟩,
   ⟨some 34, some (22, true), false, .bin .lss (.t 33) (.c (.int .i64 0))⟩,
   ⟨some 35, some (22, true), false, .un .not (.t 34)⟩,
   ⟨some 36, none, false, .pick (.t 22) (.t 35) (.c (.bool false))⟩])
 (.cond (.t 36)
  .skip
  (.exit 2)))
 (.block 3 (.region false [0, 1, 2, 3, 9, 10] [] [⟨some 37, none, false, .mv (.t 9)⟩,
    ⟨some 38, none, false, .bin .add (.t 37) (.c (.int .i64 1))⟩,
    ⟨some 9, none, false, .mv (.t 38)⟩])))
def af184L1 : ACode := .loop [0, 1, 2, 3, 9, 10, 11]
 (.seq (.seq (.region false [0, 1, 2, 3, 9, 10, 11, 69] [] [⟨some 68, none, false, .mv (.t 11)⟩,
   ⟨some 69, none, false, .bin .geq (.t 68) (.c (.int .i64 1))⟩])
 (.cond (.t 69)
  .skip
  (.exit 4)))
 (.seq (.block 5 (.seq (.seq (.region true [0, 1, 2, 3, 9, 10, 11, 84] [] [⟨some 72, none, false, .mv (.t 3)⟩,
    ⟨some 73, none, false, .mv (.t 0)⟩,
    ⟨some 74, none, false, .mv (.t 11)⟩,
    ⟨some 75, none, false, .idxaddr none 2 (.t 73) (.t 74)⟩,
    ⟨some 76, none, false, .load true 2 (.t 75)⟩,
    ⟨some 77, none, false, .mv (.t 0)⟩,
    ⟨some 78, none, false, .mv (.t 11)⟩,
    ⟨some 79, none, false, .bin .sub (.t 78) (.c (.int .i64 1))⟩,
    ⟨some 80, none, false, .idxaddr none 2 (.t 77) (.t 79)⟩,
    ⟨some 81, none, false, .load true 2 (.t 80)⟩,
    ⟨some 82, none, false, .call (.t 72) [(.t 76), (.t 81)]⟩,
    ⟨some 83, none, false, .bin .lss (.t 82) (.c (.int .i64 0))⟩,
    ⟨some 84, none, false, .un .not (.t 83)⟩])
  (.cond (.t 84)
   (.exit 4)
   .skip))
  (.region true [0, 1, 2, 3, 9, 10, 11] [] [⟨some 85, none, false, .mv (.t 0)⟩,
    ⟨some 86, none, false, .mv (.t 11)⟩,
    ⟨some 87, none, false, .mv (.t 0)⟩,
    ⟨some 88, none, false, .mv (.t 11)⟩,
    ⟨some 89, none, false, .bin .sub (.t 88) (.c (.int .i64 1))⟩,
    ⟨some 90, none, false, .mv (.t 0)⟩,
    ⟨some 91, none, false, .mv (.t 11)⟩,
    ⟨some 92, none, false, .bin .sub (.t 91) (.c (.int .i64 1))⟩,
    ⟨some 93, none, false, .idxaddr none 2 (.t 90) (.t 92)⟩,
    ⟨some 94, none, false, .load true 2 (.t 93)⟩,
    ⟨some 95, none, false, .mv (.t 0)⟩,
    ⟨some 96, none, false, .mv (.t 11)⟩,
    ⟨some 97, none, false, .idxaddr none 2 (.t 95) (.t 96)⟩,
    ⟨some 98, none, false, .load true 2 (.t 97)⟩,
    ⟨some 99, none, false, .idxaddr none 2 (.t 85) (.t 86)⟩,
    ⟨none, none, false, .store 2 (.t 99) (.t 94)⟩,
    ⟨some 100, none, false, .idxaddr none 2 (.t 87) (.t 89)⟩,
    ⟨none, none, false, .store 2 (.t 100) (.t 98)⟩])))
 (.region false [0, 1, 2, 3, 9, 10, 11] [] [⟨some 70, none, false, .mv (.t 11)⟩,
   ⟨some 71, none, false, .bin .sub (.t 70) (.c (.int .i64 1))⟩,
   ⟨some 11, none, false, .mv (.t 71)⟩])))
def af184L2 : ACode := .loop [0, 1, 2, 3, 9, 10, 12]
 (.seq (.seq (.region false [0, 1, 2, 3, 9, 10, 12, 109] [] [⟨some 107, none, false, .mv (.t 12)⟩,
   ⟨some 108, none, false, .mv (.t 2)⟩,
   ⟨some 109, none, false, .bin .lss (.t 107) (.t 108)⟩])
 (.cond (.t 109)
  .skip
  (.exit 6)))
 (.seq (.block 7 (.seq (.seq (.region true [0, 1, 2, 3, 9, 10, 12, 124] [] [⟨some 112, none, false, .mv (.t 3)⟩,
    ⟨some 113, none, false, .mv (.t 0)⟩,
    ⟨some 114, none, false, .mv (.t 12)⟩,
    ⟨some 115, none, false, .idxaddr none 2 (.t 113) (.t 114)⟩,
    ⟨some 116, none, false, .load true 2 (.t 115)⟩,
    ⟨some 117, none, false, .mv (.t 0)⟩,
    ⟨some 118, none, false, .mv (.t 12)⟩,
    ⟨some 119, none, false, .bin .sub (.t 118) (.c (.int .i64 1))⟩,
    ⟨some 120, none, false, .idxaddr none 2 (.t 117) (.t 119)⟩,
    ⟨some 121, none, false, .load true 2 (.t 120)⟩,
    ⟨some 122, none, false, .call (.t 112) [(.t 116), (.t 121)]⟩,
    ⟨some 123, none, false, .bin .lss (.t 122) (.c (.int .i64 0))⟩,
    ⟨some 124, none, false, .un .not (.t 123)⟩])
  (.cond (.t 124)
   (.exit 6)
   .skip))
  (.region true [0, 1, 2, 3, 9, 10, 12] [] [⟨some 125, none, false, .mv (.t 0)⟩,
    ⟨some 126, none, false, .mv (.t 12)⟩,
    ⟨some 127, none, false, .mv (.t 0)⟩,
    ⟨some 128, none, false, .mv (.t 12)⟩,
    ⟨some 129, none, false, .bin .sub (.t 128) (.c (.int .i64 1))⟩,
    ⟨some 130, none, false, .mv (.t 0)⟩,
    ⟨some 131, none, false, .mv (.t 12)⟩,
    ⟨some 132, none, false, .bin .sub (.t 131) (.c (.int .i64 1))⟩,
    ⟨some 133, none, false, .idxaddr none 2 (.t 130) (.t 132)⟩,
    ⟨some 134, none, false, .load true 2 (.t 133)⟩,
    ⟨some 135, none, false, .mv (.t 0)⟩,
    ⟨some 136, none, false, .mv (.t 12)⟩,
    ⟨some 137, none, false, .idxaddr none 2 (.t 135) (.t 136)⟩,
    ⟨some 138, none, false, .load true 2 (.t 137)⟩,
    ⟨some 139, none, false, .idxaddr none 2 (.t 125) (.t 126)⟩,
    ⟨none, none, false, .store 2 (.t 139) (.t 134)⟩,
    ⟨some 140, none, false, .idxaddr none 2 (.t 127) (.t 129)⟩,
    ⟨none, none, false, .store 2 (.t 140) (.t 138)⟩])))
 (.region false [0, 1, 2, 3, 9, 10, 12] [] [⟨some 110, none, false, .mv (.t 12)⟩,
   ⟨some 111, none, false, .bin .add (.t 110) (.c (.int .i64 1))⟩,
   ⟨some 12, none, false, .mv (.t 111)⟩])))
def af184L3 : ACode := .loop [0, 1, 2, 3, 9, 10]
 (.seq (.seq (.region false [0, 1, 2, 3, 9, 10, 16] [] [⟨some 15, none, false, .mv (.t 10)⟩,
   ⟨some 16, none, false, .bin .lss (.t 15) (.c (.int .i64 5))⟩])
 (.cond (.t 16)
  .skip
  (.exit 0)))
 (.seq (.block 1 (.seq (.block 2 af184L0)
  (.seq (.seq (.region false [0, 1, 2, 3, 9, 10, 41] [] [⟨some 39, none, false, .mv (.t 9)⟩,
    ⟨some 40, none, false, .mv (.t 2)⟩,
    ⟨some 41, none, false, .bin .eql (.t 39) (.t 40)⟩])
  (.cond (.t 41)
   (.seq (.region false [8] [] [⟨some 8, none, false, .mv (.c (.bool true))⟩])
   .ret)
   .skip))
  (.seq (.seq (.region false [0, 1, 2, 3, 9, 10, 45] [] [⟨some 42, none, false, .mv (.t 2)⟩,
    ⟨some 43, none, false, .mv (.t 1)⟩,
    ⟨some 44, none, false, .bin .sub (.t 42) (.t 43)⟩,
    ⟨some 45, none, false, .bin .lss (.t 44) (.c (.int .i64 50))⟩])
  (.cond (.t 45)
   (.seq (.region false [8] [] [⟨some 8, none, false, .mv (.c (.bool false))⟩])
   .ret)
   .skip))
  (.seq (.region true [0, 1, 2, 3, 9, 10] [] [⟨some 46, none, false, .mv (.t 0)⟩,
    ⟨some 47, none, false, .mv (.t 9)⟩,
    ⟨some 48, none, false, .mv (.t 0)⟩,
    ⟨some 49, none, false, .mv (.t 9)⟩,
    ⟨some 50, none, false, .bin .sub (.t 49) (.c (.int .i64 1))⟩,
    ⟨some 51, none, false, .mv (.t 0)⟩,
    ⟨some 52, none, false, .mv (.t 9)⟩,
    ⟨some 53, none, false, .bin .sub (.t 52) (.c (.int .i64 1))⟩,
    ⟨some 54, none, false, .idxaddr none 2 (.t 51) (.t 53)⟩,
    ⟨some 55, none, false, .load true 2 (.t 54)⟩,
    ⟨some 56, none, false, .mv (.t 0)⟩,
    ⟨some 57, none, false, .mv (.t 9)⟩,
    ⟨some 58, none, false, .idxaddr none 2 (.t 56) (.t 57)⟩,
    ⟨some 59, none, false, .load true 2 (.t 58)⟩,
    ⟨some 60, none, false, .idxaddr none 2 (.t 46) (.t 47)⟩,
    ⟨none, none, false, .store 2 (.t 60) (.t 55)⟩,
    ⟨some 61, none, false, .idxaddr none 2 (.t 48) (.t 50)⟩,
    ⟨none, none, false, .store 2 (.t 61) (.t 59)⟩])
  (.seq (.seq (.region false [0, 1, 2, 3, 9, 10, 65] [] [⟨some 62, none, false, .mv (.t 9)⟩,
    ⟨some 63, none, false, .mv (.t 1)⟩,
    ⟨some 64, none, false, .bin .sub (.t 62) (.t 63)⟩,
    ⟨some 65, none, false, .bin .geq (.t 64) (.c (.int .i64 2))⟩])
  (.cond (.t 65)
   (.seq (.region false [0, 1, 2, 3, 9, 10, 11] [] [⟨some 66, none, false, .mv (.t 9)⟩,
     ⟨some 67, none, false, .bin .sub (.t 66) (.c (.int .i64 1))⟩,
     ⟨some 11, none, false, .mv (.t 67)⟩])
   (.block 4 af184L1))
   .skip))
  (.seq (.region false [0, 1, 2, 3, 9, 10, 104] [] [⟨some 101, none, false, .mv (.t 2)⟩,
    ⟨some 102, none, false, .mv (.t 9)⟩,
    ⟨some 103, none, false, .bin .sub (.t 101) (.t 102)⟩,
    ⟨some 104, none, false, .bin .geq (.t 103) (.c (.int .i64 2))⟩])
  (.cond (.t 104)
   (.seq (.region false [0, 1, 2, 3, 9, 10, 12] [] [⟨some 105, none, false, .mv (.t 9)⟩,
     ⟨some 106, none, false, .bin .add (.t 105) (.c (.int .i64 1))⟩,
     ⟨some 12, none, false, .mv (.t 106)⟩])
   (.block 6 af184L2))
   .skip))))))))
 (.region false [0, 1, 2, 3, 9, 10] [] [⟨some 17, none, false, .mv (.t 10)⟩,
   ⟨some 18, none, false, .bin .add (.t 17) (.c (.int .i64 1))⟩,
   ⟨some 10, none, false, .mv (.t 18)⟩])))
/-- slices.partialInsertionSortCmpFunc[civiltime/api.HolidayDay] -/
def af184 : AFun := ⟨141, true, [.tmp 8],
 (.seq (.region false [0, 1, 2, 3] [] [⟨some 8, none, false, .mv (.c (.bool false))⟩])
 (.seq (.region false [0, 1, 2, 3, 9] [] [⟨some 13, none, false, .mv (.t 1)⟩,
   ⟨some 14, none, false, .bin .add (.t 13) (.c (.int .i64 1))⟩,
   ⟨some 9, none, false, .mv (.t 14)⟩])
 (.seq (.seq (.region false [0, 1, 2, 3, 9, 10] [] [⟨some 10, none, false, .mv (.c (.int .i64 0))⟩])
 (.block 0 af184L3))
 (.seq (.region false [8] [] [⟨some 8, none, false, .mv (.c (.bool false))⟩])
 .ret))))⟩
def af185L0 : ACode := .loop [0, 1, 4, 11, 12]
 (.seq (.seq (.region true [0, 1, 4, 11, 12, 47] [] [⟨some 31, none, false, .mv (.t 11)⟩,
   ⟨some 32, none, false, .mv (.t 12)⟩,
   ⟨some 33, none, false, .bin .leq (.t 31) (.t 32)⟩,
   ⟨some 34, none, false, .mv (.t 33)⟩,
   ⟨some 35, some (34, true), false, .mv (.t 4)⟩,
   ⟨some 36, some (34, true), false, .mv (.t 0)⟩,
   ⟨some 37, some (34, true), false, .mv (.t 1)⟩,
   ⟨some 38, some (34, true), false, .idxaddr none 2 (.t 36) (.t 37)⟩,
   ⟨some 39, some (34, true), false, .load true 2 (.t 38)⟩,
   ⟨some 40, some (34, true), false, .mv (.t 0)⟩,
   ⟨some 41, some (34, true), false, .mv (.t 11)⟩,
   ⟨some 42, some (34, true), false, .idxaddr none 2 (.t 40) (.t 41)⟩,
   ⟨some 43, some (34, true), false, .load true 2 (.t 42)⟩,
   ⟨some 44, some (34, true), false, .call (.t 35) [(.t 39), (.t 43)]⟩,
   ⟨some 45, some (34, true), false, .bin .lss (.t 44) (.c (.int .i64 0))⟩,
   ⟨some 46, some (34, true), false, .un .not (.t 45)⟩,
   ⟨some 47, none, false, .pick (.t 34) (.t 46) (.c (.bool false))⟩])
 (.cond (.t 47)
  .skip
  (.exit 2)))
 (.block 3 (.region false [0, 1, 4, 11, 12] [] [⟨some 48, none, false, .mv (.t 11)⟩,
    ⟨some 49, none, false, .bin .add (.t 48) (.c (.int .i64 1))⟩,
    ⟨some 11, none, false, .mv (.t 49)⟩])))
def af185L1 : ACode := .loop [0, 1, 4, 11, 12]
 (.seq (.seq (.region true [0, 1, 4, 11, 12, 65] [] [⟨some 50, none, false, .mv (.t 11)⟩,
   ⟨some 51, none, false, .mv (.t 12)⟩,
   ⟨some 52, none, false, .bin .leq (.t 50) (.t 51)⟩,
   ⟨some 53, none, false, .mv (.t 52)⟩,
   ⟨some 54, some (53, true), false, .mv (.t 4)⟩,
   ⟨some 55, some (53, true), false, .mv (.t 0)⟩,
   ⟨some 56, some (53, true), false, .mv (.t 1)⟩,
   ⟨some 57, some (53, true), false, .idxaddr none 2 (.t 55) (.t 56)⟩,
   ⟨some 58, some (53, true), false, .load true 2 (.t 57)⟩,
   ⟨some 59, some (53, true), false, .mv (.t 0)⟩,
   ⟨some 60, some (53, true), false, .mv (.t 12)⟩,
   ⟨some 61, some (53, true), false, .idxaddr none 2 (.t 59) (.t 60)⟩,
   ⟨some 62, some (53, true), false, .load true 2 (.t 61)⟩,
   ⟨some 63, some (53, true), false, .call (.t 54) [(.t 58), (.t 62)]⟩,
   ⟨some 64, some (53, true), false, .bin .lss (.t 63) (.c (.int .i64 0))⟩,
   ⟨some 65, none, false, .pick (.t 53) (.t 64) (.c (.bool false))⟩])
 (.cond (.t 65)
  .skip
  (.exit 4)))
 (.block 5 (.region false [0, 1, 4, 11, 12] [] [⟨some 66, none, false, .mv (.t 12)⟩,
    ⟨some 67, none, false, .bin .sub (.t 66) (.c (.int .i64 1))⟩,
    ⟨some 12, none, false, .mv (.t 67)⟩])))
def af185L2 : ACode := .loop [0, 1, 4, 11, 12]
 (.block 1 (.seq (.block 2 af185L0)
  (.seq (.block 4 af185L1)
  (.seq (.seq (.region false [0, 1, 4, 11, 12, 70] [] [⟨some 68, none, false, .mv (.t 11)⟩,
    ⟨some 69, none, false, .mv (.t 12)⟩,
    ⟨some 70, none, false, .bin .gtr (.t 68) (.t 69)⟩])
  (.cond (.t 70)
   (.exit 0)
   .skip))
  (.seq (.region true [0, 1, 4, 11, 12] [] [⟨some 71, none, false, .mv (.t 0)⟩,
    ⟨some 72, none, false, .mv (.t 11)⟩,
    ⟨some 73, none, false, .mv (.t 0)⟩,
    ⟨some 74, none, false, .mv (.t 12)⟩,
    ⟨some 75, none, false, .mv (.t 0)⟩,
    ⟨some 76, none, false, .mv (.t 12)⟩,
    ⟨some 77, none, false, .idxaddr none 2 (.t 75) (.t 76)⟩,
    ⟨some 78, none, false, .load true 2 (.t 77)⟩,
    ⟨some 79, none, false, .mv (.t 0)⟩,
    ⟨some 80, none, false, .mv (.t 11)⟩,
    ⟨some 81, none, false, .idxaddr none 2 (.t 79) (.t 80)⟩,
    ⟨some 82, none, false, .load true 2 (.t 81)⟩,
    ⟨some 83, none, false, .idxaddr none 2 (.t 71) (.t 72)⟩,
    ⟨none, none, false, .store 2 (.t 83) (.t 78)⟩,
    ⟨some 84, none, false, .idxaddr none 2 (.t 73) (.t 74)⟩,
    ⟨none, none, false, .store 2 (.t 84) (.t 82)⟩])
  (.seq (.region false [0, 1, 4, 11, 12] [] [⟨some 85, none, false, .mv (.t 11)⟩,
    ⟨some 86, none, false, .bin .add (.t 85) (.c (.int .i64 1))⟩,
    ⟨some 11, none, false, .mv (.t 86)⟩])
  (.region false [0, 1, 4, 11, 12] [] [⟨some 87, none, false, .mv (.t 12)⟩,
    ⟨some 88, none, false, .bin .sub (.t 87) (.c (.int .i64 1))⟩,
    ⟨some 12, none, false, .mv (.t 88)⟩])))))))
/-- slices.partitionEqualCmpFunc[civiltime/api.HolidayDay] -/
def af185 : AFun := ⟨90, true, [.tmp 10],
 (.seq (.region false [0, 1, 2, 3, 4] [] [⟨some 10, none, false, .mv (.c (.int .i64 0))⟩])
 (.seq (.region true [0, 1, 2, 4] [] [⟨some 13, none, false, .mv (.t 0)⟩,
   ⟨some 14, none, false, .mv (.t 1)⟩,
   ⟨some 15, none, false, .mv (.t 0)⟩,
   ⟨some 16, none, false, .mv (.t 3)⟩,
   ⟨some 17, none, false, .mv (.t 0)⟩,
   ⟨some 18, none, false, .mv (.t 3)⟩,
   ⟨some 19, none, false, .idxaddr none 2 (.t 17) (.t 18)⟩,
   ⟨some 20, none, false, .load true 2 (.t 19)⟩,
   ⟨some 21, none, false, .mv (.t 0)⟩,
   ⟨some 22, none, false, .mv (.t 1)⟩,
   ⟨some 23, none, false, .idxaddr none 2 (.t 21) (.t 22)⟩,
   ⟨some 24, none, false, .load true 2 (.t 23)⟩,
   ⟨some 25, none, false, .idxaddr none 2 (.t 13) (.t 14)⟩,
   ⟨none, none, false, .store 2 (.t 25) (.t 20)⟩,
   ⟨some 26, none, false, .idxaddr none 2 (.t 15) (.t 16)⟩,
   ⟨none, none, false, .store 2 (.t 26) (.t 24)⟩])
 (.seq (.region false [0, 1, 4, 11, 12] [] [⟨some 27, none, false, .mv (.t 1)⟩,
   ⟨some 28, none, false, .bin .add (.t 27) (.c (.int .i64 1))⟩,
   ⟨some 29, none, false, .mv (.t 2)⟩,
   ⟨some 30, none, false, .bin .sub (.t 29) (.c (.int .i64 1))⟩,
   ⟨some 11, none, false, .mv (.t 28)⟩,
   ⟨some 12, none, false, .mv (.t 30)⟩])
 (.seq (.block 0 af185L2)
 (.seq (.region false [10] [] [⟨some 89, none, false, .mv (.t 11)⟩,
   ⟨some 10, none, false, .mv (.t 89)⟩])
 .ret)))))⟩
def af186L0 : ACode := .loop [0, 1, 4, 12, 13]
 (.seq (.seq (.region true [0, 1, 4, 12, 13, 47] [] [⟨some 32, none, false, .mv (.t 12)⟩,
   ⟨some 33, none, false, .mv (.t 13)⟩,
   ⟨some 34, none, false, .bin .leq (.t 32) (.t 33)⟩,
   ⟨some 35, none, false, .mv (.t 34)⟩,
   ⟨some 36, some (35, true), false, .mv (.t 4)⟩,
   ⟨some 37, some (35, true), false, .mv (.t 0)⟩,
   ⟨some 38, some (35, true), false, .mv (.t 12)⟩,
   ⟨some 39, some (35, true), false, .idxaddr none 2 (.t 37) (.t 38)⟩,
   ⟨some 40, some (35, true), false, .load true 2 (.t 39)⟩,
   ⟨some 41, some (35, true), false, .mv (.t 0)⟩,
   ⟨some 42, some (35, true), false, .mv (.t 1)⟩,
   ⟨some 43, some (35, true), false, .idxaddr none 2 (.t 41) (.t 42)⟩,
   ⟨some 44, some (35, true), false, .load true 2 (.t 43)⟩,
   ⟨some 45, some (35, true), false, .call (.t 36) [(.t 40), (.t 44)]⟩,
   ⟨some 46, some (35, true), false, .bin .lss (.t 45) (.c (.int .i64 0))⟩,
   ⟨some 47, none, false, .pick (.t 35) (.t 46) (.c (.bool false))⟩])
 (.cond (.t 47)
  .skip
  (.exit 0)))
 (.block 1 (.region false [0, 1, 4, 12, 13] [] [⟨some 48, none, false, .mv (.t 12)⟩,
    ⟨some 49, none, false, .bin .add (.t 48) (.c (.int .i64 1))⟩,
    ⟨some 12, none, false, .mv (.t 49)⟩])))
def af186L1 : ACode := .loop [0, 1, 4, 12, 13]
 (.seq (.seq (.region true [0, 1, 4, 12, 13, 66] [] [⟨some 50, none, false, .mv (.t 12)⟩,
   ⟨some 51, none, false, .mv (.t 13)⟩,
   ⟨some 52, none, false, .bin .leq (.t 50) (.t 51)⟩,
   ⟨some 53, none, false, .mv (.t 52)⟩,
   ⟨some 54, some (53, true), false, .mv (.t 4)⟩,
   ⟨some 55, some (53, true), false, .mv (.t 0)⟩,
   ⟨some 56, some (53, true), false, .mv (.t 13)⟩,
   ⟨some 57, some (53, true), false, .idxaddr none 2 (.t 55) (.t 56)⟩,
   ⟨some 58, some (53, true), false, .load true 2 (.t 57)⟩,
   ⟨some 59, some (53, true), false, .mv (.t 0)⟩,
   ⟨some 60, some (53, true), false, .mv (.t 1)⟩,
   ⟨some 61, some (53, true), false, .idxaddr none 2 (.t 59) (.t 60)⟩,
   ⟨some 62, some (53, true), false, .load true 2 (.t 61)⟩,
   ⟨some 63, some (53, true), false, .call (.t 54) [(.t 58), (.t 62)]⟩,
   ⟨some 64, some (53, true), false, .bin .lss (.t 63) (.c (.int .i64 0))⟩,
   ⟨some 65, some (53, true), false, .un .not (.t 64)⟩,
   ⟨some 66, none, false, .pick (.t 53) (.t 65) (.c (.bool false))⟩])
 (.cond (.t 66)
  .skip
  (.exit 2)))
 (.block 3 (.region false [0, 1, 4, 12, 13] [] [⟨some 67, none, false, .mv (.t 13)⟩,
    ⟨some 68, none, false, .bin .sub (.t 67) (.c (.int .i64 1))⟩,
    ⟨some 13, none, false, .mv (.t 68)⟩])))
def af186L2 : ACode := .loop [0, 1, 4, 12, 13]
 (.seq (.seq (.region true [0, 1, 4, 12, 13, 120] [] [⟨some 105, none, false, .mv (.t 12)⟩,
   ⟨some 106, none, false, .mv (.t 13)⟩,
   ⟨some 107, none, false, .bin .leq (.t 105) (.t 106)⟩,
   ⟨some 108, none, false, .mv (.t 107)⟩,
   ⟨some 109, some (108, true), false, .mv (.t 4)⟩,
   ⟨some 110, some (108, true), false, .mv (.t 0)⟩,
   ⟨some 111, some (108, true), false, .mv (.t 12)⟩,
   ⟨some 112, some (108, true), false, .idxaddr none 2 (.t 110) (.t 111)⟩,
   ⟨some 113, some (108, true), false, .load true 2 (.t 112)⟩,
   ⟨some 114, some (108, true), false, .mv (.t 0)⟩,
   ⟨some 115, some (108, true), false, .mv (.t 1)⟩,
   ⟨some 116, some (108, true), false, .idxaddr none 2 (.t 114) (.t 115)⟩,
   ⟨some 117, some (108, true), false, .load true 2 (.t 116)⟩,
   ⟨some 118, some (108, true), false, .call (.t 109) [(.t 113), (.t 117)]⟩,
   ⟨some 119, some (108, true), false, .bin .lss (.t 118) (.c (.int .i64 0))⟩,
   ⟨some 120, none, false, .pick (.t 108) (.t 119) (.c (.bool false))⟩])
 (.cond (.t 120)
  .skip
  (.exit 6)))
 (.block 7 (.region false [0, 1, 4, 12, 13] [] [⟨some 121, none, false, .mv (.t 12)⟩,
    ⟨some 122, none, false, .bin .add (.t 121) (.c (.int .i64 1))⟩,
    ⟨some 12, none, false, .mv (.t 122)⟩])))
def af186L3 : ACode := .loop [0, 1, 4, 12, 13]
 (.seq (.seq (.region true [0, 1, 4, 12, 13, 139] [] [⟨some 123, none, false, .mv (.t 12)⟩,
   ⟨some 124, none, false, .mv (.t 13)⟩,
   ⟨some 125, none, false, .bin .leq (.t 123) (.t 124)⟩,
   ⟨some 126, none, false, .mv (.t 125)⟩,
   ⟨some 127, some (126, true), false, .mv (.t 4)⟩,
   ⟨some 128, some (126, true), false, .mv (.t 0)⟩,
   ⟨some 129, some (126, true), false, .mv (.t 13)⟩,
   ⟨some 130, some (126, true), false, .idxaddr none 2 (.t 128) (.t 129)⟩,
   ⟨some 131, some (126, true), false, .load true 2 (.t 130)⟩,
   ⟨some 132, some (126, true), false, .mv (.t 0)⟩,
   ⟨some 133, some (126, true), false, .mv (.t 1)⟩,
   ⟨some 134, some (126, true), false, .idxaddr none 2 (.t 132) (.t 133)⟩,
   ⟨some 135, some (126, true), false, .load true 2 (.t 134)⟩,
   ⟨some 136, some (126, true), false, .call (.t 127) [(.t 131), (.t 135)]⟩,
   ⟨some 137, some (126, true), false, .bin .lss (.t 136) (.c (.int .i64 0))⟩,
   ⟨some 138, some (126, true), false, .un .not (.t 137)⟩,
   ⟨some 139, none, false, .pick (.t 126) (.t 138) (.c (.bool false))⟩])
 (.cond (.t 139)
  .skip
  (.exit 8)))
 (.block 9 (.region false [0, 1, 4, 12, 13] [] [⟨some 140, none, false, .mv (.t 13)⟩,
    ⟨some 141, none, false, .bin .sub (.t 140) (.c (.int .i64 1))⟩,
    ⟨some 13, none, false, .mv (.t 141)⟩])))
def af186L4 : ACode := .loop [0, 1, 4, 12, 13]
 (.block 5 (.seq (.block 6 af186L2)
  (.seq (.block 8 af186L3)
  (.seq (.seq (.region false [0, 1, 4, 12, 13, 144] [] [⟨some 142, none, false, .mv (.t 12)⟩,
    ⟨some 143, none, false, .mv (.t 13)⟩,
    ⟨some 144, none, false, .bin .gtr (.t 142) (.t 143)⟩])
  (.cond (.t 144)
   (.exit 4)
   .skip))
  (.seq (.region true [0, 1, 4, 12, 13] [] [⟨some 145, none, false, .mv (.t 0)⟩,
    ⟨some 146, none, false, .mv (.t 12)⟩,
    ⟨some 147, none, false, .mv (.t 0)⟩,
    ⟨some 148, none, false, .mv (.t 13)⟩,
    ⟨some 149, none, false, .mv (.t 0)⟩,
    ⟨some 150, none, false, .mv (.t 13)⟩,
    ⟨some 151, none, false, .idxaddr none 2 (.t 149) (.t 150)⟩,
    ⟨some 152, none, false, .load true 2 (.t 151)⟩,
    ⟨some 153, none, false, .mv (.t 0)⟩,
    ⟨some 154, none, false, .mv (.t 12)⟩,
    ⟨some 155, none, false, .idxaddr none 2 (.t 153) (.t 154)⟩,
    ⟨some 156, none, false, .load true 2 (.t 155)⟩,
    ⟨some 157, none, false, .idxaddr none 2 (.t 145) (.t 146)⟩,
    ⟨none, none, false, .store 2 (.t 157) (.t 152)⟩,
    ⟨some 158, none, false, .idxaddr none 2 (.t 147) (.t 148)⟩,
    ⟨none, none, false, .store 2 (.t 158) (.t 156)⟩])
  (.seq (.region false [0, 1, 4, 12, 13] [] [⟨some 159, none, false, .mv (.t 12)⟩,
    ⟨some 160, none, false, .bin .add (.t 159) (.c (.int .i64 1))⟩,
    ⟨some 12, none, false, .mv (.t 160)⟩])
  (.region false [0, 1, 4, 12, 13] [] [⟨some 161, none, false, .mv (.t 13)⟩,
    ⟨some 162, none, false, .bin .sub (.t 161) (.c (.int .i64 1))⟩,
    ⟨some 13, none, false, .mv (.t 162)⟩])))))))
/-- slices.partitionCmpFunc[civiltime/api.HolidayDay] -/
def af186 : AFun := ⟨178, true, [.tmp 10, .tmp 11],
 (.seq (.region false [0, 1, 2, 3, 4] [] [⟨some 10, none, false, .mv (.c (.int .i64 0))⟩,
   ⟨some 11, none, false, .mv (.c (.bool false))⟩])
 (.seq (.region true [0, 1, 2, 4] [] [⟨some 14, none, false, .mv (.t 0)⟩,
   ⟨some 15, none, false, .mv (.t 1)⟩,
   ⟨some 16, none, false, .mv (.t 0)⟩,
   ⟨some 17, none, false, .mv (.t 3)⟩,
   ⟨some 18, none, false, .mv (.t 0)⟩,
   ⟨some 19, none, false, .mv (.t 3)⟩,
   ⟨some 20, none, false, .idxaddr none 2 (.t 18) (.t 19)⟩,
   ⟨some 21, none, false, .load true 2 (.t 20)⟩,
   ⟨some 22, none, false, .mv (.t 0)⟩,
   ⟨some 23, none, false, .mv (.t 1)⟩,
   ⟨some 24, none, false, .idxaddr none 2 (.t 22) (.t 23)⟩,
   ⟨some 25, none, false, .load true 2 (.t 24)⟩,
   ⟨some 26, none, false, .idxaddr none 2 (.t 14) (.t 15)⟩,
   ⟨none, none, false, .store 2 (.t 26) (.t 21)⟩,
   ⟨some 27, none, false, .idxaddr none 2 (.t 16) (.t 17)⟩,
   ⟨none, none, false, .store 2 (.t 27) (.t 25)⟩])
 (.seq (.region false [0, 1, 4, 12, 13] [] [⟨some 28, none, false, .mv (.t 1)⟩,
   ⟨some 29, none, false, .bin .add (.t 28) (.c (.int .i64 1))⟩,
   ⟨some 30, none, false, .mv (.t 2)⟩,
   ⟨some 31, none, false, .bin .sub (.t 30) (.c (.int .i64 1))⟩,
   ⟨some 12, none, false, .mv (.t 29)⟩,
   ⟨some 13, none, false, .mv (.t 31)⟩])
 (.seq (.block 0 af186L0)
 (.seq (.block 2 af186L1)
 (.seq (.seq (.region false [0, 1, 4, 12, 13, 71] [] [⟨some 69, none, false, .mv (.t 12)⟩,
   ⟨some 70, none, false, .mv (.t 13)⟩,
   ⟨some 71, none, false, .bin .gtr (.t 69) (.t 70)⟩])
 (.cond (.t 71)
  (.seq (.region true [13] [] [⟨some 72, none, false, .mv (.t 0)⟩,
    ⟨some 73, none, false, .mv (.t 13)⟩,
    ⟨some 74, none, false, .mv (.t 0)⟩,
    ⟨some 75, none, false, .mv (.t 1)⟩,
    ⟨some 76, none, false, .mv (.t 0)⟩,
    ⟨some 77, none, false, .mv (.t 1)⟩,
    ⟨some 78, none, false, .idxaddr none 2 (.t 76) (.t 77)⟩,
    ⟨some 79, none, false, .load true 2 (.t 78)⟩,
    ⟨some 80, none, false, .mv (.t 0)⟩,
    ⟨some 81, none, false, .mv (.t 13)⟩,
    ⟨some 82, none, false, .idxaddr none 2 (.t 80) (.t 81)⟩,
    ⟨some 83, none, false, .load true 2 (.t 82)⟩,
    ⟨some 84, none, false, .idxaddr none 2 (.t 72) (.t 73)⟩,
    ⟨none, none, false, .store 2 (.t 84) (.t 79)⟩,
    ⟨some 85, none, false, .idxaddr none 2 (.t 74) (.t 75)⟩,
    ⟨none, none, false, .store 2 (.t 85) (.t 83)⟩])
  (.seq (.region false [10, 11] [] [⟨some 86, none, false, .mv (.t 13)⟩,
    ⟨some 10, none, false, .mv (.t 86)⟩,
    ⟨some 11, none, false, .mv (.c (.bool true))⟩])
  .ret))
  .skip))
 (.seq (.region true [0, 1, 4, 12, 13] [] [⟨some 87, none, false, .mv (.t 0)⟩,
   ⟨some 88, none, false, .mv (.t 12)⟩,
   ⟨some 89, none, false, .mv (.t 0)⟩,
   ⟨some 90, none, false, .mv (.t 13)⟩,
   ⟨some 91, none, false, .mv (.t 0)⟩,
   ⟨some 92, none, false, .mv (.t 13)⟩,
   ⟨some 93, none, false, .idxaddr none 2 (.t 91) (.t 92)⟩,
   ⟨some 94, none, false, .load true 2 (.t 93)⟩,
   ⟨some 95, none, false, .mv (.t 0)⟩,
   ⟨some 96, none, false, .mv (.t 12)⟩,
   ⟨some 97, none, false, .idxaddr none 2 (.t 95) (.t 96)⟩,
   ⟨some 98, none, false, .load true 2 (.t 97)⟩,
   ⟨some 99, none, false, .idxaddr none 2 (.t 87) (.t 88)⟩,
   ⟨none, none, false, .store 2 (.t 99) (.t 94)⟩,
   ⟨some 100, none, false, .idxaddr none 2 (.t 89) (.t 90)⟩,
   ⟨none, none, false, .store 2 (.t 100) (.t 98)⟩])
 (.seq (.region false [0, 1, 4, 12, 13] [] [⟨some 101, none, false, .mv (.t 12)⟩,
   ⟨some 102, none, false, .bin .add (.t 101) (.c (.int .i64 1))⟩,
   ⟨some 12, none, false, .mv (.t 102)⟩])
 (.seq (.region false [0, 1, 4, 12, 13] [] [⟨some 103, none, false, .mv (.t 13)⟩,
   ⟨some 104, none, false, .bin .sub (.t 103) (.c (.int .i64 1))⟩,
   ⟨some 13, none, false, .mv (.t 104)⟩])
 (.seq (.block 4 af186L4)
 (.seq (.region true [13] [] [⟨some 163, none, false, .mv (.t 0)⟩,
   ⟨some 164, none, false, .mv (.t 13)⟩,
   ⟨some 165, none, false, .mv (.t 0)⟩,
   ⟨some 166, none, false, .mv (.t 1)⟩,
   ⟨some 167, none, false, .mv (.t 0)⟩,
   ⟨some 168, none, false, .mv (.t 1)⟩,
   ⟨some 169, none, false, .idxaddr none 2 (.t 167) (.t 168)⟩,
   ⟨some 170, none, false, .load true 2 (.t 169)⟩,
   ⟨some 171, none, false, .mv (.t 0)⟩,
   ⟨some 172, none, false, .mv (.t 13)⟩,
   ⟨some 173, none, false, .idxaddr none 2 (.t 171) (.t 172)⟩,
   ⟨some 174, none, false, .load true 2 (.t 173)⟩,
   ⟨some 175, none, false, .idxaddr none 2 (.t 163) (.t 164)⟩,
   ⟨none, none, false, .store 2 (.t 175) (.t 170)⟩,
   ⟨some 176, none, false, .idxaddr none 2 (.t 165) (.t 166)⟩,
   ⟨none, none, false, .store 2 (.t 176) (.t 174)⟩])
 (.seq (.region false [10, 11] [] [⟨some 177, none, false, .mv (.t 13)⟩,
   ⟨some 10, none, false, .mv (.t 177)⟩,
   ⟨some 11, none, false, .mv (.c (.bool false))⟩])
 .ret))))))))))))⟩
/-- math/bits.Len32 -/
def af187 : AFun := ⟨19, true, [.tmp 2],
 (.seq (.region false [0, 2] [] [⟨some 2, none, false, .mv (.c (.int .i64 0))⟩])
 (.seq (.seq (.region false [0, 2, 4] [] [⟨some 3, none, false, .mv (.t 0)⟩,
   ⟨some 4, none, false, .bin .geq (.t 3) (.c (.int .u32 65536))⟩])
 (.cond (.t 4)
  (.seq (.region false [0] [] [⟨some 5, none, false, .mv (.t 0)⟩,
    ⟨some 6, none, false, .bin .shr (.t 5) (.c (.int .u64 16))⟩,
    ⟨some 0, none, false, .mv (.t 6)⟩])
  (.region false [0, 2] [] [⟨some 2, none, false, .mv (.c (.int .i64 16))⟩]))
  .skip))
 (.seq (.seq (.region false [0, 2, 8] [] [⟨some 7, none, false, .mv (.t 0)⟩,
   ⟨some 8, none, false, .bin .geq (.t 7) (.c (.int .u32 256))⟩])
 (.cond (.t 8)
  (.seq (.region false [0, 2] [] [⟨some 9, none, false, .mv (.t 0)⟩,
    ⟨some 10, none, false, .bin .shr (.t 9) (.c (.int .u64 8))⟩,
    ⟨some 0, none, false, .mv (.t 10)⟩])
  (.region false [0, 2] [] [⟨some 11, none, false, .mv (.t 2)⟩,
    ⟨some 12, none, false, .bin .add (.t 11) (.c (.int .i64 8))⟩,
    ⟨some 2, none, false, .mv (.t 12)⟩]))
  .skip))
 (.seq (.region false [2] [] [⟨some 13, none, false, .mv (.t 2)⟩,
   ⟨some 14, none, false, .mv (.t 0)⟩,
   ⟨some 15, none, false, .conv (.int .u8) (.t 14)⟩,
   ⟨some 16, none, false, .sidx (.c (.str [0, 1, 2, 2, 3, 3, 3, 3, 4, 4, 4, 4, 4, 4, 4, 4, 5, 5, 5, 5, 5, 5, 5, 5, 5, 5, 5, 5, 5, 5, 5, 5, 6, 6, 6, 6, 6, 6, 6, 6, 6, 6, 6, 6, 6, 6, 6, 6, 6, 6, 6, 6, 6, 6, 6, 6, 6, 6, 6, 6, 6, 6, 6, 6, 7, 7, 7, 7, 7, 7, 7, 7, 7, 7, 7, 7, 7, 7, 7, 7, 7, 7, 7, 7, 7, 7, 7, 7, 7, 7, 7, 7, 7, 7, 7, 7, 7, 7, 7, 7, 7, 7, 7, 7, 7, 7, 7, 7, 7, 7, 7, 7, 7, 7, 7, 7, 7, 7, 7, 7, 7, 7, 7, 7, 7, 7, 7, 7, 8, 8, 8, 8, 8, 8, 8, 8, 8, 8, 8, 8, 8, 8, 8, 8, 8, 8, 8, 8, 8, 8, 8, 8, 8, 8, 8, 8, 8, 8, 8, 8, 8, 8, 8, 8, 8, 8, 8, 8, 8, 8, 8, 8, 8, 8, 8, 8, 8, 8, 8, 8, 8, 8, 8, 8, 8, 8, 8, 8, 8, 8, 8, 8, 8, 8, 8, 8, 8, 8, 8, 8, 8, 8, 8, 8, 8, 8, 8, 8, 8, 8, 8, 8, 8, 8, 8, 8, 8, 8, 8, 8, 8, 8, 8, 8, 8, 8, 8, 8, 8, 8, 8, 8, 8, 8, 8, 8, 8, 8, 8, 8, 8, 8, 8, 8, 8, 8, 8, 8, 8, 8, 8, 8, 8, 8, 8, 8])) (.t 15)⟩,
   ⟨some 17, none, false, .conv (.int .i64) (.t 16)⟩,
   ⟨some 18, none, false, .bin .add (.t 13) (.t 17)⟩,
   ⟨some 2, none, false, .mv (.t 18)⟩])
 .ret))))⟩
/-- math/bits.Len64 -/
def af188 : AFun := ⟨25, true, [.tmp 2],
 (.seq (.region false [0, 2] [] [⟨some 2, none, false, .mv (.c (.int .i64 0))⟩])
 (.seq (.seq (.region false [0, 2, 4] [] [⟨some 3, none, false, .mv (.t 0)⟩,
   ⟨some 4, none, false, .bin .geq (.t 3) (.c (.int .u64 4294967296))⟩])
 (.cond (.t 4)
  (.seq (.region false [0] [] [⟨some 5, none, false, .mv (.t 0)⟩,
    ⟨some 6, none, false, .bin .shr (.t 5) (.c (.int .u64 32))⟩,
    ⟨some 0, none, false, .mv (.t 6)⟩])
  (.region false [0, 2] [] [⟨some 2, none, false, .mv (.c (.int .i64 32))⟩]))
  .skip))
 (.seq (.seq (.region false [0, 2, 8] [] [⟨some 7, none, false, .mv (.t 0)⟩,
   ⟨some 8, none, false, .bin .geq (.t 7) (.c (.int .u64 65536))⟩])
 (.cond (.t 8)
  (.seq (.region false [0, 2] [] [⟨some 9, none, false, .mv (.t 0)⟩,
    ⟨some 10, none, false, .bin .shr (.t 9) (.c (.int .u64 16))⟩,
    ⟨some 0, none, false, .mv (.t 10)⟩])
  (.region false [0, 2] [] [⟨some 11, none, false, .mv (.t 2)⟩,
    ⟨some 12, none, false, .bin .add (.t 11) (.c (.int .i64 16))⟩,
    ⟨some 2, none, false, .mv (.t 12)⟩]))
  .skip))
 (.seq (.seq (.region false [0, 2, 14] [] [⟨some 13, none, false, .mv (.t 0)⟩,
   ⟨some 14, none, false, .bin .geq (.t 13) (.c (.int .u64 256))⟩])
 (.cond (.t 14)
  (.seq (.region false [0, 2] [] [⟨some 15, none, false, .mv (.t 0)⟩,
    ⟨some 16, none, false, .bin .shr (.t 15) (.c (.int .u64 8))⟩,
    ⟨some 0, none, false, .mv (.t 16)⟩])
  (.region false [0, 2] [] [⟨some 17, none, false, .mv (.t 2)⟩,
    ⟨some 18, none, false, .bin .add (.t 17) (.c (.int .i64 8))⟩,
    ⟨some 2, none, false, .mv (.t 18)⟩]))
  .skip))
 (.seq (.region false [2] [] [⟨some 19, none, false, .mv (.t 2)⟩,
   ⟨some 20, none, false, .mv (.t 0)⟩,
   ⟨some 21, none, false, .conv (.int .u8) (.t 20)⟩,
   ⟨some 22, none, false, .sidx (.c (.str [0, 1, 2, 2, 3, 3, 3, 3, 4, 4, 4, 4, 4, 4, 4, 4, 5, 5, 5, 5, 5, 5, 5, 5, 5, 5, 5, 5, 5, 5, 5, 5, 6, 6, 6, 6, 6, 6, 6, 6, 6, 6, 6, 6, 6, 6, 6, 6, 6, 6, 6, 6, 6, 6, 6, 6, 6, 6, 6, 6, 6, 6, 6, 6, 7, 7, 7, 7, 7, 7, 7, 7, 7, 7, 7, 7, 7, 7, 7, 7, 7, 7, 7, 7, 7, 7, 7, 7, 7, 7, 7, 7, 7, 7, 7, 7, 7, 7, 7, 7, 7, 7, 7, 7, 7, 7, 7, 7, 7, 7, 7, 7, 7, 7, 7, 7, 7, 7, 7, 7, 7, 7, 7, 7, 7, 7, 7, 7, 8, 8, 8, 8, 8, 8, 8, 8, 8, 8, 8, 8, 8, 8, 8, 8, 8, 8, 8, 8, 8, 8, 8, 8, 8, 8, 8, 8, 8, 8, 8, 8, 8, 8, 8, 8, 8, 8, 8, 8, 8, 8, 8, 8, 8, 8, 8, 8, 8, 8, 8, 8, 8, 8, 8, 8, 8, 8, 8, 8, 8, 8, 8, 8, 8, 8, 8, 8, 8, 8, 8, 8, 8, 8, 8, 8, 8, 8, 8, 8, 8, 8, 8, 8, 8, 8, 8, 8, 8, 8, 8, 8, 8, 8, 8, 8, 8, 8, 8, 8, 8, 8, 8, 8, 8, 8, 8, 8, 8, 8, 8, 8, 8, 8, 8, 8, 8, 8, 8, 8, 8, 8, 8, 8, 8, 8, 8, 8])) (.t 21)⟩,
   ⟨some 23, none, false, .conv (.int .i64) (.t 22)⟩,
   ⟨some 24, none, false, .bin .add (.t 19) (.t 23)⟩,
   ⟨some 2, none, false, .mv (.t 24)⟩])
 .ret)))))⟩
/-- cmp.isNaN[int] -/
def af189 : AFun := ⟨6, true, [.tmp 2],
 (.seq (.region false [0] [] [⟨some 2, none, false, .mv (.c (.bool false))⟩])
 (.seq (.region false [2] [] [⟨some 3, none, false, .mv (.t 0)⟩,
   ⟨some 4, none, false, .mv (.t 0)⟩,
   ⟨some 5, none, false, .bin .neq (.t 3) (.t 4)⟩,
   ⟨some 2, none, false, .mv (.t 5)⟩])
 .ret))⟩
def af194L0 : ACode := .loop [0, 1, 5, 6, 7, 8, 9, 10]
 (.seq (.seq (.region false [0, 1, 5, 6, 7, 8, 9, 10, 59] [] [⟨some 57, none, false, .mv (.t 8)⟩,
   ⟨some 58, none, false, .mv (.t 9)⟩,
   ⟨some 59, none, false, .bin .lss (.t 57) (.t 58)⟩])
 (.cond (.t 59)
  .skip
  (.exit 1)))
 (.block 2 (.seq (.seq (.region false [0, 1, 5, 6, 7, 8, 9, 10, 64] [] [⟨some 60, none, false, .mv (.t 0)⟩,
    ⟨some 61, none, false, .mv (.t 8)⟩,
    ⟨some 62, none, false, .sidx (.t 60) (.t 61)⟩,
    ⟨some 63, none, false, .mv (.t 6)⟩,
    ⟨some 64, none, false, .bin .neq (.t 62) (.t 63)⟩])
  (.cond (.t 64)
   (.seq (.region false [0, 1, 5, 6, 7, 8, 9, 10, 11] [] [⟨some 65, none, false, .mv (.t 0)⟩,
     ⟨some 66, none, false, .mv (.t 8)⟩,
     ⟨some 67, none, false, .bin .add (.t 66) (.c (.int .i64 1))⟩,
     ⟨some 68, none, false, .mv (.t 9)⟩,
     ⟨some 69, none, false, .slice .str (.t 65) (some (.t 67)) (some (.t 68)) none⟩,
     ⟨some 70, none, false, .mv (.t 6)⟩,
     ⟨some 71, none, false, .call (.f 154) [(.t 69), (.t 70)]⟩,
     ⟨some 11, none, false, .mv (.t 71)⟩])
   (.seq (.seq (.region false [0, 1, 5, 6, 7, 8, 9, 10, 11, 73] [] [⟨some 72, none, false, .mv (.t 11)⟩,
     ⟨some 73, none, false, .bin .lss (.t 72) (.c (.int .i64 0))⟩])
   (.cond (.t 73)
    (.seq (.region false [4] [] [⟨some 4, none, false, .mv (.c (.int .i64 (-1)))⟩])
    .ret)
    .skip))
   (.region false [0, 1, 5, 6, 7, 8, 9, 10] [] [⟨some 74, none, false, .mv (.t 8)⟩,
     ⟨some 75, none, false, .mv (.t 11)⟩,
     ⟨some 76, none, false, .bin .add (.t 75) (.c (.int .i64 1))⟩,
     ⟨some 77, none, false, .bin .add (.t 74) (.t 76)⟩,
     ⟨some 8, none, false, .mv (.t 77)⟩])))
   .skip))
  (.seq (.seq (.region false [0, 1, 5, 6, 7, 8, 9, 10, 93] [] [⟨some 78, none, false, .mv (.t 0)⟩,
    ⟨some 79, none, false, .mv (.t 8)⟩,
    ⟨some 80, none, false, .bin .add (.t 79) (.c (.int .i64 1))⟩,
    ⟨some 81, none, false, .sidx (.t 78) (.t 80)⟩,
    ⟨some 82, none, false, .mv (.t 7)⟩,
    ⟨some 83, none, false, .bin .eql (.t 81) (.t 82)⟩,
    ⟨some 84, none, false, .mv (.t 83)⟩,
    ⟨some 85, some (84, true), false, .mv (.t 0)⟩,
    ⟨some 86, some (84, true), false, .mv (.t 8)⟩,
    ⟨some 87, some (84, true), false, .mv (.t 8)⟩,
    ⟨some 88, some (84, true), false, .mv (.t 5)⟩,
    ⟨some 89, some (84, true), false, .bin .add (.t 87) (.t 88)⟩,
    ⟨some 90, some (84, true), false, .slice .str (.t 85) (some (.t 86)) (some (.t 89)) none⟩,
    ⟨some 91, some (84, true), false, .mv (.t 1)⟩,
    ⟨some 92, some (84, true), false, .bin .eql (.t 90) (.t 91)⟩,
    ⟨some 93, none, false, .pick (.t 84) (.t 92) (.c (.bool false))⟩])
  (.cond (.t 93)
   (.seq (.region false [4] [] [⟨some 94, none, false, .mv (.t 8)⟩,
     ⟨some 4, none, false, .mv (.t 94)⟩])
   .ret)
   .skip))
  (.seq (.region false [0, 1, 5, 6, 7, 8, 9, 10] [] [⟨some 95, none, false, .mv (.t 8)⟩,
    ⟨some 96, none, false, .bin .add (.t 95) (.c (.int .i64 1))⟩,
    ⟨some 8, none, false, .mv (.t 96)⟩])
  (.seq (.region false [0, 1, 5, 6, 7, 8, 9, 10] [] [⟨some 97, none, false, .mv (.t 10)⟩,
    ⟨some 98, none, false, .bin .add (.t 97) (.c (.int .i64 1))⟩,
    ⟨some 10, none, false, .mv (.t 98)⟩])
  (.seq (.region false [0, 1, 5, 6, 7, 8, 9, 10, 107] [] [⟨some 99, none, false, .mv (.t 5)⟩,
    ⟨some 100, none, false, .load false 1 (.g 1)⟩,
    ⟨some 101, none, false, .bin .leq (.t 99) (.t 100)⟩,
    ⟨some 102, none, false, .mv (.t 101)⟩,
    ⟨some 103, some (102, true), false, .mv (.t 10)⟩,
    ⟨some 104, some (102, true), false, .mv (.t 8)⟩,
    ⟨some 105, some (102, true), false, .call (.f 233) [(.t 104)]⟩,
    ⟨some 106, some (102, true), false, .bin .gtr (.t 103) (.t 105)⟩,
    ⟨some 107, none, false, .pick (.t 102) (.t 106) (.c (.bool false))⟩])
  (.cond (.t 107)
   (.seq (.region false [8, 12] [] [⟨some 108, none, false, .mv (.t 0)⟩,
     ⟨some 109, none, false, .mv (.t 8)⟩,
     ⟨some 110, none, false, .slice .str (.t 108) (some (.t 109)) none none⟩,
     ⟨some 111, none, false, .mv (.t 1)⟩,
     ⟨some 112, none, false, .call (.f 232) [(.t 110), (.t 111)]⟩,
     ⟨some 12, none, false, .mv (.t 112)⟩])
   (.seq (.seq (.region false [8, 12, 114] [] [⟨some 113, none, false, .mv (.t 12)⟩,
     ⟨some 114, none, false, .bin .geq (.t 113) (.c (.int .i64 0))⟩])
   (.cond (.t 114)
    (.seq (.region false [4] [] [⟨some 115, none, false, .mv (.t 12)⟩,
      ⟨some 116, none, false, .mv (.t 8)⟩,
      ⟨some 117, none, false, .bin .add (.t 115) (.t 116)⟩,
      ⟨some 4, none, false, .mv (.t 117)⟩])
    .ret)
    .skip))
   (.seq (.region false [4] [] [⟨some 4, none, false, .mv (.c (.int .i64 (-1)))⟩])
   .ret)))
   (.seq (.region false [0, 1, 5, 6, 7, 8, 9, 10, 132] [] [⟨some 118, none, false, .mv (.t 5)⟩,
     ⟨some 119, none, false, .load false 1 (.g 1)⟩,
     ⟨some 120, none, false, .bin .gtr (.t 118) (.t 119)⟩,
     ⟨some 121, none, false, .mv (.t 120)⟩,
     ⟨some 122, some (121, true), false, .mv (.t 10)⟩,
     ⟨some 123, some (121, true), false, .mv (.t 8)⟩,
     ⟨some 124, some (121, true), false, .bin .shr (.t 123) (.c (.int .u64 4))⟩,
     ⟨some 125, some (121, true), false, .bin .add (.c (.int .i64 4)) (.t 124)⟩,
     ⟨some 126, some (121, true), false, .bin .geq (.t 122) (.t 125)⟩,
     ⟨some 127, none, false, .pick (.t 121) (.t 126) (.c (.bool false))⟩,
     ⟨some 128, none, false, .mv (.t 127)⟩,
     ⟨some 129, some (128, true), false, .mv (.t 8)⟩,
     ⟨some 130, some (128, true), false, .mv (.t 9)⟩,
     ⟨some 131, some (128, true), false, .bin .lss (.t 129) (.t 130)⟩,
     ⟨some 132, none, false, .pick (.t 128) (.t 131) (.c (.bool false))⟩])
   (.cond (.t 132)
    (.seq (.region false [8, 13] [] [⟨some 133, none, false, .mv (.t 0)⟩,
      ⟨some 134, none, false, .mv (.t 8)⟩,
      ⟨some 135, none, false, .slice .str (.t 133) (some (.t 134)) none none⟩,
      ⟨some 136, none, false, .mv (.t 1)⟩,
      ⟨some 137, none, false, .call (.f 234) [(.t 135), (.t 136)]⟩,
      ⟨some 13, none, false, .mv (.t 137)⟩])
    (.seq (.seq (.region false [8, 13, 139] [] [⟨some 138, none, false, .mv (.t 13)⟩,
      ⟨some 139, none, false, .bin .lss (.t 138) (.c (.int .i64 0))⟩])
    (.cond (.t 139)
     (.seq (.region false [4] [] [⟨some 4, none, false, .mv (.c (.int .i64 (-1)))⟩])
     .ret)
     .skip))
    (.seq (.region false [4] [] [⟨some 140, none, false, .mv (.t 8)⟩,
      ⟨some 141, none, false, .mv (.t 13)⟩,
      ⟨some 142, none, false, .bin .add (.t 140) (.t 141)⟩,
      ⟨some 4, none, false, .mv (.t 142)⟩])
    .ret)))
    .skip))))))))))
/-- internal/stringslite.Index -/
def af194 : AFun := ⟨143, true, [.tmp 4],
 (.seq (.region false [0, 1] [] [⟨some 4, none, false, .mv (.c (.int .i64 0))⟩])
 (.seq (.region false [0, 1, 5] [] [⟨some 14, none, false, .mv (.t 1)⟩,
   ⟨some 15, none, false, .bi (.len 0) [(.t 14)]⟩,
   ⟨some 5, none, false, .mv (.t 15)⟩])
 (.seq (.block 0 (.seq (.region false [0, 1, 5, 16] [] [⟨some 17, none, false, .mv (.t 5)⟩,
    ⟨some 18, none, false, .bin .eql (.t 17) (.c (.int .i64 0))⟩,
    ⟨some 19, none, false, .mv (.t 18)⟩,
    ⟨some 20, some (19, false), false, .mv (.t 1)⟩,
    ⟨some 21, some (19, false), false, .mv (.t 0)⟩,
    ⟨some 22, some (19, false), false, .bin .eql (.t 20) (.t 21)⟩,
    ⟨some 23, none, false, .pick (.t 19) (.c (.bool true)) (.t 22)⟩,
    ⟨some 16, none, false, .mv (.t 23)⟩])
  (.cond (.t 16)
   (.seq (.region false [4] [] [⟨some 4, none, false, .mv (.c (.int .i64 0))⟩])
   .ret)
   (.seq (.region false [0, 1, 5, 24] [] [⟨some 25, none, false, .mv (.t 5)⟩,
     ⟨some 26, none, false, .bin .eql (.t 25) (.c (.int .i64 1))⟩,
     ⟨some 24, none, false, .mv (.t 26)⟩])
   (.cond (.t 24)
    (.seq (.region false [4] [] [⟨some 27, none, false, .mv (.t 0)⟩,
      ⟨some 28, none, false, .mv (.t 1)⟩,
      ⟨some 29, none, false, .sidx (.t 28) (.c (.int .i64 0))⟩,
      ⟨some 30, none, false, .call (.f 154) [(.t 27), (.t 29)]⟩,
      ⟨some 4, none, false, .mv (.t 30)⟩])
    .ret)
    (.seq (.region false [0, 1, 5, 31] [] [⟨some 32, none, false, .mv (.t 5)⟩,
      ⟨some 33, none, false, .mv (.t 0)⟩,
      ⟨some 34, none, false, .bi (.len 0) [(.t 33)]⟩,
      ⟨some 35, none, false, .bin .geq (.t 32) (.t 34)⟩,
      ⟨some 31, none, false, .mv (.t 35)⟩])
    (.cond (.t 31)
     (.seq (.region false [4] [] [⟨some 4, none, false, .mv (.c (.int .i64 (-1)))⟩])
     .ret)
     (.seq (.region false [0, 1, 5, 36] [] [⟨some 37, none, false, .mv (.t 5)⟩,
       ⟨some 38, none, false, .load false 1 (.g 1)⟩,
       ⟨some 39, none, false, .bin .leq (.t 37) (.t 38)⟩,
       ⟨some 40, none, false, .mv (.t 39)⟩,
       ⟨some 41, some (40, true), false, .mv (.t 0)⟩,
       ⟨some 42, some (40, true), false, .bi (.len 0) [(.t 41)]⟩,
       ⟨some 43, some (40, true), false, .bin .leq (.t 42) (.c (.int .i64 64))⟩,
       ⟨some 44, none, false, .pick (.t 40) (.t 43) (.c (.bool false))⟩,
       ⟨some 36, none, false, .mv (.t 44)⟩])
     (.cond (.t 36)
      (.seq (.region false [4] [] [⟨some 45, none, false, .mv (.t 0)⟩,
        ⟨some 46, none, false, .mv (.t 1)⟩,
        ⟨some 47, none, false, .call (.f 232) [(.t 45), (.t 46)]⟩,
        ⟨some 4, none, false, .mv (.t 47)⟩])
      .ret)
      .skip)))))))))
 (.seq (.region false [0, 1, 5, 6] [] [⟨some 48, none, false, .mv (.t 1)⟩,
   ⟨some 49, none, false, .sidx (.t 48) (.c (.int .i64 0))⟩,
   ⟨some 6, none, false, .mv (.t 49)⟩])
 (.seq (.region false [0, 1, 5, 6, 7] [] [⟨some 50, none, false, .mv (.t 1)⟩,
   ⟨some 51, none, false, .sidx (.t 50) (.c (.int .i64 1))⟩,
   ⟨some 7, none, false, .mv (.t 51)⟩])
 (.seq (.region false [0, 1, 5, 6, 7, 8] [] [⟨some 8, none, false, .mv (.c (.int .i64 0))⟩])
 (.seq (.region false [0, 1, 5, 6, 7, 8, 9] [] [⟨some 52, none, false, .mv (.t 0)⟩,
   ⟨some 53, none, false, .bi (.len 0) [(.t 52)]⟩,
   ⟨some 54, none, false, .mv (.t 5)⟩,
   ⟨some 55, none, false, .bin .sub (.t 53) (.t 54)⟩,
   ⟨some 56, none, false, .bin .add (.t 55) (.c (.int .i64 1))⟩,
   ⟨some 9, none, false, .mv (.t 56)⟩])
 (.seq (.region false [0, 1, 5, 6, 7, 8, 9, 10] [] [⟨some 10, none, false, .mv (.c (.int .i64 0))⟩])
 (.seq (.block 1 af194L0)
 (.seq (.region false [4] [] [⟨some 4, none, false, .mv (.c (.int .i64 (-1)))⟩])
 .ret))))))))))⟩
end Go.Proofs.YtkaadpkokmhfjaaGreatDoor
