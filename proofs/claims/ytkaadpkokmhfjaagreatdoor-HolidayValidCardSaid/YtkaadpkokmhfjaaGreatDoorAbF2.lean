/-
  The evaluator's functions of this seat's translation, printed by program (wip/engine/tool.lean): part 2.
-/
import Derived.Test.YtkaadpkokmhfjaaGreatDoorAbF1
namespace Go.Proofs.YtkaadpkokmhfjaaGreatDoor
open Go Go.Ab
/-- unicode/utf8.decodeRuneInStringSlow -/
def af195 : AFun := ⟨117, true, [.tmp 2, .tmp 3],
 (.seq (.region false [0] [] [⟨some 2, none, false, .mv (.c (.int .i32 0))⟩,
   ⟨some 3, none, false, .mv (.c (.int .i64 0))⟩])
 (.seq (.region false [0, 4] [] [⟨some 13, none, false, .mv (.t 0)⟩,
   ⟨some 14, none, false, .bi (.len 0) [(.t 13)]⟩,
   ⟨some 4, none, false, .mv (.t 14)⟩])
 (.seq (.seq (.region false [0, 4, 16] [] [⟨some 15, none, false, .mv (.t 4)⟩,
   ⟨some 16, none, false, .bin .lss (.t 15) (.c (.int .i64 1))⟩])
 (.cond (.t 16)
  (.seq (.region false [2, 3] [] [⟨some 2, none, false, .mv (.c (.int .i32 65533))⟩,
    ⟨some 3, none, false, .mv (.c (.int .i64 0))⟩])
  .ret)
  .skip))
 (.seq (.region false [0, 4, 5] [] [⟨some 17, none, false, .mv (.t 0)⟩,
   ⟨some 18, none, false, .sidx (.t 17) (.c (.int .i64 0))⟩,
   ⟨some 5, none, false, .mv (.t 18)⟩])
 (.seq (.region false [0, 4, 5, 6] [] [⟨some 19, none, false, .mv (.t 5)⟩,
   ⟨some 20, none, false, .idxaddr (some 256) 1 (.g 2) (.t 19)⟩,
   ⟨some 21, none, false, .load false 1 (.t 20)⟩,
   ⟨some 6, none, false, .mv (.t 21)⟩])
 (.seq (.seq (.region false [0, 4, 5, 6, 23] [] [⟨some 22, none, false, .mv (.t 6)⟩,
   ⟨some 23, none, false, .bin .geq (.t 22) (.c (.int .u8 240))⟩])
 (.cond (.t 23)
  (.seq (.region false [0, 7] [] [⟨some 24, none, false, .mv (.t 6)⟩,
    ⟨some 25, none, false, .conv (.int .i32) (.t 24)⟩,
    ⟨some 26, none, false, .bin .shl (.t 25) (.c (.int .u64 31))⟩,
    ⟨some 27, none, false, .bin .shr (.t 26) (.c (.int .u64 31))⟩,
    ⟨some 7, none, false, .mv (.t 27)⟩])
  (.seq (.region false [2, 3] [] [⟨some 28, none, false, .mv (.t 0)⟩,
    ⟨some 29, none, false, .sidx (.t 28) (.c (.int .i64 0))⟩,
    ⟨some 30, none, false, .conv (.int .i32) (.t 29)⟩,
    ⟨some 31, none, false, .mv (.t 7)⟩,
    ⟨some 32, none, false, .bin .andNot (.t 30) (.t 31)⟩,
    ⟨some 33, none, false, .mv (.t 7)⟩,
    ⟨some 34, none, false, .bin .and (.c (.int .i32 65533)) (.t 33)⟩,
    ⟨some 35, none, false, .bin .or (.t 32) (.t 34)⟩,
    ⟨some 2, none, false, .mv (.t 35)⟩,
    ⟨some 3, none, false, .mv (.c (.int .i64 1))⟩])
  .ret))
  .skip))
 (.seq (.region false [0, 4, 5, 6, 8] [] [⟨some 36, none, false, .mv (.t 6)⟩,
   ⟨some 37, none, false, .bin .and (.t 36) (.c (.int .u8 7))⟩,
   ⟨some 38, none, false, .conv (.int .i64) (.t 37)⟩,
   ⟨some 8, none, false, .mv (.t 38)⟩])
 (.seq (.region false [0, 4, 5, 8, 9] [] [⟨some 39, none, false, .mv (.t 6)⟩,
   ⟨some 40, none, false, .bin .shr (.t 39) (.c (.int .u64 4))⟩,
   ⟨some 41, none, false, .idxaddr (some 16) 2 (.g 3) (.t 40)⟩,
   ⟨some 42, none, false, .load true 2 (.t 41)⟩,
   ⟨some 9, none, false, .new [(.int .u8 0), (.int .u8 0)]⟩,
   ⟨none, none, false, .store 2 (.t 9) (.t 42)⟩])
 (.seq (.seq (.region false [0, 5, 8, 9, 45] [] [⟨some 43, none, false, .mv (.t 4)⟩,
   ⟨some 44, none, false, .mv (.t 8)⟩,
   ⟨some 45, none, false, .bin .lss (.t 43) (.t 44)⟩])
 (.cond (.t 45)
  (.seq (.region false [2, 3] [] [⟨some 2, none, false, .mv (.c (.int .i32 65533))⟩,
    ⟨some 3, none, false, .mv (.c (.int .i64 1))⟩])
  .ret)
  .skip))
 (.seq (.region false [0, 5, 8, 9, 10] [] [⟨some 46, none, false, .mv (.t 0)⟩,
   ⟨some 47, none, false, .sidx (.t 46) (.c (.int .i64 1))⟩,
   ⟨some 10, none, false, .mv (.t 47)⟩])
 (.seq (.seq (.region false [0, 5, 8, 10, 57] [] [⟨some 48, none, false, .mv (.t 10)⟩,
   ⟨some 49, none, false, .fldaddr 0 (.t 9)⟩,
   ⟨some 50, none, false, .load false 1 (.t 49)⟩,
   ⟨some 51, none, false, .bin .lss (.t 48) (.t 50)⟩,
   ⟨some 52, none, false, .mv (.t 51)⟩,
   ⟨some 53, some (52, false), false, .fldaddr 1 (.t 9)⟩,
   ⟨some 54, some (52, false), false, .load false 1 (.t 53)⟩,
   ⟨some 55, some (52, false), false, .mv (.t 10)⟩,
   ⟨some 56, some (52, false), false, .bin .lss (.t 54) (.t 55)⟩,
   ⟨some 57, none, false, .pick (.t 52) (.c (.bool true)) (.t 56)⟩])
 (.cond (.t 57)
  (.seq (.region false [2, 3] [] [⟨some 2, none, false, .mv (.c (.int .i32 65533))⟩,
    ⟨some 3, none, false, .mv (.c (.int .i64 1))⟩])
  .ret)
  .skip))
 (.seq (.seq (.region false [0, 5, 8, 10, 59] [] [⟨some 58, none, false, .mv (.t 8)⟩,
   ⟨some 59, none, false, .bin .leq (.t 58) (.c (.int .i64 2))⟩])
 (.cond (.t 59)
  (.seq (.region false [2, 3] [] [⟨some 60, none, false, .mv (.t 5)⟩,
    ⟨some 61, none, false, .bin .and (.t 60) (.c (.int .u8 31))⟩,
    ⟨some 62, none, false, .conv (.int .i32) (.t 61)⟩,
    ⟨some 63, none, false, .bin .shl (.t 62) (.c (.int .u64 6))⟩,
    ⟨some 64, none, false, .mv (.t 10)⟩,
    ⟨some 65, none, false, .bin .and (.t 64) (.c (.int .u8 63))⟩,
    ⟨some 66, none, false, .conv (.int .i32) (.t 65)⟩,
    ⟨some 67, none, false, .bin .or (.t 63) (.t 66)⟩,
    ⟨some 2, none, false, .mv (.t 67)⟩,
    ⟨some 3, none, false, .mv (.c (.int .i64 2))⟩])
  .ret)
  .skip))
 (.seq (.region false [0, 5, 8, 10, 11] [] [⟨some 68, none, false, .mv (.t 0)⟩,
   ⟨some 69, none, false, .sidx (.t 68) (.c (.int .i64 2))⟩,
   ⟨some 11, none, false, .mv (.t 69)⟩])
 (.seq (.seq (.region false [0, 5, 8, 10, 11, 75] [] [⟨some 70, none, false, .mv (.t 11)⟩,
   ⟨some 71, none, false, .bin .lss (.t 70) (.c (.int .u8 128))⟩,
   ⟨some 72, none, false, .mv (.t 71)⟩,
   ⟨some 73, some (72, false), false, .mv (.t 11)⟩,
   ⟨some 74, some (72, false), false, .bin .lss (.c (.int .u8 191)) (.t 73)⟩,
   ⟨some 75, none, false, .pick (.t 72) (.c (.bool true)) (.t 74)⟩])
 (.cond (.t 75)
  (.seq (.region false [2, 3] [] [⟨some 2, none, false, .mv (.c (.int .i32 65533))⟩,
    ⟨some 3, none, false, .mv (.c (.int .i64 1))⟩])
  .ret)
  .skip))
 (.seq (.seq (.region false [0, 5, 10, 11, 77] [] [⟨some 76, none, false, .mv (.t 8)⟩,
   ⟨some 77, none, false, .bin .leq (.t 76) (.c (.int .i64 3))⟩])
 (.cond (.t 77)
  (.seq (.region false [2, 3] [] [⟨some 78, none, false, .mv (.t 5)⟩,
    ⟨some 79, none, false, .bin .and (.t 78) (.c (.int .u8 15))⟩,
    ⟨some 80, none, false, .conv (.int .i32) (.t 79)⟩,
    ⟨some 81, none, false, .bin .shl (.t 80) (.c (.int .u64 12))⟩,
    ⟨some 82, none, false, .mv (.t 10)⟩,
    ⟨some 83, none, false, .bin .and (.t 82) (.c (.int .u8 63))⟩,
    ⟨some 84, none, false, .conv (.int .i32) (.t 83)⟩,
    ⟨some 85, none, false, .bin .shl (.t 84) (.c (.int .u64 6))⟩,
    ⟨some 86, none, false, .bin .or (.t 81) (.t 85)⟩,
    ⟨some 87, none, false, .mv (.t 11)⟩,
    ⟨some 88, none, false, .bin .and (.t 87) (.c (.int .u8 63))⟩,
    ⟨some 89, none, false, .conv (.int .i32) (.t 88)⟩,
    ⟨some 90, none, false, .bin .or (.t 86) (.t 89)⟩,
    ⟨some 2, none, false, .mv (.t 90)⟩,
    ⟨some 3, none, false, .mv (.c (.int .i64 3))⟩])
  .ret)
  .skip))
 (.seq (.region false [5, 10, 11, 12] [] [⟨some 91, none, false, .mv (.t 0)⟩,
   ⟨some 92, none, false, .sidx (.t 91) (.c (.int .i64 3))⟩,
   ⟨some 12, none, false, .mv (.t 92)⟩])
 (.seq (.seq (.region false [5, 10, 11, 12, 98] [] [⟨some 93, none, false, .mv (.t 12)⟩,
   ⟨some 94, none, false, .bin .lss (.t 93) (.c (.int .u8 128))⟩,
   ⟨some 95, none, false, .mv (.t 94)⟩,
   ⟨some 96, some (95, false), false, .mv (.t 12)⟩,
   ⟨some 97, some (95, false), false, .bin .lss (.c (.int .u8 191)) (.t 96)⟩,
   ⟨some 98, none, false, .pick (.t 95) (.c (.bool true)) (.t 97)⟩])
 (.cond (.t 98)
  (.seq (.region false [2, 3] [] [⟨some 2, none, false, .mv (.c (.int .i32 65533))⟩,
    ⟨some 3, none, false, .mv (.c (.int .i64 1))⟩])
  .ret)
  .skip))
 (.seq (.region false [2, 3] [] [⟨some 99, none, false, .mv (.t 5)⟩,
   ⟨some 100, none, false, .bin .and (.t 99) (.c (.int .u8 7))⟩,
   ⟨some 101, none, false, .conv (.int .i32) (.t 100)⟩,
   ⟨some 102, none, false, .bin .shl (.t 101) (.c (.int .u64 18))⟩,
   ⟨some 103, none, false, .mv (.t 10)⟩,
   ⟨some 104, none, false, .bin .and (.t 103) (.c (.int .u8 63))⟩,
   ⟨some 105, none, false, .conv (.int .i32) (.t 104)⟩,
   ⟨some 106, none, false, .bin .shl (.t 105) (.c (.int .u64 12))⟩,
   ⟨some 107, none, false, .bin .or (.t 102) (.t 106)⟩,
   ⟨some 108, none, false, .mv (.t 11)⟩,
   ⟨some 109, none, false, .bin .and (.t 108) (.c (.int .u8 63))⟩,
   ⟨some 110, none, false, .conv (.int .i32) (.t 109)⟩,
   ⟨some 111, none, false, .bin .shl (.t 110) (.c (.int .u64 6))⟩,
   ⟨some 112, none, false, .bin .or (.t 107) (.t 111)⟩,
   ⟨some 113, none, false, .mv (.t 12)⟩,
   ⟨some 114, none, false, .bin .and (.t 113) (.c (.int .u8 63))⟩,
   ⟨some 115, none, false, .conv (.int .i32) (.t 114)⟩,
   ⟨some 116, none, false, .bin .or (.t 112) (.t 115)⟩,
   ⟨some 2, none, false, .mv (.t 116)⟩,
   ⟨some 3, none, false, .mv (.c (.int .i64 4))⟩])
 .ret))))))))))))))))))⟩
/-- civiltime/islamic.Valid -/
def af210 : AFun := ⟨9, true, [.tmp 2],
 (.seq (.region false [0] [] [⟨some 2, none, false, .mv (.c (.bool false))⟩])
 (.seq (.region false [2] [] [⟨some 3, none, false, .mv (.t 0)⟩,
   ⟨some 4, none, false, .bin .geq (.t 3) (.c (.int .i64 1))⟩,
   ⟨some 5, none, false, .mv (.t 4)⟩,
   ⟨some 6, some (5, true), false, .mv (.t 0)⟩,
   ⟨some 7, some (5, true), false, .bin .leq (.t 6) (.c (.int .i64 4))⟩,
   ⟨some 8, none, false, .pick (.t 5) (.t 7) (.c (.bool false))⟩,
   ⟨some 2, none, false, .mv (.t 8)⟩])
 .ret))⟩
/-- civiltime/integer.Floor -/
def af211 : AFun := ⟨16, true, [.tmp 4],
 (.seq (.region false [0, 1] [] [⟨some 4, none, false, .mv (.c (.int .i64 0))⟩])
 (.seq (.region false [5] [] [⟨some 9, none, false, .mv (.t 0)⟩,
   ⟨some 10, none, false, .mv (.t 1)⟩,
   ⟨some 11, none, false, .call (.f 100) [(.t 9), (.t 10)]⟩,
   ⟨some 8, none, false, .mv (.t 11)⟩,
   ⟨some 12, none, false, .ext 0 (.t 8)⟩,
   ⟨some 13, none, false, .ext 1 (.t 8)⟩,
   ⟨some 14, none, false, .ext 2 (.t 8)⟩,
   ⟨some 5, none, false, .mv (.t 12)⟩,
   ⟨some 6, none, false, .mv (.t 13)⟩,
   ⟨some 7, none, false, .mv (.t 14)⟩])
 (.seq (.region false [4] [] [⟨some 15, none, false, .mv (.t 5)⟩,
   ⟨some 4, none, false, .mv (.t 15)⟩])
 .ret)))⟩
def af212L0 : ACode := .loop [1, 5, 9, 10, 11]
 (.seq (.region false [1, 5, 9, 10, 11, 12] [] [⟨some 12, none, false, .bin .lss (.t 11) (.t 10)⟩])
 (.seq (.cond (.t 12)
  .skip
  (.exit 0))
 (.seq (.block 1 (.seq (.region false [1, 5, 7, 9, 10, 11] [] [⟨some 13, none, false, .idxaddr none 1 (.t 9) (.t 11)⟩,
    ⟨some 14, none, false, .load false 1 (.t 13)⟩,
    ⟨some 7, none, false, .mv (.t 14)⟩])
  (.seq (.region false [1, 5, 9, 10, 11, 18] [] [⟨some 15, none, false, .mv (.t 7)⟩,
    ⟨some 16, none, false, .mv (.t 1)⟩,
    ⟨some 17, none, false, .call (.f 241) [(.t 16)]⟩,
    ⟨some 18, none, false, .bin .lss (.t 15) (.t 17)⟩])
  (.cond (.t 18)
   (.region false [1, 5, 9, 10, 11] [] [⟨some 19, none, false, .mv (.t 5)⟩,
     ⟨some 20, none, false, .bin .add (.t 19) (.c (.int .i64 1))⟩,
     ⟨some 5, none, false, .mv (.t 20)⟩])
   .skip))))
 (.region false [1, 5, 9, 10, 11] [] [⟨some 21, none, false, .bin .add (.t 11) (.c (.int .i64 1))⟩,
   ⟨some 11, none, false, .mv (.t 21)⟩]))))
/-- civiltime/islamic.first -/
def af212 : AFun := ⟨34, true, [.tmp 4],
 (.seq (.region false [0, 1] [] [⟨some 4, none, false, .mv (.c (.int .i64 0))⟩])
 (.seq (.region false [0, 1, 5] [] [⟨some 5, none, false, .mv (.c (.int .i64 0))⟩])
 (.seq (.seq (.region false [1, 5, 9, 10, 11] [] [⟨some 8, none, false, .mv (.t 0)⟩,
   ⟨some 9, none, false, .call (.f 240) [(.t 8)]⟩,
   ⟨some 10, none, false, .bi (.len 1) [(.t 9)]⟩,
   ⟨some 11, none, false, .mv (.c (.int .i64 0))⟩])
 (.block 0 af212L0))
 (.seq (.region false [4] [] [⟨some 22, none, false, .mv (.t 1)⟩,
   ⟨some 23, none, false, .bin .sub (.t 22) (.c (.int .i64 1))⟩,
   ⟨some 24, none, false, .bin .quo (.t 23) (.c (.int .i64 30))⟩,
   ⟨some 25, none, false, .bin .mul (.t 24) (.c (.int .i64 10631))⟩,
   ⟨some 26, none, false, .bin .add (.c (.int .i64 (-492148))) (.t 25)⟩,
   ⟨some 27, none, false, .mv (.t 1)⟩,
   ⟨some 28, none, false, .call (.f 241) [(.t 27)]⟩,
   ⟨some 29, none, false, .bin .sub (.t 28) (.c (.int .i64 1))⟩,
   ⟨some 30, none, false, .bin .mul (.t 29) (.c (.int .i64 354))⟩,
   ⟨some 31, none, false, .bin .add (.t 26) (.t 30)⟩,
   ⟨some 32, none, false, .mv (.t 5)⟩,
   ⟨some 33, none, false, .bin .add (.t 31) (.t 32)⟩,
   ⟨some 4, none, false, .mv (.t 33)⟩])
 .ret))))⟩
/-- civiltime/islamic.Day -/
def af213 : AFun := ⟨32, true, [.tmp 4, .tmp 5],
 (.seq (.region false [0, 3] [] [⟨some 3, none, false, .box (.t 1)⟩,
   ⟨some 4, none, false, .mv (.c (.int .i64 0))⟩,
   ⟨some 5, none, false, .mv (.c (.int .i64 0))⟩])
 (.seq (.seq (.region true [0, 3, 19] [] [⟨some 6, none, false, .fldaddr 2 (.t 3)⟩,
   ⟨some 7, none, false, .load false 1 (.t 6)⟩,
   ⟨some 8, none, false, .bin .lss (.t 7) (.c (.int .i64 1))⟩,
   ⟨some 9, none, false, .mv (.t 8)⟩,
   ⟨some 10, some (9, false), false, .fldaddr 2 (.t 3)⟩,
   ⟨some 11, some (9, false), false, .load false 1 (.t 10)⟩,
   ⟨some 12, some (9, false), false, .mv (.t 0)⟩,
   ⟨some 13, some (9, false), false, .fldaddr 0 (.t 3)⟩,
   ⟨some 14, some (9, false), false, .load false 1 (.t 13)⟩,
   ⟨some 15, some (9, false), false, .fldaddr 1 (.t 3)⟩,
   ⟨some 16, some (9, false), false, .load false 1 (.t 15)⟩,
   ⟨some 17, some (9, false), true, .call (.f 242) [(.t 12), (.t 14), (.t 16)]⟩,
   ⟨some 18, some (9, false), false, .bin .gtr (.t 11) (.t 17)⟩,
   ⟨some 19, none, false, .pick (.t 9) (.c (.bool true)) (.t 18)⟩])
 (.cond (.t 19)
  (.seq (.region false [4, 5] [] [⟨some 4, none, false, .mv (.c (.int .i64 0))⟩,
    ⟨some 5, none, false, .mv (.c (.int .i64 1))⟩])
  .ret)
  .skip))
 (.seq (.region true [4, 5] [] [⟨some 20, none, false, .mv (.t 0)⟩,
   ⟨some 21, none, false, .fldaddr 0 (.t 3)⟩,
   ⟨some 22, none, false, .load false 1 (.t 21)⟩,
   ⟨some 23, none, true, .call (.f 212) [(.t 20), (.t 22)]⟩,
   ⟨some 24, none, false, .fldaddr 1 (.t 3)⟩,
   ⟨some 25, none, false, .load false 1 (.t 24)⟩,
   ⟨some 26, none, true, .call (.f 243) [(.t 25)]⟩,
   ⟨some 27, none, false, .bin .add (.t 23) (.t 26)⟩,
   ⟨some 28, none, false, .fldaddr 2 (.t 3)⟩,
   ⟨some 29, none, false, .load false 1 (.t 28)⟩,
   ⟨some 30, none, false, .bin .add (.t 27) (.t 29)⟩,
   ⟨some 31, none, false, .bin .sub (.t 30) (.c (.int .i64 1))⟩,
   ⟨some 4, none, false, .mv (.t 31)⟩,
   ⟨some 5, none, false, .mv (.c (.int .i64 0))⟩])
 .ret)))⟩
/-- civiltime/hebrew.Date -/
def af214 : AFun := ⟨13, true, [.cell 2 true 3, .tmp 3],
 (.seq (.region false [0, 2] [] [⟨some 2, none, false, .new [(.int .i64 0), (.int .i64 0), (.int .i64 0)]⟩,
   ⟨some 3, none, false, .mv (.c (.int .i64 0))⟩])
 (.seq (.seq (.region false [0, 2, 9] [] [⟨some 4, none, false, .mv (.t 0)⟩,
   ⟨some 5, none, false, .bin .lss (.t 4) (.c (.int .i64 (-719162)))⟩,
   ⟨some 6, none, false, .mv (.t 5)⟩,
   ⟨some 7, some (6, false), false, .mv (.t 0)⟩,
   ⟨some 8, some (6, false), false, .bin .geq (.t 7) (.c (.int .i64 2932897))⟩,
   ⟨some 9, none, false, .pick (.t 6) (.c (.bool true)) (.t 8)⟩])
 (.cond (.t 9)
  (.seq (.region false [2, 3] [] [⟨some 10, none, false, .build [(.int .i64 0), (.int .i64 0), (.int .i64 0)] []⟩,
    ⟨none, none, false, .store 3 (.t 2) (.t 10)⟩,
    ⟨some 3, none, false, .mv (.c (.int .i64 2))⟩])
  .ret)
  .skip))
 (.seq (.region false [2, 3] [] [⟨some 11, none, false, .mv (.t 0)⟩,
   ⟨some 12, none, false, .call (.f 244) [(.t 11)]⟩,
   ⟨none, none, false, .store 3 (.t 2) (.t 12)⟩,
   ⟨some 3, none, false, .mv (.c (.int .i64 0))⟩])
 .ret)))⟩
/-- strings.CutPrefix -/
def af222 : AFun := ⟨11, true, [.tmp 4, .tmp 5],
 (.seq (.region false [0, 1] [] [⟨some 4, none, false, .mv (.c (.str []))⟩,
   ⟨some 5, none, false, .mv (.c (.bool false))⟩])
 (.seq (.region false [4, 5] [] [⟨some 6, none, false, .mv (.t 0)⟩,
   ⟨some 7, none, false, .mv (.t 1)⟩,
   ⟨some 8, none, false, .call (.f 252) [(.t 6), (.t 7)]⟩,
   ⟨some 9, none, false, .ext 0 (.t 8)⟩,
   ⟨some 10, none, false, .ext 1 (.t 8)⟩,
   ⟨some 4, none, false, .mv (.t 9)⟩,
   ⟨some 5, none, false, .mv (.t 10)⟩])
 .ret))⟩
def af223L0 : ACode := .loop [0, 2, 3, 4, 10]
 (.block 1 (.seq (.region false [0, 2, 3, 4, 10, 11] [] [⟨some 13, none, false, .mv (.t 10)⟩,
    ⟨some 14, none, false, .bin .mul (.c (.int .i64 2)) (.t 13)⟩,
    ⟨some 15, none, false, .bin .add (.t 14) (.c (.int .i64 1))⟩,
    ⟨some 11, none, false, .mv (.t 15)⟩])
  (.seq (.seq (.region false [0, 2, 3, 4, 10, 11, 18] [] [⟨some 16, none, false, .mv (.t 11)⟩,
    ⟨some 17, none, false, .mv (.t 2)⟩,
    ⟨some 18, none, false, .bin .geq (.t 16) (.t 17)⟩])
  (.cond (.t 18)
   (.exit 0)
   .skip))
  (.seq (.seq (.region true [0, 2, 3, 4, 10, 11, 40] [] [⟨some 19, none, false, .mv (.t 11)⟩,
    ⟨some 20, none, false, .bin .add (.t 19) (.c (.int .i64 1))⟩,
    ⟨some 21, none, false, .mv (.t 2)⟩,
    ⟨some 22, none, false, .bin .lss (.t 20) (.t 21)⟩,
    ⟨some 23, none, false, .mv (.t 22)⟩,
    ⟨some 24, some (23, true), false, .mv (.t 4)⟩,
    ⟨some 25, some (23, true), false, .mv (.t 0)⟩,
    ⟨some 26, some (23, true), false, .mv (.t 3)⟩,
    ⟨some 27, some (23, true), false, .mv (.t 11)⟩,
    ⟨some 28, some (23, true), false, .bin .add (.t 26) (.t 27)⟩,
    ⟨some 29, some (23, true), false, .idxaddr none 2 (.t 25) (.t 28)⟩,
    ⟨some 30, some (23, true), false, .load true 2 (.t 29)⟩,
    ⟨some 31, some (23, true), false, .mv (.t 0)⟩,
    ⟨some 32, some (23, true), false, .mv (.t 3)⟩,
    ⟨some 33, some (23, true), false, .mv (.t 11)⟩,
    ⟨some 34, some (23, true), false, .bin .add (.t 32) (.t 33)⟩,
    ⟨some 35, some (23, true), false, .bin .add (.t 34) (.c (.int .i64 1))⟩,
    ⟨some 36, some (23, true), false, .idxaddr none 2 (.t 31) (.t 35)⟩,
    ⟨some 37, some (23, true), false, .load true 2 (.t 36)⟩,
    ⟨some 38, some (23, true), false, .call (.t 24) [(.t 30), (.t 37)]⟩,
    ⟨some 39, some (23, true), false, .bin .lss (.t 38) (.c (.int .i64 0))⟩,
    ⟨some 40, none, false, .pick (.t 23) (.t 39) (.c (.bool false))⟩])
  (.cond (.t 40)
   (.region false [0, 2, 3, 4, 10, 11] [] [⟨some 41, none, false, .mv (.t 11)⟩,
     ⟨some 42, none, false, .bin .add (.t 41) (.c (.int .i64 1))⟩,
     ⟨some 11, none, false, .mv (.t 42)⟩])
   .skip))
  (.seq (.seq (.region true [0, 2, 3, 4, 10, 11, 58] [] [⟨some 43, none, false, .mv (.t 4)⟩,
    ⟨some 44, none, false, .mv (.t 0)⟩,
    ⟨some 45, none, false, .mv (.t 3)⟩,
    ⟨some 46, none, false, .mv (.t 10)⟩,
    ⟨some 47, none, false, .bin .add (.t 45) (.t 46)⟩,
    ⟨some 48, none, false, .idxaddr none 2 (.t 44) (.t 47)⟩,
    ⟨some 49, none, false, .load true 2 (.t 48)⟩,
    ⟨some 50, none, false, .mv (.t 0)⟩,
    ⟨some 51, none, false, .mv (.t 3)⟩,
    ⟨some 52, none, false, .mv (.t 11)⟩,
    ⟨some 53, none, false, .bin .add (.t 51) (.t 52)⟩,
    ⟨some 54, none, false, .idxaddr none 2 (.t 50) (.t 53)⟩,
    ⟨some 55, none, false, .load true 2 (.t 54)⟩,
    ⟨some 56, none, false, .call (.t 43) [(.t 49), (.t 55)]⟩,
    ⟨some 57, none, false, .bin .lss (.t 56) (.c (.int .i64 0))⟩,
    ⟨some 58, none, false, .un .not (.t 57)⟩])
  (.cond (.t 58)
   .ret
   .skip))
  (.seq (.region true [0, 2, 3, 4, 11] [] [⟨some 59, none, false, .mv (.t 0)⟩,
    ⟨some 60, none, false, .mv (.t 3)⟩,
    ⟨some 61, none, false, .mv (.t 10)⟩,
    ⟨some 62, none, false, .bin .add (.t 60) (.t 61)⟩,
    ⟨some 63, none, false, .mv (.t 0)⟩,
    ⟨some 64, none, false, .mv (.t 3)⟩,
    ⟨some 65, none, false, .mv (.t 11)⟩,
    ⟨some 66, none, false, .bin .add (.t 64) (.t 65)⟩,
    ⟨some 67, none, false, .mv (.t 0)⟩,
    ⟨some 68, none, false, .mv (.t 3)⟩,
    ⟨some 69, none, false, .mv (.t 11)⟩,
    ⟨some 70, none, false, .bin .add (.t 68) (.t 69)⟩,
    ⟨some 71, none, false, .idxaddr none 2 (.t 67) (.t 70)⟩,
    ⟨some 72, none, false, .load true 2 (.t 71)⟩,
    ⟨some 73, none, false, .mv (.t 0)⟩,
    ⟨some 74, none, false, .mv (.t 3)⟩,
    ⟨some 75, none, false, .mv (.t 10)⟩,
    ⟨some 76, none, false, .bin .add (.t 74) (.t 75)⟩,
    ⟨some 77, none, false, .idxaddr none 2 (.t 73) (.t 76)⟩,
    ⟨some 78, none, false, .load true 2 (.t 77)⟩,
    ⟨some 79, none, false, .idxaddr none 2 (.t 59) (.t 62)⟩,
    ⟨none, none, false, .store 2 (.t 79) (.t 72)⟩,
    ⟨some 80, none, false, .idxaddr none 2 (.t 63) (.t 66)⟩,
    ⟨none, none, false, .store 2 (.t 80) (.t 78)⟩])
  (.region false [0, 2, 3, 4, 10] [] [⟨some 81, none, false, .mv (.t 11)⟩,
    ⟨some 10, none, false, .mv (.t 81)⟩])))))))
/-- slices.siftDownCmpFunc[civiltime/api.HolidayDay] -/
def af223 : AFun := ⟨82, true, [],
 (.seq (.region false [0, 2, 3, 4, 10] [] [⟨some 12, none, false, .mv (.t 1)⟩,
   ⟨some 10, none, false, .mv (.t 12)⟩])
 (.block 0 af223L0))⟩
/-- slices.nextPowerOfTwo -/
def af224 : AFun := ⟨7, true, [.tmp 2],
 (.seq (.region false [0] [] [⟨some 2, none, false, .mv (.c (.int .u64 0))⟩])
 (.seq (.region false [2] [] [⟨some 3, none, false, .mv (.t 0)⟩,
   ⟨some 4, none, false, .conv (.int .u64) (.t 3)⟩,
   ⟨some 5, none, false, .call (.f 123) [(.t 4)]⟩,
   ⟨some 6, none, false, .bin .shl (.c (.int .u64 1)) (.t 5)⟩,
   ⟨some 2, none, false, .mv (.t 6)⟩])
 .ret))⟩
/-- (*slices.xorshift).Next -/
def af225 : AFun := ⟨33, true, [.tmp 2],
 (.seq (.region false [0] [] [⟨some 2, none, false, .mv (.c (.int .u64 0))⟩])
 (.seq (.region true [0] [] [⟨some 3, none, false, .mv (.t 0)⟩,
   ⟨some 4, none, false, .nilck (.t 3)⟩,
   ⟨some 5, none, false, .load false 1 (.t 4)⟩,
   ⟨some 6, none, false, .mv (.t 0)⟩,
   ⟨some 7, none, false, .nilck (.t 6)⟩,
   ⟨some 8, none, false, .load false 1 (.t 7)⟩,
   ⟨some 9, none, false, .bin .shl (.t 8) (.c (.int .u64 13))⟩,
   ⟨some 10, none, false, .bin .xor (.t 5) (.t 9)⟩,
   ⟨some 11, none, false, .nilck (.t 3)⟩,
   ⟨none, none, false, .store 1 (.t 11) (.t 10)⟩])
 (.seq (.region true [0] [] [⟨some 12, none, false, .mv (.t 0)⟩,
   ⟨some 13, none, false, .nilck (.t 12)⟩,
   ⟨some 14, none, false, .load false 1 (.t 13)⟩,
   ⟨some 15, none, false, .mv (.t 0)⟩,
   ⟨some 16, none, false, .nilck (.t 15)⟩,
   ⟨some 17, none, false, .load false 1 (.t 16)⟩,
   ⟨some 18, none, false, .bin .shr (.t 17) (.c (.int .u64 7))⟩,
   ⟨some 19, none, false, .bin .xor (.t 14) (.t 18)⟩,
   ⟨some 20, none, false, .nilck (.t 12)⟩,
   ⟨none, none, false, .store 1 (.t 20) (.t 19)⟩])
 (.seq (.region true [0] [] [⟨some 21, none, false, .mv (.t 0)⟩,
   ⟨some 22, none, false, .nilck (.t 21)⟩,
   ⟨some 23, none, false, .load false 1 (.t 22)⟩,
   ⟨some 24, none, false, .mv (.t 0)⟩,
   ⟨some 25, none, false, .nilck (.t 24)⟩,
   ⟨some 26, none, false, .load false 1 (.t 25)⟩,
   ⟨some 27, none, false, .bin .shl (.t 26) (.c (.int .u64 17))⟩,
   ⟨some 28, none, false, .bin .xor (.t 23) (.t 27)⟩,
   ⟨some 29, none, false, .nilck (.t 21)⟩,
   ⟨none, none, false, .store 1 (.t 29) (.t 28)⟩])
 (.seq (.region false [2] [] [⟨some 30, none, false, .mv (.t 0)⟩,
   ⟨some 31, none, false, .nilck (.t 30)⟩,
   ⟨some 32, none, false, .load false 1 (.t 31)⟩,
   ⟨some 2, none, false, .mv (.t 32)⟩])
 .ret)))))⟩
/-- slices.medianAdjacentCmpFunc[civiltime/api.HolidayDay] -/
def af226 : AFun := ⟨18, true, [.tmp 8],
 (.seq (.region false [0, 1, 2, 3] [] [⟨some 8, none, false, .mv (.c (.int .i64 0))⟩])
 (.seq (.region false [8] [] [⟨some 9, none, false, .mv (.t 0)⟩,
   ⟨some 10, none, false, .mv (.t 1)⟩,
   ⟨some 11, none, false, .bin .sub (.t 10) (.c (.int .i64 1))⟩,
   ⟨some 12, none, false, .mv (.t 1)⟩,
   ⟨some 13, none, false, .mv (.t 1)⟩,
   ⟨some 14, none, false, .bin .add (.t 13) (.c (.int .i64 1))⟩,
   ⟨some 15, none, false, .mv (.t 2)⟩,
   ⟨some 16, none, false, .mv (.t 3)⟩,
   ⟨some 17, none, false, .call (.f 227) [(.t 9), (.t 11), (.t 12), (.t 14), (.t 15), (.t 16)]⟩,
   ⟨some 8, none, false, .mv (.t 17)⟩])
 .ret))⟩
/-- slices.medianCmpFunc[civiltime/api.HolidayDay] -/
def af227 : AFun := ⟨41, true, [.tmp 12],
 (.seq (.region false [0, 1, 2, 3, 4, 5] [] [⟨some 12, none, false, .mv (.c (.int .i64 0))⟩])
 (.seq (.region false [0, 1, 2, 3, 4, 5] [] [⟨some 14, none, false, .mv (.t 0)⟩,
   ⟨some 15, none, false, .mv (.t 1)⟩,
   ⟨some 16, none, false, .mv (.t 2)⟩,
   ⟨some 17, none, false, .mv (.t 4)⟩,
   ⟨some 18, none, false, .mv (.t 5)⟩,
   ⟨some 19, none, false, .call (.f 253) [(.t 14), (.t 15), (.t 16), (.t 17), (.t 18)]⟩,
   ⟨some 13, none, false, .mv (.t 19)⟩,
   ⟨some 20, none, false, .ext 0 (.t 13)⟩,
   ⟨some 21, none, false, .ext 1 (.t 13)⟩,
   ⟨some 1, none, false, .mv (.t 20)⟩,
   ⟨some 2, none, false, .mv (.t 21)⟩])
 (.seq (.region false [0, 1, 2, 4, 5] [] [⟨some 23, none, false, .mv (.t 0)⟩,
   ⟨some 24, none, false, .mv (.t 2)⟩,
   ⟨some 25, none, false, .mv (.t 3)⟩,
   ⟨some 26, none, false, .mv (.t 4)⟩,
   ⟨some 27, none, false, .mv (.t 5)⟩,
   ⟨some 28, none, false, .call (.f 253) [(.t 23), (.t 24), (.t 25), (.t 26), (.t 27)]⟩,
   ⟨some 22, none, false, .mv (.t 28)⟩,
   ⟨some 29, none, false, .ext 0 (.t 22)⟩,
   ⟨some 30, none, false, .ext 1 (.t 22)⟩,
   ⟨some 2, none, false, .mv (.t 29)⟩,
   ⟨some 3, none, false, .mv (.t 30)⟩])
 (.seq (.region false [2] [] [⟨some 32, none, false, .mv (.t 0)⟩,
   ⟨some 33, none, false, .mv (.t 1)⟩,
   ⟨some 34, none, false, .mv (.t 2)⟩,
   ⟨some 35, none, false, .mv (.t 4)⟩,
   ⟨some 36, none, false, .mv (.t 5)⟩,
   ⟨some 37, none, false, .call (.f 253) [(.t 32), (.t 33), (.t 34), (.t 35), (.t 36)]⟩,
   ⟨some 31, none, false, .mv (.t 37)⟩,
   ⟨some 38, none, false, .ext 0 (.t 31)⟩,
   ⟨some 39, none, false, .ext 1 (.t 31)⟩,
   ⟨some 1, none, false, .mv (.t 38)⟩,
   ⟨some 2, none, false, .mv (.t 39)⟩])
 (.seq (.region false [12] [] [⟨some 40, none, false, .mv (.t 2)⟩,
   ⟨some 12, none, false, .mv (.t 40)⟩])
 .ret)))))⟩
/-- internal/bytealg.Cutover -/
def af233 : AFun := ⟨6, true, [.tmp 2],
 (.seq (.region false [0] [] [⟨some 2, none, false, .mv (.c (.int .i64 0))⟩])
 (.seq (.region false [2] [] [⟨some 3, none, false, .mv (.t 0)⟩,
   ⟨some 4, none, false, .bin .add (.t 3) (.c (.int .i64 16))⟩,
   ⟨some 5, none, false, .bin .quo (.t 4) (.c (.int .i64 8))⟩,
   ⟨some 2, none, false, .mv (.t 5)⟩])
 .ret))⟩
def af234L0 : ACode := .loop [0, 1, 5, 6, 7, 8, 9]
 (.seq (.seq (.region false [0, 1, 5, 6, 7, 8, 9, 20] [] [⟨some 18, none, false, .mv (.t 9)⟩,
   ⟨some 19, none, false, .mv (.t 7)⟩,
   ⟨some 20, none, false, .bin .lss (.t 18) (.t 19)⟩])
 (.cond (.t 20)
  .skip
  (.exit 0)))
 (.seq (.block 1 (.region false [0, 1, 5, 6, 7, 8, 9] [] [⟨some 23, none, false, .mv (.t 8)⟩,
    ⟨some 24, none, false, .bin .mul (.t 23) (.c (.int .u32 16777619))⟩,
    ⟨some 25, none, false, .mv (.t 0)⟩,
    ⟨some 26, none, false, .mv (.t 9)⟩,
    ⟨some 27, none, false, .sidx (.t 25) (.t 26)⟩,
    ⟨some 28, none, false, .conv (.int .u32) (.t 27)⟩,
    ⟨some 29, none, false, .bin .add (.t 24) (.t 28)⟩,
    ⟨some 8, none, false, .mv (.t 29)⟩]))
 (.region false [0, 1, 5, 6, 7, 8, 9] [] [⟨some 21, none, false, .mv (.t 9)⟩,
   ⟨some 22, none, false, .bin .add (.t 21) (.c (.int .i64 1))⟩,
   ⟨some 9, none, false, .mv (.t 22)⟩])))
def af234L1 : ACode := .loop [0, 1, 5, 6, 7, 8, 10]
 (.seq (.seq (.region false [0, 1, 5, 6, 7, 8, 10, 44] [] [⟨some 41, none, false, .mv (.t 10)⟩,
   ⟨some 42, none, false, .mv (.t 0)⟩,
   ⟨some 43, none, false, .bi (.len 0) [(.t 42)]⟩,
   ⟨some 44, none, false, .bin .lss (.t 41) (.t 43)⟩])
 (.cond (.t 44)
  .skip
  (.exit 2)))
 (.block 3 (.seq (.region false [0, 1, 5, 6, 7, 8, 10] [] [⟨some 45, none, false, .mv (.t 8)⟩,
    ⟨some 46, none, false, .bin .mul (.t 45) (.c (.int .u32 16777619))⟩,
    ⟨some 8, none, false, .mv (.t 46)⟩])
  (.seq (.region false [0, 1, 5, 6, 7, 8, 10] [] [⟨some 47, none, false, .mv (.t 8)⟩,
    ⟨some 48, none, false, .mv (.t 0)⟩,
    ⟨some 49, none, false, .mv (.t 10)⟩,
    ⟨some 50, none, false, .sidx (.t 48) (.t 49)⟩,
    ⟨some 51, none, false, .conv (.int .u32) (.t 50)⟩,
    ⟨some 52, none, false, .bin .add (.t 47) (.t 51)⟩,
    ⟨some 8, none, false, .mv (.t 52)⟩])
  (.seq (.region false [0, 1, 5, 6, 7, 8, 10] [] [⟨some 53, none, false, .mv (.t 8)⟩,
    ⟨some 54, none, false, .mv (.t 6)⟩,
    ⟨some 55, none, false, .mv (.t 0)⟩,
    ⟨some 56, none, false, .mv (.t 10)⟩,
    ⟨some 57, none, false, .mv (.t 7)⟩,
    ⟨some 58, none, false, .bin .sub (.t 56) (.t 57)⟩,
    ⟨some 59, none, false, .sidx (.t 55) (.t 58)⟩,
    ⟨some 60, none, false, .conv (.int .u32) (.t 59)⟩,
    ⟨some 61, none, false, .bin .mul (.t 54) (.t 60)⟩,
    ⟨some 62, none, false, .bin .sub (.t 53) (.t 61)⟩,
    ⟨some 8, none, false, .mv (.t 62)⟩])
  (.seq (.region false [0, 1, 5, 6, 7, 8, 10] [] [⟨some 63, none, false, .mv (.t 10)⟩,
    ⟨some 64, none, false, .bin .add (.t 63) (.c (.int .i64 1))⟩,
    ⟨some 10, none, false, .mv (.t 64)⟩])
  (.seq (.region false [0, 1, 5, 6, 7, 8, 10, 77] [] [⟨some 65, none, false, .mv (.t 8)⟩,
    ⟨some 66, none, false, .mv (.t 5)⟩,
    ⟨some 67, none, false, .bin .eql (.t 65) (.t 66)⟩,
    ⟨some 68, none, false, .mv (.t 67)⟩,
    ⟨some 69, some (68, true), false, .mv (.t 0)⟩,
    ⟨some 70, some (68, true), false, .mv (.t 10)⟩,
    ⟨some 71, some (68, true), false, .mv (.t 7)⟩,
    ⟨some 72, some (68, true), false, .bin .sub (.t 70) (.t 71)⟩,
    ⟨some 73, some (68, true), false, .mv (.t 10)⟩,
    ⟨some 74, some (68, true), false, .slice .str (.t 69) (some (.t 72)) (some (.t 73)) none⟩,
    ⟨some 75, some (68, true), false, .mv (.t 1)⟩,
    ⟨some 76, some (68, true), false, .bin .eql (.t 74) (.t 75)⟩,
    ⟨some 77, none, false, .pick (.t 68) (.t 76) (.c (.bool false))⟩])
  (.cond (.t 77)
   (.seq (.region false [4] [] [⟨some 78, none, false, .mv (.t 10)⟩,
     ⟨some 79, none, false, .mv (.t 7)⟩,
     ⟨some 80, none, false, .bin .sub (.t 78) (.t 79)⟩,
     ⟨some 4, none, false, .mv (.t 80)⟩])
   .ret)
   .skip))))))))
/-- internal/bytealg.IndexRabinKarp[string] -/
def af234 : AFun := ⟨81, true, [.tmp 4],
 (.seq (.region false [0, 1] [] [⟨some 4, none, false, .mv (.c (.int .i64 0))⟩])
 (.seq (.region false [0, 1, 5, 6] [] [⟨some 12, none, false, .mv (.t 1)⟩,
   ⟨some 13, none, false, .call (.f 258) [(.t 12)]⟩,
   ⟨some 11, none, false, .mv (.t 13)⟩,
   ⟨some 14, none, false, .ext 0 (.t 11)⟩,
   ⟨some 15, none, false, .ext 1 (.t 11)⟩,
   ⟨some 5, none, false, .mv (.t 14)⟩,
   ⟨some 6, none, false, .mv (.t 15)⟩])
 (.seq (.region false [0, 1, 5, 6, 7] [] [⟨some 16, none, false, .mv (.t 1)⟩,
   ⟨some 17, none, false, .bi (.len 0) [(.t 16)]⟩,
   ⟨some 7, none, false, .mv (.t 17)⟩])
 (.seq (.region false [0, 1, 5, 6, 7, 8] [] [⟨some 8, none, false, .mv (.c (.int .u32 0))⟩])
 (.seq (.seq (.region false [0, 1, 5, 6, 7, 8, 9] [] [⟨some 9, none, false, .mv (.c (.int .i64 0))⟩])
 (.block 0 af234L0))
 (.seq (.seq (.region false [0, 1, 5, 6, 7, 8, 39] [] [⟨some 30, none, false, .mv (.t 8)⟩,
   ⟨some 31, none, false, .mv (.t 5)⟩,
   ⟨some 32, none, false, .bin .eql (.t 30) (.t 31)⟩,
   ⟨some 33, none, false, .mv (.t 32)⟩,
   ⟨some 34, some (33, true), false, .mv (.t 0)⟩,
   ⟨some 35, some (33, true), false, .mv (.t 7)⟩,
   ⟨some 36, some (33, true), false, .slice .str (.t 34) none (some (.t 35)) none⟩,
   ⟨some 37, some (33, true), false, .mv (.t 1)⟩,
   ⟨some 38, some (33, true), false, .bin .eql (.t 36) (.t 37)⟩,
   ⟨some 39, none, false, .pick (.t 33) (.t 38) (.c (.bool false))⟩])
 (.cond (.t 39)
  (.seq (.region false [4] [] [⟨some 4, none, false, .mv (.c (.int .i64 0))⟩])
  .ret)
  .skip))
 (.seq (.seq (.region false [0, 1, 5, 6, 7, 8, 10] [] [⟨some 40, none, false, .mv (.t 7)⟩,
   ⟨some 10, none, false, .mv (.t 40)⟩])
 (.block 2 af234L1))
 (.seq (.region false [4] [] [⟨some 4, none, false, .mv (.c (.int .i64 (-1)))⟩])
 .ret))))))))⟩
/-- civiltime/islamic.leaps -/
def af240 : AFun := ⟨12, true, [.tmp 2],
 (.seq (.region false [0] [] [⟨some 2, none, false, .mv (.c .nilSl)⟩])
 (.seq (.region false [2] [] [⟨some 3, none, false, .bslice [(.int .i64 0), (.int .i64 0), (.int .i64 0), (.int .i64 0), (.int .i64 0), (.int .i64 0), (.int .i64 0), (.int .i64 0), (.int .i64 0), (.int .i64 0), (.int .i64 0)] [(0, 1, (.c (.int .i64 2))), (1, 1, (.c (.int .i64 5))), (2, 1, (.c (.int .i64 7))), (3, 1, (.c (.int .i64 10))), (4, 1, (.c (.int .i64 13))), (5, 1, (.c (.int .i64 15))), (6, 1, (.c (.int .i64 18))), (7, 1, (.c (.int .i64 21))), (8, 1, (.c (.int .i64 24))), (9, 1, (.c (.int .i64 26))), (10, 1, (.c (.int .i64 29)))] 11 1⟩,
   ⟨some 4, none, false, .bslice [(.int .i64 0), (.int .i64 0), (.int .i64 0), (.int .i64 0), (.int .i64 0), (.int .i64 0), (.int .i64 0), (.int .i64 0), (.int .i64 0), (.int .i64 0), (.int .i64 0)] [(0, 1, (.c (.int .i64 2))), (1, 1, (.c (.int .i64 5))), (2, 1, (.c (.int .i64 7))), (3, 1, (.c (.int .i64 10))), (4, 1, (.c (.int .i64 13))), (5, 1, (.c (.int .i64 16))), (6, 1, (.c (.int .i64 18))), (7, 1, (.c (.int .i64 21))), (8, 1, (.c (.int .i64 24))), (9, 1, (.c (.int .i64 26))), (10, 1, (.c (.int .i64 29)))] 11 1⟩,
   ⟨some 5, none, false, .bslice [(.int .i64 0), (.int .i64 0), (.int .i64 0), (.int .i64 0), (.int .i64 0), (.int .i64 0), (.int .i64 0), (.int .i64 0), (.int .i64 0), (.int .i64 0), (.int .i64 0)] [(0, 1, (.c (.int .i64 2))), (1, 1, (.c (.int .i64 5))), (2, 1, (.c (.int .i64 8))), (3, 1, (.c (.int .i64 10))), (4, 1, (.c (.int .i64 13))), (5, 1, (.c (.int .i64 16))), (6, 1, (.c (.int .i64 19))), (7, 1, (.c (.int .i64 21))), (8, 1, (.c (.int .i64 24))), (9, 1, (.c (.int .i64 27))), (10, 1, (.c (.int .i64 29)))] 11 1⟩,
   ⟨some 6, none, false, .bslice [(.int .i64 0), (.int .i64 0), (.int .i64 0), (.int .i64 0), (.int .i64 0), (.int .i64 0), (.int .i64 0), (.int .i64 0), (.int .i64 0), (.int .i64 0), (.int .i64 0)] [(0, 1, (.c (.int .i64 2))), (1, 1, (.c (.int .i64 5))), (2, 1, (.c (.int .i64 8))), (3, 1, (.c (.int .i64 11))), (4, 1, (.c (.int .i64 13))), (5, 1, (.c (.int .i64 16))), (6, 1, (.c (.int .i64 19))), (7, 1, (.c (.int .i64 21))), (8, 1, (.c (.int .i64 24))), (9, 1, (.c (.int .i64 27))), (10, 1, (.c (.int .i64 30)))] 11 1⟩,
   ⟨some 7, none, false, .bslice [.nilSl, .nilSl, .nilSl, .nilSl] [(0, 1, (.t 3)), (1, 1, (.t 4)), (2, 1, (.t 5)), (3, 1, (.t 6))] 4 1⟩,
   ⟨some 8, none, false, .mv (.t 0)⟩,
   ⟨some 9, none, false, .bin .sub (.t 8) (.c (.int .i64 1))⟩,
   ⟨some 10, none, false, .idxaddr none 1 (.t 7) (.t 9)⟩,
   ⟨some 11, none, false, .load false 1 (.t 10)⟩,
   ⟨some 2, none, false, .mv (.t 11)⟩])
 .ret))⟩
/-- civiltime/islamic.place -/
def af241 : AFun := ⟨7, true, [.tmp 2],
 (.seq (.region false [0] [] [⟨some 2, none, false, .mv (.c (.int .i64 0))⟩])
 (.seq (.region false [2] [] [⟨some 3, none, false, .mv (.t 0)⟩,
   ⟨some 4, none, false, .bin .sub (.t 3) (.c (.int .i64 1))⟩,
   ⟨some 5, none, false, .bin .rem (.t 4) (.c (.int .i64 30))⟩,
   ⟨some 6, none, false, .bin .add (.t 5) (.c (.int .i64 1))⟩,
   ⟨some 2, none, false, .mv (.t 6)⟩])
 .ret))⟩
/-- civiltime/islamic.Length -/
def af242 : AFun := ⟨37, true, [.tmp 6],
 (.seq (.region false [0, 1, 2] [] [⟨some 6, none, false, .mv (.c (.int .i64 0))⟩])
 (.seq (.block 0 (.seq (.region false [0, 1, 2, 7] [] [⟨some 8, none, false, .mv (.t 0)⟩,
    ⟨some 9, none, false, .call (.f 210) [(.t 8)]⟩,
    ⟨some 10, none, false, .un .not (.t 9)⟩,
    ⟨some 11, none, false, .mv (.t 10)⟩,
    ⟨some 12, some (11, false), false, .mv (.t 1)⟩,
    ⟨some 13, some (11, false), false, .call (.f 269) [(.t 12)]⟩,
    ⟨some 14, some (11, false), false, .un .not (.t 13)⟩,
    ⟨some 15, none, false, .pick (.t 11) (.c (.bool true)) (.t 14)⟩,
    ⟨some 16, none, false, .mv (.t 15)⟩,
    ⟨some 17, some (16, false), false, .mv (.t 2)⟩,
    ⟨some 18, some (16, false), false, .bin .lss (.t 17) (.c (.int .i64 1))⟩,
    ⟨some 19, none, false, .pick (.t 16) (.c (.bool true)) (.t 18)⟩,
    ⟨some 20, none, false, .mv (.t 19)⟩,
    ⟨some 21, some (20, false), false, .mv (.t 2)⟩,
    ⟨some 22, some (20, false), false, .bin .gtr (.t 21) (.c (.int .i64 12))⟩,
    ⟨some 23, none, false, .pick (.t 20) (.c (.bool true)) (.t 22)⟩,
    ⟨some 7, none, false, .mv (.t 23)⟩])
  (.cond (.t 7)
   (.seq (.region false [6] [] [⟨some 6, none, false, .mv (.c (.int .i64 0))⟩])
   .ret)
   (.seq (.region false [24] [] [⟨some 25, none, false, .mv (.t 2)⟩,
     ⟨some 26, none, false, .bin .rem (.t 25) (.c (.int .i64 2))⟩,
     ⟨some 27, none, false, .bin .eql (.t 26) (.c (.int .i64 1))⟩,
     ⟨some 28, none, false, .mv (.t 27)⟩,
     ⟨some 29, some (28, false), false, .mv (.t 2)⟩,
     ⟨some 30, some (28, false), false, .bin .eql (.t 29) (.c (.int .i64 12))⟩,
     ⟨some 31, some (28, false), false, .mv (.t 30)⟩,
     ⟨some 32, some (31, true), false, .mv (.t 0)⟩,
     ⟨some 33, some (31, true), false, .mv (.t 1)⟩,
     ⟨some 34, some (31, true), false, .call (.f 270) [(.t 32), (.t 33)]⟩,
     ⟨some 35, some (28, false), false, .pick (.t 31) (.t 34) (.c (.bool false))⟩,
     ⟨some 36, none, false, .pick (.t 28) (.c (.bool true)) (.t 35)⟩,
     ⟨some 24, none, false, .mv (.t 36)⟩])
   (.cond (.t 24)
    (.seq (.region false [6] [] [⟨some 6, none, false, .mv (.c (.int .i64 30))⟩])
    .ret)
    .skip)))))
 (.seq (.region false [6] [] [⟨some 6, none, false, .mv (.c (.int .i64 29))⟩])
 .ret)))⟩
/-- civiltime/islamic.before -/
def af243 : AFun := ⟨9, true, [.tmp 2],
 (.seq (.region false [0] [] [⟨some 2, none, false, .mv (.c (.int .i64 0))⟩])
 (.seq (.region false [2] [] [⟨some 3, none, false, .mv (.t 0)⟩,
   ⟨some 4, none, false, .bin .sub (.t 3) (.c (.int .i64 1))⟩,
   ⟨some 5, none, false, .bin .mul (.c (.int .i64 29)) (.t 4)⟩,
   ⟨some 6, none, false, .mv (.t 0)⟩,
   ⟨some 7, none, false, .bin .quo (.t 6) (.c (.int .i64 2))⟩,
   ⟨some 8, none, false, .bin .add (.t 5) (.t 7)⟩,
   ⟨some 2, none, false, .mv (.t 8)⟩])
 .ret))⟩
def af244L0 : ACode := .loop [0, 2, 3]
 (.seq (.seq (.region false [0, 2, 3, 16] [] [⟨some 12, none, false, .mv (.t 3)⟩,
   ⟨some 13, none, false, .bin .add (.t 12) (.c (.int .i64 1))⟩,
   ⟨some 14, none, false, .call (.f 271) [(.t 13)]⟩,
   ⟨some 15, none, false, .mv (.t 0)⟩,
   ⟨some 16, none, false, .bin .leq (.t 14) (.t 15)⟩])
 (.cond (.t 16)
  .skip
  (.exit 0)))
 (.block 1 (.region false [0, 2, 3] [] [⟨some 17, none, false, .mv (.t 3)⟩,
    ⟨some 18, none, false, .bin .add (.t 17) (.c (.int .i64 1))⟩,
    ⟨some 3, none, false, .mv (.t 18)⟩])))
def af244L1 : ACode := .loop [2, 3, 4, 24, 25, 26]
 (.seq (.region false [2, 3, 4, 24, 25, 26, 27] [] [⟨some 27, none, false, .bin .lss (.t 26) (.t 25)⟩])
 (.seq (.cond (.t 27)
  .skip
  (.exit 2))
 (.seq (.block 3 (.seq (.region false [2, 3, 4, 6, 24, 25, 26] [] [⟨some 28, none, false, .idxaddr none 1 (.t 24) (.t 26)⟩,
    ⟨some 29, none, false, .load false 1 (.t 28)⟩,
    ⟨some 6, none, false, .mv (.t 29)⟩])
  (.seq (.region false [2, 3, 4, 6, 7, 24, 25, 26] [] [⟨some 30, none, false, .mv (.t 3)⟩,
    ⟨some 31, none, false, .mv (.t 6)⟩,
    ⟨some 32, none, false, .call (.f 273) [(.t 30), (.t 31)]⟩,
    ⟨some 7, none, false, .mv (.t 32)⟩])
  (.seq (.seq (.region false [2, 3, 4, 6, 7, 24, 25, 26, 35] [] [⟨some 33, none, false, .mv (.t 4)⟩,
    ⟨some 34, none, false, .mv (.t 7)⟩,
    ⟨some 35, none, false, .bin .lss (.t 33) (.t 34)⟩])
  (.cond (.t 35)
   (.seq (.region false [2] [] [⟨some 36, none, false, .mv (.t 3)⟩,
     ⟨some 37, none, false, .mv (.t 6)⟩,
     ⟨some 38, none, false, .mv (.t 4)⟩,
     ⟨some 39, none, false, .bin .add (.t 38) (.c (.int .i64 1))⟩,
     ⟨some 40, none, false, .build [(.int .i64 0), (.int .i64 0), (.int .i64 0)] [(0, 1, (.t 36)), (1, 1, (.t 37)), (2, 1, (.t 39))]⟩,
     ⟨none, none, false, .store 3 (.t 2) (.t 40)⟩])
   .ret)
   .skip))
  (.region false [2, 3, 4, 24, 25, 26] [] [⟨some 41, none, false, .mv (.t 4)⟩,
    ⟨some 42, none, false, .mv (.t 7)⟩,
    ⟨some 43, none, false, .bin .sub (.t 41) (.t 42)⟩,
    ⟨some 4, none, false, .mv (.t 43)⟩])))))
 (.region false [2, 3, 4, 24, 25, 26] [] [⟨some 44, none, false, .bin .add (.t 26) (.c (.int .i64 1))⟩,
   ⟨some 26, none, false, .mv (.t 44)⟩]))))
/-- civiltime/hebrew.date -/
def af244 : AFun := ⟨46, true, [.cell 2 true 3],
 (.seq (.region false [0, 2] [] [⟨some 2, none, false, .new [(.int .i64 0), (.int .i64 0), (.int .i64 0)]⟩])
 (.seq (.region false [0, 2, 3] [] [⟨some 8, none, false, .mv (.t 0)⟩,
   ⟨some 9, none, false, .bin .sub (.t 8) (.c (.int .i64 (-2092590)))⟩,
   ⟨some 10, none, false, .bin .quo (.t 9) (.c (.int .i64 366))⟩,
   ⟨some 11, none, false, .bi .max [(.c (.int .i64 1)), (.t 10)]⟩,
   ⟨some 3, none, false, .mv (.t 11)⟩])
 (.seq (.block 0 af244L0)
 (.seq (.region false [2, 3, 4] [] [⟨some 19, none, false, .mv (.t 0)⟩,
   ⟨some 20, none, false, .mv (.t 3)⟩,
   ⟨some 21, none, false, .call (.f 271) [(.t 20)]⟩,
   ⟨some 22, none, false, .bin .sub (.t 19) (.t 21)⟩,
   ⟨some 4, none, false, .mv (.t 22)⟩])
 (.seq (.seq (.region false [2, 3, 4, 24, 25, 26] [] [⟨some 23, none, false, .mv (.t 3)⟩,
   ⟨some 24, none, false, .call (.f 272) [(.t 23)]⟩,
   ⟨some 25, none, false, .bi (.len 1) [(.t 24)]⟩,
   ⟨some 26, none, false, .mv (.c (.int .i64 0))⟩])
 (.block 2 af244L1))
 (.seq (.region false [2] [] [⟨some 45, none, false, .build [(.int .i64 0), (.int .i64 0), (.int .i64 0)] []⟩,
   ⟨none, none, false, .store 3 (.t 2) (.t 45)⟩])
 .ret))))))⟩
/-- internal/stringslite.CutPrefix -/
def af252 : AFun := ⟨15, true, [.tmp 4, .tmp 5],
 (.seq (.region false [0, 1] [] [⟨some 4, none, false, .mv (.c (.str []))⟩,
   ⟨some 5, none, false, .mv (.c (.bool false))⟩])
 (.seq (.seq (.region false [0, 1, 9] [] [⟨some 6, none, false, .mv (.t 0)⟩,
   ⟨some 7, none, false, .mv (.t 1)⟩,
   ⟨some 8, none, false, .call (.f 138) [(.t 6), (.t 7)]⟩,
   ⟨some 9, none, false, .un .not (.t 8)⟩])
 (.cond (.t 9)
  (.seq (.region false [4, 5] [] [⟨some 10, none, false, .mv (.t 0)⟩,
    ⟨some 4, none, false, .mv (.t 10)⟩,
    ⟨some 5, none, false, .mv (.c (.bool false))⟩])
  .ret)
  .skip))
 (.seq (.region false [4, 5] [] [⟨some 11, none, false, .mv (.t 0)⟩,
   ⟨some 12, none, false, .mv (.t 1)⟩,
   ⟨some 13, none, false, .bi (.len 0) [(.t 12)]⟩,
   ⟨some 14, none, false, .slice .str (.t 11) (some (.t 13)) none none⟩,
   ⟨some 4, none, false, .mv (.t 14)⟩,
   ⟨some 5, none, false, .mv (.c (.bool true))⟩])
 .ret)))⟩
/-- slices.order2CmpFunc[civiltime/api.HolidayDay] -/
def af253 : AFun := ⟨32, true, [.tmp 10, .tmp 11],
 (.seq (.region false [0, 1, 2, 3, 4] [] [⟨some 10, none, false, .mv (.c (.int .i64 0))⟩,
   ⟨some 11, none, false, .mv (.c (.int .i64 0))⟩])
 (.seq (.seq (.region true [1, 2, 3, 22] [] [⟨some 12, none, false, .mv (.t 4)⟩,
   ⟨some 13, none, false, .mv (.t 0)⟩,
   ⟨some 14, none, false, .mv (.t 2)⟩,
   ⟨some 15, none, false, .idxaddr none 2 (.t 13) (.t 14)⟩,
   ⟨some 16, none, false, .load true 2 (.t 15)⟩,
   ⟨some 17, none, false, .mv (.t 0)⟩,
   ⟨some 18, none, false, .mv (.t 1)⟩,
   ⟨some 19, none, false, .idxaddr none 2 (.t 17) (.t 18)⟩,
   ⟨some 20, none, false, .load true 2 (.t 19)⟩,
   ⟨some 21, none, false, .call (.t 12) [(.t 16), (.t 20)]⟩,
   ⟨some 22, none, false, .bin .lss (.t 21) (.c (.int .i64 0))⟩])
 (.cond (.t 22)
  (.seq (.region false [1, 2] [] [⟨some 23, none, false, .mv (.t 3)⟩,
    ⟨some 24, none, false, .nilck (.t 23)⟩,
    ⟨some 25, none, false, .load false 1 (.t 24)⟩,
    ⟨some 26, none, false, .bin .add (.t 25) (.c (.int .i64 1))⟩,
    ⟨some 27, none, false, .nilck (.t 23)⟩,
    ⟨none, none, false, .store 1 (.t 27) (.t 26)⟩])
  (.seq (.region false [10, 11] [] [⟨some 28, none, false, .mv (.t 2)⟩,
    ⟨some 29, none, false, .mv (.t 1)⟩,
    ⟨some 10, none, false, .mv (.t 28)⟩,
    ⟨some 11, none, false, .mv (.t 29)⟩])
  .ret))
  .skip))
 (.seq (.region false [10, 11] [] [⟨some 30, none, false, .mv (.t 1)⟩,
   ⟨some 31, none, false, .mv (.t 2)⟩,
   ⟨some 10, none, false, .mv (.t 30)⟩,
   ⟨some 11, none, false, .mv (.t 31)⟩])
 .ret)))⟩
def af258L0 : ACode := .loop [0, 4, 5]
 (.seq (.seq (.region false [0, 4, 5, 12] [] [⟨some 9, none, false, .mv (.t 5)⟩,
   ⟨some 10, none, false, .mv (.t 0)⟩,
   ⟨some 11, none, false, .bi (.len 0) [(.t 10)]⟩,
   ⟨some 12, none, false, .bin .lss (.t 9) (.t 11)⟩])
 (.cond (.t 12)
  .skip
  (.exit 0)))
 (.seq (.block 1 (.region false [0, 4, 5] [] [⟨some 15, none, false, .mv (.t 4)⟩,
    ⟨some 16, none, false, .bin .mul (.t 15) (.c (.int .u32 16777619))⟩,
    ⟨some 17, none, false, .mv (.t 0)⟩,
    ⟨some 18, none, false, .mv (.t 5)⟩,
    ⟨some 19, none, false, .sidx (.t 17) (.t 18)⟩,
    ⟨some 20, none, false, .conv (.int .u32) (.t 19)⟩,
    ⟨some 21, none, false, .bin .add (.t 16) (.t 20)⟩,
    ⟨some 4, none, false, .mv (.t 21)⟩]))
 (.region false [0, 4, 5] [] [⟨some 13, none, false, .mv (.t 5)⟩,
   ⟨some 14, none, false, .bin .add (.t 13) (.c (.int .i64 1))⟩,
   ⟨some 5, none, false, .mv (.t 14)⟩])))
def af258L1 : ACode := .loop [4, 6, 7, 8]
 (.seq (.seq (.region false [4, 6, 7, 8, 25] [] [⟨some 24, none, false, .mv (.t 8)⟩,
   ⟨some 25, none, false, .bin .gtr (.t 24) (.c (.int .i64 0))⟩])
 (.cond (.t 25)
  .skip
  (.exit 2)))
 (.seq (.block 3 (.seq (.seq (.region false [4, 6, 7, 8, 30] [] [⟨some 28, none, false, .mv (.t 8)⟩,
    ⟨some 29, none, false, .bin .and (.t 28) (.c (.int .i64 1))⟩,
    ⟨some 30, none, false, .bin .neq (.t 29) (.c (.int .i64 0))⟩])
  (.cond (.t 30)
   (.region false [4, 6, 7, 8] [] [⟨some 31, none, false, .mv (.t 6)⟩,
     ⟨some 32, none, false, .mv (.t 7)⟩,
     ⟨some 33, none, false, .bin .mul (.t 31) (.t 32)⟩,
     ⟨some 6, none, false, .mv (.t 33)⟩])
   .skip))
  (.region false [4, 6, 7, 8] [] [⟨some 34, none, false, .mv (.t 7)⟩,
    ⟨some 35, none, false, .mv (.t 7)⟩,
    ⟨some 36, none, false, .bin .mul (.t 34) (.t 35)⟩,
    ⟨some 7, none, false, .mv (.t 36)⟩])))
 (.region false [4, 6, 7, 8] [] [⟨some 26, none, false, .mv (.t 8)⟩,
   ⟨some 27, none, false, .bin .shr (.t 26) (.c (.int .u64 1))⟩,
   ⟨some 8, none, false, .mv (.t 27)⟩])))
/-- internal/bytealg.hashStr[string] -/
def af258 : AFun := ⟨39, true, [.tmp 2, .tmp 3],
 (.seq (.region false [0] [] [⟨some 2, none, false, .mv (.c (.int .u32 0))⟩,
   ⟨some 3, none, false, .mv (.c (.int .u32 0))⟩])
 (.seq (.region false [0, 4] [] [⟨some 4, none, false, .mv (.c (.int .u32 0))⟩])
 (.seq (.seq (.region false [0, 4, 5] [] [⟨some 5, none, false, .mv (.c (.int .i64 0))⟩])
 (.block 0 af258L0))
 (.seq (.region false [0, 4, 6, 7] [] [⟨some 6, none, false, .mv (.c (.int .u32 1))⟩,
   ⟨some 7, none, false, .mv (.c (.int .u32 16777619))⟩])
 (.seq (.seq (.region false [4, 6, 7, 8] [] [⟨some 22, none, false, .mv (.t 0)⟩,
   ⟨some 23, none, false, .bi (.len 0) [(.t 22)]⟩,
   ⟨some 8, none, false, .mv (.t 23)⟩])
 (.block 2 af258L1))
 (.seq (.region false [2, 3] [] [⟨some 37, none, false, .mv (.t 4)⟩,
   ⟨some 38, none, false, .mv (.t 6)⟩,
   ⟨some 2, none, false, .mv (.t 37)⟩,
   ⟨some 3, none, false, .mv (.t 38)⟩])
 .ret))))))⟩
/-- civiltime/islamic.year -/
def af269 : AFun := ⟨9, true, [.tmp 2],
 (.seq (.region false [0] [] [⟨some 2, none, false, .mv (.c (.bool false))⟩])
 (.seq (.region false [2] [] [⟨some 3, none, false, .mv (.t 0)⟩,
   ⟨some 4, none, false, .bin .geq (.t 3) (.c (.int .i64 1))⟩,
   ⟨some 5, none, false, .mv (.t 4)⟩,
   ⟨some 6, some (5, true), false, .mv (.t 0)⟩,
   ⟨some 7, some (5, true), false, .bin .leq (.t 6) (.c (.int .i64 9600))⟩,
   ⟨some 8, none, false, .pick (.t 5) (.t 7) (.c (.bool false))⟩,
   ⟨some 2, none, false, .mv (.t 8)⟩])
 .ret))⟩
/-- civiltime/islamic.Leap -/
def af270 : AFun := ⟨18, true, [.tmp 4],
 (.seq (.region false [0, 1] [] [⟨some 4, none, false, .mv (.c (.bool false))⟩])
 (.seq (.region false [4] [] [⟨some 5, none, false, .mv (.t 0)⟩,
   ⟨some 6, none, false, .call (.f 210) [(.t 5)]⟩,
   ⟨some 7, none, false, .mv (.t 6)⟩,
   ⟨some 8, some (7, true), false, .mv (.t 1)⟩,
   ⟨some 9, some (7, true), false, .call (.f 269) [(.t 8)]⟩,
   ⟨some 10, none, false, .pick (.t 7) (.t 9) (.c (.bool false))⟩,
   ⟨some 11, none, false, .mv (.t 10)⟩,
   ⟨some 12, some (11, true), false, .mv (.t 0)⟩,
   ⟨some 13, some (11, true), false, .call (.f 240) [(.t 12)]⟩,
   ⟨some 14, some (11, true), false, .mv (.t 1)⟩,
   ⟨some 15, some (11, true), false, .call (.f 241) [(.t 14)]⟩,
   ⟨some 16, some (11, true), false, .call (.f 284) [(.t 13), (.t 15)]⟩,
   ⟨some 17, none, false, .pick (.t 11) (.t 16) (.c (.bool false))⟩,
   ⟨some 4, none, false, .mv (.t 17)⟩])
 .ret))⟩
/-- civiltime/hebrew.begin -/
def af271 : AFun := ⟨32, true, [.tmp 2],
 (.seq (.region false [0] [] [⟨some 2, none, false, .mv (.c (.int .i64 0))⟩])
 (.seq (.region false [3, 4, 5] [] [⟨some 7, none, false, .mv (.t 0)⟩,
   ⟨some 8, none, false, .bin .sub (.t 7) (.c (.int .i64 1))⟩,
   ⟨some 9, none, false, .call (.f 285) [(.t 8)]⟩,
   ⟨some 10, none, false, .mv (.t 0)⟩,
   ⟨some 11, none, false, .call (.f 285) [(.t 10)]⟩,
   ⟨some 12, none, false, .mv (.t 0)⟩,
   ⟨some 13, none, false, .bin .add (.t 12) (.c (.int .i64 1))⟩,
   ⟨some 14, none, false, .call (.f 285) [(.t 13)]⟩,
   ⟨some 3, none, false, .mv (.t 9)⟩,
   ⟨some 4, none, false, .mv (.t 11)⟩,
   ⟨some 5, none, false, .mv (.t 14)⟩])
 (.seq (.region false [3, 4, 5, 6] [] [⟨some 15, none, false, .mv (.t 4)⟩,
   ⟨some 16, none, false, .bin .add (.c (.int .i64 (-2092590))) (.t 15)⟩,
   ⟨some 6, none, false, .mv (.t 16)⟩])
 (.seq (.block 0 (.seq (.region false [3, 4, 6, 17] [] [⟨some 18, none, false, .mv (.t 5)⟩,
    ⟨some 19, none, false, .mv (.t 4)⟩,
    ⟨some 20, none, false, .bin .sub (.t 18) (.t 19)⟩,
    ⟨some 21, none, false, .bin .eql (.t 20) (.c (.int .i64 356))⟩,
    ⟨some 17, none, false, .mv (.t 21)⟩])
  (.cond (.t 17)
   (.seq (.region false [2] [] [⟨some 22, none, false, .mv (.t 6)⟩,
     ⟨some 23, none, false, .bin .add (.t 22) (.c (.int .i64 2))⟩,
     ⟨some 2, none, false, .mv (.t 23)⟩])
   .ret)
   (.seq (.region false [6, 24] [] [⟨some 25, none, false, .mv (.t 4)⟩,
     ⟨some 26, none, false, .mv (.t 3)⟩,
     ⟨some 27, none, false, .bin .sub (.t 25) (.t 26)⟩,
     ⟨some 28, none, false, .bin .eql (.t 27) (.c (.int .i64 382))⟩,
     ⟨some 24, none, false, .mv (.t 28)⟩])
   (.cond (.t 24)
    (.seq (.region false [2] [] [⟨some 29, none, false, .mv (.t 6)⟩,
      ⟨some 30, none, false, .bin .add (.t 29) (.c (.int .i64 1))⟩,
      ⟨some 2, none, false, .mv (.t 30)⟩])
    .ret)
    .skip)))))
 (.seq (.region false [2] [] [⟨some 31, none, false, .mv (.t 6)⟩,
   ⟨some 2, none, false, .mv (.t 31)⟩])
 .ret)))))⟩
def af272L0 : ACode := .loop [0, 3, 4]
 (.seq (.seq (.region false [0, 3, 4, 9] [] [⟨some 6, none, false, .mv (.t 4)⟩,
   ⟨some 7, none, false, .mv (.t 0)⟩,
   ⟨some 8, none, false, .call (.f 286) [(.t 7)]⟩,
   ⟨some 9, none, false, .bin .leq (.t 6) (.t 8)⟩])
 (.cond (.t 9)
  .skip
  (.exit 0)))
 (.seq (.block 1 (.region false [0, 3, 4] [] [⟨some 12, none, false, .mv (.t 3)⟩,
    ⟨some 13, none, false, .mv (.t 4)⟩,
    ⟨some 14, none, false, .bslice [(.int .i64 0)] [(0, 1, (.t 13))] 1 1⟩,
    ⟨some 15, none, false, .bi (.append 1 8) [(.t 12), (.t 14)]⟩,
    ⟨some 3, none, false, .mv (.t 15)⟩]))
 (.region false [0, 3, 4] [] [⟨some 10, none, false, .mv (.t 4)⟩,
   ⟨some 11, none, false, .bin .add (.t 10) (.c (.int .i64 1))⟩,
   ⟨some 4, none, false, .mv (.t 11)⟩])))
def af272L1 : ACode := .loop [3, 16]
 (.seq (.region false [3, 16, 17] [] [⟨some 17, none, false, .bin .lss (.t 16) (.c (.int .i64 6))⟩])
 (.seq (.cond (.t 17)
  .skip
  (.exit 2))
 (.seq (.block 3 (.seq (.region false [3, 5, 16] [] [⟨some 18, none, false, .mv (.t 16)⟩,
    ⟨some 5, none, false, .mv (.t 18)⟩])
  (.region false [3, 16] [] [⟨some 19, none, false, .mv (.t 3)⟩,
    ⟨some 20, none, false, .mv (.t 5)⟩,
    ⟨some 21, none, false, .bin .add (.t 20) (.c (.int .i64 1))⟩,
    ⟨some 22, none, false, .bslice [(.int .i64 0)] [(0, 1, (.t 21))] 1 1⟩,
    ⟨some 23, none, false, .bi (.append 1 8) [(.t 19), (.t 22)]⟩,
    ⟨some 3, none, false, .mv (.t 23)⟩])))
 (.region false [3, 16] [] [⟨some 24, none, false, .bin .add (.t 16) (.c (.int .i64 1))⟩,
   ⟨some 16, none, false, .mv (.t 24)⟩]))))
/-- civiltime/hebrew.order -/
def af272 : AFun := ⟨26, true, [.tmp 2],
 (.seq (.region false [0] [] [⟨some 2, none, false, .mv (.c .nilSl)⟩])
 (.seq (.region false [0, 3] [] [⟨some 3, none, false, .mv (.c .nilSl)⟩])
 (.seq (.seq (.region false [0, 3, 4] [] [⟨some 4, none, false, .mv (.c (.int .i64 7))⟩])
 (.block 0 af272L0))
 (.seq (.seq (.region false [3, 16] [] [⟨some 16, none, false, .mv (.c (.int .i64 0))⟩])
 (.block 2 af272L1))
 (.seq (.region false [2] [] [⟨some 25, none, false, .mv (.t 3)⟩,
   ⟨some 2, none, false, .mv (.t 25)⟩])
 .ret)))))⟩
/-- civiltime/hebrew.Length -/
def af273 : AFun := ⟨37, true, [.tmp 4],
 (.seq (.region false [0, 1] [] [⟨some 4, none, false, .mv (.c (.int .i64 0))⟩])
 (.seq (.seq (.region false [0, 1, 12] [] [⟨some 5, none, false, .mv (.t 1)⟩,
   ⟨some 6, none, false, .bin .lss (.t 5) (.c (.int .i64 1))⟩,
   ⟨some 7, none, false, .mv (.t 6)⟩,
   ⟨some 8, some (7, false), false, .mv (.t 1)⟩,
   ⟨some 9, some (7, false), false, .mv (.t 0)⟩,
   ⟨some 10, some (7, false), false, .call (.f 286) [(.t 9)]⟩,
   ⟨some 11, some (7, false), false, .bin .gtr (.t 8) (.t 10)⟩,
   ⟨some 12, none, false, .pick (.t 7) (.c (.bool true)) (.t 11)⟩])
 (.cond (.t 12)
  (.seq (.region false [4] [] [⟨some 4, none, false, .mv (.c (.int .i64 0))⟩])
  .ret)
  .skip))
 (.seq (.seq (.region false [0, 13] [] [⟨some 13, none, false, .mv (.t 1)⟩])
 (.block 0 (.seq (.seq (.region false [0, 13, 14] [] [⟨some 15, none, false, .bin .eql (.t 13) (.c (.int .i64 2))⟩,
    ⟨some 14, none, false, .mv (.t 15)⟩])
  (.cond (.t 14)
   .skip
   (.seq (.region false [0, 13, 14] [] [⟨some 16, none, false, .bin .eql (.t 13) (.c (.int .i64 4))⟩,
     ⟨some 14, none, false, .mv (.t 16)⟩])
   (.cond (.t 14)
    .skip
    (.seq (.region false [0, 13, 14] [] [⟨some 17, none, false, .bin .eql (.t 13) (.c (.int .i64 6))⟩,
      ⟨some 14, none, false, .mv (.t 17)⟩])
    (.cond (.t 14)
     .skip
     (.seq (.region false [0, 13, 14] [] [⟨some 18, none, false, .bin .eql (.t 13) (.c (.int .i64 10))⟩,
       ⟨some 14, none, false, .mv (.t 18)⟩])
     (.cond (.t 14)
      .skip
      (.region false [0, 13, 14] [] [⟨some 19, none, false, .bin .eql (.t 13) (.c (.int .i64 13))⟩,
        ⟨some 14, none, false, .mv (.t 19)⟩])))))))))
  (.cond (.t 14)
   (.seq (.region false [4] [] [⟨some 4, none, false, .mv (.c (.int .i64 29))⟩])
   .ret)
   (.seq (.region false [0, 13, 20] [] [⟨some 21, none, false, .bin .eql (.t 13) (.c (.int .i64 12))⟩,
     ⟨some 20, none, false, .mv (.t 21)⟩])
   (.cond (.t 20)
    (.seq (.region false [24] [] [⟨some 22, none, false, .mv (.t 0)⟩,
      ⟨some 23, none, false, .call (.f 287) [(.t 22)]⟩,
      ⟨some 24, none, false, .un .not (.t 23)⟩])
    (.cond (.t 24)
     (.seq (.region false [4] [] [⟨some 4, none, false, .mv (.c (.int .i64 29))⟩])
     .ret)
     .skip))
    (.seq (.region false [0, 13, 25] [] [⟨some 26, none, false, .bin .eql (.t 13) (.c (.int .i64 8))⟩,
      ⟨some 25, none, false, .mv (.t 26)⟩])
    (.cond (.t 25)
     (.seq (.region false [30] [] [⟨some 27, none, false, .mv (.t 0)⟩,
       ⟨some 28, none, false, .call (.f 288) [(.t 27)]⟩,
       ⟨some 29, none, false, .bin .rem (.t 28) (.c (.int .i64 10))⟩,
       ⟨some 30, none, false, .bin .neq (.t 29) (.c (.int .i64 5))⟩])
     (.cond (.t 30)
      (.seq (.region false [4] [] [⟨some 4, none, false, .mv (.c (.int .i64 29))⟩])
      .ret)
      .skip))
     (.seq (.region false [0, 31] [] [⟨some 32, none, false, .bin .eql (.t 13) (.c (.int .i64 9))⟩,
       ⟨some 31, none, false, .mv (.t 32)⟩])
     (.cond (.t 31)
      (.seq (.region false [36] [] [⟨some 33, none, false, .mv (.t 0)⟩,
        ⟨some 34, none, false, .call (.f 288) [(.t 33)]⟩,
        ⟨some 35, none, false, .bin .rem (.t 34) (.c (.int .i64 10))⟩,
        ⟨some 36, none, false, .bin .eql (.t 35) (.c (.int .i64 3))⟩])
      (.cond (.t 36)
       (.seq (.region false [4] [] [⟨some 4, none, false, .mv (.c (.int .i64 29))⟩])
       .ret)
       .skip))
      .skip))))))))))
 (.seq (.region false [4] [] [⟨some 4, none, false, .mv (.c (.int .i64 30))⟩])
 .ret))))⟩
/-- slices.Contains[[]int,int] -/
def af284 : AFun := ⟨9, true, [.tmp 4],
 (.seq (.region false [0, 1] [] [⟨some 4, none, false, .mv (.c (.bool false))⟩])
 (.seq (.region false [4] [] [⟨some 5, none, false, .mv (.t 0)⟩,
   ⟨some 6, none, false, .mv (.t 1)⟩,
   ⟨some 7, none, false, .call (.f 299) [(.t 5), (.t 6)]⟩,
   ⟨some 8, none, false, .bin .geq (.t 7) (.c (.int .i64 0))⟩,
   ⟨some 4, none, false, .mv (.t 8)⟩])
 .ret))⟩
/-- civiltime/hebrew.elapsed -/
def af285 : AFun := ⟨22, true, [.tmp 2],
 (.seq (.region false [0] [] [⟨some 2, none, false, .mv (.c (.int .i64 0))⟩])
 (.seq (.region false [3] [] [⟨some 5, none, false, .mv (.t 0)⟩,
   ⟨some 6, none, false, .call (.f 300) [(.t 5)]⟩,
   ⟨some 3, none, false, .mv (.t 6)⟩])
 (.seq (.region false [4] [] [⟨some 7, none, false, .mv (.t 3)⟩,
   ⟨some 8, none, false, .bin .mul (.c (.int .i64 29)) (.t 7)⟩,
   ⟨some 9, none, false, .mv (.t 3)⟩,
   ⟨some 10, none, false, .bin .mul (.c (.int .i64 13753)) (.t 9)⟩,
   ⟨some 11, none, false, .bin .add (.c (.int .i64 12084)) (.t 10)⟩,
   ⟨some 12, none, false, .call (.f 211) [(.t 11), (.c (.int .i64 25920))]⟩,
   ⟨some 13, none, false, .bin .add (.t 8) (.t 12)⟩,
   ⟨some 4, none, false, .mv (.t 13)⟩])
 (.seq (.seq (.region false [4, 18] [] [⟨some 14, none, false, .mv (.t 4)⟩,
   ⟨some 15, none, false, .bin .add (.t 14) (.c (.int .i64 1))⟩,
   ⟨some 16, none, false, .bin .mul (.c (.int .i64 3)) (.t 15)⟩,
   ⟨some 17, none, false, .call (.f 52) [(.t 16), (.c (.int .i64 7))]⟩,
   ⟨some 18, none, false, .bin .lss (.t 17) (.c (.int .i64 3))⟩])
 (.cond (.t 18)
  (.region false [4] [] [⟨some 19, none, false, .mv (.t 4)⟩,
    ⟨some 20, none, false, .bin .add (.t 19) (.c (.int .i64 1))⟩,
    ⟨some 4, none, false, .mv (.t 20)⟩])
  .skip))
 (.seq (.region false [2] [] [⟨some 21, none, false, .mv (.t 4)⟩,
   ⟨some 2, none, false, .mv (.t 21)⟩])
 .ret)))))⟩
/-- civiltime/hebrew.Months -/
def af286 : AFun := ⟨10, true, [.tmp 2],
 (.seq (.region false [0] [] [⟨some 2, none, false, .mv (.c (.int .i64 0))⟩])
 (.seq (.block 0 (.seq (.region false [0, 3] [] [⟨some 4, none, false, .mv (.t 0)⟩,
    ⟨some 5, none, false, .call (.f 301) [(.t 4)]⟩,
    ⟨some 6, none, false, .un .not (.t 5)⟩,
    ⟨some 3, none, false, .mv (.t 6)⟩])
  (.cond (.t 3)
   (.seq (.region false [2] [] [⟨some 2, none, false, .mv (.c (.int .i64 0))⟩])
   .ret)
   (.seq (.region false [7] [] [⟨some 8, none, false, .mv (.t 0)⟩,
     ⟨some 9, none, false, .call (.f 287) [(.t 8)]⟩,
     ⟨some 7, none, false, .mv (.t 9)⟩])
   (.cond (.t 7)
    (.seq (.region false [2] [] [⟨some 2, none, false, .mv (.c (.int .i64 13))⟩])
    .ret)
    .skip)))))
 (.seq (.region false [2] [] [⟨some 2, none, false, .mv (.c (.int .i64 12))⟩])
 .ret)))⟩
/-- civiltime/hebrew.leap -/
def af287 : AFun := ⟨8, true, [.tmp 2],
 (.seq (.region false [0] [] [⟨some 2, none, false, .mv (.c (.bool false))⟩])
 (.seq (.region false [2] [] [⟨some 3, none, false, .mv (.t 0)⟩,
   ⟨some 4, none, false, .bin .mul (.c (.int .i64 7)) (.t 3)⟩,
   ⟨some 5, none, false, .bin .add (.t 4) (.c (.int .i64 1))⟩,
   ⟨some 6, none, false, .call (.f 52) [(.t 5), (.c (.int .i64 19))]⟩,
   ⟨some 7, none, false, .bin .lss (.t 6) (.c (.int .i64 7))⟩,
   ⟨some 2, none, false, .mv (.t 7)⟩])
 .ret))⟩
/-- civiltime/hebrew.YearLength -/
def af288 : AFun := ⟨12, true, [.tmp 2],
 (.seq (.region false [0] [] [⟨some 2, none, false, .mv (.c (.int .i64 0))⟩])
 (.seq (.seq (.region false [0, 5] [] [⟨some 3, none, false, .mv (.t 0)⟩,
   ⟨some 4, none, false, .call (.f 301) [(.t 3)]⟩,
   ⟨some 5, none, false, .un .not (.t 4)⟩])
 (.cond (.t 5)
  (.seq (.region false [2] [] [⟨some 2, none, false, .mv (.c (.int .i64 0))⟩])
  .ret)
  .skip))
 (.seq (.region false [2] [] [⟨some 6, none, false, .mv (.t 0)⟩,
   ⟨some 7, none, false, .bin .add (.t 6) (.c (.int .i64 1))⟩,
   ⟨some 8, none, false, .call (.f 271) [(.t 7)]⟩,
   ⟨some 9, none, false, .mv (.t 0)⟩,
   ⟨some 10, none, false, .call (.f 271) [(.t 9)]⟩,
   ⟨some 11, none, false, .bin .sub (.t 8) (.t 10)⟩,
   ⟨some 2, none, false, .mv (.t 11)⟩])
 .ret)))⟩
def af299L0 : ACode := .loop [0, 1, 7, 8]
 (.seq (.region false [0, 1, 7, 8, 9] [] [⟨some 9, none, false, .bin .lss (.t 8) (.t 7)⟩])
 (.seq (.cond (.t 9)
  .skip
  (.exit 0))
 (.seq (.block 1 (.seq (.region false [0, 1, 5, 7, 8] [] [⟨some 10, none, false, .mv (.t 8)⟩,
    ⟨some 5, none, false, .mv (.t 10)⟩])
  (.seq (.region false [0, 1, 5, 7, 8, 16] [] [⟨some 11, none, false, .mv (.t 1)⟩,
    ⟨some 12, none, false, .mv (.t 0)⟩,
    ⟨some 13, none, false, .mv (.t 5)⟩,
    ⟨some 14, none, false, .idxaddr none 1 (.t 12) (.t 13)⟩,
    ⟨some 15, none, false, .load false 1 (.t 14)⟩,
    ⟨some 16, none, false, .bin .eql (.t 11) (.t 15)⟩])
  (.cond (.t 16)
   (.seq (.region false [4] [] [⟨some 17, none, false, .mv (.t 5)⟩,
     ⟨some 4, none, false, .mv (.t 17)⟩])
   .ret)
   .skip))))
 (.region false [0, 1, 7, 8] [] [⟨some 18, none, false, .bin .add (.t 8) (.c (.int .i64 1))⟩,
   ⟨some 8, none, false, .mv (.t 18)⟩]))))
/-- slices.Index[[]int,int] -/
def af299 : AFun := ⟨19, true, [.tmp 4],
 (.seq (.region false [0, 1] [] [⟨some 4, none, false, .mv (.c (.int .i64 0))⟩])
 (.seq (.seq (.region false [0, 1, 7, 8] [] [⟨some 6, none, false, .mv (.t 0)⟩,
   ⟨some 7, none, false, .bi (.len 1) [(.t 6)]⟩,
   ⟨some 8, none, false, .mv (.c (.int .i64 0))⟩])
 (.block 0 af299L0))
 (.seq (.region false [4] [] [⟨some 4, none, false, .mv (.c (.int .i64 (-1)))⟩])
 .ret)))⟩
/-- civiltime/hebrew.before -/
def af300 : AFun := ⟨7, true, [.tmp 2],
 (.seq (.region false [0] [] [⟨some 2, none, false, .mv (.c (.int .i64 0))⟩])
 (.seq (.region false [2] [] [⟨some 3, none, false, .mv (.t 0)⟩,
   ⟨some 4, none, false, .bin .mul (.c (.int .i64 235)) (.t 3)⟩,
   ⟨some 5, none, false, .bin .sub (.t 4) (.c (.int .i64 234))⟩,
   ⟨some 6, none, false, .call (.f 211) [(.t 5), (.c (.int .i64 19))]⟩,
   ⟨some 2, none, false, .mv (.t 6)⟩])
 .ret))⟩
/-- civiltime/hebrew.isYear -/
def af301 : AFun := ⟨9, true, [.tmp 2],
 (.seq (.region false [0] [] [⟨some 2, none, false, .mv (.c (.bool false))⟩])
 (.seq (.region false [2] [] [⟨some 3, none, false, .mv (.t 0)⟩,
   ⟨some 4, none, false, .bin .geq (.t 3) (.c (.int .i64 1))⟩,
   ⟨some 5, none, false, .mv (.t 4)⟩,
   ⟨some 6, some (5, true), false, .mv (.t 0)⟩,
   ⟨some 7, some (5, true), false, .bin .leq (.t 6) (.c (.int .i64 20000))⟩,
   ⟨some 8, none, false, .pick (.t 5) (.t 7) (.c (.bool false))⟩,
   ⟨some 2, none, false, .mv (.t 8)⟩])
 .ret))⟩
def fnT (n : Nat) : Option AFun := (cond (Nat.blt n 155) (cond (Nat.blt n 92) (cond (Nat.blt n 49) (cond (Nat.blt n 24) (cond (Nat.blt n 15) (cond (Nat.blt n 13) (cond (Nat.beq n 3) (some af3) none) (cond (Nat.blt n 14) (cond (Nat.beq n 13) (some af13) none) (cond (Nat.beq n 14) (some af14) none))) (cond (Nat.blt n 18) (cond (Nat.blt n 17) (cond (Nat.beq n 15) (some af15) none) (cond (Nat.beq n 17) (some af17) none)) (cond (Nat.blt n 19) (cond (Nat.beq n 18) (some af18) none) (cond (Nat.beq n 19) (some af19) none)))) (cond (Nat.blt n 45) (cond (Nat.blt n 43) (cond (Nat.blt n 25) (cond (Nat.beq n 24) (some af24) none) (cond (Nat.beq n 25) (some af25) none)) (cond (Nat.blt n 44) (cond (Nat.beq n 43) (some af43) none) (cond (Nat.beq n 44) (some af44) none))) (cond (Nat.blt n 47) (cond (Nat.blt n 46) (cond (Nat.beq n 45) (some af45) none) (cond (Nat.beq n 46) (some af46) none)) (cond (Nat.blt n 48) (cond (Nat.beq n 47) (some af47) none) (cond (Nat.beq n 48) (some af48) none))))) (cond (Nat.blt n 60) (cond (Nat.blt n 53) (cond (Nat.blt n 51) (cond (Nat.blt n 50) (cond (Nat.beq n 49) (some af49) none) (cond (Nat.beq n 50) (some af50) none)) (cond (Nat.blt n 52) (cond (Nat.beq n 51) (some af51) none) (cond (Nat.beq n 52) (some af52) none))) (cond (Nat.blt n 55) (cond (Nat.blt n 54) (cond (Nat.beq n 53) (some af53) none) (cond (Nat.beq n 54) (some af54) none)) (cond (Nat.blt n 59) (cond (Nat.beq n 55) (some af55) none) (cond (Nat.beq n 59) (some af59) none)))) (cond (Nat.blt n 88) (cond (Nat.blt n 65) (cond (Nat.blt n 64) (cond (Nat.beq n 60) (some af60) none) (cond (Nat.beq n 64) (some af64) none)) (cond (Nat.blt n 66) (cond (Nat.beq n 65) (some af65) none) (cond (Nat.beq n 66) (some af66) none))) (cond (Nat.blt n 90) (cond (Nat.blt n 89) (cond (Nat.beq n 88) (some af88) none) (cond (Nat.beq n 89) (some af89) none)) (cond (Nat.blt n 91) (cond (Nat.beq n 90) (some af90) none) (cond (Nat.beq n 91) (some af91) none)))))) (cond (Nat.blt n 114) (cond (Nat.blt n 100) (cond (Nat.blt n 96) (cond (Nat.blt n 94) (cond (Nat.blt n 93) (cond (Nat.beq n 92) (some af92) none) (cond (Nat.beq n 93) (some af93) none)) (cond (Nat.blt n 95) (cond (Nat.beq n 94) (some af94) none) (cond (Nat.beq n 95) (some af95) none))) (cond (Nat.blt n 98) (cond (Nat.blt n 97) (cond (Nat.beq n 96) (some af96) none) (cond (Nat.beq n 97) (some af97) none)) (cond (Nat.blt n 99) (cond (Nat.beq n 98) (some af98) none) (cond (Nat.beq n 99) (some af99) none)))) (cond (Nat.blt n 104) (cond (Nat.blt n 102) (cond (Nat.blt n 101) (cond (Nat.beq n 100) (some af100) none) (cond (Nat.beq n 101) (some af101) none)) (cond (Nat.blt n 103) (cond (Nat.beq n 102) (some af102) none) (cond (Nat.beq n 103) (some af103) none))) (cond (Nat.blt n 112) (cond (Nat.blt n 111) (cond (Nat.beq n 104) (some af104) none) (cond (Nat.beq n 111) (some af111) none)) (cond (Nat.blt n 113) (cond (Nat.beq n 112) (some af112) none) (cond (Nat.beq n 113) (some af113) none))))) (cond (Nat.blt n 125) (cond (Nat.blt n 118) (cond (Nat.blt n 116) (cond (Nat.blt n 115) (cond (Nat.beq n 114) (some af114) none) (cond (Nat.beq n 115) (some af115) none)) (cond (Nat.blt n 117) (cond (Nat.beq n 116) (some af116) none) (cond (Nat.beq n 117) (some af117) none))) (cond (Nat.blt n 123) (cond (Nat.blt n 122) (cond (Nat.beq n 118) (some af118) none) (cond (Nat.beq n 122) (some af122) none)) (cond (Nat.blt n 124) (cond (Nat.beq n 123) (some af123) none) (cond (Nat.beq n 124) (some af124) none)))) (cond (Nat.blt n 134) (cond (Nat.blt n 130) (cond (Nat.blt n 129) (cond (Nat.beq n 125) (some af125) none) (cond (Nat.beq n 129) (some af129) none)) (cond (Nat.blt n 133) (cond (Nat.beq n 130) (some af130) none) (cond (Nat.beq n 133) (some af133) none))) (cond (Nat.blt n 138) (cond (Nat.blt n 135) (cond (Nat.beq n 134) (some af134) none) (cond (Nat.beq n 135) (some af135) none)) (cond (Nat.blt n 154) (cond (Nat.beq n 138) (some af138) none) (cond (Nat.beq n 154) (some af154) none))))))) (cond (Nat.blt n 212) (cond (Nat.blt n 178) (cond (Nat.blt n 162) (cond (Nat.blt n 158) (cond (Nat.blt n 156) (cond (Nat.beq n 155) (some af155) none) (cond (Nat.blt n 157) (cond (Nat.beq n 156) (some af156) none) (cond (Nat.beq n 157) (some af157) none))) (cond (Nat.blt n 160) (cond (Nat.blt n 159) (cond (Nat.beq n 158) (some af158) none) (cond (Nat.beq n 159) (some af159) none)) (cond (Nat.blt n 161) (cond (Nat.beq n 160) (some af160) none) (cond (Nat.beq n 161) (some af161) none)))) (cond (Nat.blt n 174) (cond (Nat.blt n 164) (cond (Nat.blt n 163) (cond (Nat.beq n 162) (some af162) none) (cond (Nat.beq n 163) (some af163) none)) (cond (Nat.blt n 173) (cond (Nat.beq n 164) (some af164) none) (cond (Nat.beq n 173) (some af173) none))) (cond (Nat.blt n 176) (cond (Nat.blt n 175) (cond (Nat.beq n 174) (some af174) none) (cond (Nat.beq n 175) (some af175) none)) (cond (Nat.blt n 177) (cond (Nat.beq n 176) (some af176) none) (cond (Nat.beq n 177) (some af177) none))))) (cond (Nat.blt n 186) (cond (Nat.blt n 182) (cond (Nat.blt n 180) (cond (Nat.blt n 179) (cond (Nat.beq n 178) (some af178) none) (cond (Nat.beq n 179) (some af179) none)) (cond (Nat.blt n 181) (cond (Nat.beq n 180) (some af180) none) (cond (Nat.beq n 181) (some af181) none))) (cond (Nat.blt n 184) (cond (Nat.blt n 183) (cond (Nat.beq n 182) (some af182) none) (cond (Nat.beq n 183) (some af183) none)) (cond (Nat.blt n 185) (cond (Nat.beq n 184) (some af184) none) (cond (Nat.beq n 185) (some af185) none)))) (cond (Nat.blt n 194) (cond (Nat.blt n 188) (cond (Nat.blt n 187) (cond (Nat.beq n 186) (some af186) none) (cond (Nat.beq n 187) (some af187) none)) (cond (Nat.blt n 189) (cond (Nat.beq n 188) (some af188) none) (cond (Nat.beq n 189) (some af189) none))) (cond (Nat.blt n 210) (cond (Nat.blt n 195) (cond (Nat.beq n 194) (some af194) none) (cond (Nat.beq n 195) (some af195) none)) (cond (Nat.blt n 211) (cond (Nat.beq n 210) (some af210) none) (cond (Nat.beq n 211) (some af211) none)))))) (cond (Nat.blt n 252) (cond (Nat.blt n 227) (cond (Nat.blt n 223) (cond (Nat.blt n 214) (cond (Nat.blt n 213) (cond (Nat.beq n 212) (some af212) none) (cond (Nat.beq n 213) (some af213) none)) (cond (Nat.blt n 222) (cond (Nat.beq n 214) (some af214) none) (cond (Nat.beq n 222) (some af222) none))) (cond (Nat.blt n 225) (cond (Nat.blt n 224) (cond (Nat.beq n 223) (some af223) none) (cond (Nat.beq n 224) (some af224) none)) (cond (Nat.blt n 226) (cond (Nat.beq n 225) (some af225) none) (cond (Nat.beq n 226) (some af226) none)))) (cond (Nat.blt n 241) (cond (Nat.blt n 234) (cond (Nat.blt n 233) (cond (Nat.beq n 227) (some af227) none) (cond (Nat.beq n 233) (some af233) none)) (cond (Nat.blt n 240) (cond (Nat.beq n 234) (some af234) none) (cond (Nat.beq n 240) (some af240) none))) (cond (Nat.blt n 243) (cond (Nat.blt n 242) (cond (Nat.beq n 241) (some af241) none) (cond (Nat.beq n 242) (some af242) none)) (cond (Nat.blt n 244) (cond (Nat.beq n 243) (some af243) none) (cond (Nat.beq n 244) (some af244) none))))) (cond (Nat.blt n 284) (cond (Nat.blt n 270) (cond (Nat.blt n 258) (cond (Nat.blt n 253) (cond (Nat.beq n 252) (some af252) none) (cond (Nat.beq n 253) (some af253) none)) (cond (Nat.blt n 269) (cond (Nat.beq n 258) (some af258) none) (cond (Nat.beq n 269) (some af269) none))) (cond (Nat.blt n 272) (cond (Nat.blt n 271) (cond (Nat.beq n 270) (some af270) none) (cond (Nat.beq n 271) (some af271) none)) (cond (Nat.blt n 273) (cond (Nat.beq n 272) (some af272) none) (cond (Nat.beq n 273) (some af273) none)))) (cond (Nat.blt n 288) (cond (Nat.blt n 286) (cond (Nat.blt n 285) (cond (Nat.beq n 284) (some af284) none) (cond (Nat.beq n 285) (some af285) none)) (cond (Nat.blt n 287) (cond (Nat.beq n 286) (some af286) none) (cond (Nat.beq n 287) (some af287) none))) (cond (Nat.blt n 300) (cond (Nat.blt n 299) (cond (Nat.beq n 288) (some af288) none) (cond (Nat.beq n 299) (some af299) none)) (cond (Nat.blt n 301) (cond (Nat.beq n 300) (some af300) none) (cond (Nat.beq n 301) (some af301) none))))))))
def methT : List (TypeId × String × Nat) := []
end Go.Proofs.YtkaadpkokmhfjaaGreatDoor
