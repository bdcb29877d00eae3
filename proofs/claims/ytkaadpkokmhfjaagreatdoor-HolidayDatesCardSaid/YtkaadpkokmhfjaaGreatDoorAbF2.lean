/-
  The evaluator's functions of this seat's translation, printed by program (wip/engine/tool.lean): part 2.
-/
import Derived.Test.YtkaadpkokmhfjaaGreatDoorAbF1
namespace Go.Proofs.YtkaadpkokmhfjaaGreatDoor
open Go Go.Ab
/-- civiltime/civiltimeref07.Day -/
def af109 : AFun := ⟨21, true, [.tmp 2, .tmp 3],
 (.seq (.region false [1] [] [⟨some 1, none, false, .box (.t 0)⟩,
   ⟨some 2, none, false, .mv (.c (.int .i64 0))⟩,
   ⟨some 3, none, false, .mv (.c (.int .i64 0))⟩])
 (.seq (.seq (.region false [1, 7] [] [⟨some 5, none, false, .load true 3 (.t 1)⟩,
   ⟨some 6, none, false, .call (.f 170) [(.t 5)]⟩,
   ⟨some 7, none, false, .un .not (.t 6)⟩])
 (.cond (.t 7)
  (.seq (.region false [2, 3] [] [⟨some 2, none, false, .mv (.c (.int .i64 0))⟩,
    ⟨some 3, none, false, .mv (.c (.int .i64 2))⟩])
  .ret)
  .skip))
 (.seq (.region true [4] [] [⟨some 8, none, false, .fldaddr 0 (.t 1)⟩,
   ⟨some 9, none, false, .load false 1 (.t 8)⟩,
   ⟨some 10, none, false, .fldaddr 1 (.t 1)⟩,
   ⟨some 11, none, false, .load false 1 (.t 10)⟩,
   ⟨some 12, none, true, .call (.f 171) [(.t 9), (.t 11)]⟩,
   ⟨some 13, none, false, .fldaddr 2 (.t 1)⟩,
   ⟨some 14, none, false, .load false 1 (.t 13)⟩,
   ⟨some 15, none, false, .bin .add (.t 12) (.t 14)⟩,
   ⟨some 16, none, false, .bin .sub (.t 15) (.c (.int .i64 1))⟩,
   ⟨some 4, none, false, .mv (.t 16)⟩])
 (.seq (.seq (.region false [4, 19] [] [⟨some 17, none, false, .mv (.t 4)⟩,
   ⟨some 18, none, false, .call (.f 172) [(.t 17)]⟩,
   ⟨some 19, none, false, .un .not (.t 18)⟩])
 (.cond (.t 19)
  (.seq (.region false [2, 3] [] [⟨some 2, none, false, .mv (.c (.int .i64 0))⟩,
    ⟨some 3, none, false, .mv (.c (.int .i64 2))⟩])
  .ret)
  .skip))
 (.seq (.region false [2, 3] [] [⟨some 20, none, false, .mv (.t 4)⟩,
   ⟨some 2, none, false, .mv (.t 20)⟩,
   ⟨some 3, none, false, .mv (.c (.int .i64 0))⟩])
 .ret)))))⟩
/-- civiltime/civiltimeref28.weekday -/
def af110 : AFun := ⟨8, true, [.tmp 2],
 (.seq (.region false [0] [] [⟨some 2, none, false, .mv (.c (.int .i64 0))⟩])
 (.seq (.region false [2] [] [⟨some 3, none, false, .mv (.t 0)⟩,
   ⟨some 4, none, false, .bin .add (.t 3) (.c (.int .i64 3))⟩,
   ⟨some 5, none, false, .bin .add (.t 4) (.c (.int .i64 1400000))⟩,
   ⟨some 6, none, false, .bin .rem (.t 5) (.c (.int .i64 7))⟩,
   ⟨some 7, none, false, .bin .add (.t 6) (.c (.int .i64 1))⟩,
   ⟨some 2, none, false, .mv (.t 7)⟩])
 .ret))⟩
/-- (*civiltime/holiday.reader).word -/
def af111 : AFun := ⟨57, true, [.tmp 2, .tmp 3],
 (.seq (.region false [0] [] [⟨some 2, none, false, .mv (.c (.str []))⟩,
   ⟨some 3, none, false, .mv (.c (.bool false))⟩])
 (.seq (.seq (.region false [0, 8] [] [⟨some 4, none, false, .mv (.t 0)⟩,
   ⟨some 5, none, false, .nilck (.t 4)⟩,
   ⟨some 6, none, false, .fldaddr 4 (.t 5)⟩,
   ⟨some 7, none, false, .load false 1 (.t 6)⟩,
   ⟨some 8, none, false, .bin .neq (.t 7) (.c (.int .i64 0))⟩])
 (.cond (.t 8)
  (.seq (.region false [2, 3] [] [⟨some 2, none, false, .mv (.c (.str []))⟩,
    ⟨some 3, none, false, .mv (.c (.bool false))⟩])
  .ret)
  .skip))
 (.seq (.seq (.region true [0, 18] [] [⟨some 9, none, false, .mv (.t 0)⟩,
   ⟨some 10, none, false, .nilck (.t 9)⟩,
   ⟨some 11, none, false, .fldaddr 1 (.t 10)⟩,
   ⟨some 12, none, false, .load false 1 (.t 11)⟩,
   ⟨some 13, none, false, .mv (.t 0)⟩,
   ⟨some 14, none, false, .nilck (.t 13)⟩,
   ⟨some 15, none, false, .fldaddr 0 (.t 14)⟩,
   ⟨some 16, none, false, .load false 1 (.t 15)⟩,
   ⟨some 17, none, false, .bi (.len 1) [(.t 16)]⟩,
   ⟨some 18, none, false, .bin .eql (.t 12) (.t 17)⟩])
 (.cond (.t 18)
  (.seq (.region true [] [] [⟨some 19, none, false, .mv (.t 0)⟩,
    ⟨some 20, none, false, .mv (.t 0)⟩,
    ⟨some 21, none, false, .mv (.t 0)⟩,
    ⟨some 22, none, false, .nilck (.t 21)⟩,
    ⟨some 23, none, false, .fldaddr 0 (.t 22)⟩,
    ⟨some 24, none, false, .load false 1 (.t 23)⟩,
    ⟨some 25, none, false, .mv (.t 0)⟩,
    ⟨some 26, none, false, .nilck (.t 25)⟩,
    ⟨some 27, none, false, .fldaddr 0 (.t 26)⟩,
    ⟨some 28, none, false, .load false 1 (.t 27)⟩,
    ⟨some 29, none, false, .bi (.len 1) [(.t 28)]⟩,
    ⟨some 30, none, false, .bin .sub (.t 29) (.c (.int .i64 1))⟩,
    ⟨some 31, none, false, .idxaddr none 3 (.t 24) (.t 30)⟩,
    ⟨some 32, none, false, .fldaddr 1 (.t 31)⟩,
    ⟨some 33, none, false, .load true 2 (.t 32)⟩,
    ⟨some 34, none, false, .nilck (.t 19)⟩,
    ⟨some 35, none, false, .fldaddr 2 (.t 34)⟩,
    ⟨none, none, false, .store 2 (.t 35) (.t 33)⟩,
    ⟨some 36, none, false, .nilck (.t 20)⟩,
    ⟨some 37, none, false, .fldaddr 4 (.t 36)⟩,
    ⟨none, none, false, .store 1 (.t 37) (.c (.int .i64 3))⟩])
  (.seq (.region false [2, 3] [] [⟨some 2, none, false, .mv (.c (.str []))⟩,
    ⟨some 3, none, false, .mv (.c (.bool false))⟩])
  .ret))
  .skip))
 (.seq (.region false [0] [] [⟨some 38, none, false, .mv (.t 0)⟩,
   ⟨some 39, none, false, .nilck (.t 38)⟩,
   ⟨some 40, none, false, .fldaddr 1 (.t 39)⟩,
   ⟨some 41, none, false, .load false 1 (.t 40)⟩,
   ⟨some 42, none, false, .bin .add (.t 41) (.c (.int .i64 1))⟩,
   ⟨some 43, none, false, .nilck (.t 38)⟩,
   ⟨some 44, none, false, .fldaddr 1 (.t 43)⟩,
   ⟨none, none, false, .store 1 (.t 44) (.t 42)⟩])
 (.seq (.region true [2, 3] [] [⟨some 45, none, false, .mv (.t 0)⟩,
   ⟨some 46, none, false, .nilck (.t 45)⟩,
   ⟨some 47, none, false, .fldaddr 0 (.t 46)⟩,
   ⟨some 48, none, false, .load false 1 (.t 47)⟩,
   ⟨some 49, none, false, .mv (.t 0)⟩,
   ⟨some 50, none, false, .nilck (.t 49)⟩,
   ⟨some 51, none, false, .fldaddr 1 (.t 50)⟩,
   ⟨some 52, none, false, .load false 1 (.t 51)⟩,
   ⟨some 53, none, false, .bin .sub (.t 52) (.c (.int .i64 1))⟩,
   ⟨some 54, none, false, .idxaddr none 3 (.t 48) (.t 53)⟩,
   ⟨some 55, none, false, .fldaddr 0 (.t 54)⟩,
   ⟨some 56, none, false, .load false 1 (.t 55)⟩,
   ⟨some 2, none, false, .mv (.t 56)⟩,
   ⟨some 3, none, false, .mv (.c (.bool true))⟩])
 .ret)))))⟩
/-- (*civiltime/holiday.reader).wrong -/
def af112 : AFun := ⟨20, true, [],
 (.region true [] [] [⟨some 2, none, false, .mv (.t 0)⟩,
   ⟨some 3, none, false, .mv (.t 0)⟩,
   ⟨some 4, none, false, .mv (.t 0)⟩,
   ⟨some 5, none, false, .nilck (.t 4)⟩,
   ⟨some 6, none, false, .fldaddr 0 (.t 5)⟩,
   ⟨some 7, none, false, .load false 1 (.t 6)⟩,
   ⟨some 8, none, false, .mv (.t 0)⟩,
   ⟨some 9, none, false, .nilck (.t 8)⟩,
   ⟨some 10, none, false, .fldaddr 1 (.t 9)⟩,
   ⟨some 11, none, false, .load false 1 (.t 10)⟩,
   ⟨some 12, none, false, .bin .sub (.t 11) (.c (.int .i64 1))⟩,
   ⟨some 13, none, false, .idxaddr none 3 (.t 7) (.t 12)⟩,
   ⟨some 14, none, false, .fldaddr 1 (.t 13)⟩,
   ⟨some 15, none, false, .load true 2 (.t 14)⟩,
   ⟨some 16, none, false, .nilck (.t 2)⟩,
   ⟨some 17, none, false, .fldaddr 2 (.t 16)⟩,
   ⟨none, none, false, .store 2 (.t 17) (.t 15)⟩,
   ⟨some 18, none, false, .nilck (.t 3)⟩,
   ⟨some 19, none, false, .fldaddr 4 (.t 18)⟩,
   ⟨none, none, false, .store 1 (.t 19) (.c (.int .i64 3))⟩])⟩
/-- (*civiltime/holiday.reader).choice -/
def af113 : AFun := ⟨8, true, [.tmp 4],
 (.seq (.region false [0, 3] [] [⟨some 3, none, false, .box (.t 1)⟩,
   ⟨some 4, none, false, .mv (.c (.int .i64 0))⟩])
 (.seq (.region false [4] [] [⟨some 5, none, false, .mv (.t 0)⟩,
   ⟨some 6, none, false, .mkfn 173 [] [(.t 3)]⟩,
   ⟨some 7, none, false, .call (.f 114) [(.t 5), (.t 6)]⟩,
   ⟨some 4, none, false, .mv (.t 7)⟩])
 .ret))⟩
/-- (*civiltime/holiday.reader).read -/
def af114 : AFun := ⟨27, true, [.tmp 4],
 (.seq (.region false [0, 1] [] [⟨some 4, none, false, .mv (.c (.int .i64 0))⟩])
 (.seq (.region false [0, 1, 5, 6] [] [⟨some 10, none, false, .mv (.t 0)⟩,
   ⟨some 11, none, false, .call (.f 111) [(.t 10)]⟩,
   ⟨some 9, none, false, .mv (.t 11)⟩,
   ⟨some 12, none, false, .ext 0 (.t 9)⟩,
   ⟨some 13, none, false, .ext 1 (.t 9)⟩,
   ⟨some 5, none, false, .mv (.t 12)⟩,
   ⟨some 6, none, false, .mv (.t 13)⟩])
 (.seq (.seq (.region false [0, 1, 5, 15] [] [⟨some 14, none, false, .mv (.t 6)⟩,
   ⟨some 15, none, false, .un .not (.t 14)⟩])
 (.cond (.t 15)
  (.seq (.region false [4] [] [⟨some 4, none, false, .mv (.c (.int .i64 0))⟩])
  .ret)
  .skip))
 (.seq (.region false [0, 7, 8] [] [⟨some 17, none, false, .mv (.t 1)⟩,
   ⟨some 18, none, false, .mv (.t 5)⟩,
   ⟨some 19, none, false, .call (.t 17) [(.t 18)]⟩,
   ⟨some 16, none, false, .mv (.t 19)⟩,
   ⟨some 20, none, false, .ext 0 (.t 16)⟩,
   ⟨some 21, none, false, .ext 1 (.t 16)⟩,
   ⟨some 7, none, false, .mv (.t 20)⟩,
   ⟨some 8, none, false, .mv (.t 21)⟩])
 (.seq (.seq (.region false [0, 7, 23] [] [⟨some 22, none, false, .mv (.t 8)⟩,
   ⟨some 23, none, false, .bin .neq (.t 22) (.c (.int .i64 0))⟩])
 (.cond (.t 23)
  (.region false [7] [] [⟨some 24, none, false, .mv (.t 0)⟩,
    ⟨some 25, none, false, .call (.f 112) [(.t 24)]⟩])
  .skip))
 (.seq (.region false [4] [] [⟨some 26, none, false, .mv (.t 7)⟩,
   ⟨some 4, none, false, .mv (.t 26)⟩])
 .ret))))))⟩
/-- civiltime/zonelex.Month -/
def af115 : AFun := ⟨9, true, [.tmp 2, .tmp 3],
 (.seq (.region false [0] [] [⟨some 2, none, false, .mv (.c (.int .i64 0))⟩,
   ⟨some 3, none, false, .mv (.c (.int .i64 0))⟩])
 (.seq (.region false [2, 3] [] [⟨some 4, none, false, .call (.f 129) []⟩,
   ⟨some 5, none, false, .mv (.t 0)⟩,
   ⟨some 6, none, false, .call (.f 175) [(.t 4), (.t 5)]⟩,
   ⟨some 7, none, false, .ext 0 (.t 6)⟩,
   ⟨some 8, none, false, .ext 1 (.t 6)⟩,
   ⟨some 2, none, false, .mv (.t 7)⟩,
   ⟨some 3, none, false, .mv (.t 8)⟩])
 .ret))⟩
/-- (*civiltime/holiday.reader).number -/
def af116 : AFun := ⟨5, true, [.tmp 2],
 (.seq (.region false [0] [] [⟨some 2, none, false, .mv (.c (.int .i64 0))⟩])
 (.seq (.region false [2] [] [⟨some 3, none, false, .mv (.t 0)⟩,
   ⟨some 4, none, false, .call (.f 114) [(.t 3), (.f 176)]⟩,
   ⟨some 2, none, false, .mv (.t 4)⟩])
 .ret))⟩
/-- civiltime/zonelex.Weekday -/
def af117 : AFun := ⟨9, true, [.tmp 2, .tmp 3],
 (.seq (.region false [0] [] [⟨some 2, none, false, .mv (.c (.int .i64 0))⟩,
   ⟨some 3, none, false, .mv (.c (.int .i64 0))⟩])
 (.seq (.region false [2, 3] [] [⟨some 4, none, false, .call (.f 130) []⟩,
   ⟨some 5, none, false, .mv (.t 0)⟩,
   ⟨some 6, none, false, .call (.f 175) [(.t 4), (.t 5)]⟩,
   ⟨some 7, none, false, .ext 0 (.t 6)⟩,
   ⟨some 8, none, false, .ext 1 (.t 6)⟩,
   ⟨some 2, none, false, .mv (.t 7)⟩,
   ⟨some 3, none, false, .mv (.t 8)⟩])
 .ret))⟩
def af118L0 : ACode := .loop [0, 1, 2, 3, 9, 10]
 (.seq (.seq (.region false [0, 1, 2, 3, 9, 10, 36] [] [⟨some 34, none, false, .mv (.t 10)⟩,
   ⟨some 35, none, false, .mv (.t 3)⟩,
   ⟨some 36, none, false, .bin .lss (.t 34) (.t 35)⟩])
 (.cond (.t 36)
  .skip
  (.exit 0)))
 (.block 1 (.seq (.region false [0, 1, 2, 3, 9, 10, 11] [] [⟨some 37, none, false, .mv (.t 0)⟩,
    ⟨some 38, none, false, .mv (.t 1)⟩,
    ⟨some 39, none, false, .call (.f 134) [(.t 37), (.t 38)]⟩,
    ⟨some 11, none, false, .mv (.t 39)⟩])
  (.seq (.seq (.region false [0, 1, 2, 3, 9, 10, 11, 41] [] [⟨some 40, none, false, .mv (.t 11)⟩,
    ⟨some 41, none, false, .bin .lss (.t 40) (.c (.int .i64 0))⟩])
  (.cond (.t 41)
   (.exit 0)
   .skip))
  (.seq (.region false [0, 1, 2, 3, 9, 10, 11] [] [⟨some 42, none, false, .mv (.t 9)⟩,
    ⟨some 43, none, false, .mv (.t 10)⟩,
    ⟨some 44, none, false, .mv (.t 0)⟩,
    ⟨some 45, none, false, .mv (.t 11)⟩,
    ⟨some 46, none, false, .mv (.t 2)⟩,
    ⟨some 47, none, false, .bin .add (.t 45) (.t 46)⟩,
    ⟨some 48, none, false, .slice .str (.t 44) none (some (.t 47)) none⟩,
    ⟨some 49, none, false, .idxaddr none 1 (.t 42) (.t 43)⟩,
    ⟨none, none, false, .store 1 (.t 49) (.t 48)⟩])
  (.seq (.region false [0, 1, 2, 3, 9, 10] [] [⟨some 50, none, false, .mv (.t 0)⟩,
    ⟨some 51, none, false, .mv (.t 11)⟩,
    ⟨some 52, none, false, .mv (.t 1)⟩,
    ⟨some 53, none, false, .bi (.len 0) [(.t 52)]⟩,
    ⟨some 54, none, false, .bin .add (.t 51) (.t 53)⟩,
    ⟨some 55, none, false, .slice .str (.t 50) (some (.t 54)) none none⟩,
    ⟨some 0, none, false, .mv (.t 55)⟩])
  (.region false [0, 1, 2, 3, 9, 10] [] [⟨some 56, none, false, .mv (.t 10)⟩,
    ⟨some 57, none, false, .bin .add (.t 56) (.c (.int .i64 1))⟩,
    ⟨some 10, none, false, .mv (.t 57)⟩])))))))
/-- strings.genSplit -/
def af118 : AFun := ⟨66, true, [.tmp 8],
 (.seq (.region false [0, 1, 2, 3] [] [⟨some 8, none, false, .mv (.c .nilSl)⟩])
 (.seq (.seq (.region false [0, 1, 2, 3, 13] [] [⟨some 12, none, false, .mv (.t 3)⟩,
   ⟨some 13, none, false, .bin .eql (.t 12) (.c (.int .i64 0))⟩])
 (.cond (.t 13)
  (.seq (.region false [8] [] [⟨some 8, none, false, .mv (.c .nilSl)⟩])
  .ret)
  .skip))
 (.seq (.seq (.region false [0, 1, 2, 3, 15] [] [⟨some 14, none, false, .mv (.t 1)⟩,
   ⟨some 15, none, false, .bin .eql (.t 14) (.c (.str []))⟩])
 (.cond (.t 15)
  (.seq (.region false [8] [] [⟨some 16, none, false, .mv (.t 0)⟩,
    ⟨some 17, none, false, .mv (.t 3)⟩,
    ⟨some 18, none, false, .call (.f 178) [(.t 16), (.t 17)]⟩,
    ⟨some 8, none, false, .mv (.t 18)⟩])
  .ret)
  .skip))
 (.seq (.seq (.region false [0, 1, 2, 3, 20] [] [⟨some 19, none, false, .mv (.t 3)⟩,
   ⟨some 20, none, false, .bin .lss (.t 19) (.c (.int .i64 0))⟩])
 (.cond (.t 20)
  (.region false [0, 1, 2, 3] [] [⟨some 21, none, false, .mv (.t 0)⟩,
    ⟨some 22, none, false, .mv (.t 1)⟩,
    ⟨some 23, none, false, .call (.f 133) [(.t 21), (.t 22)]⟩,
    ⟨some 24, none, false, .bin .add (.t 23) (.c (.int .i64 1))⟩,
    ⟨some 3, none, false, .mv (.t 24)⟩])
  .skip))
 (.seq (.region false [0, 1, 2, 3] [] [⟨some 25, none, false, .mv (.t 3)⟩,
   ⟨some 26, none, false, .mv (.t 0)⟩,
   ⟨some 27, none, false, .bi (.len 0) [(.t 26)]⟩,
   ⟨some 28, none, false, .bin .add (.t 27) (.c (.int .i64 1))⟩,
   ⟨some 29, none, false, .bi .min [(.t 25), (.t 28)]⟩,
   ⟨some 3, none, false, .mv (.t 29)⟩])
 (.seq (.region false [0, 1, 2, 3, 9] [] [⟨some 30, none, false, .mv (.t 3)⟩,
   ⟨some 31, none, false, .mkslice [(.str [])] 16 (.t 30) (.t 30)⟩,
   ⟨some 9, none, false, .mv (.t 31)⟩])
 (.seq (.region false [0, 1, 2, 3, 9] [] [⟨some 32, none, false, .mv (.t 3)⟩,
   ⟨some 33, none, false, .bin .sub (.t 32) (.c (.int .i64 1))⟩,
   ⟨some 3, none, false, .mv (.t 33)⟩])
 (.seq (.region false [0, 1, 2, 3, 9, 10] [] [⟨some 10, none, false, .mv (.c (.int .i64 0))⟩])
 (.seq (.block 0 af118L0)
 (.seq (.region false [9, 10] [] [⟨some 58, none, false, .mv (.t 9)⟩,
   ⟨some 59, none, false, .mv (.t 10)⟩,
   ⟨some 60, none, false, .mv (.t 0)⟩,
   ⟨some 61, none, false, .idxaddr none 1 (.t 58) (.t 59)⟩,
   ⟨none, none, false, .store 1 (.t 61) (.t 60)⟩])
 (.seq (.region false [8] [] [⟨some 62, none, false, .mv (.t 9)⟩,
   ⟨some 63, none, false, .mv (.t 10)⟩,
   ⟨some 64, none, false, .bin .add (.t 63) (.c (.int .i64 1))⟩,
   ⟨some 65, none, false, .slice (.slice 1) (.t 62) none (some (.t 64)) none⟩,
   ⟨some 8, none, false, .mv (.t 65)⟩])
 .ret)))))))))))⟩
/-- civiltime/civiltimeref28.Month -/
def af119 : AFun := ⟨7, true, [.tmp 2],
 (.seq (.region false [0] [] [⟨some 2, none, false, .mv (.c (.str []))⟩])
 (.seq (.region false [2] [] [⟨some 3, none, false, .build [(.str []), (.str []), (.str []), (.str []), (.str []), (.str []), (.str []), (.str []), (.str []), (.str []), (.str []), (.str [])] [(0, 1, (.c (.str [74, 97, 110]))), (1, 1, (.c (.str [70, 101, 98]))), (2, 1, (.c (.str [77, 97, 114]))), (3, 1, (.c (.str [65, 112, 114]))), (4, 1, (.c (.str [77, 97, 121]))), (5, 1, (.c (.str [74, 117, 110]))), (6, 1, (.c (.str [74, 117, 108]))), (7, 1, (.c (.str [65, 117, 103]))), (8, 1, (.c (.str [83, 101, 112]))), (9, 1, (.c (.str [79, 99, 116]))), (10, 1, (.c (.str [78, 111, 118]))), (11, 1, (.c (.str [68, 101, 99])))]⟩,
   ⟨some 4, none, false, .mv (.t 0)⟩,
   ⟨some 5, none, false, .bin .sub (.t 4) (.c (.int .i64 1))⟩,
   ⟨some 6, none, false, .idx 12 false 1 (.t 3) (.t 5)⟩,
   ⟨some 2, none, false, .mv (.t 6)⟩])
 .ret))⟩
/-- civiltime/civiltimeref28.Weekday -/
def af120 : AFun := ⟨7, true, [.tmp 2],
 (.seq (.region false [0] [] [⟨some 2, none, false, .mv (.c (.str []))⟩])
 (.seq (.region false [2] [] [⟨some 3, none, false, .build [(.str []), (.str []), (.str []), (.str []), (.str []), (.str []), (.str [])] [(0, 1, (.c (.str [77, 111, 110]))), (1, 1, (.c (.str [84, 117, 101]))), (2, 1, (.c (.str [87, 101, 100]))), (3, 1, (.c (.str [84, 104, 117]))), (4, 1, (.c (.str [70, 114, 105]))), (5, 1, (.c (.str [83, 97, 116]))), (6, 1, (.c (.str [83, 117, 110])))]⟩,
   ⟨some 4, none, false, .mv (.t 0)⟩,
   ⟨some 5, none, false, .bin .sub (.t 4) (.c (.int .i64 1))⟩,
   ⟨some 6, none, false, .idx 7 false 1 (.t 3) (.t 5)⟩,
   ⟨some 2, none, false, .mv (.t 6)⟩])
 .ret))⟩
def af121L0 : ACode := .loop [4, 5, 6, 7]
 (.seq (.seq (.region false [4, 5, 6, 7, 44] [] [⟨some 41, none, false, .mv (.t 7)⟩,
   ⟨some 42, none, false, .mv (.t 5)⟩,
   ⟨some 43, none, false, .bi (.len 0) [(.t 42)]⟩,
   ⟨some 44, none, false, .bin .lss (.t 41) (.t 43)⟩])
 (.cond (.t 44)
  .skip
  (.exit 0)))
 (.seq (.block 1 (.seq (.seq (.region false [4, 5, 6, 7, 56] [] [⟨some 47, none, false, .mv (.t 5)⟩,
    ⟨some 48, none, false, .mv (.t 7)⟩,
    ⟨some 49, none, false, .sidx (.t 47) (.t 48)⟩,
    ⟨some 50, none, false, .bin .lss (.t 49) (.c (.int .u8 48))⟩,
    ⟨some 51, none, false, .mv (.t 50)⟩,
    ⟨some 52, some (51, false), false, .mv (.t 5)⟩,
    ⟨some 53, some (51, false), false, .mv (.t 7)⟩,
    ⟨some 54, some (51, false), false, .sidx (.t 52) (.t 53)⟩,
    ⟨some 55, some (51, false), false, .bin .gtr (.t 54) (.c (.int .u8 57))⟩,
    ⟨some 56, none, false, .pick (.t 51) (.c (.bool true)) (.t 55)⟩])
  (.cond (.t 56)
   (.seq (.region false [2, 3] [] [⟨some 2, none, false, .mv (.c (.int .i64 0))⟩,
     ⟨some 3, none, false, .mv (.c (.bool false))⟩])
   .ret)
   .skip))
  (.region false [4, 5, 6, 7] [] [⟨some 57, none, false, .mv (.t 6)⟩,
    ⟨some 58, none, false, .bin .mul (.c (.int .i64 10)) (.t 57)⟩,
    ⟨some 59, none, false, .mv (.t 5)⟩,
    ⟨some 60, none, false, .mv (.t 7)⟩,
    ⟨some 61, none, false, .sidx (.t 59) (.t 60)⟩,
    ⟨some 62, none, false, .bin .sub (.t 61) (.c (.int .u8 48))⟩,
    ⟨some 63, none, false, .conv (.int .i64) (.t 62)⟩,
    ⟨some 64, none, false, .bin .add (.t 58) (.t 63)⟩,
    ⟨some 6, none, false, .mv (.t 64)⟩])))
 (.region false [4, 5, 6, 7] [] [⟨some 45, none, false, .mv (.t 7)⟩,
   ⟨some 46, none, false, .bin .add (.t 45) (.c (.int .i64 1))⟩,
   ⟨some 7, none, false, .mv (.t 46)⟩])))
/-- civiltime/civiltimeref28.Number -/
def af121 : AFun := ⟨69, true, [.tmp 2, .tmp 3],
 (.seq (.region false [0] [] [⟨some 2, none, false, .mv (.c (.int .i64 0))⟩,
   ⟨some 3, none, false, .mv (.c (.bool false))⟩])
 (.seq (.region false [0, 4] [] [⟨some 8, none, false, .mv (.t 0)⟩,
   ⟨some 9, none, false, .bi (.len 0) [(.t 8)]⟩,
   ⟨some 10, none, false, .bin .gtr (.t 9) (.c (.int .i64 0))⟩,
   ⟨some 11, none, false, .mv (.t 10)⟩,
   ⟨some 12, some (11, true), false, .mv (.t 0)⟩,
   ⟨some 13, some (11, true), false, .sidx (.t 12) (.c (.int .i64 0))⟩,
   ⟨some 14, some (11, true), false, .bin .eql (.t 13) (.c (.int .u8 45))⟩,
   ⟨some 15, none, false, .pick (.t 11) (.t 14) (.c (.bool false))⟩,
   ⟨some 4, none, false, .mv (.t 15)⟩])
 (.seq (.region false [0, 4, 5] [] [⟨some 16, none, false, .mv (.t 0)⟩,
   ⟨some 5, none, false, .mv (.t 16)⟩])
 (.seq (.seq (.region false [0, 4, 5, 17] [] [⟨some 17, none, false, .mv (.t 4)⟩])
 (.cond (.t 17)
  (.region false [4, 5] [] [⟨some 18, none, false, .mv (.t 0)⟩,
    ⟨some 19, none, false, .slice .str (.t 18) (some (.c (.int .i64 1))) none none⟩,
    ⟨some 5, none, false, .mv (.t 19)⟩])
  .skip))
 (.seq (.seq (.region false [4, 5, 40] [] [⟨some 20, none, false, .mv (.t 5)⟩,
   ⟨some 21, none, false, .bi (.len 0) [(.t 20)]⟩,
   ⟨some 22, none, false, .bin .lss (.t 21) (.c (.int .i64 1))⟩,
   ⟨some 23, none, false, .mv (.t 22)⟩,
   ⟨some 24, some (23, false), false, .mv (.t 5)⟩,
   ⟨some 25, some (23, false), false, .bi (.len 0) [(.t 24)]⟩,
   ⟨some 26, some (23, false), false, .bin .gtr (.t 25) (.c (.int .i64 5))⟩,
   ⟨some 27, none, false, .pick (.t 23) (.c (.bool true)) (.t 26)⟩,
   ⟨some 28, none, false, .mv (.t 27)⟩,
   ⟨some 29, some (28, false), false, .mv (.t 5)⟩,
   ⟨some 30, some (28, false), false, .sidx (.t 29) (.c (.int .i64 0))⟩,
   ⟨some 31, some (28, false), false, .bin .eql (.t 30) (.c (.int .u8 48))⟩,
   ⟨some 32, some (28, false), false, .mv (.t 31)⟩,
   ⟨some 33, some (32, true), false, .mv (.t 4)⟩,
   ⟨some 34, some (32, true), false, .mv (.t 33)⟩,
   ⟨some 35, some (34, false), false, .mv (.t 5)⟩,
   ⟨some 36, some (34, false), false, .bi (.len 0) [(.t 35)]⟩,
   ⟨some 37, some (34, false), false, .bin .gtr (.t 36) (.c (.int .i64 1))⟩,
   ⟨some 38, some (32, true), false, .pick (.t 34) (.c (.bool true)) (.t 37)⟩,
   ⟨some 39, some (28, false), false, .pick (.t 32) (.t 38) (.c (.bool false))⟩,
   ⟨some 40, none, false, .pick (.t 28) (.c (.bool true)) (.t 39)⟩])
 (.cond (.t 40)
  (.seq (.region false [2, 3] [] [⟨some 2, none, false, .mv (.c (.int .i64 0))⟩,
    ⟨some 3, none, false, .mv (.c (.bool false))⟩])
  .ret)
  .skip))
 (.seq (.region false [4, 5, 6] [] [⟨some 6, none, false, .mv (.c (.int .i64 0))⟩])
 (.seq (.seq (.region false [4, 5, 6, 7] [] [⟨some 7, none, false, .mv (.c (.int .i64 0))⟩])
 (.block 0 af121L0))
 (.seq (.seq (.region false [6, 65] [] [⟨some 65, none, false, .mv (.t 4)⟩])
 (.cond (.t 65)
  (.region false [6] [] [⟨some 66, none, false, .mv (.t 6)⟩,
    ⟨some 67, none, false, .bin .sub (.c (.int .i64 0)) (.t 66)⟩,
    ⟨some 6, none, false, .mv (.t 67)⟩])
  .skip))
 (.seq (.region false [2, 3] [] [⟨some 68, none, false, .mv (.t 6)⟩,
   ⟨some 2, none, false, .mv (.t 68)⟩,
   ⟨some 3, none, false, .mv (.c (.bool true))⟩])
 .ret)))))))))⟩
def af122L0 : ACode := .loop [0, 1, 2, 3, 4, 10, 11]
 (.block 1 (.seq (.region false [0, 1, 2, 3, 4, 10, 11, 12] [] [⟨some 21, none, false, .mv (.t 2)⟩,
    ⟨some 22, none, false, .mv (.t 1)⟩,
    ⟨some 23, none, false, .bin .sub (.t 21) (.t 22)⟩,
    ⟨some 12, none, false, .mv (.t 23)⟩])
  (.seq (.seq (.region false [0, 1, 2, 3, 4, 10, 11, 12, 25] [] [⟨some 24, none, false, .mv (.t 12)⟩,
    ⟨some 25, none, false, .bin .leq (.t 24) (.c (.int .i64 12))⟩])
  (.cond (.t 25)
   (.seq (.region false [] [] [⟨some 26, none, false, .mv (.t 0)⟩,
     ⟨some 27, none, false, .mv (.t 1)⟩,
     ⟨some 28, none, false, .mv (.t 2)⟩,
     ⟨some 29, none, false, .mv (.t 4)⟩,
     ⟨some 30, none, false, .call (.f 179) [(.t 26), (.t 27), (.t 28), (.t 29)]⟩])
   .ret)
   .skip))
  (.seq (.seq (.region false [0, 1, 2, 3, 4, 10, 11, 12, 32] [] [⟨some 31, none, false, .mv (.t 3)⟩,
    ⟨some 32, none, false, .bin .eql (.t 31) (.c (.int .i64 0))⟩])
  (.cond (.t 32)
   (.seq (.region false [] [] [⟨some 33, none, false, .mv (.t 0)⟩,
     ⟨some 34, none, false, .mv (.t 1)⟩,
     ⟨some 35, none, false, .mv (.t 2)⟩,
     ⟨some 36, none, false, .mv (.t 4)⟩,
     ⟨some 37, none, false, .call (.f 180) [(.t 33), (.t 34), (.t 35), (.t 36)]⟩])
   .ret)
   .skip))
  (.seq (.seq (.region false [0, 1, 2, 3, 4, 10, 11, 12, 39] [] [⟨some 38, none, false, .mv (.t 10)⟩,
    ⟨some 39, none, false, .un .not (.t 38)⟩])
  (.cond (.t 39)
   (.seq (.region false [0, 1, 2, 3, 4, 10, 11, 12] [] [⟨some 40, none, false, .mv (.t 0)⟩,
     ⟨some 41, none, false, .mv (.t 1)⟩,
     ⟨some 42, none, false, .mv (.t 2)⟩,
     ⟨some 43, none, false, .mv (.t 4)⟩,
     ⟨some 44, none, false, .call (.f 181) [(.t 40), (.t 41), (.t 42), (.t 43)]⟩])
   (.region false [0, 1, 2, 3, 4, 10, 11, 12] [] [⟨some 45, none, false, .mv (.t 3)⟩,
     ⟨some 46, none, false, .bin .sub (.t 45) (.c (.int .i64 1))⟩,
     ⟨some 3, none, false, .mv (.t 46)⟩]))
   .skip))
  (.seq (.region false [0, 1, 2, 3, 4, 10, 11, 12, 13, 14] [] [⟨some 48, none, false, .mv (.t 0)⟩,
    ⟨some 49, none, false, .mv (.t 1)⟩,
    ⟨some 50, none, false, .mv (.t 2)⟩,
    ⟨some 51, none, false, .mv (.t 4)⟩,
    ⟨some 52, none, false, .call (.f 182) [(.t 48), (.t 49), (.t 50), (.t 51)]⟩,
    ⟨some 47, none, false, .mv (.t 52)⟩,
    ⟨some 53, none, false, .ext 0 (.t 47)⟩,
    ⟨some 54, none, false, .ext 1 (.t 47)⟩,
    ⟨some 13, none, false, .mv (.t 53)⟩,
    ⟨some 14, none, false, .mv (.t 54)⟩])
  (.seq (.seq (.region false [0, 1, 2, 3, 4, 10, 11, 12, 13, 14, 56] [] [⟨some 55, none, false, .mv (.t 14)⟩,
    ⟨some 56, none, false, .bin .eql (.t 55) (.c (.int .i64 2))⟩])
  (.cond (.t 56)
   (.seq (.region false [0, 1, 2, 3, 4, 10, 11, 12, 13] [] [⟨some 57, none, false, .mv (.t 0)⟩,
     ⟨some 58, none, false, .mv (.t 1)⟩,
     ⟨some 59, none, false, .mv (.t 2)⟩,
     ⟨some 60, none, false, .mv (.t 4)⟩,
     ⟨some 61, none, false, .call (.f 183) [(.t 57), (.t 58), (.t 59), (.t 60)]⟩])
   (.seq (.region false [0, 1, 2, 3, 4, 10, 11, 12, 13] [] [⟨some 62, none, false, .mv (.t 2)⟩,
     ⟨some 63, none, false, .bin .sub (.t 62) (.c (.int .i64 1))⟩,
     ⟨some 64, none, false, .mv (.t 13)⟩,
     ⟨some 65, none, false, .mv (.t 1)⟩,
     ⟨some 66, none, false, .bin .sub (.t 64) (.t 65)⟩,
     ⟨some 67, none, false, .bin .sub (.t 63) (.t 66)⟩,
     ⟨some 13, none, false, .mv (.t 67)⟩])
   (.region false [0, 1, 2, 3, 4, 10, 11, 12, 13, 14] [] [⟨some 14, none, false, .mv (.c (.int .i64 1))⟩])))
   .skip))
  (.seq (.seq (.region false [0, 1, 2, 3, 4, 10, 11, 12, 13, 75] [] [⟨some 68, none, false, .mv (.t 10)⟩,
    ⟨some 69, none, false, .mv (.t 68)⟩,
    ⟨some 70, some (69, true), false, .mv (.t 11)⟩,
    ⟨some 71, none, false, .pick (.t 69) (.t 70) (.c (.bool false))⟩,
    ⟨some 72, none, false, .mv (.t 71)⟩,
    ⟨some 73, some (72, true), false, .mv (.t 14)⟩,
    ⟨some 74, some (72, true), false, .bin .eql (.t 73) (.c (.int .i64 1))⟩,
    ⟨some 75, none, false, .pick (.t 72) (.t 74) (.c (.bool false))⟩])
  (.cond (.t 75)
   (.seq (.region false [0, 1, 2, 3, 4, 10, 11, 12, 13, 80] [] [⟨some 76, none, false, .mv (.t 0)⟩,
     ⟨some 77, none, false, .mv (.t 1)⟩,
     ⟨some 78, none, false, .mv (.t 2)⟩,
     ⟨some 79, none, false, .mv (.t 4)⟩,
     ⟨some 80, none, false, .call (.f 184) [(.t 76), (.t 77), (.t 78), (.t 79)]⟩])
   (.cond (.t 80)
    .ret
    .skip))
   .skip))
  (.seq (.seq (.region true [0, 1, 2, 3, 4, 10, 11, 12, 13, 97] [] [⟨some 81, none, false, .mv (.t 1)⟩,
    ⟨some 82, none, false, .bin .gtr (.t 81) (.c (.int .i64 0))⟩,
    ⟨some 83, none, false, .mv (.t 82)⟩,
    ⟨some 84, some (83, true), false, .mv (.t 4)⟩,
    ⟨some 85, some (83, true), false, .mv (.t 0)⟩,
    ⟨some 86, some (83, true), false, .mv (.t 1)⟩,
    ⟨some 87, some (83, true), false, .bin .sub (.t 86) (.c (.int .i64 1))⟩,
    ⟨some 88, some (83, true), false, .idxaddr none 2 (.t 85) (.t 87)⟩,
    ⟨some 89, some (83, true), false, .load true 2 (.t 88)⟩,
    ⟨some 90, some (83, true), false, .mv (.t 0)⟩,
    ⟨some 91, some (83, true), false, .mv (.t 13)⟩,
    ⟨some 92, some (83, true), false, .idxaddr none 2 (.t 90) (.t 91)⟩,
    ⟨some 93, some (83, true), false, .load true 2 (.t 92)⟩,
    ⟨some 94, some (83, true), false, .call (.t 84) [(.t 89), (.t 93)]⟩,
    ⟨some 95, some (83, true), false, .bin .lss (.t 94) (.c (.int .i64 0))⟩,
    ⟨some 96, some (83, true), false, .un .not (.t 95)⟩,
    ⟨some 97, none, false, .pick (.t 83) (.t 96) (.c (.bool false))⟩])
  (.cond (.t 97)
   (.seq (.region false [0, 2, 3, 4, 10, 11, 15] [] [⟨some 98, none, false, .mv (.t 0)⟩,
     ⟨some 99, none, false, .mv (.t 1)⟩,
     ⟨some 100, none, false, .mv (.t 2)⟩,
     ⟨some 101, none, false, .mv (.t 13)⟩,
     ⟨some 102, none, false, .mv (.t 4)⟩,
     ⟨some 103, none, false, .call (.f 185) [(.t 98), (.t 99), (.t 100), (.t 101), (.t 102)]⟩,
     ⟨some 15, none, false, .mv (.t 103)⟩])
   (.seq (.region false [0, 1, 2, 3, 4, 10, 11] [] [⟨some 104, none, false, .mv (.t 15)⟩,
     ⟨some 1, none, false, .mv (.t 104)⟩])
   (.exit 1)))
   .skip))
  (.seq (.region false [0, 1, 2, 3, 4, 12, 16, 17] [] [⟨some 106, none, false, .mv (.t 0)⟩,
    ⟨some 107, none, false, .mv (.t 1)⟩,
    ⟨some 108, none, false, .mv (.t 2)⟩,
    ⟨some 109, none, false, .mv (.t 13)⟩,
    ⟨some 110, none, false, .mv (.t 4)⟩,
    ⟨some 111, none, false, .call (.f 186) [(.t 106), (.t 107), (.t 108), (.t 109), (.t 110)]⟩,
    ⟨some 105, none, false, .mv (.t 111)⟩,
    ⟨some 112, none, false, .ext 0 (.t 105)⟩,
    ⟨some 113, none, false, .ext 1 (.t 105)⟩,
    ⟨some 16, none, false, .mv (.t 112)⟩,
    ⟨some 17, none, false, .mv (.t 113)⟩])
  (.seq (.region false [0, 1, 2, 3, 4, 11, 12, 16] [] [⟨some 114, none, false, .mv (.t 17)⟩,
    ⟨some 11, none, false, .mv (.t 114)⟩])
  (.seq (.region false [0, 1, 2, 3, 4, 11, 12, 16, 18, 19] [] [⟨some 115, none, false, .mv (.t 16)⟩,
    ⟨some 116, none, false, .mv (.t 1)⟩,
    ⟨some 117, none, false, .bin .sub (.t 115) (.t 116)⟩,
    ⟨some 118, none, false, .mv (.t 2)⟩,
    ⟨some 119, none, false, .mv (.t 16)⟩,
    ⟨some 120, none, false, .bin .sub (.t 118) (.t 119)⟩,
    ⟨some 18, none, false, .mv (.t 117)⟩,
    ⟨some 19, none, false, .mv (.t 120)⟩])
  (.seq (.region false [0, 1, 2, 3, 4, 11, 16, 18, 19, 20] [] [⟨some 121, none, false, .mv (.t 12)⟩,
    ⟨some 122, none, false, .bin .quo (.t 121) (.c (.int .i64 8))⟩,
    ⟨some 20, none, false, .mv (.t 122)⟩])
  (.seq (.region false [0, 1, 2, 3, 4, 11, 16, 18, 19, 20, 125] [] [⟨some 123, none, false, .mv (.t 18)⟩,
    ⟨some 124, none, false, .mv (.t 19)⟩,
    ⟨some 125, none, false, .bin .lss (.t 123) (.t 124)⟩])
  (.cond (.t 125)
   (.seq (.region false [0, 1, 2, 3, 4, 10, 11, 16] [] [⟨some 126, none, false, .mv (.t 18)⟩,
     ⟨some 127, none, false, .mv (.t 20)⟩,
     ⟨some 128, none, false, .bin .geq (.t 126) (.t 127)⟩,
     ⟨some 10, none, false, .mv (.t 128)⟩])
   (.seq (.region false [0, 2, 3, 4, 10, 11, 16] [] [⟨some 129, none, false, .mv (.t 0)⟩,
     ⟨some 130, none, false, .mv (.t 1)⟩,
     ⟨some 131, none, false, .mv (.t 16)⟩,
     ⟨some 132, none, false, .mv (.t 3)⟩,
     ⟨some 133, none, false, .mv (.t 4)⟩,
     ⟨some 134, none, false, .call (.f 122) [(.t 129), (.t 130), (.t 131), (.t 132), (.t 133)]⟩])
   (.region false [0, 1, 2, 3, 4, 10, 11] [] [⟨some 135, none, false, .mv (.t 16)⟩,
     ⟨some 136, none, false, .bin .add (.t 135) (.c (.int .i64 1))⟩,
     ⟨some 1, none, false, .mv (.t 136)⟩])))
   (.seq (.region false [0, 1, 2, 3, 4, 10, 11, 16] [] [⟨some 137, none, false, .mv (.t 19)⟩,
     ⟨some 138, none, false, .mv (.t 20)⟩,
     ⟨some 139, none, false, .bin .geq (.t 137) (.t 138)⟩,
     ⟨some 10, none, false, .mv (.t 139)⟩])
   (.seq (.region false [0, 1, 3, 4, 10, 11, 16] [] [⟨some 140, none, false, .mv (.t 0)⟩,
     ⟨some 141, none, false, .mv (.t 16)⟩,
     ⟨some 142, none, false, .bin .add (.t 141) (.c (.int .i64 1))⟩,
     ⟨some 143, none, false, .mv (.t 2)⟩,
     ⟨some 144, none, false, .mv (.t 3)⟩,
     ⟨some 145, none, false, .mv (.t 4)⟩,
     ⟨some 146, none, false, .call (.f 122) [(.t 140), (.t 142), (.t 143), (.t 144), (.t 145)]⟩])
   (.region false [0, 1, 2, 3, 4, 10, 11] [] [⟨some 147, none, false, .mv (.t 16)⟩,
     ⟨some 2, none, false, .mv (.t 147)⟩]))))))))))))))))))
/-- slices.pdqsortCmpFunc[civiltime/api.HolidayDay] -/
def af122 : AFun := ⟨148, true, [],
 (.seq (.region false [0, 1, 2, 3, 4, 10] [] [⟨some 10, none, false, .mv (.c (.bool true))⟩])
 (.seq (.region false [0, 1, 2, 3, 4, 10, 11] [] [⟨some 11, none, false, .mv (.c (.bool true))⟩])
 (.block 0 af122L0)))⟩
/-- math/bits.Len -/
def af123 : AFun := ⟨8, true, [.tmp 2],
 (.seq (.region false [0] [] [⟨some 2, none, false, .mv (.c (.int .i64 0))⟩])
 (.seq (.cond (.c (.bool false))
  (.seq (.region false [2] [] [⟨some 3, none, false, .mv (.t 0)⟩,
    ⟨some 4, none, false, .conv (.int .u32) (.t 3)⟩,
    ⟨some 5, none, false, .call (.f 187) [(.t 4)]⟩,
    ⟨some 2, none, false, .mv (.t 5)⟩])
  .ret)
  .skip)
 (.seq (.region false [2] [] [⟨some 6, none, false, .mv (.t 0)⟩,
   ⟨some 7, none, false, .call (.f 188) [(.t 6)]⟩,
   ⟨some 2, none, false, .mv (.t 7)⟩])
 .ret)))⟩
def af124L0 : ACode := .loop [3, 6, 7, 8]
 (.seq (.region false [3, 6, 7, 8, 9] [] [⟨some 9, none, false, .bin .lss (.t 8) (.t 7)⟩])
 (.seq (.cond (.t 9)
  .skip
  (.exit 0))
 (.seq (.block 1 (.seq (.region false [3, 5, 6, 7, 8] [] [⟨some 10, none, false, .idxaddr none 1 (.t 6) (.t 8)⟩,
    ⟨some 11, none, false, .load false 1 (.t 10)⟩,
    ⟨some 5, none, false, .mv (.t 11)⟩])
  (.seq (.region false [3, 5, 6, 7, 8, 14] [] [⟨some 12, none, false, .mv (.t 5)⟩,
    ⟨some 13, none, false, .mv (.t 3)⟩,
    ⟨some 14, none, false, .bin .neq (.t 12) (.t 13)⟩])
  (.cond (.t 14)
   (.seq (.region false [2] [] [⟨some 15, none, false, .mv (.t 5)⟩,
     ⟨some 2, none, false, .mv (.t 15)⟩])
   .ret)
   .skip))))
 (.region false [3, 6, 7, 8] [] [⟨some 16, none, false, .bin .add (.t 8) (.c (.int .i64 1))⟩,
   ⟨some 8, none, false, .mv (.t 16)⟩]))))
/-- cmp.Or[int] -/
def af124 : AFun := ⟨18, true, [.tmp 2],
 (.seq (.region false [0] [] [⟨some 2, none, false, .mv (.c (.int .i64 0))⟩])
 (.seq (.region false [0, 3] [] [⟨some 3, none, false, .mv (.c (.int .i64 0))⟩])
 (.seq (.seq (.region false [3, 6, 7, 8] [] [⟨some 6, none, false, .mv (.t 0)⟩,
   ⟨some 7, none, false, .bi (.len 1) [(.t 6)]⟩,
   ⟨some 8, none, false, .mv (.c (.int .i64 0))⟩])
 (.block 0 af124L0))
 (.seq (.region false [2] [] [⟨some 17, none, false, .mv (.t 3)⟩,
   ⟨some 2, none, false, .mv (.t 17)⟩])
 .ret))))⟩
/-- cmp.Compare[int] -/
def af125 : AFun := ⟨20, true, [.tmp 4],
 (.seq (.region false [0, 1] [] [⟨some 4, none, false, .mv (.c (.int .i64 0))⟩])
 (.seq (.region false [0, 1, 5] [] [⟨some 7, none, false, .mv (.t 0)⟩,
   ⟨some 8, none, false, .call (.f 189) [(.t 7)]⟩,
   ⟨some 5, none, false, .mv (.t 8)⟩])
 (.seq (.region false [0, 1, 5, 6] [] [⟨some 9, none, false, .mv (.t 1)⟩,
   ⟨some 10, none, false, .call (.f 189) [(.t 9)]⟩,
   ⟨some 6, none, false, .mv (.t 10)⟩])
 (.seq (.seq (.region false [0, 1, 6, 11] [] [⟨some 11, none, false, .mv (.t 5)⟩])
 (.cond (.t 11)
  (.seq (.seq (.region false [12] [] [⟨some 12, none, false, .mv (.t 6)⟩])
  (.cond (.t 12)
   (.seq (.region false [4] [] [⟨some 4, none, false, .mv (.c (.int .i64 0))⟩])
   .ret)
   .skip))
  (.seq (.region false [4] [] [⟨some 4, none, false, .mv (.c (.int .i64 (-1)))⟩])
  .ret))
  .skip))
 (.seq (.seq (.region false [0, 1, 13] [] [⟨some 13, none, false, .mv (.t 6)⟩])
 (.cond (.t 13)
  (.seq (.region false [4] [] [⟨some 4, none, false, .mv (.c (.int .i64 1))⟩])
  .ret)
  .skip))
 (.seq (.seq (.region false [0, 1, 16] [] [⟨some 14, none, false, .mv (.t 0)⟩,
   ⟨some 15, none, false, .mv (.t 1)⟩,
   ⟨some 16, none, false, .bin .lss (.t 14) (.t 15)⟩])
 (.cond (.t 16)
  (.seq (.region false [4] [] [⟨some 4, none, false, .mv (.c (.int .i64 (-1)))⟩])
  .ret)
  .skip))
 (.seq (.seq (.region false [19] [] [⟨some 17, none, false, .mv (.t 0)⟩,
   ⟨some 18, none, false, .mv (.t 1)⟩,
   ⟨some 19, none, false, .bin .gtr (.t 17) (.t 18)⟩])
 (.cond (.t 19)
  (.seq (.region false [4] [] [⟨some 4, none, false, .mv (.c (.int .i64 1))⟩])
  .ret)
  .skip))
 (.seq (.region false [4] [] [⟨some 4, none, false, .mv (.c (.int .i64 0))⟩])
 .ret))))))))⟩
/-- civiltime/civiltimeref02.first -/
def af126 : AFun := ⟨18, true, [.tmp 2],
 (.seq (.region false [0] [] [⟨some 2, none, false, .mv (.c (.int .i64 0))⟩])
 (.seq (.region false [3] [] [⟨some 4, none, false, .mv (.t 0)⟩,
   ⟨some 5, none, false, .bin .sub (.t 4) (.c (.int .i64 1))⟩,
   ⟨some 3, none, false, .mv (.t 5)⟩])
 (.seq (.region false [2] [] [⟨some 6, none, false, .mv (.t 3)⟩,
   ⟨some 7, none, false, .bin .mul (.c (.int .i64 365)) (.t 6)⟩,
   ⟨some 8, none, false, .bin .add (.c (.int .i64 (-719162))) (.t 7)⟩,
   ⟨some 9, none, false, .mv (.t 3)⟩,
   ⟨some 10, none, false, .bin .quo (.t 9) (.c (.int .i64 4))⟩,
   ⟨some 11, none, false, .bin .add (.t 8) (.t 10)⟩,
   ⟨some 12, none, false, .mv (.t 3)⟩,
   ⟨some 13, none, false, .bin .quo (.t 12) (.c (.int .i64 100))⟩,
   ⟨some 14, none, false, .bin .sub (.t 11) (.t 13)⟩,
   ⟨some 15, none, false, .mv (.t 3)⟩,
   ⟨some 16, none, false, .bin .quo (.t 15) (.c (.int .i64 400))⟩,
   ⟨some 17, none, false, .bin .add (.t 14) (.t 16)⟩,
   ⟨some 2, none, false, .mv (.t 17)⟩])
 .ret)))⟩
/-- civiltime/zonelex.months -/
def af129 : AFun := ⟨2, true, [.tmp 0],
 (.seq (.region false [] [] [⟨some 0, none, false, .mv (.c .nilSl)⟩])
 (.seq (.region false [0] [] [⟨some 1, none, false, .bslice [(.str []), (.str []), (.str []), (.str []), (.str []), (.str []), (.str []), (.str []), (.str []), (.str []), (.str []), (.str [])] [(0, 1, (.c (.str [74, 97, 110]))), (1, 1, (.c (.str [70, 101, 98]))), (2, 1, (.c (.str [77, 97, 114]))), (3, 1, (.c (.str [65, 112, 114]))), (4, 1, (.c (.str [77, 97, 121]))), (5, 1, (.c (.str [74, 117, 110]))), (6, 1, (.c (.str [74, 117, 108]))), (7, 1, (.c (.str [65, 117, 103]))), (8, 1, (.c (.str [83, 101, 112]))), (9, 1, (.c (.str [79, 99, 116]))), (10, 1, (.c (.str [78, 111, 118]))), (11, 1, (.c (.str [68, 101, 99])))] 12 1⟩,
   ⟨some 0, none, false, .mv (.t 1)⟩])
 .ret))⟩
/-- civiltime/zonelex.weekdays -/
def af130 : AFun := ⟨2, true, [.tmp 0],
 (.seq (.region false [] [] [⟨some 0, none, false, .mv (.c .nilSl)⟩])
 (.seq (.region false [0] [] [⟨some 1, none, false, .bslice [(.str []), (.str []), (.str []), (.str []), (.str []), (.str []), (.str [])] [(0, 1, (.c (.str [77, 111, 110]))), (1, 1, (.c (.str [84, 117, 101]))), (2, 1, (.c (.str [87, 101, 100]))), (3, 1, (.c (.str [84, 104, 117]))), (4, 1, (.c (.str [70, 114, 105]))), (5, 1, (.c (.str [83, 97, 116]))), (6, 1, (.c (.str [83, 117, 110])))] 7 1⟩,
   ⟨some 0, none, false, .mv (.t 1)⟩])
 .ret))⟩
def af133L0 : ACode := .loop [0, 1, 5]
 (.block 1 (.seq (.region false [0, 1, 5, 6] [] [⟨some 20, none, false, .mv (.t 0)⟩,
    ⟨some 21, none, false, .mv (.t 1)⟩,
    ⟨some 22, none, false, .call (.f 134) [(.t 20), (.t 21)]⟩,
    ⟨some 6, none, false, .mv (.t 22)⟩])
  (.seq (.seq (.region false [0, 1, 5, 6, 24] [] [⟨some 23, none, false, .mv (.t 6)⟩,
    ⟨some 24, none, false, .bin .eql (.t 23) (.c (.int .i64 (-1)))⟩])
  (.cond (.t 24)
   (.seq (.region false [4] [] [⟨some 25, none, false, .mv (.t 5)⟩,
     ⟨some 4, none, false, .mv (.t 25)⟩])
   .ret)
   .skip))
  (.seq (.region false [0, 1, 5, 6] [] [⟨some 26, none, false, .mv (.t 5)⟩,
    ⟨some 27, none, false, .bin .add (.t 26) (.c (.int .i64 1))⟩,
    ⟨some 5, none, false, .mv (.t 27)⟩])
  (.region false [0, 1, 5] [] [⟨some 28, none, false, .mv (.t 0)⟩,
    ⟨some 29, none, false, .mv (.t 6)⟩,
    ⟨some 30, none, false, .mv (.t 1)⟩,
    ⟨some 31, none, false, .bi (.len 0) [(.t 30)]⟩,
    ⟨some 32, none, false, .bin .add (.t 29) (.t 31)⟩,
    ⟨some 33, none, false, .slice .str (.t 28) (some (.t 32)) none none⟩,
    ⟨some 0, none, false, .mv (.t 33)⟩])))))
/-- strings.Count -/
def af133 : AFun := ⟨34, true, [.tmp 4],
 (.seq (.region false [0, 1] [] [⟨some 4, none, false, .mv (.c (.int .i64 0))⟩])
 (.seq (.seq (.region false [0, 1, 9] [] [⟨some 7, none, false, .mv (.t 1)⟩,
   ⟨some 8, none, false, .bi (.len 0) [(.t 7)]⟩,
   ⟨some 9, none, false, .bin .eql (.t 8) (.c (.int .i64 0))⟩])
 (.cond (.t 9)
  (.seq (.region false [4] [] [⟨some 10, none, false, .mv (.t 0)⟩,
    ⟨some 11, none, false, .call (.f 192) [(.t 10)]⟩,
    ⟨some 12, none, false, .bin .add (.t 11) (.c (.int .i64 1))⟩,
    ⟨some 4, none, false, .mv (.t 12)⟩])
  .ret)
  .skip))
 (.seq (.seq (.region false [0, 1, 15] [] [⟨some 13, none, false, .mv (.t 1)⟩,
   ⟨some 14, none, false, .bi (.len 0) [(.t 13)]⟩,
   ⟨some 15, none, false, .bin .eql (.t 14) (.c (.int .i64 1))⟩])
 (.cond (.t 15)
  (.seq (.region false [4] [] [⟨some 16, none, false, .mv (.t 0)⟩,
    ⟨some 17, none, false, .mv (.t 1)⟩,
    ⟨some 18, none, false, .sidx (.t 17) (.c (.int .i64 0))⟩,
    ⟨some 19, none, false, .call (.f 193) [(.t 16), (.t 18)]⟩,
    ⟨some 4, none, false, .mv (.t 19)⟩])
  .ret)
  .skip))
 (.seq (.region false [0, 1, 5] [] [⟨some 5, none, false, .mv (.c (.int .i64 0))⟩])
 (.block 0 af133L0)))))⟩
/-- strings.Index -/
def af134 : AFun := ⟨8, true, [.tmp 4],
 (.seq (.region false [0, 1] [] [⟨some 4, none, false, .mv (.c (.int .i64 0))⟩])
 (.seq (.region false [4] [] [⟨some 5, none, false, .mv (.t 0)⟩,
   ⟨some 6, none, false, .mv (.t 1)⟩,
   ⟨some 7, none, false, .call (.f 194) [(.t 5), (.t 6)]⟩,
   ⟨some 4, none, false, .mv (.t 7)⟩])
 .ret))⟩
/-- unicode/utf8.DecodeRuneInString -/
def af135 : AFun := ⟨19, true, [.tmp 2, .tmp 3],
 (.seq (.region false [0] [] [⟨some 2, none, false, .mv (.c (.int .i32 0))⟩,
   ⟨some 3, none, false, .mv (.c (.int .i64 0))⟩])
 (.seq (.seq (.region false [0, 10] [] [⟨some 4, none, false, .mv (.t 0)⟩,
   ⟨some 5, none, false, .bin .neq (.t 4) (.c (.str []))⟩,
   ⟨some 6, none, false, .mv (.t 5)⟩,
   ⟨some 7, some (6, true), false, .mv (.t 0)⟩,
   ⟨some 8, some (6, true), false, .sidx (.t 7) (.c (.int .i64 0))⟩,
   ⟨some 9, some (6, true), false, .bin .lss (.t 8) (.c (.int .u8 128))⟩,
   ⟨some 10, none, false, .pick (.t 6) (.t 9) (.c (.bool false))⟩])
 (.cond (.t 10)
  (.seq (.region false [2, 3] [] [⟨some 11, none, false, .mv (.t 0)⟩,
    ⟨some 12, none, false, .sidx (.t 11) (.c (.int .i64 0))⟩,
    ⟨some 13, none, false, .conv (.int .i32) (.t 12)⟩,
    ⟨some 2, none, false, .mv (.t 13)⟩,
    ⟨some 3, none, false, .mv (.c (.int .i64 1))⟩])
  .ret)
  (.region false [2, 3] [] [⟨some 15, none, false, .mv (.t 0)⟩,
    ⟨some 16, none, false, .call (.f 195) [(.t 15)]⟩,
    ⟨some 14, none, false, .mv (.t 16)⟩,
    ⟨some 17, none, false, .ext 0 (.t 14)⟩,
    ⟨some 18, none, false, .ext 1 (.t 14)⟩,
    ⟨some 2, none, false, .mv (.t 17)⟩,
    ⟨some 3, none, false, .mv (.t 18)⟩])))
 .ret))⟩
/-- internal/stringslite.HasPrefix -/
def af138 : AFun := ⟨18, true, [.tmp 4],
 (.seq (.region false [0, 1] [] [⟨some 4, none, false, .mv (.c (.bool false))⟩])
 (.seq (.region false [4] [] [⟨some 5, none, false, .mv (.t 0)⟩,
   ⟨some 6, none, false, .bi (.len 0) [(.t 5)]⟩,
   ⟨some 7, none, false, .mv (.t 1)⟩,
   ⟨some 8, none, false, .bi (.len 0) [(.t 7)]⟩,
   ⟨some 9, none, false, .bin .geq (.t 6) (.t 8)⟩,
   ⟨some 10, none, false, .mv (.t 9)⟩,
   ⟨some 11, some (10, true), false, .mv (.t 0)⟩,
   ⟨some 12, some (10, true), false, .mv (.t 1)⟩,
   ⟨some 13, some (10, true), false, .bi (.len 0) [(.t 12)]⟩,
   ⟨some 14, some (10, true), false, .slice .str (.t 11) none (some (.t 13)) none⟩,
   ⟨some 15, some (10, true), false, .mv (.t 1)⟩,
   ⟨some 16, some (10, true), false, .bin .eql (.t 14) (.t 15)⟩,
   ⟨some 17, none, false, .pick (.t 10) (.t 16) (.c (.bool false))⟩,
   ⟨some 4, none, false, .mv (.t 17)⟩])
 .ret))⟩
/-- internal/stringslite.IndexByte -/
def af154 : AFun := ⟨8, true, [.tmp 4],
 (.seq (.region false [0, 1] [] [⟨some 4, none, false, .mv (.c (.int .i64 0))⟩])
 (.seq (.region false [4] [] [⟨some 5, none, false, .mv (.t 0)⟩,
   ⟨some 6, none, false, .mv (.t 1)⟩,
   ⟨some 7, none, false, .call (.f 209) [(.t 5), (.t 6)]⟩,
   ⟨some 4, none, false, .mv (.t 7)⟩])
 .ret))⟩
def af155L0 : ACode := .loop [0, 1, 7, 8]
 (.seq (.region false [0, 1, 7, 8, 9] [] [⟨some 9, none, false, .bin .lss (.t 8) (.t 7)⟩])
 (.seq (.cond (.t 9)
  .skip
  (.exit 0))
 (.seq (.block 1 (.seq (.region false [0, 1, 5, 7, 8] [] [⟨some 10, none, false, .mv (.t 8)⟩,
    ⟨some 5, none, false, .mv (.t 10)⟩])
  (.seq (.region false [0, 1, 5, 7, 8, 16] [] [⟨some 11, none, false, .mv (.t 1)⟩,
    ⟨some 12, none, false, .mv (.t 0)⟩,
    ⟨some 13, none, false, .mv (.t 5)⟩,
    ⟨some 14, none, false, .idxaddr none 10 (.t 12) (.t 13)⟩,
    ⟨some 15, none, false, .load true 10 (.t 14)⟩,
    ⟨some 16, none, false, .call (.t 11) [(.t 15)]⟩])
  (.cond (.t 16)
   (.seq (.region false [4] [] [⟨some 17, none, false, .mv (.t 5)⟩,
     ⟨some 4, none, false, .mv (.t 17)⟩])
   .ret)
   .skip))))
 (.region false [0, 1, 7, 8] [] [⟨some 18, none, false, .bin .add (.t 8) (.c (.int .i64 1))⟩,
   ⟨some 8, none, false, .mv (.t 18)⟩]))))
/-- slices.IndexFunc[[]civiltime/api.Holiday,civiltime/api.Holiday] -/
def af155 : AFun := ⟨19, true, [.tmp 4],
 (.seq (.region false [0, 1] [] [⟨some 4, none, false, .mv (.c (.int .i64 0))⟩])
 (.seq (.seq (.region false [0, 1, 7, 8] [] [⟨some 6, none, false, .mv (.t 0)⟩,
   ⟨some 7, none, false, .bi (.len 1) [(.t 6)]⟩,
   ⟨some 8, none, false, .mv (.c (.int .i64 0))⟩])
 (.block 0 af155L0))
 (.seq (.region false [4] [] [⟨some 4, none, false, .mv (.c (.int .i64 (-1)))⟩])
 .ret)))⟩
/-- civiltime/holiday.finders$1 -/
def af156 : AFun := ⟨15, true, [.tmp 4],
 (.seq (.region false [1, 2] [] [⟨some 2, none, false, .box (.t 0)⟩,
   ⟨some 4, none, false, .mv (.c .nilSl)⟩])
 (.seq (.region false [4] [] [⟨some 5, none, false, .mv (.t 1)⟩,
   ⟨some 6, none, false, .fldaddr 2 (.t 2)⟩,
   ⟨some 7, none, false, .load false 1 (.t 6)⟩,
   ⟨some 8, none, false, .fldaddr 3 (.t 2)⟩,
   ⟨some 9, none, false, .load false 1 (.t 8)⟩,
   ⟨some 10, none, false, .build [(.int .i64 0), (.int .i64 0), (.int .i64 0)] [(0, 1, (.t 5)), (1, 1, (.t 7)), (2, 1, (.t 9))]⟩,
   ⟨some 11, none, false, .call (.f 19) [(.t 10)]⟩,
   ⟨some 12, none, false, .ext 0 (.t 11)⟩,
   ⟨some 13, none, false, .ext 1 (.t 11)⟩,
   ⟨some 14, none, false, .call (.f 157) [(.t 12), (.t 13)]⟩,
   ⟨some 4, none, false, .mv (.t 14)⟩])
 .ret))⟩
/-- civiltime/holiday.one -/
def af157 : AFun := ⟨9, true, [.tmp 4],
 (.seq (.region false [0, 1] [] [⟨some 4, none, false, .mv (.c .nilSl)⟩])
 (.seq (.seq (.region false [0, 6] [] [⟨some 5, none, false, .mv (.t 1)⟩,
   ⟨some 6, none, false, .bin .neq (.t 5) (.c (.int .i64 0))⟩])
 (.cond (.t 6)
  (.seq (.region false [4] [] [⟨some 4, none, false, .mv (.c .nilSl)⟩])
  .ret)
  .skip))
 (.seq (.region false [4] [] [⟨some 7, none, false, .mv (.t 0)⟩,
   ⟨some 8, none, false, .bslice [(.int .i64 0)] [(0, 1, (.t 7))] 1 1⟩,
   ⟨some 4, none, false, .mv (.t 8)⟩])
 .ret)))⟩
/-- civiltime/holiday.finders$2 -/
def af158 : AFun := ⟨24, true, [.tmp 4],
 (.seq (.region false [1, 2] [] [⟨some 2, none, false, .box (.t 0)⟩,
   ⟨some 4, none, false, .mv (.c .nilSl)⟩])
 (.seq (.region false [2, 5, 6] [] [⟨some 8, none, false, .mv (.t 1)⟩,
   ⟨some 9, none, false, .fldaddr 2 (.t 2)⟩,
   ⟨some 10, none, false, .load false 1 (.t 9)⟩,
   ⟨some 11, none, false, .fldaddr 4 (.t 2)⟩,
   ⟨some 12, none, false, .load false 1 (.t 11)⟩,
   ⟨some 13, none, false, .fldaddr 5 (.t 2)⟩,
   ⟨some 14, none, false, .load false 1 (.t 13)⟩,
   ⟨some 15, none, false, .call (.f 159) [(.t 8), (.t 10), (.t 12), (.t 14)]⟩,
   ⟨some 7, none, false, .mv (.t 15)⟩,
   ⟨some 16, none, false, .ext 0 (.t 7)⟩,
   ⟨some 17, none, false, .ext 1 (.t 7)⟩,
   ⟨some 5, none, false, .mv (.t 16)⟩,
   ⟨some 6, none, false, .mv (.t 17)⟩])
 (.seq (.region false [4] [] [⟨some 18, none, false, .mv (.t 5)⟩,
   ⟨some 19, none, false, .fldaddr 6 (.t 2)⟩,
   ⟨some 20, none, false, .load false 1 (.t 19)⟩,
   ⟨some 21, none, false, .bin .add (.t 18) (.t 20)⟩,
   ⟨some 22, none, false, .mv (.t 6)⟩,
   ⟨some 23, none, false, .call (.f 157) [(.t 21), (.t 22)]⟩,
   ⟨some 4, none, false, .mv (.t 23)⟩])
 .ret)))⟩
/-- civiltime/civil.Nth -/
def af159 : AFun := ⟨78, true, [.tmp 8, .tmp 9],
 (.seq (.region false [0, 1, 2, 3] [] [⟨some 8, none, false, .mv (.c (.int .i64 0))⟩,
   ⟨some 9, none, false, .mv (.c (.int .i64 0))⟩])
 (.seq (.region false [0, 1, 2, 3, 10] [] [⟨some 14, none, false, .mv (.t 0)⟩,
   ⟨some 15, none, false, .mv (.t 1)⟩,
   ⟨some 16, none, false, .call (.f 45) [(.t 14), (.t 15)]⟩,
   ⟨some 10, none, false, .mv (.t 16)⟩])
 (.seq (.seq (.region false [0, 1, 2, 3, 10, 30] [] [⟨some 17, none, false, .mv (.t 10)⟩,
   ⟨some 18, none, false, .bin .eql (.t 17) (.c (.int .i64 0))⟩,
   ⟨some 19, none, false, .mv (.t 18)⟩,
   ⟨some 20, some (19, false), false, .mv (.t 2)⟩,
   ⟨some 21, some (19, false), false, .bin .lss (.t 20) (.c (.int .i64 1))⟩,
   ⟨some 22, none, false, .pick (.t 19) (.c (.bool true)) (.t 21)⟩,
   ⟨some 23, none, false, .mv (.t 22)⟩,
   ⟨some 24, some (23, false), false, .mv (.t 2)⟩,
   ⟨some 25, some (23, false), false, .bin .gtr (.t 24) (.c (.int .i64 7))⟩,
   ⟨some 26, none, false, .pick (.t 23) (.c (.bool true)) (.t 25)⟩,
   ⟨some 27, none, false, .mv (.t 26)⟩,
   ⟨some 28, some (27, false), false, .mv (.t 3)⟩,
   ⟨some 29, some (27, false), false, .bin .eql (.t 28) (.c (.int .i64 0))⟩,
   ⟨some 30, none, false, .pick (.t 27) (.c (.bool true)) (.t 29)⟩])
 (.cond (.t 30)
  (.seq (.region false [8, 9] [] [⟨some 8, none, false, .mv (.c (.int .i64 0))⟩,
    ⟨some 9, none, false, .mv (.c (.int .i64 1))⟩])
  .ret)
  .skip))
 (.seq (.seq (.region false [0, 1, 2, 3, 10, 36] [] [⟨some 31, none, false, .mv (.t 3)⟩,
   ⟨some 32, none, false, .bin .lss (.t 31) (.c (.int .i64 (-5)))⟩,
   ⟨some 33, none, false, .mv (.t 32)⟩,
   ⟨some 34, some (33, false), false, .mv (.t 3)⟩,
   ⟨some 35, some (33, false), false, .bin .gtr (.t 34) (.c (.int .i64 5))⟩,
   ⟨some 36, none, false, .pick (.t 33) (.c (.bool true)) (.t 35)⟩])
 (.cond (.t 36)
  (.seq (.region false [8, 9] [] [⟨some 8, none, false, .mv (.c (.int .i64 0))⟩,
    ⟨some 9, none, false, .mv (.c (.int .i64 7))⟩])
  .ret)
  .skip))
 (.seq (.region false [2, 3, 10, 11] [] [⟨some 37, none, false, .mv (.t 0)⟩,
   ⟨some 38, none, false, .mv (.t 1)⟩,
   ⟨some 39, none, false, .call (.f 54) [(.t 37), (.t 38), (.c (.int .i64 1))]⟩,
   ⟨some 11, none, false, .mv (.t 39)⟩])
 (.seq (.region false [2, 3, 10, 11, 12] [] [⟨some 40, none, false, .mv (.t 2)⟩,
   ⟨some 41, none, false, .mv (.t 11)⟩,
   ⟨some 42, none, false, .call (.f 18) [(.t 41)]⟩,
   ⟨some 43, none, false, .bin .sub (.t 40) (.t 42)⟩,
   ⟨some 44, none, false, .call (.f 52) [(.t 43), (.c (.int .i64 7))]⟩,
   ⟨some 45, none, false, .bin .add (.c (.int .i64 1)) (.t 44)⟩,
   ⟨some 46, none, false, .mv (.t 3)⟩,
   ⟨some 47, none, false, .bin .sub (.t 46) (.c (.int .i64 1))⟩,
   ⟨some 48, none, false, .bin .mul (.c (.int .i64 7)) (.t 47)⟩,
   ⟨some 49, none, false, .bin .add (.t 45) (.t 48)⟩,
   ⟨some 12, none, false, .mv (.t 49)⟩])
 (.seq (.seq (.region false [2, 3, 10, 11, 12, 51] [] [⟨some 50, none, false, .mv (.t 3)⟩,
   ⟨some 51, none, false, .bin .lss (.t 50) (.c (.int .i64 0))⟩])
 (.cond (.t 51)
  (.seq (.region false [2, 3, 10, 11, 13] [] [⟨some 52, none, false, .mv (.t 11)⟩,
    ⟨some 53, none, false, .mv (.t 10)⟩,
    ⟨some 54, none, false, .bin .add (.t 52) (.t 53)⟩,
    ⟨some 55, none, false, .bin .sub (.t 54) (.c (.int .i64 1))⟩,
    ⟨some 13, none, false, .mv (.t 55)⟩])
  (.region false [10, 11, 12] [] [⟨some 56, none, false, .mv (.t 10)⟩,
    ⟨some 57, none, false, .mv (.t 13)⟩,
    ⟨some 58, none, false, .call (.f 18) [(.t 57)]⟩,
    ⟨some 59, none, false, .mv (.t 2)⟩,
    ⟨some 60, none, false, .bin .sub (.t 58) (.t 59)⟩,
    ⟨some 61, none, false, .call (.f 52) [(.t 60), (.c (.int .i64 7))]⟩,
    ⟨some 62, none, false, .bin .sub (.t 56) (.t 61)⟩,
    ⟨some 63, none, false, .mv (.t 3)⟩,
    ⟨some 64, none, false, .bin .add (.t 63) (.c (.int .i64 1))⟩,
    ⟨some 65, none, false, .bin .mul (.c (.int .i64 7)) (.t 64)⟩,
    ⟨some 66, none, false, .bin .add (.t 62) (.t 65)⟩,
    ⟨some 12, none, false, .mv (.t 66)⟩]))
  .skip))
 (.seq (.seq (.region false [11, 12, 73] [] [⟨some 67, none, false, .mv (.t 12)⟩,
   ⟨some 68, none, false, .bin .lss (.t 67) (.c (.int .i64 1))⟩,
   ⟨some 69, none, false, .mv (.t 68)⟩,
   ⟨some 70, some (69, false), false, .mv (.t 12)⟩,
   ⟨some 71, some (69, false), false, .mv (.t 10)⟩,
   ⟨some 72, some (69, false), false, .bin .gtr (.t 70) (.t 71)⟩,
   ⟨some 73, none, false, .pick (.t 69) (.c (.bool true)) (.t 72)⟩])
 (.cond (.t 73)
  (.seq (.region false [8, 9] [] [⟨some 8, none, false, .mv (.c (.int .i64 0))⟩,
    ⟨some 9, none, false, .mv (.c (.int .i64 7))⟩])
  .ret)
  .skip))
 (.seq (.region false [8, 9] [] [⟨some 74, none, false, .mv (.t 11)⟩,
   ⟨some 75, none, false, .mv (.t 12)⟩,
   ⟨some 76, none, false, .bin .add (.t 74) (.t 75)⟩,
   ⟨some 77, none, false, .bin .sub (.t 76) (.c (.int .i64 1))⟩,
   ⟨some 8, none, false, .mv (.t 77)⟩,
   ⟨some 9, none, false, .mv (.c (.int .i64 0))⟩])
 .ret)))))))))⟩
/-- civiltime/holiday.finders$3 -/
def af160 : AFun := ⟨18, true, [.tmp 4],
 (.seq (.region false [1, 2] [] [⟨some 2, none, false, .box (.t 0)⟩,
   ⟨some 4, none, false, .mv (.c .nilSl)⟩])
 (.seq (.region false [2, 5, 6] [] [⟨some 8, none, false, .mv (.t 1)⟩,
   ⟨some 9, none, false, .call (.f 55) [(.t 8)]⟩,
   ⟨some 7, none, false, .mv (.t 9)⟩,
   ⟨some 10, none, false, .ext 0 (.t 7)⟩,
   ⟨some 11, none, false, .ext 1 (.t 7)⟩,
   ⟨some 5, none, false, .mv (.t 10)⟩,
   ⟨some 6, none, false, .mv (.t 11)⟩])
 (.seq (.region false [4] [] [⟨some 12, none, false, .mv (.t 5)⟩,
   ⟨some 13, none, false, .fldaddr 6 (.t 2)⟩,
   ⟨some 14, none, false, .load false 1 (.t 13)⟩,
   ⟨some 15, none, false, .bin .add (.t 12) (.t 14)⟩,
   ⟨some 16, none, false, .mv (.t 6)⟩,
   ⟨some 17, none, false, .call (.f 157) [(.t 15), (.t 16)]⟩,
   ⟨some 4, none, false, .mv (.t 17)⟩])
 .ret)))⟩
/-- civiltime/holiday.finders$4 -/
def af161 : AFun := ⟨20, true, [.tmp 4],
 (.seq (.region false [1, 2] [] [⟨some 2, none, false, .box (.t 0)⟩,
   ⟨some 4, none, false, .mv (.c .nilSl)⟩])
 (.seq (.region false [5] [] [⟨some 8, none, false, .fldaddr 5 (.t 2)⟩,
   ⟨some 9, none, false, .load false 1 (.t 8)⟩,
   ⟨some 10, none, false, .fldaddr 2 (.t 2)⟩,
   ⟨some 11, none, false, .load false 1 (.t 10)⟩,
   ⟨some 12, none, false, .fldaddr 3 (.t 2)⟩,
   ⟨some 13, none, false, .load false 1 (.t 12)⟩,
   ⟨some 14, none, false, .build [(.int .i64 0), (.int .i64 0), (.int .i64 0)] [(0, 1, (.c (.int .i64 1))), (1, 1, (.t 11)), (2, 1, (.t 13))]⟩,
   ⟨some 15, none, false, .mv (.t 1)⟩,
   ⟨some 16, none, false, .call (.f 162) [(.t 9), (.t 14), (.t 15)]⟩,
   ⟨some 7, none, false, .mv (.t 16)⟩,
   ⟨some 17, none, false, .ext 0 (.t 7)⟩,
   ⟨some 18, none, false, .ext 1 (.t 7)⟩,
   ⟨some 5, none, false, .mv (.t 17)⟩,
   ⟨some 6, none, false, .mv (.t 18)⟩])
 (.seq (.region false [4] [] [⟨some 19, none, false, .mv (.t 5)⟩,
   ⟨some 4, none, false, .mv (.t 19)⟩])
 .ret)))⟩
def af162L0 : ACode := .loop [0, 4, 8, 10, 12, 14]
 (.seq (.seq (.region false [0, 4, 8, 10, 12, 14, 89] [] [⟨some 81, none, false, .mv (.t 14)⟩,
   ⟨some 82, none, false, .bin .leq (.t 81) (.c (.int .i64 9600))⟩,
   ⟨some 83, none, false, .mv (.t 82)⟩,
   ⟨some 84, some (83, true), false, .mv (.t 0)⟩,
   ⟨some 85, some (83, true), false, .mv (.t 14)⟩,
   ⟨some 86, some (83, true), false, .call (.f 212) [(.t 84), (.t 85)]⟩,
   ⟨some 87, some (83, true), false, .mv (.t 10)⟩,
   ⟨some 88, some (83, true), false, .bin .leq (.t 86) (.t 87)⟩,
   ⟨some 89, none, false, .pick (.t 83) (.t 88) (.c (.bool false))⟩])
 (.cond (.t 89)
  .skip
  (.exit 1)))
 (.seq (.block 2 (.seq (.region false [0, 4, 8, 10, 12, 14, 15, 16] [] [⟨some 93, none, false, .mv (.t 0)⟩,
    ⟨some 94, none, false, .mv (.t 14)⟩,
    ⟨some 95, none, false, .fldaddr 1 (.t 4)⟩,
    ⟨some 96, none, false, .load false 1 (.t 95)⟩,
    ⟨some 97, none, false, .fldaddr 2 (.t 4)⟩,
    ⟨some 98, none, false, .load false 1 (.t 97)⟩,
    ⟨some 99, none, false, .build [(.int .i64 0), (.int .i64 0), (.int .i64 0)] [(0, 1, (.t 94)), (1, 1, (.t 96)), (2, 1, (.t 98))]⟩,
    ⟨some 100, none, false, .call (.f 213) [(.t 93), (.t 99)]⟩,
    ⟨some 92, none, false, .mv (.t 100)⟩,
    ⟨some 101, none, false, .ext 0 (.t 92)⟩,
    ⟨some 102, none, false, .ext 1 (.t 92)⟩,
    ⟨some 15, none, false, .mv (.t 101)⟩,
    ⟨some 16, none, false, .mv (.t 102)⟩])
  (.seq (.region false [0, 4, 8, 10, 12, 14, 15, 114] [] [⟨some 103, none, false, .mv (.t 16)⟩,
    ⟨some 104, none, false, .bin .eql (.t 103) (.c (.int .i64 0))⟩,
    ⟨some 105, none, false, .mv (.t 104)⟩,
    ⟨some 106, some (105, true), false, .mv (.t 15)⟩,
    ⟨some 107, some (105, true), false, .mv (.t 8)⟩,
    ⟨some 108, some (105, true), false, .bin .geq (.t 106) (.t 107)⟩,
    ⟨some 109, none, false, .pick (.t 105) (.t 108) (.c (.bool false))⟩,
    ⟨some 110, none, false, .mv (.t 109)⟩,
    ⟨some 111, some (110, true), false, .mv (.t 15)⟩,
    ⟨some 112, some (110, true), false, .mv (.t 10)⟩,
    ⟨some 113, some (110, true), false, .bin .leq (.t 111) (.t 112)⟩,
    ⟨some 114, none, false, .pick (.t 110) (.t 113) (.c (.bool false))⟩])
  (.cond (.t 114)
   (.region false [0, 4, 8, 10, 12, 14] [] [⟨some 115, none, false, .mv (.t 12)⟩,
     ⟨some 116, none, false, .mv (.t 15)⟩,
     ⟨some 117, none, false, .bslice [(.int .i64 0)] [(0, 1, (.t 116))] 1 1⟩,
     ⟨some 118, none, false, .bi (.append 1 8) [(.t 115), (.t 117)]⟩,
     ⟨some 12, none, false, .mv (.t 118)⟩])
   .skip))))
 (.region false [0, 4, 8, 10, 12, 14] [] [⟨some 90, none, false, .mv (.t 14)⟩,
   ⟨some 91, none, false, .bin .add (.t 90) (.c (.int .i64 1))⟩,
   ⟨some 14, none, false, .mv (.t 91)⟩])))
/-- civiltime/islamic.Moved -/
def af162 : AFun := ⟨120, true, [.tmp 6, .tmp 7],
 (.seq (.region false [0, 2, 4] [] [⟨some 4, none, false, .box (.t 1)⟩,
   ⟨some 6, none, false, .mv (.c .nilSl)⟩,
   ⟨some 7, none, false, .mv (.c (.int .i64 0))⟩])
 (.seq (.block 0 (.seq (.region false [0, 2, 4, 17] [] [⟨some 18, none, false, .mv (.t 0)⟩,
    ⟨some 19, none, false, .call (.f 210) [(.t 18)]⟩,
    ⟨some 20, none, false, .un .not (.t 19)⟩,
    ⟨some 21, none, false, .mv (.t 20)⟩,
    ⟨some 22, some (21, false), false, .fldaddr 1 (.t 4)⟩,
    ⟨some 23, some (21, false), false, .load false 1 (.t 22)⟩,
    ⟨some 24, some (21, false), false, .bin .lss (.t 23) (.c (.int .i64 1))⟩,
    ⟨some 25, none, false, .pick (.t 21) (.c (.bool true)) (.t 24)⟩,
    ⟨some 26, none, false, .mv (.t 25)⟩,
    ⟨some 27, some (26, false), false, .fldaddr 1 (.t 4)⟩,
    ⟨some 28, some (26, false), false, .load false 1 (.t 27)⟩,
    ⟨some 29, some (26, false), false, .bin .gtr (.t 28) (.c (.int .i64 12))⟩,
    ⟨some 30, none, false, .pick (.t 26) (.c (.bool true)) (.t 29)⟩,
    ⟨some 31, none, false, .mv (.t 30)⟩,
    ⟨some 32, some (31, false), false, .fldaddr 2 (.t 4)⟩,
    ⟨some 33, some (31, false), false, .load false 1 (.t 32)⟩,
    ⟨some 34, some (31, false), false, .bin .lss (.t 33) (.c (.int .i64 1))⟩,
    ⟨some 35, none, false, .pick (.t 31) (.c (.bool true)) (.t 34)⟩,
    ⟨some 36, none, false, .mv (.t 35)⟩,
    ⟨some 37, some (36, false), false, .fldaddr 2 (.t 4)⟩,
    ⟨some 38, some (36, false), false, .load false 1 (.t 37)⟩,
    ⟨some 39, some (36, false), false, .bin .gtr (.t 38) (.c (.int .i64 30))⟩,
    ⟨some 40, none, false, .pick (.t 36) (.c (.bool true)) (.t 39)⟩,
    ⟨some 41, none, false, .mv (.t 40)⟩,
    ⟨some 42, some (41, false), false, .fldaddr 2 (.t 4)⟩,
    ⟨some 43, some (41, false), false, .load false 1 (.t 42)⟩,
    ⟨some 44, some (41, false), false, .bin .eql (.t 43) (.c (.int .i64 30))⟩,
    ⟨some 45, some (41, false), false, .mv (.t 44)⟩,
    ⟨some 46, some (45, true), false, .fldaddr 1 (.t 4)⟩,
    ⟨some 47, some (45, true), false, .load false 1 (.t 46)⟩,
    ⟨some 48, some (45, true), false, .bin .rem (.t 47) (.c (.int .i64 2))⟩,
    ⟨some 49, some (45, true), false, .bin .eql (.t 48) (.c (.int .i64 0))⟩,
    ⟨some 50, some (41, false), false, .pick (.t 45) (.t 49) (.c (.bool false))⟩,
    ⟨some 51, some (41, false), false, .mv (.t 50)⟩,
    ⟨some 52, some (51, true), false, .fldaddr 1 (.t 4)⟩,
    ⟨some 53, some (51, true), false, .load false 1 (.t 52)⟩,
    ⟨some 54, some (51, true), false, .bin .neq (.t 53) (.c (.int .i64 12))⟩,
    ⟨some 55, some (41, false), false, .pick (.t 51) (.t 54) (.c (.bool false))⟩,
    ⟨some 56, none, false, .pick (.t 41) (.c (.bool true)) (.t 55)⟩,
    ⟨some 17, none, false, .mv (.t 56)⟩])
  (.cond (.t 17)
   (.seq (.region false [6, 7] [] [⟨some 6, none, false, .mv (.c .nilSl)⟩,
     ⟨some 7, none, false, .mv (.c (.int .i64 1))⟩])
   .ret)
   (.seq (.region false [0, 2, 4, 57] [] [⟨some 58, none, false, .mv (.t 2)⟩,
     ⟨some 59, none, false, .bin .lss (.t 58) (.c (.int .i64 1))⟩,
     ⟨some 60, none, false, .mv (.t 59)⟩,
     ⟨some 61, some (60, false), false, .mv (.t 2)⟩,
     ⟨some 62, some (60, false), false, .bin .gtr (.t 61) (.c (.int .i64 9999))⟩,
     ⟨some 63, none, false, .pick (.t 60) (.c (.bool true)) (.t 62)⟩,
     ⟨some 57, none, false, .mv (.t 63)⟩])
   (.cond (.t 57)
    (.seq (.region false [6, 7] [] [⟨some 6, none, false, .mv (.c .nilSl)⟩,
      ⟨some 7, none, false, .mv (.c (.int .i64 2))⟩])
    .ret)
    .skip)))))
 (.seq (.region false [0, 2, 4, 8] [] [⟨some 65, none, false, .mv (.t 2)⟩,
   ⟨some 66, none, false, .build [(.int .i64 0), (.int .i64 0), (.int .i64 0)] [(0, 1, (.t 65)), (1, 1, (.c (.int .i64 1))), (2, 1, (.c (.int .i64 1)))]⟩,
   ⟨some 67, none, false, .call (.f 19) [(.t 66)]⟩,
   ⟨some 64, none, false, .mv (.t 67)⟩,
   ⟨some 68, none, false, .ext 0 (.t 64)⟩,
   ⟨some 69, none, false, .ext 1 (.t 64)⟩,
   ⟨some 8, none, false, .mv (.t 68)⟩,
   ⟨some 9, none, false, .mv (.t 69)⟩])
 (.seq (.region false [0, 4, 8, 10] [] [⟨some 71, none, false, .mv (.t 2)⟩,
   ⟨some 72, none, false, .build [(.int .i64 0), (.int .i64 0), (.int .i64 0)] [(0, 1, (.t 71)), (1, 1, (.c (.int .i64 12))), (2, 1, (.c (.int .i64 31)))]⟩,
   ⟨some 73, none, false, .call (.f 19) [(.t 72)]⟩,
   ⟨some 70, none, false, .mv (.t 73)⟩,
   ⟨some 74, none, false, .ext 0 (.t 70)⟩,
   ⟨some 75, none, false, .ext 1 (.t 70)⟩,
   ⟨some 10, none, false, .mv (.t 74)⟩,
   ⟨some 11, none, false, .mv (.t 75)⟩])
 (.seq (.region false [0, 4, 8, 10, 12] [] [⟨some 12, none, false, .mv (.c .nilSl)⟩])
 (.seq (.region false [0, 4, 8, 10, 12, 13] [] [⟨some 76, none, false, .mv (.t 8)⟩,
   ⟨some 77, none, false, .bin .sub (.t 76) (.c (.int .i64 (-492148)))⟩,
   ⟨some 78, none, false, .call (.f 211) [(.t 77), (.c (.int .i64 355))]⟩,
   ⟨some 13, none, false, .mv (.t 78)⟩])
 (.seq (.seq (.region false [0, 4, 8, 10, 12, 14] [] [⟨some 79, none, false, .mv (.t 13)⟩,
   ⟨some 80, none, false, .bi .max [(.c (.int .i64 1)), (.t 79)]⟩,
   ⟨some 14, none, false, .mv (.t 80)⟩])
 (.block 1 af162L0))
 (.seq (.region false [6, 7] [] [⟨some 119, none, false, .mv (.t 12)⟩,
   ⟨some 6, none, false, .mv (.t 119)⟩,
   ⟨some 7, none, false, .mv (.c (.int .i64 0))⟩])
 .ret))))))))⟩
def af163L0 : ACode := .loop [2, 7, 9, 10]
 (.seq (.seq (.region false [2, 7, 9, 10, 30] [] [⟨some 28, none, false, .mv (.t 10)⟩,
   ⟨some 29, none, false, .mv (.t 7)⟩,
   ⟨some 30, none, false, .bin .leq (.t 28) (.t 29)⟩])
 (.cond (.t 30)
  .skip
  (.exit 0)))
 (.seq (.block 1 (.seq (.region false [2, 7, 9, 10, 11, 12] [] [⟨some 34, none, false, .mv (.t 10)⟩,
    ⟨some 35, none, false, .call (.f 214) [(.t 34)]⟩,
    ⟨some 33, none, false, .mv (.t 35)⟩,
    ⟨some 36, none, false, .ext 0 (.t 33)⟩,
    ⟨some 37, none, false, .ext 1 (.t 33)⟩,
    ⟨some 11, none, false, .new [(.int .i64 0), (.int .i64 0), (.int .i64 0)]⟩,
    ⟨none, none, false, .store 3 (.t 11) (.t 36)⟩,
    ⟨some 12, none, false, .mv (.t 37)⟩])
  (.seq (.region false [2, 7, 9, 10, 53] [] [⟨some 38, none, false, .mv (.t 12)⟩,
    ⟨some 39, none, false, .bin .eql (.t 38) (.c (.int .i64 0))⟩,
    ⟨some 40, none, false, .mv (.t 39)⟩,
    ⟨some 41, some (40, true), false, .fldaddr 1 (.t 11)⟩,
    ⟨some 42, some (40, true), false, .load false 1 (.t 41)⟩,
    ⟨some 43, some (40, true), false, .fldaddr 2 (.t 2)⟩,
    ⟨some 44, some (40, true), false, .load false 1 (.t 43)⟩,
    ⟨some 45, some (40, true), false, .bin .eql (.t 42) (.t 44)⟩,
    ⟨some 46, none, false, .pick (.t 40) (.t 45) (.c (.bool false))⟩,
    ⟨some 47, none, false, .mv (.t 46)⟩,
    ⟨some 48, some (47, true), false, .fldaddr 2 (.t 11)⟩,
    ⟨some 49, some (47, true), false, .load false 1 (.t 48)⟩,
    ⟨some 50, some (47, true), false, .fldaddr 3 (.t 2)⟩,
    ⟨some 51, some (47, true), false, .load false 1 (.t 50)⟩,
    ⟨some 52, some (47, true), false, .bin .eql (.t 49) (.t 51)⟩,
    ⟨some 53, none, false, .pick (.t 47) (.t 52) (.c (.bool false))⟩])
  (.cond (.t 53)
   (.region false [2, 7, 9, 10] [] [⟨some 54, none, false, .mv (.t 9)⟩,
     ⟨some 55, none, false, .mv (.t 10)⟩,
     ⟨some 56, none, false, .bslice [(.int .i64 0)] [(0, 1, (.t 55))] 1 1⟩,
     ⟨some 57, none, false, .bi (.append 1 8) [(.t 54), (.t 56)]⟩,
     ⟨some 9, none, false, .mv (.t 57)⟩])
   .skip))))
 (.region false [2, 7, 9, 10] [] [⟨some 31, none, false, .mv (.t 10)⟩,
   ⟨some 32, none, false, .bin .add (.t 31) (.c (.int .i64 1))⟩,
   ⟨some 10, none, false, .mv (.t 32)⟩])))
/-- civiltime/holiday.hebrewDays -/
def af163 : AFun := ⟨59, true, [.tmp 4],
 (.seq (.region false [1, 2] [] [⟨some 2, none, false, .box (.t 0)⟩,
   ⟨some 4, none, false, .mv (.c .nilSl)⟩])
 (.seq (.region false [1, 2, 5, 6] [] [⟨some 14, none, false, .mv (.t 1)⟩,
   ⟨some 15, none, false, .build [(.int .i64 0), (.int .i64 0), (.int .i64 0)] [(0, 1, (.t 14)), (1, 1, (.c (.int .i64 1))), (2, 1, (.c (.int .i64 1)))]⟩,
   ⟨some 16, none, false, .call (.f 19) [(.t 15)]⟩,
   ⟨some 13, none, false, .mv (.t 16)⟩,
   ⟨some 17, none, false, .ext 0 (.t 13)⟩,
   ⟨some 18, none, false, .ext 1 (.t 13)⟩,
   ⟨some 5, none, false, .mv (.t 17)⟩,
   ⟨some 6, none, false, .mv (.t 18)⟩])
 (.seq (.seq (.region false [1, 2, 5, 20] [] [⟨some 19, none, false, .mv (.t 6)⟩,
   ⟨some 20, none, false, .bin .neq (.t 19) (.c (.int .i64 0))⟩])
 (.cond (.t 20)
  (.seq (.region false [4] [] [⟨some 4, none, false, .mv (.c .nilSl)⟩])
  .ret)
  .skip))
 (.seq (.region false [2, 5, 7] [] [⟨some 22, none, false, .mv (.t 1)⟩,
   ⟨some 23, none, false, .build [(.int .i64 0), (.int .i64 0), (.int .i64 0)] [(0, 1, (.t 22)), (1, 1, (.c (.int .i64 12))), (2, 1, (.c (.int .i64 31)))]⟩,
   ⟨some 24, none, false, .call (.f 19) [(.t 23)]⟩,
   ⟨some 21, none, false, .mv (.t 24)⟩,
   ⟨some 25, none, false, .ext 0 (.t 21)⟩,
   ⟨some 26, none, false, .ext 1 (.t 21)⟩,
   ⟨some 7, none, false, .mv (.t 25)⟩,
   ⟨some 8, none, false, .mv (.t 26)⟩])
 (.seq (.region false [2, 5, 7, 9] [] [⟨some 9, none, false, .mv (.c .nilSl)⟩])
 (.seq (.seq (.region false [2, 7, 9, 10] [] [⟨some 27, none, false, .mv (.t 5)⟩,
   ⟨some 10, none, false, .mv (.t 27)⟩])
 (.block 0 af163L0))
 (.seq (.region false [4] [] [⟨some 58, none, false, .mv (.t 9)⟩,
   ⟨some 4, none, false, .mv (.t 58)⟩])
 .ret)))))))⟩
/-- civiltime/feast.mod -/
def af164 : AFun := ⟨12, true, [.tmp 4],
 (.seq (.region false [0, 1] [] [⟨some 4, none, false, .mv (.c (.int .i64 0))⟩])
 (.seq (.region false [4] [] [⟨some 5, none, false, .mv (.t 0)⟩,
   ⟨some 6, none, false, .mv (.t 1)⟩,
   ⟨some 7, none, false, .bin .rem (.t 5) (.t 6)⟩,
   ⟨some 8, none, false, .mv (.t 1)⟩,
   ⟨some 9, none, false, .bin .add (.t 7) (.t 8)⟩,
   ⟨some 10, none, false, .mv (.t 1)⟩,
   ⟨some 11, none, false, .bin .rem (.t 9) (.t 10)⟩,
   ⟨some 4, none, false, .mv (.t 11)⟩])
 .ret))⟩
/-- civiltime/civiltimeref02.Valid -/
def af165 : AFun := ⟨16, true, [.tmp 2],
 (.seq (.region false [1] [] [⟨some 1, none, false, .box (.t 0)⟩,
   ⟨some 2, none, false, .mv (.c (.bool false))⟩])
 (.seq (.region true [2] [] [⟨some 3, none, false, .fldaddr 2 (.t 1)⟩,
   ⟨some 4, none, false, .load false 1 (.t 3)⟩,
   ⟨some 5, none, false, .bin .geq (.t 4) (.c (.int .i64 1))⟩,
   ⟨some 6, none, false, .mv (.t 5)⟩,
   ⟨some 7, some (6, true), false, .fldaddr 2 (.t 1)⟩,
   ⟨some 8, some (6, true), false, .load false 1 (.t 7)⟩,
   ⟨some 9, some (6, true), false, .fldaddr 0 (.t 1)⟩,
   ⟨some 10, some (6, true), false, .load false 1 (.t 9)⟩,
   ⟨some 11, some (6, true), false, .fldaddr 1 (.t 1)⟩,
   ⟨some 12, some (6, true), false, .load false 1 (.t 11)⟩,
   ⟨some 13, some (6, true), true, .call (.f 48) [(.t 10), (.t 12)]⟩,
   ⟨some 14, some (6, true), false, .bin .leq (.t 8) (.t 13)⟩,
   ⟨some 15, none, false, .pick (.t 6) (.t 14) (.c (.bool false))⟩,
   ⟨some 2, none, false, .mv (.t 15)⟩])
 .ret))⟩
def af166L0 : ACode := .loop [1, 3, 4]
 (.seq (.seq (.region false [1, 3, 4, 13] [] [⟨some 10, none, false, .mv (.t 4)⟩,
   ⟨some 11, none, false, .fldaddr 1 (.t 1)⟩,
   ⟨some 12, none, false, .load false 1 (.t 11)⟩,
   ⟨some 13, none, false, .bin .lss (.t 10) (.t 12)⟩])
 (.cond (.t 13)
  .skip
  (.exit 0)))
 (.seq (.block 1 (.region false [1, 3, 4] [] [⟨some 16, none, false, .mv (.t 3)⟩,
    ⟨some 17, none, false, .fldaddr 0 (.t 1)⟩,
    ⟨some 18, none, false, .load false 1 (.t 17)⟩,
    ⟨some 19, none, false, .mv (.t 4)⟩,
    ⟨some 20, none, false, .call (.f 48) [(.t 18), (.t 19)]⟩,
    ⟨some 21, none, false, .bin .add (.t 16) (.t 20)⟩,
    ⟨some 3, none, false, .mv (.t 21)⟩]))
 (.region false [1, 3, 4] [] [⟨some 14, none, false, .mv (.t 4)⟩,
   ⟨some 15, none, false, .bin .add (.t 14) (.c (.int .i64 1))⟩,
   ⟨some 4, none, false, .mv (.t 15)⟩])))
/-- civiltime/civiltimeref02.YearDay -/
def af166 : AFun := ⟨23, true, [.tmp 2],
 (.seq (.region false [1] [] [⟨some 1, none, false, .box (.t 0)⟩,
   ⟨some 2, none, false, .mv (.c (.int .i64 0))⟩])
 (.seq (.seq (.region false [1, 7] [] [⟨some 5, none, false, .load true 3 (.t 1)⟩,
   ⟨some 6, none, false, .call (.f 165) [(.t 5)]⟩,
   ⟨some 7, none, false, .un .not (.t 6)⟩])
 (.cond (.t 7)
  (.seq (.region false [2] [] [⟨some 2, none, false, .mv (.c (.int .i64 0))⟩])
  .ret)
  .skip))
 (.seq (.region false [1, 3] [] [⟨some 8, none, false, .fldaddr 2 (.t 1)⟩,
   ⟨some 9, none, false, .load false 1 (.t 8)⟩,
   ⟨some 3, none, false, .mv (.t 9)⟩])
 (.seq (.seq (.region false [1, 3, 4] [] [⟨some 4, none, false, .mv (.c (.int .i64 1))⟩])
 (.block 0 af166L0))
 (.seq (.region false [2] [] [⟨some 22, none, false, .mv (.t 3)⟩,
   ⟨some 2, none, false, .mv (.t 22)⟩])
 .ret)))))⟩
/-- civiltime/civiltimeref02.Weekday -/
def af167 : AFun := ⟨13, true, [.tmp 2],
 (.seq (.region false [0] [] [⟨some 2, none, false, .mv (.c (.int .i64 0))⟩])
 (.seq (.seq (.region false [0, 8] [] [⟨some 3, none, false, .mv (.t 0)⟩,
   ⟨some 4, none, false, .bin .lss (.t 3) (.c (.int .i64 (-719162)))⟩,
   ⟨some 5, none, false, .mv (.t 4)⟩,
   ⟨some 6, some (5, false), false, .mv (.t 0)⟩,
   ⟨some 7, some (5, false), false, .bin .geq (.t 6) (.c (.int .i64 2932897))⟩,
   ⟨some 8, none, false, .pick (.t 5) (.c (.bool true)) (.t 7)⟩])
 (.cond (.t 8)
  (.seq (.region false [2] [] [⟨some 2, none, false, .mv (.c (.int .i64 0))⟩])
  .ret)
  .skip))
 (.seq (.region false [2] [] [⟨some 9, none, false, .mv (.t 0)⟩,
   ⟨some 10, none, false, .bin .sub (.t 9) (.c (.int .i64 (-719162)))⟩,
   ⟨some 11, none, false, .bin .rem (.t 10) (.c (.int .i64 7))⟩,
   ⟨some 12, none, false, .bin .add (.t 11) (.c (.int .i64 1))⟩,
   ⟨some 2, none, false, .mv (.t 12)⟩])
 .ret)))⟩
/-- civiltime/civiltimeref06.Valid -/
def af168 : AFun := ⟨9, true, [.tmp 2],
 (.seq (.region false [0] [] [⟨some 2, none, false, .mv (.c (.bool false))⟩])
 (.seq (.region false [2] [] [⟨some 3, none, false, .mv (.t 0)⟩,
   ⟨some 4, none, false, .bin .geq (.t 3) (.c (.int .i64 1))⟩,
   ⟨some 5, none, false, .mv (.t 4)⟩,
   ⟨some 6, some (5, true), false, .mv (.t 0)⟩,
   ⟨some 7, some (5, true), false, .bin .leq (.t 6) (.c (.int .i64 4))⟩,
   ⟨some 8, none, false, .pick (.t 5) (.t 7) (.c (.bool false))⟩,
   ⟨some 2, none, false, .mv (.t 8)⟩])
 .ret))⟩
def af169L0 : ACode := .loop [0, 3, 6, 8]
 (.seq (.seq (.region false [0, 3, 6, 8, 23] [] [⟨some 20, none, false, .mv (.t 8)⟩,
   ⟨some 21, none, false, .fldaddr 1 (.t 3)⟩,
   ⟨some 22, none, false, .load false 1 (.t 21)⟩,
   ⟨some 23, none, false, .bin .lss (.t 20) (.t 22)⟩])
 (.cond (.t 23)
  .skip
  (.exit 0)))
 (.seq (.block 1 (.region false [0, 3, 6, 8] [] [⟨some 26, none, false, .mv (.t 6)⟩,
    ⟨some 27, none, false, .mv (.t 0)⟩,
    ⟨some 28, none, false, .fldaddr 0 (.t 3)⟩,
    ⟨some 29, none, false, .load false 1 (.t 28)⟩,
    ⟨some 30, none, false, .mv (.t 8)⟩,
    ⟨some 31, none, false, .call (.f 217) [(.t 27), (.t 29), (.t 30)]⟩,
    ⟨some 32, none, false, .bin .add (.t 26) (.t 31)⟩,
    ⟨some 6, none, false, .mv (.t 32)⟩]))
 (.region false [0, 3, 6, 8] [] [⟨some 24, none, false, .mv (.t 8)⟩,
   ⟨some 25, none, false, .bin .add (.t 24) (.c (.int .i64 1))⟩,
   ⟨some 8, none, false, .mv (.t 25)⟩])))
/-- civiltime/civiltimeref06.Day -/
def af169 : AFun := ⟨38, true, [.tmp 4, .tmp 5],
 (.seq (.region false [0, 3] [] [⟨some 3, none, false, .box (.t 1)⟩,
   ⟨some 4, none, false, .mv (.c (.int .i64 0))⟩,
   ⟨some 5, none, false, .mv (.c (.int .i64 0))⟩])
 (.seq (.seq (.region false [0, 3, 12] [] [⟨some 9, none, false, .mv (.t 0)⟩,
   ⟨some 10, none, false, .load true 3 (.t 3)⟩,
   ⟨some 11, none, false, .call (.f 215) [(.t 9), (.t 10)]⟩,
   ⟨some 12, none, false, .un .not (.t 11)⟩])
 (.cond (.t 12)
  (.seq (.region false [4, 5] [] [⟨some 4, none, false, .mv (.c (.int .i64 0))⟩,
    ⟨some 5, none, false, .mv (.c (.int .i64 1))⟩])
  .ret)
  .skip))
 (.seq (.region false [0, 3, 6] [] [⟨some 14, none, false, .mv (.t 0)⟩,
   ⟨some 15, none, false, .fldaddr 0 (.t 3)⟩,
   ⟨some 16, none, false, .load false 1 (.t 15)⟩,
   ⟨some 17, none, false, .call (.f 216) [(.t 14), (.t 16)]⟩,
   ⟨some 13, none, false, .mv (.t 17)⟩,
   ⟨some 18, none, false, .ext 0 (.t 13)⟩,
   ⟨some 19, none, false, .ext 1 (.t 13)⟩,
   ⟨some 6, none, false, .mv (.t 18)⟩,
   ⟨some 7, none, false, .mv (.t 19)⟩])
 (.seq (.seq (.region false [0, 3, 6, 8] [] [⟨some 8, none, false, .mv (.c (.int .i64 1))⟩])
 (.block 0 af169L0))
 (.seq (.region false [4, 5] [] [⟨some 33, none, false, .mv (.t 6)⟩,
   ⟨some 34, none, false, .fldaddr 2 (.t 3)⟩,
   ⟨some 35, none, false, .load false 1 (.t 34)⟩,
   ⟨some 36, none, false, .bin .add (.t 33) (.t 35)⟩,
   ⟨some 37, none, false, .bin .sub (.t 36) (.c (.int .i64 1))⟩,
   ⟨some 4, none, false, .mv (.t 37)⟩,
   ⟨some 5, none, false, .mv (.c (.int .i64 0))⟩])
 .ret)))))⟩
/-- civiltime/civiltimeref07.Valid -/
def af170 : AFun := ⟨26, true, [.tmp 2],
 (.seq (.region false [1] [] [⟨some 1, none, false, .box (.t 0)⟩,
   ⟨some 2, none, false, .mv (.c (.bool false))⟩])
 (.seq (.region true [2] [] [⟨some 3, none, false, .fldaddr 0 (.t 1)⟩,
   ⟨some 4, none, false, .load false 1 (.t 3)⟩,
   ⟨some 5, none, false, .call (.f 218) [(.t 4)]⟩,
   ⟨some 6, none, false, .mv (.t 5)⟩,
   ⟨some 7, some (6, true), false, .fldaddr 1 (.t 1)⟩,
   ⟨some 8, some (6, true), false, .load false 1 (.t 7)⟩,
   ⟨some 9, some (6, true), false, .bin .geq (.t 8) (.c (.int .i64 1))⟩,
   ⟨some 10, none, false, .pick (.t 6) (.t 9) (.c (.bool false))⟩,
   ⟨some 11, none, false, .mv (.t 10)⟩,
   ⟨some 12, some (11, true), false, .fldaddr 2 (.t 1)⟩,
   ⟨some 13, some (11, true), false, .load false 1 (.t 12)⟩,
   ⟨some 14, some (11, true), false, .bin .geq (.t 13) (.c (.int .i64 1))⟩,
   ⟨some 15, none, false, .pick (.t 11) (.t 14) (.c (.bool false))⟩,
   ⟨some 16, none, false, .mv (.t 15)⟩,
   ⟨some 17, some (16, true), false, .fldaddr 2 (.t 1)⟩,
   ⟨some 18, some (16, true), false, .load false 1 (.t 17)⟩,
   ⟨some 19, some (16, true), false, .fldaddr 0 (.t 1)⟩,
   ⟨some 20, some (16, true), false, .load false 1 (.t 19)⟩,
   ⟨some 21, some (16, true), false, .fldaddr 1 (.t 1)⟩,
   ⟨some 22, some (16, true), false, .load false 1 (.t 21)⟩,
   ⟨some 23, some (16, true), true, .call (.f 219) [(.t 20), (.t 22)]⟩,
   ⟨some 24, some (16, true), false, .bin .leq (.t 18) (.t 23)⟩,
   ⟨some 25, none, false, .pick (.t 16) (.t 24) (.c (.bool false))⟩,
   ⟨some 2, none, false, .mv (.t 25)⟩])
 .ret))⟩
def af171L0 : ACode := .loop [0, 1, 5, 6, 7]
 (.seq (.seq (.region false [0, 1, 5, 6, 7, 23] [] [⟨some 12, none, false, .mv (.t 7)⟩,
   ⟨some 13, none, false, .mv (.t 6)⟩,
   ⟨some 14, none, false, .bi (.len 1) [(.t 13)]⟩,
   ⟨some 15, none, false, .bin .lss (.t 12) (.t 14)⟩,
   ⟨some 16, none, false, .mv (.t 15)⟩,
   ⟨some 17, some (16, true), false, .mv (.t 6)⟩,
   ⟨some 18, some (16, true), false, .mv (.t 7)⟩,
   ⟨some 19, some (16, true), false, .idxaddr none 1 (.t 17) (.t 18)⟩,
   ⟨some 20, some (16, true), false, .load false 1 (.t 19)⟩,
   ⟨some 21, some (16, true), false, .mv (.t 1)⟩,
   ⟨some 22, some (16, true), false, .bin .neq (.t 20) (.t 21)⟩,
   ⟨some 23, none, false, .pick (.t 16) (.t 22) (.c (.bool false))⟩])
 (.cond (.t 23)
  .skip
  (.exit 0)))
 (.seq (.block 1 (.region false [0, 1, 5, 6, 7] [] [⟨some 26, none, false, .mv (.t 5)⟩,
    ⟨some 27, none, false, .mv (.t 0)⟩,
    ⟨some 28, none, false, .mv (.t 6)⟩,
    ⟨some 29, none, false, .mv (.t 7)⟩,
    ⟨some 30, none, false, .idxaddr none 1 (.t 28) (.t 29)⟩,
    ⟨some 31, none, false, .load false 1 (.t 30)⟩,
    ⟨some 32, none, false, .call (.f 219) [(.t 27), (.t 31)]⟩,
    ⟨some 33, none, false, .bin .add (.t 26) (.t 32)⟩,
    ⟨some 5, none, false, .mv (.t 33)⟩]))
 (.region false [0, 1, 5, 6, 7] [] [⟨some 24, none, false, .mv (.t 7)⟩,
   ⟨some 25, none, false, .bin .add (.t 24) (.c (.int .i64 1))⟩,
   ⟨some 7, none, false, .mv (.t 25)⟩])))
/-- civiltime/civiltimeref07.First -/
def af171 : AFun := ⟨35, true, [.tmp 4],
 (.seq (.region false [0, 1] [] [⟨some 4, none, false, .mv (.c (.int .i64 0))⟩])
 (.seq (.region false [0, 1, 5] [] [⟨some 8, none, false, .mv (.t 0)⟩,
   ⟨some 9, none, false, .call (.f 220) [(.t 8)]⟩,
   ⟨some 5, none, false, .mv (.t 9)⟩])
 (.seq (.region false [0, 1, 5, 6] [] [⟨some 10, none, false, .mv (.t 0)⟩,
   ⟨some 11, none, false, .call (.f 221) [(.t 10)]⟩,
   ⟨some 6, none, false, .mv (.t 11)⟩])
 (.seq (.seq (.region false [0, 1, 5, 6, 7] [] [⟨some 7, none, false, .mv (.c (.int .i64 0))⟩])
 (.block 0 af171L0))
 (.seq (.region false [4] [] [⟨some 34, none, false, .mv (.t 5)⟩,
   ⟨some 4, none, false, .mv (.t 34)⟩])
 .ret)))))⟩
/-- civiltime/civiltimeref07.inside -/
def af172 : AFun := ⟨9, true, [.tmp 2],
 (.seq (.region false [0] [] [⟨some 2, none, false, .mv (.c (.bool false))⟩])
 (.seq (.region false [2] [] [⟨some 3, none, false, .mv (.t 0)⟩,
   ⟨some 4, none, false, .bin .geq (.t 3) (.c (.int .i64 (-719162)))⟩,
   ⟨some 5, none, false, .mv (.t 4)⟩,
   ⟨some 6, some (5, true), false, .mv (.t 0)⟩,
   ⟨some 7, some (5, true), false, .bin .lss (.t 6) (.c (.int .i64 2932897))⟩,
   ⟨some 8, none, false, .pick (.t 5) (.t 7) (.c (.bool false))⟩,
   ⟨some 2, none, false, .mv (.t 8)⟩])
 .ret))⟩
/-- (*civiltime/holiday.reader).choice$1 -/
def af173 : AFun := ⟨12, true, [.tmp 3, .tmp 4],
 (.seq (.region false [0, 1] [] [⟨some 3, none, false, .mv (.c (.int .i64 0))⟩,
   ⟨some 4, none, false, .mv (.c (.int .i64 0))⟩])
 (.seq (.seq (.region false [5] [] [⟨some 6, none, false, .load false 1 (.t 1)⟩,
   ⟨some 7, none, false, .mv (.t 0)⟩,
   ⟨some 8, none, false, .call (.f 174) [(.t 6), (.t 7)]⟩,
   ⟨some 5, none, false, .mv (.t 8)⟩])
 (.seq (.region false [5, 10] [] [⟨some 9, none, false, .mv (.t 5)⟩,
   ⟨some 10, none, false, .bin .geq (.t 9) (.c (.int .i64 0))⟩])
 (.cond (.t 10)
  (.seq (.region false [3, 4] [] [⟨some 11, none, false, .mv (.t 5)⟩,
    ⟨some 3, none, false, .mv (.t 11)⟩,
    ⟨some 4, none, false, .mv (.c (.int .i64 0))⟩])
  .ret)
  .skip)))
 (.seq (.region false [3, 4] [] [⟨some 3, none, false, .mv (.c (.int .i64 0))⟩,
   ⟨some 4, none, false, .mv (.c (.int .i64 3))⟩])
 .ret)))⟩
def af174L0 : ACode := .loop [0, 1, 7, 8]
 (.seq (.region false [0, 1, 7, 8, 9] [] [⟨some 9, none, false, .bin .lss (.t 8) (.t 7)⟩])
 (.seq (.cond (.t 9)
  .skip
  (.exit 0))
 (.seq (.block 1 (.seq (.region false [0, 1, 5, 7, 8] [] [⟨some 10, none, false, .mv (.t 8)⟩,
    ⟨some 5, none, false, .mv (.t 10)⟩])
  (.seq (.region false [0, 1, 5, 7, 8, 16] [] [⟨some 11, none, false, .mv (.t 1)⟩,
    ⟨some 12, none, false, .mv (.t 0)⟩,
    ⟨some 13, none, false, .mv (.t 5)⟩,
    ⟨some 14, none, false, .idxaddr none 1 (.t 12) (.t 13)⟩,
    ⟨some 15, none, false, .load false 1 (.t 14)⟩,
    ⟨some 16, none, false, .bin .eql (.t 11) (.t 15)⟩])
  (.cond (.t 16)
   (.seq (.region false [4] [] [⟨some 17, none, false, .mv (.t 5)⟩,
     ⟨some 4, none, false, .mv (.t 17)⟩])
   .ret)
   .skip))))
 (.region false [0, 1, 7, 8] [] [⟨some 18, none, false, .bin .add (.t 8) (.c (.int .i64 1))⟩,
   ⟨some 8, none, false, .mv (.t 18)⟩]))))
/-- slices.Index[[]string,string] -/
def af174 : AFun := ⟨19, true, [.tmp 4],
 (.seq (.region false [0, 1] [] [⟨some 4, none, false, .mv (.c (.int .i64 0))⟩])
 (.seq (.seq (.region false [0, 1, 7, 8] [] [⟨some 6, none, false, .mv (.t 0)⟩,
   ⟨some 7, none, false, .bi (.len 1) [(.t 6)]⟩,
   ⟨some 8, none, false, .mv (.c (.int .i64 0))⟩])
 (.block 0 af174L0))
 (.seq (.region false [4] [] [⟨some 4, none, false, .mv (.c (.int .i64 (-1)))⟩])
 .ret)))⟩
/-- civiltime/zonelex.find -/
def af175 : AFun := ⟨14, true, [.tmp 4, .tmp 5],
 (.seq (.region false [0, 1] [] [⟨some 4, none, false, .mv (.c (.int .i64 0))⟩,
   ⟨some 5, none, false, .mv (.c (.int .i64 0))⟩])
 (.seq (.region false [6] [] [⟨some 7, none, false, .mv (.t 0)⟩,
   ⟨some 8, none, false, .mv (.t 1)⟩,
   ⟨some 9, none, false, .call (.f 174) [(.t 7), (.t 8)]⟩,
   ⟨some 6, none, false, .mv (.t 9)⟩])
 (.seq (.seq (.region false [6, 11] [] [⟨some 10, none, false, .mv (.t 6)⟩,
   ⟨some 11, none, false, .bin .lss (.t 10) (.c (.int .i64 0))⟩])
 (.cond (.t 11)
  (.seq (.region false [4, 5] [] [⟨some 4, none, false, .mv (.c (.int .i64 0))⟩,
    ⟨some 5, none, false, .mv (.c (.int .i64 3))⟩])
  .ret)
  .skip))
 (.seq (.region false [4, 5] [] [⟨some 12, none, false, .mv (.t 6)⟩,
   ⟨some 13, none, false, .bin .add (.t 12) (.c (.int .i64 1))⟩,
   ⟨some 4, none, false, .mv (.t 13)⟩,
   ⟨some 5, none, false, .mv (.c (.int .i64 0))⟩])
 .ret))))⟩
/-- (*civiltime/holiday.reader).number$1 -/
def af176 : AFun := ⟨8, true, [.tmp 2, .tmp 3],
 (.seq (.region false [0] [] [⟨some 2, none, false, .mv (.c (.int .i64 0))⟩,
   ⟨some 3, none, false, .mv (.c (.int .i64 0))⟩])
 (.seq (.region false [2, 3] [] [⟨some 4, none, false, .mv (.t 0)⟩,
   ⟨some 5, none, false, .call (.f 177) [(.t 4), (.c (.int .i64 (-99999))), (.c (.int .i64 99999))]⟩,
   ⟨some 6, none, false, .ext 0 (.t 5)⟩,
   ⟨some 7, none, false, .ext 1 (.t 5)⟩,
   ⟨some 2, none, false, .mv (.t 6)⟩,
   ⟨some 3, none, false, .mv (.t 7)⟩])
 .ret))⟩
def af177L0 : ACode := .loop [1, 2, 8, 9, 10, 11, 35, 36]
 (.seq (.region false [1, 2, 8, 9, 10, 11, 35, 36, 37] [] [⟨some 37, none, false, .bin .lss (.t 36) (.t 35)⟩])
 (.seq (.cond (.t 37)
  .skip
  (.exit 0))
 (.seq (.block 1 (.seq (.region false [1, 2, 8, 9, 10, 11, 12, 35, 36] [] [⟨some 38, none, false, .mv (.t 36)⟩,
    ⟨some 12, none, false, .mv (.t 38)⟩])
  (.seq (.seq (.region false [1, 2, 8, 9, 10, 11, 12, 35, 36, 43] [] [⟨some 39, none, false, .mv (.t 8)⟩,
    ⟨some 40, none, false, .mv (.t 12)⟩,
    ⟨some 41, none, false, .sidx (.t 39) (.t 40)⟩,
    ⟨some 42, none, false, .call (.f 89) [(.t 41)]⟩,
    ⟨some 43, none, false, .un .not (.t 42)⟩])
  (.cond (.t 43)
   (.seq (.region false [6, 7] [] [⟨some 6, none, false, .mv (.c (.int .i64 0))⟩,
     ⟨some 7, none, false, .mv (.c (.int .i64 3))⟩])
   .ret)
   .skip))
  (.seq (.region false [1, 2, 8, 9, 10, 11, 13, 35, 36] [] [⟨some 44, none, false, .mv (.t 8)⟩,
    ⟨some 45, none, false, .mv (.t 12)⟩,
    ⟨some 46, none, false, .sidx (.t 44) (.t 45)⟩,
    ⟨some 47, none, false, .bin .sub (.t 46) (.c (.int .u8 48))⟩,
    ⟨some 48, none, false, .conv (.int .i64) (.t 47)⟩,
    ⟨some 13, none, false, .mv (.t 48)⟩])
  (.seq (.region false [1, 2, 8, 9, 10, 11, 13, 35, 36] [] [⟨some 49, none, false, .mv (.t 11)⟩,
    ⟨some 50, none, false, .mv (.t 49)⟩,
    ⟨some 51, some (50, false), false, .mv (.t 10)⟩,
    ⟨some 52, some (50, false), false, .mv (.t 13)⟩,
    ⟨some 53, some (50, false), false, .bin .add (.c (.int .i64 (-9223372036854775808))) (.t 52)⟩,
    ⟨some 54, some (50, false), false, .bin .quo (.t 53) (.c (.int .i64 10))⟩,
    ⟨some 55, some (50, false), false, .bin .lss (.t 51) (.t 54)⟩,
    ⟨some 56, none, false, .pick (.t 50) (.c (.bool true)) (.t 55)⟩,
    ⟨some 11, none, false, .mv (.t 56)⟩])
  (.seq (.region false [1, 2, 8, 9, 10, 11, 13, 35, 36, 58] [] [⟨some 57, none, false, .mv (.t 11)⟩,
    ⟨some 58, none, false, .un .not (.t 57)⟩])
  (.cond (.t 58)
   (.region false [1, 2, 8, 9, 10, 11, 35, 36] [] [⟨some 59, none, false, .mv (.t 10)⟩,
     ⟨some 60, none, false, .bin .mul (.c (.int .i64 10)) (.t 59)⟩,
     ⟨some 61, none, false, .mv (.t 13)⟩,
     ⟨some 62, none, false, .bin .sub (.t 60) (.t 61)⟩,
     ⟨some 10, none, false, .mv (.t 62)⟩])
   .skip)))))))
 (.region false [1, 2, 8, 9, 10, 11, 35, 36] [] [⟨some 63, none, false, .bin .add (.t 36) (.c (.int .i64 1))⟩,
   ⟨some 36, none, false, .mv (.t 63)⟩]))))
/-- civiltime/zonelex.Number -/
def af177 : AFun := ⟨86, true, [.tmp 6, .tmp 7],
 (.seq (.region false [0, 1, 2] [] [⟨some 6, none, false, .mv (.c (.int .i64 0))⟩,
   ⟨some 7, none, false, .mv (.c (.int .i64 0))⟩])
 (.seq (.region false [1, 2, 8, 9] [] [⟨some 15, none, false, .mv (.t 0)⟩,
   ⟨some 16, none, false, .call (.f 222) [(.t 15), (.c (.str [45]))]⟩,
   ⟨some 14, none, false, .mv (.t 16)⟩,
   ⟨some 17, none, false, .ext 0 (.t 14)⟩,
   ⟨some 18, none, false, .ext 1 (.t 14)⟩,
   ⟨some 8, none, false, .mv (.t 17)⟩,
   ⟨some 9, none, false, .mv (.t 18)⟩])
 (.seq (.seq (.region false [1, 2, 8, 9, 33] [] [⟨some 19, none, false, .mv (.t 8)⟩,
   ⟨some 20, none, false, .bin .eql (.t 19) (.c (.str []))⟩,
   ⟨some 21, none, false, .mv (.t 20)⟩,
   ⟨some 22, some (21, false), false, .mv (.t 8)⟩,
   ⟨some 23, some (21, false), false, .sidx (.t 22) (.c (.int .i64 0))⟩,
   ⟨some 24, some (21, false), false, .bin .eql (.t 23) (.c (.int .u8 48))⟩,
   ⟨some 25, some (21, false), false, .mv (.t 24)⟩,
   ⟨some 26, some (25, true), false, .mv (.t 8)⟩,
   ⟨some 27, some (25, true), false, .bi (.len 0) [(.t 26)]⟩,
   ⟨some 28, some (25, true), false, .bin .gtr (.t 27) (.c (.int .i64 1))⟩,
   ⟨some 29, some (25, true), false, .mv (.t 28)⟩,
   ⟨some 30, some (29, false), false, .mv (.t 9)⟩,
   ⟨some 31, some (25, true), false, .pick (.t 29) (.c (.bool true)) (.t 30)⟩,
   ⟨some 32, some (21, false), false, .pick (.t 25) (.t 31) (.c (.bool false))⟩,
   ⟨some 33, none, false, .pick (.t 21) (.c (.bool true)) (.t 32)⟩])
 (.cond (.t 33)
  (.seq (.region false [6, 7] [] [⟨some 6, none, false, .mv (.c (.int .i64 0))⟩,
    ⟨some 7, none, false, .mv (.c (.int .i64 3))⟩])
  .ret)
  .skip))
 (.seq (.region false [1, 2, 8, 9, 10, 11] [] [⟨some 10, none, false, .mv (.c (.int .i64 0))⟩,
   ⟨some 11, none, false, .mv (.c (.bool false))⟩])
 (.seq (.seq (.region false [1, 2, 8, 9, 10, 11, 35, 36] [] [⟨some 34, none, false, .mv (.t 8)⟩,
   ⟨some 35, none, false, .bi (.len 0) [(.t 34)]⟩,
   ⟨some 36, none, false, .mv (.c (.int .i64 0))⟩])
 (.block 0 af177L0))
 (.seq (.seq (.region false [1, 2, 9, 10, 72] [] [⟨some 64, none, false, .mv (.t 11)⟩,
   ⟨some 65, none, false, .mv (.t 64)⟩,
   ⟨some 66, some (65, false), false, .mv (.t 9)⟩,
   ⟨some 67, some (65, false), false, .un .not (.t 66)⟩,
   ⟨some 68, some (65, false), false, .mv (.t 67)⟩,
   ⟨some 69, some (68, true), false, .mv (.t 10)⟩,
   ⟨some 70, some (68, true), false, .bin .eql (.t 69) (.c (.int .i64 (-9223372036854775808)))⟩,
   ⟨some 71, some (65, false), false, .pick (.t 68) (.t 70) (.c (.bool false))⟩,
   ⟨some 72, none, false, .pick (.t 65) (.c (.bool true)) (.t 71)⟩])
 (.cond (.t 72)
  (.seq (.region false [6, 7] [] [⟨some 6, none, false, .mv (.c (.int .i64 0))⟩,
    ⟨some 7, none, false, .mv (.c (.int .i64 2))⟩])
  .ret)
  .skip))
 (.seq (.seq (.region false [1, 2, 10, 74] [] [⟨some 73, none, false, .mv (.t 9)⟩,
   ⟨some 74, none, false, .un .not (.t 73)⟩])
 (.cond (.t 74)
  (.region false [1, 2, 10] [] [⟨some 75, none, false, .mv (.t 10)⟩,
    ⟨some 76, none, false, .un .neg (.t 75)⟩,
    ⟨some 10, none, false, .mv (.t 76)⟩])
  .skip))
 (.seq (.seq (.region false [10, 84] [] [⟨some 77, none, false, .mv (.t 10)⟩,
   ⟨some 78, none, false, .mv (.t 1)⟩,
   ⟨some 79, none, false, .bin .lss (.t 77) (.t 78)⟩,
   ⟨some 80, none, false, .mv (.t 79)⟩,
   ⟨some 81, some (80, false), false, .mv (.t 10)⟩,
   ⟨some 82, some (80, false), false, .mv (.t 2)⟩,
   ⟨some 83, some (80, false), false, .bin .gtr (.t 81) (.t 82)⟩,
   ⟨some 84, none, false, .pick (.t 80) (.c (.bool true)) (.t 83)⟩])
 (.cond (.t 84)
  (.seq (.region false [6, 7] [] [⟨some 6, none, false, .mv (.c (.int .i64 0))⟩,
    ⟨some 7, none, false, .mv (.c (.int .i64 2))⟩])
  .ret)
  .skip))
 (.seq (.region false [6, 7] [] [⟨some 85, none, false, .mv (.t 10)⟩,
   ⟨some 6, none, false, .mv (.t 85)⟩,
   ⟨some 7, none, false, .mv (.c (.int .i64 0))⟩])
 .ret)))))))))⟩
def af178L0 : ACode := .loop [0, 1, 6, 7]
 (.seq (.seq (.region false [0, 1, 6, 7, 25] [] [⟨some 22, none, false, .mv (.t 7)⟩,
   ⟨some 23, none, false, .mv (.t 1)⟩,
   ⟨some 24, none, false, .bin .sub (.t 23) (.c (.int .i64 1))⟩,
   ⟨some 25, none, false, .bin .lss (.t 22) (.t 24)⟩])
 (.cond (.t 25)
  .skip
  (.exit 0)))
 (.seq (.block 1 (.seq (.region false [0, 1, 6, 7, 9] [] [⟨some 29, none, false, .mv (.t 0)⟩,
    ⟨some 30, none, false, .call (.f 135) [(.t 29)]⟩,
    ⟨some 28, none, false, .mv (.t 30)⟩,
    ⟨some 31, none, false, .ext 0 (.t 28)⟩,
    ⟨some 32, none, false, .ext 1 (.t 28)⟩,
    ⟨some 8, none, false, .mv (.t 31)⟩,
    ⟨some 9, none, false, .mv (.t 32)⟩])
  (.seq (.region false [0, 1, 6, 7, 9] [] [⟨some 33, none, false, .mv (.t 6)⟩,
    ⟨some 34, none, false, .mv (.t 7)⟩,
    ⟨some 35, none, false, .mv (.t 0)⟩,
    ⟨some 36, none, false, .mv (.t 9)⟩,
    ⟨some 37, none, false, .slice .str (.t 35) none (some (.t 36)) none⟩,
    ⟨some 38, none, false, .idxaddr none 1 (.t 33) (.t 34)⟩,
    ⟨none, none, false, .store 1 (.t 38) (.t 37)⟩])
  (.region false [0, 1, 6, 7] [] [⟨some 39, none, false, .mv (.t 0)⟩,
    ⟨some 40, none, false, .mv (.t 9)⟩,
    ⟨some 41, none, false, .slice .str (.t 39) (some (.t 40)) none none⟩,
    ⟨some 0, none, false, .mv (.t 41)⟩]))))
 (.region false [0, 1, 6, 7] [] [⟨some 26, none, false, .mv (.t 7)⟩,
   ⟨some 27, none, false, .bin .add (.t 26) (.c (.int .i64 1))⟩,
   ⟨some 7, none, false, .mv (.t 27)⟩])))
/-- strings.explode -/
def af178 : AFun := ⟨50, true, [.tmp 4],
 (.seq (.region false [0, 1] [] [⟨some 4, none, false, .mv (.c .nilSl)⟩])
 (.seq (.region false [0, 1, 5] [] [⟨some 10, none, false, .mv (.t 0)⟩,
   ⟨some 11, none, false, .call (.f 192) [(.t 10)]⟩,
   ⟨some 5, none, false, .mv (.t 11)⟩])
 (.seq (.seq (.region false [0, 1, 5, 18] [] [⟨some 12, none, false, .mv (.t 1)⟩,
   ⟨some 13, none, false, .bin .lss (.t 12) (.c (.int .i64 0))⟩,
   ⟨some 14, none, false, .mv (.t 13)⟩,
   ⟨some 15, some (14, false), false, .mv (.t 1)⟩,
   ⟨some 16, some (14, false), false, .mv (.t 5)⟩,
   ⟨some 17, some (14, false), false, .bin .gtr (.t 15) (.t 16)⟩,
   ⟨some 18, none, false, .pick (.t 14) (.c (.bool true)) (.t 17)⟩])
 (.cond (.t 18)
  (.region false [0, 1] [] [⟨some 19, none, false, .mv (.t 5)⟩,
    ⟨some 1, none, false, .mv (.t 19)⟩])
  .skip))
 (.seq (.region false [0, 1, 6] [] [⟨some 20, none, false, .mv (.t 1)⟩,
   ⟨some 21, none, false, .mkslice [(.str [])] 16 (.t 20) (.t 20)⟩,
   ⟨some 6, none, false, .mv (.t 21)⟩])
 (.seq (.seq (.region false [0, 1, 6, 7] [] [⟨some 7, none, false, .mv (.c (.int .i64 0))⟩])
 (.block 0 af178L0))
 (.seq (.seq (.region false [0, 1, 6, 43] [] [⟨some 42, none, false, .mv (.t 1)⟩,
   ⟨some 43, none, false, .bin .gtr (.t 42) (.c (.int .i64 0))⟩])
 (.cond (.t 43)
  (.region false [6] [] [⟨some 44, none, false, .mv (.t 6)⟩,
    ⟨some 45, none, false, .mv (.t 1)⟩,
    ⟨some 46, none, false, .bin .sub (.t 45) (.c (.int .i64 1))⟩,
    ⟨some 47, none, false, .mv (.t 0)⟩,
    ⟨some 48, none, false, .idxaddr none 1 (.t 44) (.t 46)⟩,
    ⟨none, none, false, .store 1 (.t 48) (.t 47)⟩])
  .skip))
 (.seq (.region false [4] [] [⟨some 49, none, false, .mv (.t 6)⟩,
   ⟨some 4, none, false, .mv (.t 49)⟩])
 .ret)))))))⟩
def af179L0 : ACode := .loop [0, 1, 2, 3, 8, 9]
 (.seq (.seq (.region true [0, 1, 2, 3, 8, 9, 34] [] [⟨some 18, none, false, .mv (.t 9)⟩,
   ⟨some 19, none, false, .mv (.t 1)⟩,
   ⟨some 20, none, false, .bin .gtr (.t 18) (.t 19)⟩,
   ⟨some 21, none, false, .mv (.t 20)⟩,
   ⟨some 22, some (21, true), false, .mv (.t 3)⟩,
   ⟨some 23, some (21, true), false, .mv (.t 0)⟩,
   ⟨some 24, some (21, true), false, .mv (.t 9)⟩,
   ⟨some 25, some (21, true), false, .idxaddr none 2 (.t 23) (.t 24)⟩,
   ⟨some 26, some (21, true), false, .load true 2 (.t 25)⟩,
   ⟨some 27, some (21, true), false, .mv (.t 0)⟩,
   ⟨some 28, some (21, true), false, .mv (.t 9)⟩,
   ⟨some 29, some (21, true), false, .bin .sub (.t 28) (.c (.int .i64 1))⟩,
   ⟨some 30, some (21, true), false, .idxaddr none 2 (.t 27) (.t 29)⟩,
   ⟨some 31, some (21, true), false, .load true 2 (.t 30)⟩,
   ⟨some 32, some (21, true), false, .call (.t 22) [(.t 26), (.t 31)]⟩,
   ⟨some 33, some (21, true), false, .bin .lss (.t 32) (.c (.int .i64 0))⟩,
   ⟨some 34, none, false, .pick (.t 21) (.t 33) (.c (.bool false))⟩])
 (.cond (.t 34)
  .skip
  (.exit 2)))
 (.seq (.block 3 (.region true [0, 1, 2, 3, 8, 9] [] [⟨some 37, none, false, .mv (.t 0)⟩,
    ⟨some 38, none, false, .mv (.t 9)⟩,
    ⟨some 39, none, false, .mv (.t 0)⟩,
    ⟨some 40, none, false, .mv (.t 9)⟩,
    ⟨some 41, none, false, .bin .sub (.t 40) (.c (.int .i64 1))⟩,
    ⟨some 42, none, false, .mv (.t 0)⟩,
    ⟨some 43, none, false, .mv (.t 9)⟩,
    ⟨some 44, none, false, .bin .sub (.t 43) (.c (.int .i64 1))⟩,
    ⟨some 45, none, false, .idxaddr none 2 (.t 42) (.t 44)⟩,
    ⟨some 46, none, false, .load true 2 (.t 45)⟩,
    ⟨some 47, none, false, .mv (.t 0)⟩,
    ⟨some 48, none, false, .mv (.t 9)⟩,
    ⟨some 49, none, false, .idxaddr none 2 (.t 47) (.t 48)⟩,
    ⟨some 50, none, false, .load true 2 (.t 49)⟩,
    ⟨some 51, none, false, .idxaddr none 2 (.t 37) (.t 38)⟩,
    ⟨none, none, false, .store 2 (.t 51) (.t 46)⟩,
    ⟨some 52, none, false, .idxaddr none 2 (.t 39) (.t 41)⟩,
    ⟨none, none, false, .store 2 (.t 52) (.t 50)⟩]))
 (.region false [0, 1, 2, 3, 8, 9] [] [⟨some 35, none, false, .mv (.t 9)⟩,
   ⟨some 36, none, false, .bin .sub (.t 35) (.c (.int .i64 1))⟩,
   ⟨some 9, none, false, .mv (.t 36)⟩])))
def af179L1 : ACode := .loop [0, 1, 2, 3, 8]
 (.seq (.seq (.region false [0, 1, 2, 3, 8, 14] [] [⟨some 12, none, false, .mv (.t 8)⟩,
   ⟨some 13, none, false, .mv (.t 2)⟩,
   ⟨some 14, none, false, .bin .lss (.t 12) (.t 13)⟩])
 (.cond (.t 14)
  .skip
  (.exit 0)))
 (.seq (.block 1 (.seq (.region false [0, 1, 2, 3, 8, 9] [] [⟨some 17, none, false, .mv (.t 8)⟩,
    ⟨some 9, none, false, .mv (.t 17)⟩])
  (.block 2 af179L0)))
 (.region false [0, 1, 2, 3, 8] [] [⟨some 15, none, false, .mv (.t 8)⟩,
   ⟨some 16, none, false, .bin .add (.t 15) (.c (.int .i64 1))⟩,
   ⟨some 8, none, false, .mv (.t 16)⟩])))
/-- slices.insertionSortCmpFunc[civiltime/api.HolidayDay] -/
def af179 : AFun := ⟨53, true, [],
 (.seq (.region false [0, 1, 2, 3, 8] [] [⟨some 10, none, false, .mv (.t 1)⟩,
   ⟨some 11, none, false, .bin .add (.t 10) (.c (.int .i64 1))⟩,
   ⟨some 8, none, false, .mv (.t 11)⟩])
 (.block 0 af179L1))⟩
def af180L0 : ACode := .loop [0, 3, 8, 9, 10, 11]
 (.seq (.seq (.region false [0, 3, 8, 9, 10, 11, 21] [] [⟨some 20, none, false, .mv (.t 11)⟩,
   ⟨some 21, none, false, .bin .geq (.t 20) (.c (.int .i64 0))⟩])
 (.cond (.t 21)
  .skip
  (.exit 0)))
 (.seq (.block 1 (.region false [0, 3, 8, 9, 10, 11] [] [⟨some 24, none, false, .mv (.t 0)⟩,
    ⟨some 25, none, false, .mv (.t 11)⟩,
    ⟨some 26, none, false, .mv (.t 10)⟩,
    ⟨some 27, none, false, .mv (.t 8)⟩,
    ⟨some 28, none, false, .mv (.t 3)⟩,
    ⟨some 29, none, false, .call (.f 223) [(.t 24), (.t 25), (.t 26), (.t 27), (.t 28)]⟩]))
 (.region false [0, 3, 8, 9, 10, 11] [] [⟨some 22, none, false, .mv (.t 11)⟩,
   ⟨some 23, none, false, .bin .sub (.t 22) (.c (.int .i64 1))⟩,
   ⟨some 11, none, false, .mv (.t 23)⟩])))
def af180L1 : ACode := .loop [0, 3, 8, 9, 12]
 (.seq (.seq (.region false [0, 3, 8, 9, 12, 33] [] [⟨some 32, none, false, .mv (.t 12)⟩,
   ⟨some 33, none, false, .bin .geq (.t 32) (.c (.int .i64 0))⟩])
 (.cond (.t 33)
  .skip
  (.exit 2)))
 (.seq (.block 3 (.seq (.region true [0, 3, 8, 9, 12] [] [⟨some 36, none, false, .mv (.t 0)⟩,
    ⟨some 37, none, false, .mv (.t 8)⟩,
    ⟨some 38, none, false, .mv (.t 0)⟩,
    ⟨some 39, none, false, .mv (.t 8)⟩,
    ⟨some 40, none, false, .mv (.t 12)⟩,
    ⟨some 41, none, false, .bin .add (.t 39) (.t 40)⟩,
    ⟨some 42, none, false, .mv (.t 0)⟩,
    ⟨some 43, none, false, .mv (.t 8)⟩,
    ⟨some 44, none, false, .mv (.t 12)⟩,
    ⟨some 45, none, false, .bin .add (.t 43) (.t 44)⟩,
    ⟨some 46, none, false, .idxaddr none 2 (.t 42) (.t 45)⟩,
    ⟨some 47, none, false, .load true 2 (.t 46)⟩,
    ⟨some 48, none, false, .mv (.t 0)⟩,
    ⟨some 49, none, false, .mv (.t 8)⟩,
    ⟨some 50, none, false, .idxaddr none 2 (.t 48) (.t 49)⟩,
    ⟨some 51, none, false, .load true 2 (.t 50)⟩,
    ⟨some 52, none, false, .idxaddr none 2 (.t 36) (.t 37)⟩,
    ⟨none, none, false, .store 2 (.t 52) (.t 47)⟩,
    ⟨some 53, none, false, .idxaddr none 2 (.t 38) (.t 41)⟩,
    ⟨none, none, false, .store 2 (.t 53) (.t 51)⟩])
  (.region false [0, 3, 8, 9, 12] [] [⟨some 54, none, false, .mv (.t 0)⟩,
    ⟨some 55, none, false, .mv (.t 9)⟩,
    ⟨some 56, none, false, .mv (.t 12)⟩,
    ⟨some 57, none, false, .mv (.t 8)⟩,
    ⟨some 58, none, false, .mv (.t 3)⟩,
    ⟨some 59, none, false, .call (.f 223) [(.t 54), (.t 55), (.t 56), (.t 57), (.t 58)]⟩])))
 (.region false [0, 3, 8, 9, 12] [] [⟨some 34, none, false, .mv (.t 12)⟩,
   ⟨some 35, none, false, .bin .sub (.t 34) (.c (.int .i64 1))⟩,
   ⟨some 12, none, false, .mv (.t 35)⟩])))
/-- slices.heapSortCmpFunc[civiltime/api.HolidayDay] -/
def af180 : AFun := ⟨60, true, [],
 (.seq (.region false [0, 1, 2, 3, 8] [] [⟨some 13, none, false, .mv (.t 1)⟩,
   ⟨some 8, none, false, .mv (.t 13)⟩])
 (.seq (.region false [0, 1, 2, 3, 8, 9] [] [⟨some 9, none, false, .mv (.c (.int .i64 0))⟩])
 (.seq (.region false [0, 3, 8, 9, 10] [] [⟨some 14, none, false, .mv (.t 2)⟩,
   ⟨some 15, none, false, .mv (.t 1)⟩,
   ⟨some 16, none, false, .bin .sub (.t 14) (.t 15)⟩,
   ⟨some 10, none, false, .mv (.t 16)⟩])
 (.seq (.seq (.region false [0, 3, 8, 9, 10, 11] [] [⟨some 17, none, false, .mv (.t 10)⟩,
   ⟨some 18, none, false, .bin .sub (.t 17) (.c (.int .i64 1))⟩,
   ⟨some 19, none, false, .bin .quo (.t 18) (.c (.int .i64 2))⟩,
   ⟨some 11, none, false, .mv (.t 19)⟩])
 (.block 0 af180L0))
 (.seq (.region false [0, 3, 8, 9, 12] [] [⟨some 30, none, false, .mv (.t 10)⟩,
   ⟨some 31, none, false, .bin .sub (.t 30) (.c (.int .i64 1))⟩,
   ⟨some 12, none, false, .mv (.t 31)⟩])
 (.block 2 af180L1))))))⟩
def af181L0 : ACode := .loop [0, 1, 8, 9, 10, 11]
 (.seq (.seq (.region false [0, 1, 8, 9, 10, 11, 35] [] [⟨some 28, none, false, .mv (.t 11)⟩,
   ⟨some 29, none, false, .mv (.t 1)⟩,
   ⟨some 30, none, false, .mv (.t 8)⟩,
   ⟨some 31, none, false, .bin .quo (.t 30) (.c (.int .i64 4))⟩,
   ⟨some 32, none, false, .bin .mul (.t 31) (.c (.int .i64 2))⟩,
   ⟨some 33, none, false, .bin .add (.t 29) (.t 32)⟩,
   ⟨some 34, none, false, .bin .add (.t 33) (.c (.int .i64 1))⟩,
   ⟨some 35, none, false, .bin .leq (.t 28) (.t 34)⟩])
 (.cond (.t 35)
  .skip
  (.exit 0)))
 (.seq (.block 1 (.seq (.region false [0, 1, 8, 9, 10, 11, 12] [] [⟨some 38, none, false, .call (.f 225) [(.t 9)]⟩,
    ⟨some 39, none, false, .mv (.t 10)⟩,
    ⟨some 40, none, false, .bin .sub (.t 39) (.c (.int .u64 1))⟩,
    ⟨some 41, none, false, .bin .and (.t 38) (.t 40)⟩,
    ⟨some 42, none, false, .conv (.int .i64) (.t 41)⟩,
    ⟨some 12, none, false, .mv (.t 42)⟩])
  (.seq (.seq (.region false [0, 1, 8, 9, 10, 11, 12, 45] [] [⟨some 43, none, false, .mv (.t 12)⟩,
    ⟨some 44, none, false, .mv (.t 8)⟩,
    ⟨some 45, none, false, .bin .geq (.t 43) (.t 44)⟩])
  (.cond (.t 45)
   (.region false [0, 1, 8, 9, 10, 11, 12] [] [⟨some 46, none, false, .mv (.t 12)⟩,
     ⟨some 47, none, false, .mv (.t 8)⟩,
     ⟨some 48, none, false, .bin .sub (.t 46) (.t 47)⟩,
     ⟨some 12, none, false, .mv (.t 48)⟩])
   .skip))
  (.region true [0, 1, 8, 9, 10, 11] [] [⟨some 49, none, false, .mv (.t 0)⟩,
    ⟨some 50, none, false, .mv (.t 11)⟩,
    ⟨some 51, none, false, .mv (.t 0)⟩,
    ⟨some 52, none, false, .mv (.t 1)⟩,
    ⟨some 53, none, false, .mv (.t 12)⟩,
    ⟨some 54, none, false, .bin .add (.t 52) (.t 53)⟩,
    ⟨some 55, none, false, .mv (.t 0)⟩,
    ⟨some 56, none, false, .mv (.t 1)⟩,
    ⟨some 57, none, false, .mv (.t 12)⟩,
    ⟨some 58, none, false, .bin .add (.t 56) (.t 57)⟩,
    ⟨some 59, none, false, .idxaddr none 2 (.t 55) (.t 58)⟩,
    ⟨some 60, none, false, .load true 2 (.t 59)⟩,
    ⟨some 61, none, false, .mv (.t 0)⟩,
    ⟨some 62, none, false, .mv (.t 11)⟩,
    ⟨some 63, none, false, .idxaddr none 2 (.t 61) (.t 62)⟩,
    ⟨some 64, none, false, .load true 2 (.t 63)⟩,
    ⟨some 65, none, false, .idxaddr none 2 (.t 49) (.t 50)⟩,
    ⟨none, none, false, .store 2 (.t 65) (.t 60)⟩,
    ⟨some 66, none, false, .idxaddr none 2 (.t 51) (.t 54)⟩,
    ⟨none, none, false, .store 2 (.t 66) (.t 64)⟩]))))
 (.region false [0, 1, 8, 9, 10, 11] [] [⟨some 36, none, false, .mv (.t 11)⟩,
   ⟨some 37, none, false, .bin .add (.t 36) (.c (.int .i64 1))⟩,
   ⟨some 11, none, false, .mv (.t 37)⟩])))
/-- slices.breakPatternsCmpFunc[civiltime/api.HolidayDay] -/
def af181 : AFun := ⟨67, true, [],
 (.seq (.region false [0, 1, 8] [] [⟨some 13, none, false, .mv (.t 2)⟩,
   ⟨some 14, none, false, .mv (.t 1)⟩,
   ⟨some 15, none, false, .bin .sub (.t 13) (.t 14)⟩,
   ⟨some 8, none, false, .mv (.t 15)⟩])
 (.seq (.region false [0, 1, 8, 17] [] [⟨some 16, none, false, .mv (.t 8)⟩,
   ⟨some 17, none, false, .bin .geq (.t 16) (.c (.int .i64 8))⟩])
 (.cond (.t 17)
  (.seq (.region false [0, 1, 8, 9] [] [⟨some 18, none, false, .mv (.t 8)⟩,
    ⟨some 19, none, false, .conv (.int .u64) (.t 18)⟩,
    ⟨some 9, none, false, .new [(.int .u64 0)]⟩,
    ⟨none, none, false, .store 1 (.t 9) (.t 19)⟩])
  (.seq (.region false [0, 1, 8, 9, 10] [] [⟨some 20, none, false, .mv (.t 8)⟩,
    ⟨some 21, none, false, .call (.f 224) [(.t 20)]⟩,
    ⟨some 10, none, false, .mv (.t 21)⟩])
  (.seq (.region false [0, 1, 8, 9, 10, 11] [] [⟨some 22, none, false, .mv (.t 1)⟩,
    ⟨some 23, none, false, .mv (.t 8)⟩,
    ⟨some 24, none, false, .bin .quo (.t 23) (.c (.int .i64 4))⟩,
    ⟨some 25, none, false, .bin .mul (.t 24) (.c (.int .i64 2))⟩,
    ⟨some 26, none, false, .bin .add (.t 22) (.t 25)⟩,
    ⟨some 27, none, false, .bin .sub (.t 26) (.c (.int .i64 1))⟩,
    ⟨some 11, none, false, .mv (.t 27)⟩])
  (.block 0 af181L0))))
  .skip)))⟩
/-- slices.choosePivotCmpFunc[civiltime/api.HolidayDay] -/
def af182 : AFun := ⟨63, true, [.tmp 8, .tmp 9],
 (.seq (.region false [0, 1, 2, 3] [] [⟨some 8, none, false, .mv (.c (.int .i64 0))⟩,
   ⟨some 9, none, false, .mv (.c (.int .i64 0))⟩])
 (.seq (.region false [0, 1, 3, 10] [] [⟨some 15, none, false, .mv (.t 2)⟩,
   ⟨some 16, none, false, .mv (.t 1)⟩,
   ⟨some 17, none, false, .bin .sub (.t 15) (.t 16)⟩,
   ⟨some 10, none, false, .mv (.t 17)⟩])
 (.seq (.region false [0, 1, 3, 10, 11] [] [⟨some 11, none, false, .new [(.int .i64 0)]⟩])
 (.seq (.region false [0, 1, 3, 10, 11, 12] [] [⟨some 18, none, false, .mv (.t 1)⟩,
   ⟨some 19, none, false, .mv (.t 10)⟩,
   ⟨some 20, none, false, .bin .quo (.t 19) (.c (.int .i64 4))⟩,
   ⟨some 21, none, false, .bin .mul (.t 20) (.c (.int .i64 1))⟩,
   ⟨some 22, none, false, .bin .add (.t 18) (.t 21)⟩,
   ⟨some 12, none, false, .mv (.t 22)⟩])
 (.seq (.region false [0, 1, 3, 10, 11, 12, 13] [] [⟨some 23, none, false, .mv (.t 1)⟩,
   ⟨some 24, none, false, .mv (.t 10)⟩,
   ⟨some 25, none, false, .bin .quo (.t 24) (.c (.int .i64 4))⟩,
   ⟨some 26, none, false, .bin .mul (.t 25) (.c (.int .i64 2))⟩,
   ⟨some 27, none, false, .bin .add (.t 23) (.t 26)⟩,
   ⟨some 13, none, false, .mv (.t 27)⟩])
 (.seq (.region false [0, 3, 10, 11, 12, 13, 14] [] [⟨some 28, none, false, .mv (.t 1)⟩,
   ⟨some 29, none, false, .mv (.t 10)⟩,
   ⟨some 30, none, false, .bin .quo (.t 29) (.c (.int .i64 4))⟩,
   ⟨some 31, none, false, .bin .mul (.t 30) (.c (.int .i64 3))⟩,
   ⟨some 32, none, false, .bin .add (.t 28) (.t 31)⟩,
   ⟨some 14, none, false, .mv (.t 32)⟩])
 (.seq (.seq (.region false [0, 3, 10, 11, 12, 13, 14, 34] [] [⟨some 33, none, false, .mv (.t 10)⟩,
   ⟨some 34, none, false, .bin .geq (.t 33) (.c (.int .i64 8))⟩])
 (.cond (.t 34)
  (.seq (.seq (.region false [0, 3, 11, 12, 13, 14, 36] [] [⟨some 35, none, false, .mv (.t 10)⟩,
    ⟨some 36, none, false, .bin .geq (.t 35) (.c (.int .i64 50))⟩])
  (.cond (.t 36)
   (.seq (.region false [0, 3, 11, 12, 13, 14] [] [⟨some 37, none, false, .mv (.t 0)⟩,
     ⟨some 38, none, false, .mv (.t 12)⟩,
     ⟨some 39, none, false, .mv (.t 3)⟩,
     ⟨some 40, none, false, .call (.f 226) [(.t 37), (.t 38), (.t 11), (.t 39)]⟩,
     ⟨some 12, none, false, .mv (.t 40)⟩])
   (.seq (.region false [0, 3, 11, 12, 13, 14] [] [⟨some 41, none, false, .mv (.t 0)⟩,
     ⟨some 42, none, false, .mv (.t 13)⟩,
     ⟨some 43, none, false, .mv (.t 3)⟩,
     ⟨some 44, none, false, .call (.f 226) [(.t 41), (.t 42), (.t 11), (.t 43)]⟩,
     ⟨some 13, none, false, .mv (.t 44)⟩])
   (.region false [0, 3, 11, 12, 13, 14] [] [⟨some 45, none, false, .mv (.t 0)⟩,
     ⟨some 46, none, false, .mv (.t 14)⟩,
     ⟨some 47, none, false, .mv (.t 3)⟩,
     ⟨some 48, none, false, .call (.f 226) [(.t 45), (.t 46), (.t 11), (.t 47)]⟩,
     ⟨some 14, none, false, .mv (.t 48)⟩])))
   .skip))
  (.region false [11, 13] [] [⟨some 49, none, false, .mv (.t 0)⟩,
    ⟨some 50, none, false, .mv (.t 12)⟩,
    ⟨some 51, none, false, .mv (.t 13)⟩,
    ⟨some 52, none, false, .mv (.t 14)⟩,
    ⟨some 53, none, false, .mv (.t 3)⟩,
    ⟨some 54, none, false, .call (.f 227) [(.t 49), (.t 50), (.t 51), (.t 52), (.t 11), (.t 53)]⟩,
    ⟨some 13, none, false, .mv (.t 54)⟩]))
  .skip))
 (.seq (.region false [13, 55] [] [⟨some 55, none, false, .load false 1 (.t 11)⟩])
 (.block 0 (.seq (.region false [13, 55, 57] [] [⟨some 58, none, false, .bin .eql (.t 55) (.c (.int .i64 0))⟩,
    ⟨some 57, none, false, .mv (.t 58)⟩])
  (.cond (.t 57)
   (.seq (.region false [8, 9] [] [⟨some 59, none, false, .mv (.t 13)⟩,
     ⟨some 8, none, false, .mv (.t 59)⟩,
     ⟨some 9, none, false, .mv (.c (.int .i64 1))⟩])
   .ret)
   (.seq (.region false [13, 60] [] [⟨some 61, none, false, .bin .eql (.t 55) (.c (.int .i64 12))⟩,
     ⟨some 60, none, false, .mv (.t 61)⟩])
   (.cond (.t 60)
    (.seq (.region false [8, 9] [] [⟨some 62, none, false, .mv (.t 13)⟩,
      ⟨some 8, none, false, .mv (.t 62)⟩,
      ⟨some 9, none, false, .mv (.c (.int .i64 2))⟩])
    .ret)
    (.seq (.region false [8, 9] [] [⟨some 56, none, false, .mv (.t 13)⟩,
      ⟨some 8, none, false, .mv (.t 56)⟩,
      ⟨some 9, none, false, .mv (.c (.int .i64 0))⟩])
    .ret))))))))))))))⟩
def af183L0 : ACode := .loop [0, 8, 9]
 (.seq (.seq (.region false [0, 8, 9, 15] [] [⟨some 13, none, false, .mv (.t 8)⟩,
   ⟨some 14, none, false, .mv (.t 9)⟩,
   ⟨some 15, none, false, .bin .lss (.t 13) (.t 14)⟩])
 (.cond (.t 15)
  .skip
  (.exit 0)))
 (.block 1 (.seq (.region true [0, 8, 9] [] [⟨some 16, none, false, .mv (.t 0)⟩,
    ⟨some 17, none, false, .mv (.t 8)⟩,
    ⟨some 18, none, false, .mv (.t 0)⟩,
    ⟨some 19, none, false, .mv (.t 9)⟩,
    ⟨some 20, none, false, .mv (.t 0)⟩,
    ⟨some 21, none, false, .mv (.t 9)⟩,
    ⟨some 22, none, false, .idxaddr none 2 (.t 20) (.t 21)⟩,
    ⟨some 23, none, false, .load true 2 (.t 22)⟩,
    ⟨some 24, none, false, .mv (.t 0)⟩,
    ⟨some 25, none, false, .mv (.t 8)⟩,
    ⟨some 26, none, false, .idxaddr none 2 (.t 24) (.t 25)⟩,
    ⟨some 27, none, false, .load true 2 (.t 26)⟩,
    ⟨some 28, none, false, .idxaddr none 2 (.t 16) (.t 17)⟩,
    ⟨none, none, false, .store 2 (.t 28) (.t 23)⟩,
    ⟨some 29, none, false, .idxaddr none 2 (.t 18) (.t 19)⟩,
    ⟨none, none, false, .store 2 (.t 29) (.t 27)⟩])
  (.seq (.region false [0, 8, 9] [] [⟨some 30, none, false, .mv (.t 8)⟩,
    ⟨some 31, none, false, .bin .add (.t 30) (.c (.int .i64 1))⟩,
    ⟨some 8, none, false, .mv (.t 31)⟩])
  (.region false [0, 8, 9] [] [⟨some 32, none, false, .mv (.t 9)⟩,
    ⟨some 33, none, false, .bin .sub (.t 32) (.c (.int .i64 1))⟩,
    ⟨some 9, none, false, .mv (.t 33)⟩])))))
/-- slices.reverseRangeCmpFunc[civiltime/api.HolidayDay] -/
def af183 : AFun := ⟨34, true, [],
 (.seq (.region false [0, 2, 8] [] [⟨some 10, none, false, .mv (.t 1)⟩,
   ⟨some 8, none, false, .mv (.t 10)⟩])
 (.seq (.region false [0, 8, 9] [] [⟨some 11, none, false, .mv (.t 2)⟩,
   ⟨some 12, none, false, .bin .sub (.t 11) (.c (.int .i64 1))⟩,
   ⟨some 9, none, false, .mv (.t 12)⟩])
 (.block 0 af183L0)))⟩
def af184L0 : ACode := .loop [0, 1, 2, 3, 9, 10]
 (.seq (.seq (.region true [0, 1, 2, 3, 9, 10, 36] [] [⟨some 19, none, false, .mv (.t 9)⟩,
   ⟨some 20, none, false, .mv (.t 2)⟩,
   ⟨some 21, none, false, .bin .lss (.t 19) (.t 20)⟩,
   ⟨some 22, none, false, .mv (.t 21)⟩,
   ⟨some 23, some (22, true), false, .mv (.t 3)⟩,
   ⟨some 24, some (22, true), false, .mv (.t 0)⟩,
   ⟨some 25, some (22, true), false, .mv (.t 9)⟩,
   ⟨some 26, some (22, true), false, .idxaddr none 2 (.t 24) (.t 25)⟩,
   ⟨some 27, some (22, true), false, .load true 2 (.t 26)⟩,
   ⟨some 28, some (22, true), false, .mv (.t 0)⟩,
   ⟨some 29, some (22, true), false, .mv (.t 9)⟩,
   ⟨some 30, some (22, true), false, .bin .sub (.t 29) (.c (.int .i64 1))⟩,
   ⟨some 31, some (22, true), false, .idxaddr none 2 (.t 28) (.t 30)⟩,
   ⟨some 32, some (22, true), false, .load true 2 (.t 31)⟩,
   ⟨some 33, some (22, true), false, .call (.t 23) [(.t 27), (.t 32)]⟩,
   ⟨some 34, some (22, true), false, .bin .lss (.t 33) (.c (.int .i64 0))⟩,
   ⟨some 35, some (22, true), false, .un .not (.t 34)⟩,
   ⟨some 36, none, false, .pick (.t 22) (.t 35) (.c (.bool false))⟩])
 (.cond (.t 36)
  .skip
  (.exit 2)))
 (.block 3 (.region false [0, 1, 2, 3, 9, 10] [] [⟨some 37, none, false, .mv (.t 9)⟩,
    ⟨some 38, none, false, .bin .add (.t 37) (.c (.int .i64 1))⟩,
    ⟨some 9, none, false, .mv (.t 38)⟩])))
def af184L1 : ACode := .loop [0, 1, 2, 3, 9, 10, 11]
 (.seq (.seq (.region false [0, 1, 2, 3, 9, 10, 11, 69] [] [⟨some 68, none, false, .mv (.t 11)⟩,
   ⟨some 69, none, false, .bin .geq (.t 68) (.c (.int .i64 1))⟩])
 (.cond (.t 69)
  .skip
  (.exit 4)))
 (.seq (.block 5 (.seq (.seq (.region true [0, 1, 2, 3, 9, 10, 11, 84] [] [⟨some 72, none, false, .mv (.t 3)⟩,
    ⟨some 73, none, false, .mv (.t 0)⟩,
    ⟨some 74, none, false, .mv (.t 11)⟩,
    ⟨some 75, none, false, .idxaddr none 2 (.t 73) (.t 74)⟩,
    ⟨some 76, none, false, .load true 2 (.t 75)⟩,
    ⟨some 77, none, false, .mv (.t 0)⟩,
    ⟨some 78, none, false, .mv (.t 11)⟩,
    ⟨some 79, none, false, .bin .sub (.t 78) (.c (.int .i64 1))⟩,
    ⟨some 80, none, false, .idxaddr none 2 (.t 77) (.t 79)⟩,
    ⟨some 81, none, false, .load true 2 (.t 80)⟩,
    ⟨some 82, none, false, .call (.t 72) [(.t 76), (.t 81)]⟩,
    ⟨some 83, none, false, .bin .lss (.t 82) (.c (.int .i64 0))⟩,
    ⟨some 84, none, false, .un .not (.t 83)⟩])
  (.cond (.t 84)
   (.exit 4)
   .skip))
  (.region true [0, 1, 2, 3, 9, 10, 11] [] [⟨some 85, none, false, .mv (.t 0)⟩,
    ⟨some 86, none, false, .mv (.t 11)⟩,
    ⟨some 87, none, false, .mv (.t 0)⟩,
    ⟨some 88, none, false, .mv (.t 11)⟩,
    ⟨some 89, none, false, .bin .sub (.t 88) (.c (.int .i64 1))⟩,
    ⟨some 90, none, false, .mv (.t 0)⟩,
    ⟨some 91, none, false, .mv (.t 11)⟩,
    ⟨some 92, none, false, .bin .sub (.t 91) (.c (.int .i64 1))⟩,
    ⟨some 93, none, false, .idxaddr none 2 (.t 90) (.t 92)⟩,
    ⟨some 94, none, false, .load true 2 (.t 93)⟩,
    ⟨some 95, none, false, .mv (.t 0)⟩,
    ⟨some 96, none, false, .mv (.t 11)⟩,
    ⟨some 97, none, false, .idxaddr none 2 (.t 95) (.t 96)⟩,
    ⟨some 98, none, false, .load true 2 (.t 97)⟩,
    ⟨some 99, none, false, .idxaddr none 2 (.t 85) (.t 86)⟩,
    ⟨none, none, false, .store 2 (.t 99) (.t 94)⟩,
    ⟨some 100, none, false, .idxaddr none 2 (.t 87) (.t 89)⟩,
    ⟨none, none, false, .store 2 (.t 100) (.t 98)⟩])))
 (.region false [0, 1, 2, 3, 9, 10, 11] [] [⟨some 70, none, false, .mv (.t 11)⟩,
   ⟨some 71, none, false, .bin .sub (.t 70) (.c (.int .i64 1))⟩,
   ⟨some 11, none, false, .mv (.t 71)⟩])))
def af184L2 : ACode := .loop [0, 1, 2, 3, 9, 10, 12]
 (.seq (.seq (.region false [0, 1, 2, 3, 9, 10, 12, 109] [] [⟨some 107, none, false, .mv (.t 12)⟩,
   ⟨some 108, none, false, .mv (.t 2)⟩,
   ⟨some 109, none, false, .bin .lss (.t 107) (.t 108)⟩])
 (.cond (.t 109)
  .skip
  (.exit 6)))
 (.seq (.block 7 (.seq (.seq (.region true [0, 1, 2, 3, 9, 10, 12, 124] [] [⟨some 112, none, false, .mv (.t 3)⟩,
    ⟨some 113, none, false, .mv (.t 0)⟩,
    ⟨some 114, none, false, .mv (.t 12)⟩,
    ⟨some 115, none, false, .idxaddr none 2 (.t 113) (.t 114)⟩,
    ⟨some 116, none, false, .load true 2 (.t 115)⟩,
    ⟨some 117, none, false, .mv (.t 0)⟩,
    ⟨some 118, none, false, .mv (.t 12)⟩,
    ⟨some 119, none, false, .bin .sub (.t 118) (.c (.int .i64 1))⟩,
    ⟨some 120, none, false, .idxaddr none 2 (.t 117) (.t 119)⟩,
    ⟨some 121, none, false, .load true 2 (.t 120)⟩,
    ⟨some 122, none, false, .call (.t 112) [(.t 116), (.t 121)]⟩,
    ⟨some 123, none, false, .bin .lss (.t 122) (.c (.int .i64 0))⟩,
    ⟨some 124, none, false, .un .not (.t 123)⟩])
  (.cond (.t 124)
   (.exit 6)
   .skip))
  (.region true [0, 1, 2, 3, 9, 10, 12] [] [⟨some 125, none, false, .mv (.t 0)⟩,
    ⟨some 126, none, false, .mv (.t 12)⟩,
    ⟨some 127, none, false, .mv (.t 0)⟩,
    ⟨some 128, none, false, .mv (.t 12)⟩,
    ⟨some 129, none, false, .bin .sub (.t 128) (.c (.int .i64 1))⟩,
    ⟨some 130, none, false, .mv (.t 0)⟩,
    ⟨some 131, none, false, .mv (.t 12)⟩,
    ⟨some 132, none, false, .bin .sub (.t 131) (.c (.int .i64 1))⟩,
    ⟨some 133, none, false, .idxaddr none 2 (.t 130) (.t 132)⟩,
    ⟨some 134, none, false, .load true 2 (.t 133)⟩,
    ⟨some 135, none, false, .mv (.t 0)⟩,
    ⟨some 136, none, false, .mv (.t 12)⟩,
    ⟨some 137, none, false, .idxaddr none 2 (.t 135) (.t 136)⟩,
    ⟨some 138, none, false, .load true 2 (.t 137)⟩,
    ⟨some 139, none, false, .idxaddr none 2 (.t 125) (.t 126)⟩,
    ⟨none, none, false, .store 2 (.t 139) (.t 134)⟩,
    ⟨some 140, none, false, .idxaddr none 2 (.t 127) (.t 129)⟩,
    ⟨none, none, false, .store 2 (.t 140) (.t 138)⟩])))
 (.region false [0, 1, 2, 3, 9, 10, 12] [] [⟨some 110, none, false, .mv (.t 12)⟩,
   ⟨some 111, none, false, .bin .add (.t 110) (.c (.int .i64 1))⟩,
   ⟨some 12, none, false, .mv (.t 111)⟩])))
def af184L3 : ACode := .loop [0, 1, 2, 3, 9, 10]
 (.seq (.seq (.region false [0, 1, 2, 3, 9, 10, 16] [] [⟨some 15, none, false, .mv (.t 10)⟩,
   ⟨some 16, none, false, .bin .lss (.t 15) (.c (.int .i64 5))⟩])
 (.cond (.t 16)
  .skip
  (.exit 0)))
 (.seq (.block 1 (.seq (.block 2 af184L0)
  (.seq (.seq (.region false [0, 1, 2, 3, 9, 10, 41] [] [⟨some 39, none, false, .mv (.t 9)⟩,
    ⟨some 40, none, false, .mv (.t 2)⟩,
    ⟨some 41, none, false, .bin .eql (.t 39) (.t 40)⟩])
  (.cond (.t 41)
   (.seq (.region false [8] [] [⟨some 8, none, false, .mv (.c (.bool true))⟩])
   .ret)
   .skip))
  (.seq (.seq (.region false [0, 1, 2, 3, 9, 10, 45] [] [⟨some 42, none, false, .mv (.t 2)⟩,
    ⟨some 43, none, false, .mv (.t 1)⟩,
    ⟨some 44, none, false, .bin .sub (.t 42) (.t 43)⟩,
    ⟨some 45, none, false, .bin .lss (.t 44) (.c (.int .i64 50))⟩])
  (.cond (.t 45)
   (.seq (.region false [8] [] [⟨some 8, none, false, .mv (.c (.bool false))⟩])
   .ret)
   .skip))
  (.seq (.region true [0, 1, 2, 3, 9, 10] [] [⟨some 46, none, false, .mv (.t 0)⟩,
    ⟨some 47, none, false, .mv (.t 9)⟩,
    ⟨some 48, none, false, .mv (.t 0)⟩,
    ⟨some 49, none, false, .mv (.t 9)⟩,
    ⟨some 50, none, false, .bin .sub (.t 49) (.c (.int .i64 1))⟩,
    ⟨some 51, none, false, .mv (.t 0)⟩,
    ⟨some 52, none, false, .mv (.t 9)⟩,
    ⟨some 53, none, false, .bin .sub (.t 52) (.c (.int .i64 1))⟩,
    ⟨some 54, none, false, .idxaddr none 2 (.t 51) (.t 53)⟩,
    ⟨some 55, none, false, .load true 2 (.t 54)⟩,
    ⟨some 56, none, false, .mv (.t 0)⟩,
    ⟨some 57, none, false, .mv (.t 9)⟩,
    ⟨some 58, none, false, .idxaddr none 2 (.t 56) (.t 57)⟩,
    ⟨some 59, none, false, .load true 2 (.t 58)⟩,
    ⟨some 60, none, false, .idxaddr none 2 (.t 46) (.t 47)⟩,
    ⟨none, none, false, .store 2 (.t 60) (.t 55)⟩,
    ⟨some 61, none, false, .idxaddr none 2 (.t 48) (.t 50)⟩,
    ⟨none, none, false, .store 2 (.t 61) (.t 59)⟩])
  (.seq (.seq (.region false [0, 1, 2, 3, 9, 10, 65] [] [⟨some 62, none, false, .mv (.t 9)⟩,
    ⟨some 63, none, false, .mv (.t 1)⟩,
    ⟨some 64, none, false, .bin .sub (.t 62) (.t 63)⟩,
    ⟨some 65, none, false, .bin .geq (.t 64) (.c (.int .i64 2))⟩])
  (.cond (.t 65)
   (.seq (.region false [0, 1, 2, 3, 9, 10, 11] [] [⟨some 66, none, false, .mv (.t 9)⟩,
     ⟨some 67, none, false, .bin .sub (.t 66) (.c (.int .i64 1))⟩,
     ⟨some 11, none, false, .mv (.t 67)⟩])
   (.block 4 af184L1))
   .skip))
  (.seq (.region false [0, 1, 2, 3, 9, 10, 104] [] [⟨some 101, none, false, .mv (.t 2)⟩,
    ⟨some 102, none, false, .mv (.t 9)⟩,
    ⟨some 103, none, false, .bin .sub (.t 101) (.t 102)⟩,
    ⟨some 104, none, false, .bin .geq (.t 103) (.c (.int .i64 2))⟩])
  (.cond (.t 104)
   (.seq (.region false [0, 1, 2, 3, 9, 10, 12] [] [⟨some 105, none, false, .mv (.t 9)⟩,
     ⟨some 106, none, false, .bin .add (.t 105) (.c (.int .i64 1))⟩,
     ⟨some 12, none, false, .mv (.t 106)⟩])
   (.block 6 af184L2))
   .skip))))))))
 (.region false [0, 1, 2, 3, 9, 10] [] [⟨some 17, none, false, .mv (.t 10)⟩,
   ⟨some 18, none, false, .bin .add (.t 17) (.c (.int .i64 1))⟩,
   ⟨some 10, none, false, .mv (.t 18)⟩])))
/-- slices.partialInsertionSortCmpFunc[civiltime/api.HolidayDay] -/
def af184 : AFun := ⟨141, true, [.tmp 8],
 (.seq (.region false [0, 1, 2, 3] [] [⟨some 8, none, false, .mv (.c (.bool false))⟩])
 (.seq (.region false [0, 1, 2, 3, 9] [] [⟨some 13, none, false, .mv (.t 1)⟩,
   ⟨some 14, none, false, .bin .add (.t 13) (.c (.int .i64 1))⟩,
   ⟨some 9, none, false, .mv (.t 14)⟩])
 (.seq (.seq (.region false [0, 1, 2, 3, 9, 10] [] [⟨some 10, none, false, .mv (.c (.int .i64 0))⟩])
 (.block 0 af184L3))
 (.seq (.region false [8] [] [⟨some 8, none, false, .mv (.c (.bool false))⟩])
 .ret))))⟩
def af185L0 : ACode := .loop [0, 1, 4, 11, 12]
 (.seq (.seq (.region true [0, 1, 4, 11, 12, 47] [] [⟨some 31, none, false, .mv (.t 11)⟩,
   ⟨some 32, none, false, .mv (.t 12)⟩,
   ⟨some 33, none, false, .bin .leq (.t 31) (.t 32)⟩,
   ⟨some 34, none, false, .mv (.t 33)⟩,
   ⟨some 35, some (34, true), false, .mv (.t 4)⟩,
   ⟨some 36, some (34, true), false, .mv (.t 0)⟩,
   ⟨some 37, some (34, true), false, .mv (.t 1)⟩,
   ⟨some 38, some (34, true), false, .idxaddr none 2 (.t 36) (.t 37)⟩,
   ⟨some 39, some (34, true), false, .load true 2 (.t 38)⟩,
   ⟨some 40, some (34, true), false, .mv (.t 0)⟩,
   ⟨some 41, some (34, true), false, .mv (.t 11)⟩,
   ⟨some 42, some (34, true), false, .idxaddr none 2 (.t 40) (.t 41)⟩,
   ⟨some 43, some (34, true), false, .load true 2 (.t 42)⟩,
   ⟨some 44, some (34, true), false, .call (.t 35) [(.t 39), (.t 43)]⟩,
   ⟨some 45, some (34, true), false, .bin .lss (.t 44) (.c (.int .i64 0))⟩,
   ⟨some 46, some (34, true), false, .un .not (.t 45)⟩,
   ⟨some 47, none, false, .pick (.t 34) (.t 46) (.c (.bool false))⟩])
 (.cond (.t 47)
  .skip
  (.exit 2)))
 (.block 3 (.region false [0, 1, 4, 11, 12] [] [⟨some 48, none, false, .mv (.t 11)⟩,
    ⟨some 49, none, false, .bin .add (.t 48) (.c (.int .i64 1))⟩,
    ⟨some 11, none, false, .mv (.t 49)⟩])))
def af185L1 : ACode := .loop [0, 1, 4, 11, 12]
 (.seq (.seq (.region true [0, 1, 4, 11, 12, 65] [] [⟨some 50, none, false, .mv (.t 11)⟩,
   ⟨some 51, none, false, .mv (.t 12)⟩,
   ⟨some 52, none, false, .bin .leq (.t 50) (.t 51)⟩,
   ⟨some 53, none, false, .mv (.t 52)⟩,
   ⟨some 54, some (53, true), false, .mv (.t 4)⟩,
   ⟨some 55, some (53, true), false, .mv (.t 0)⟩,
   ⟨some 56, some (53, true), false, .mv (.t 1)⟩,
   ⟨some 57, some (53, true), false, .idxaddr none 2 (.t 55) (.t 56)⟩,
   ⟨some 58, some (53, true), false, .load true 2 (.t 57)⟩,
   ⟨some 59, some (53, true), false, .mv (.t 0)⟩,
   ⟨some 60, some (53, true), false, .mv (.t 12)⟩,
   ⟨some 61, some (53, true), false, .idxaddr none 2 (.t 59) (.t 60)⟩,
   ⟨some 62, some (53, true), false, .load true 2 (.t 61)⟩,
   ⟨some 63, some (53, true), false, .call (.t 54) [(.t 58), (.t 62)]⟩,
   ⟨some 64, some (53, true), false, .bin .lss (.t 63) (.c (.int .i64 0))⟩,
   ⟨some 65, none, false, .pick (.t 53) (.t 64) (.c (.bool false))⟩])
 (.cond (.t 65)
  .skip
  (.exit 4)))
 (.block 5 (.region false [0, 1, 4, 11, 12] [] [⟨some 66, none, false, .mv (.t 12)⟩,
    ⟨some 67, none, false, .bin .sub (.t 66) (.c (.int .i64 1))⟩,
    ⟨some 12, none, false, .mv (.t 67)⟩])))
def af185L2 : ACode := .loop [0, 1, 4, 11, 12]
 (.block 1 (.seq (.block 2 af185L0)
  (.seq (.block 4 af185L1)
  (.seq (.seq (.region false [0, 1, 4, 11, 12, 70] [] [⟨some 68, none, false, .mv (.t 11)⟩,
    ⟨some 69, none, false, .mv (.t 12)⟩,
    ⟨some 70, none, false, .bin .gtr (.t 68) (.t 69)⟩])
  (.cond (.t 70)
   (.exit 0)
   .skip))
  (.seq (.region true [0, 1, 4, 11, 12] [] [⟨some 71, none, false, .mv (.t 0)⟩,
    ⟨some 72, none, false, .mv (.t 11)⟩,
    ⟨some 73, none, false, .mv (.t 0)⟩,
    ⟨some 74, none, false, .mv (.t 12)⟩,
    ⟨some 75, none, false, .mv (.t 0)⟩,
    ⟨some 76, none, false, .mv (.t 12)⟩,
    ⟨some 77, none, false, .idxaddr none 2 (.t 75) (.t 76)⟩,
    ⟨some 78, none, false, .load true 2 (.t 77)⟩,
    ⟨some 79, none, false, .mv (.t 0)⟩,
    ⟨some 80, none, false, .mv (.t 11)⟩,
    ⟨some 81, none, false, .idxaddr none 2 (.t 79) (.t 80)⟩,
    ⟨some 82, none, false, .load true 2 (.t 81)⟩,
    ⟨some 83, none, false, .idxaddr none 2 (.t 71) (.t 72)⟩,
    ⟨none, none, false, .store 2 (.t 83) (.t 78)⟩,
    ⟨some 84, none, false, .idxaddr none 2 (.t 73) (.t 74)⟩,
    ⟨none, none, false, .store 2 (.t 84) (.t 82)⟩])
  (.seq (.region false [0, 1, 4, 11, 12] [] [⟨some 85, none, false, .mv (.t 11)⟩,
    ⟨some 86, none, false, .bin .add (.t 85) (.c (.int .i64 1))⟩,
    ⟨some 11, none, false, .mv (.t 86)⟩])
  (.region false [0, 1, 4, 11, 12] [] [⟨some 87, none, false, .mv (.t 12)⟩,
    ⟨some 88, none, false, .bin .sub (.t 87) (.c (.int .i64 1))⟩,
    ⟨some 12, none, false, .mv (.t 88)⟩])))))))
/-- slices.partitionEqualCmpFunc[civiltime/api.HolidayDay] -/
def af185 : AFun := ⟨90, true, [.tmp 10],
 (.seq (.region false [0, 1, 2, 3, 4] [] [⟨some 10, none, false, .mv (.c (.int .i64 0))⟩])
 (.seq (.region true [0, 1, 2, 4] [] [⟨some 13, none, false, .mv (.t 0)⟩,
   ⟨some 14, none, false, .mv (.t 1)⟩,
   ⟨some 15, none, false, .mv (.t 0)⟩,
   ⟨some 16, none, false, .mv (.t 3)⟩,
   ⟨some 17, none, false, .mv (.t 0)⟩,
   ⟨some 18, none, false, .mv (.t 3)⟩,
   ⟨some 19, none, false, .idxaddr none 2 (.t 17) (.t 18)⟩,
   ⟨some 20, none, false, .load true 2 (.t 19)⟩,
   ⟨some 21, none, false, .mv (.t 0)⟩,
   ⟨some 22, none, false, .mv (.t 1)⟩,
   ⟨some 23, none, false, .idxaddr none 2 (.t 21) (.t 22)⟩,
   ⟨some 24, none, false, .load true 2 (.t 23)⟩,
   ⟨some 25, none, false, .idxaddr none 2 (.t 13) (.t 14)⟩,
   ⟨none, none, false, .store 2 (.t 25) (.t 20)⟩,
   ⟨some 26, none, false, .idxaddr none 2 (.t 15) (.t 16)⟩,
   ⟨none, none, false, .store 2 (.t 26) (.t 24)⟩])
 (.seq (.region false [0, 1, 4, 11, 12] [] [⟨some 27, none, false, .mv (.t 1)⟩,
   ⟨some 28, none, false, .bin .add (.t 27) (.c (.int .i64 1))⟩,
   ⟨some 29, none, false, .mv (.t 2)⟩,
   ⟨some 30, none, false, .bin .sub (.t 29) (.c (.int .i64 1))⟩,
   ⟨some 11, none, false, .mv (.t 28)⟩,
   ⟨some 12, none, false, .mv (.t 30)⟩])
 (.seq (.block 0 af185L2)
 (.seq (.region false [10] [] [⟨some 89, none, false, .mv (.t 11)⟩,
   ⟨some 10, none, false, .mv (.t 89)⟩])
 .ret)))))⟩
def af186L0 : ACode := .loop [0, 1, 4, 12, 13]
 (.seq (.seq (.region true [0, 1, 4, 12, 13, 47] [] [⟨some 32, none, false, .mv (.t 12)⟩,
   ⟨some 33, none, false, .mv (.t 13)⟩,
   ⟨some 34, none, false, .bin .leq (.t 32) (.t 33)⟩,
   ⟨some 35, none, false, .mv (.t 34)⟩,
   ⟨some 36, some (35, true), false, .mv (.t 4)⟩,
   ⟨some 37, some (35, true), false, .mv (.t 0)⟩,
   ⟨some 38, some (35, true), false, .mv (.t 12)⟩,
   ⟨some 39, some (35, true), false, .idxaddr none 2 (.t 37) (.t 38)⟩,
   ⟨some 40, some (35, true), false, .load true 2 (.t 39)⟩,
   ⟨some 41, some (35, true), false, .mv (.t 0)⟩,
   ⟨some 42, some (35, true), false, .mv (.t 1)⟩,
   ⟨some 43, some (35, true), false, .idxaddr none 2 (.t 41) (.t 42)⟩,
   ⟨some 44, some (35, true), false, .load true 2 (.t 43)⟩,
   ⟨some 45, some (35, true), false, .call (.t 36) [(.t 40), (.t 44)]⟩,
   ⟨some 46, some (35, true), false, .bin .lss (.t 45) (.c (.int .i64 0))⟩,
   ⟨some 47, none, false, .pick (.t 35) (.t 46) (.c (.bool false))⟩])
 (.cond (.t 47)
  .skip
  (.exit 0)))
 (.block 1 (.region false [0, 1, 4, 12, 13] [] [⟨some 48, none, false, .mv (.t 12)⟩,
    ⟨some 49, none, false, .bin .add (.t 48) (.c (.int .i64 1))⟩,
    ⟨some 12, none, false, .mv (.t 49)⟩])))
def af186L1 : ACode := .loop [0, 1, 4, 12, 13]
 (.seq (.seq (.region true [0, 1, 4, 12, 13, 66] [] [⟨some 50, none, false, .mv (.t 12)⟩,
   ⟨some 51, none, false, .mv (.t 13)⟩,
   ⟨some 52, none, false, .bin .leq (.t 50) (.t 51)⟩,
   ⟨some 53, none, false, .mv (.t 52)⟩,
   ⟨some 54, some (53, true), false, .mv (.t 4)⟩,
   ⟨some 55, some (53, true), false, .mv (.t 0)⟩,
   ⟨some 56, some (53, true), false, .mv (.t 13)⟩,
   ⟨some 57, some (53, true), false, .idxaddr none 2 (.t 55) (.t 56)⟩,
   ⟨some 58, some (53, true), false, .load true 2 (.t 57)⟩,
   ⟨some 59, some (53, true), false, .mv (.t 0)⟩,
   ⟨some 60, some (53, true), false, .mv (.t 1)⟩,
   ⟨some 61, some (53, true), false, .idxaddr none 2 (.t 59) (.t 60)⟩,
   ⟨some 62, some (53, true), false, .load true 2 (.t 61)⟩,
   ⟨some 63, some (53, true), false, .call (.t 54) [(.t 58), (.t 62)]⟩,
   ⟨some 64, some (53, true), false, .bin .lss (.t 63) (.c (.int .i64 0))⟩,
   ⟨some 65, some (53, true), false, .un .not (.t 64)⟩,
   ⟨some 66, none, false, .pick (.t 53) (.t 65) (.c (.bool false))⟩])
 (.cond (.t 66)
  .skip
  (.exit 2)))
 (.block 3 (.region false [0, 1, 4, 12, 13] [] [⟨some 67, none, false, .mv (.t 13)⟩,
    ⟨some 68, none, false, .bin .sub (.t 67) (.c (.int .i64 1))⟩,
    ⟨some 13, none, false, .mv (.t 68)⟩])))
def af186L2 : ACode := .loop [0, 1, 4, 12, 13]
 (.seq (.seq (.region true [0, 1, 4, 12, 13, 120] [] [⟨some 105, none, false, .mv (.t 12)⟩,
   ⟨some 106, none, false, .mv (.t 13)⟩,
   ⟨some 107, none, false, .bin .leq (.t 105) (.t 106)⟩,
   ⟨some 108, none, false, .mv (.t 107)⟩,
   ⟨some 109, some (108, true), false, .mv (.t 4)⟩,
   ⟨some 110, some (108, true), false, .mv (.t 0)⟩,
   ⟨some 111, some (108, true), false, .mv (.t 12)⟩,
   ⟨some 112, some (108, true), false, .idxaddr none 2 (.t 110) (.t 111)⟩,
   ⟨some 113, some (108, true), false, .load true 2 (.t 112)⟩,
   ⟨some 114, some (108, true), false, .mv (.t 0)⟩,
   ⟨some 115, some (108, true), false, .mv (.t 1)⟩,
   ⟨some 116, some (108, true), false, .idxaddr none 2 (.t 114) (.t 115)⟩,
   ⟨some 117, some (108, true), false, .load true 2 (.t 116)⟩,
   ⟨some 118, some (108, true), false, .call (.t 109) [(.t 113), (.t 117)]⟩,
   ⟨some 119, some (108, true), false, .bin .lss (.t 118) (.c (.int .i64 0))⟩,
   ⟨some 120, none, false, .pick (.t 108) (.t 119) (.c (.bool false))⟩])
 (.cond (.t 120)
  .skip
  (.exit 6)))
 (.block 7 (.region false [0, 1, 4, 12, 13] [] [⟨some 121, none, false, .mv (.t 12)⟩,
    ⟨some 122, none, false, .bin .add (.t 121) (.c (.int .i64 1))⟩,
    ⟨some 12, none, false, .mv (.t 122)⟩])))
def af186L3 : ACode := .loop [0, 1, 4, 12, 13]
 (.seq (.seq (.region true [0, 1, 4, 12, 13, 139] [] [⟨some 123, none, false, .mv (.t 12)⟩,
   ⟨some 124, none, false, .mv (.t 13)⟩,
   ⟨some 125, none, false, .bin .leq (.t 123) (.t 124)⟩,
   ⟨some 126, none, false, .mv (.t 125)⟩,
   ⟨some 127, some (126, true), false, .mv (.t 4)⟩,
   ⟨some 128, some (126, true), false, .mv (.t 0)⟩,
   ⟨some 129, some (126, true), false, .mv (.t 13)⟩,
   ⟨some 130, some (126, true), false, .idxaddr none 2 (.t 128) (.t 129)⟩,
   ⟨some 131, some (126, true), false, .load true 2 (.t 130)⟩,
   ⟨some 132, some (126, true), false, .mv (.t 0)⟩,
   ⟨some 133, some (126, true), false, .mv (.t 1)⟩,
   ⟨some 134, some (126, true), false, .idxaddr none 2 (.t 132) (.t 133)⟩,
   ⟨some 135, some (126, true), false, .load true 2 (.t 134)⟩,
   ⟨some 136, some (126, true), false, .call (.t 127) [(.t 131), (.t 135)]⟩,
   ⟨some 137, some (126, true), false, .bin .lss (.t 136) (.c (.int .i64 0))⟩,
   ⟨some 138, some (126, true), false, .un .not (.t 137)⟩,
   ⟨some 139, none, false, .pick (.t 126) (.t 138) (.c (.bool false))⟩])
 (.cond (.t 139)
  .skip
  (.exit 8)))
 (.block 9 (.region false [0, 1, 4, 12, 13] [] [⟨some 140, none, false, .mv (.t 13)⟩,
    ⟨some 141, none, false, .bin .sub (.t 140) (.c (.int .i64 1))⟩,
    ⟨some 13, none, false, .mv (.t 141)⟩])))
def af186L4 : ACode := .loop [0, 1, 4, 12, 13]
 (.block 5 (.seq (.block 6 af186L2)
  (.seq (.block 8 af186L3)
  (.seq (.seq (.region false [0, 1, 4, 12, 13, 144] [] [⟨some 142, none, false, .mv (.t 12)⟩,
    ⟨some 143, none, false, .mv (.t 13)⟩,
    ⟨some 144, none, false, .bin .gtr (.t 142) (.t 143)⟩])
  (.cond (.t 144)
   (.exit 4)
   .skip))
  (.seq (.region true [0, 1, 4, 12, 13] [] [⟨some 145, none, false, .mv (.t 0)⟩,
    ⟨some 146, none, false, .mv (.t 12)⟩,
    ⟨some 147, none, false, .mv (.t 0)⟩,
    ⟨some 148, none, false, .mv (.t 13)⟩,
    ⟨some 149, none, false, .mv (.t 0)⟩,
    ⟨some 150, none, false, .mv (.t 13)⟩,
    ⟨some 151, none, false, .idxaddr none 2 (.t 149) (.t 150)⟩,
    ⟨some 152, none, false, .load true 2 (.t 151)⟩,
    ⟨some 153, none, false, .mv (.t 0)⟩,
    ⟨some 154, none, false, .mv (.t 12)⟩,
    ⟨some 155, none, false, .idxaddr none 2 (.t 153) (.t 154)⟩,
    ⟨some 156, none, false, .load true 2 (.t 155)⟩,
    ⟨some 157, none, false, .idxaddr none 2 (.t 145) (.t 146)⟩,
    ⟨none, none, false, .store 2 (.t 157) (.t 152)⟩,
    ⟨some 158, none, false, .idxaddr none 2 (.t 147) (.t 148)⟩,
    ⟨none, none, false, .store 2 (.t 158) (.t 156)⟩])
  (.seq (.region false [0, 1, 4, 12, 13] [] [⟨some 159, none, false, .mv (.t 12)⟩,
    ⟨some 160, none, false, .bin .add (.t 159) (.c (.int .i64 1))⟩,
    ⟨some 12, none, false, .mv (.t 160)⟩])
  (.region false [0, 1, 4, 12, 13] [] [⟨some 161, none, false, .mv (.t 13)⟩,
    ⟨some 162, none, false, .bin .sub (.t 161) (.c (.int .i64 1))⟩,
    ⟨some 13, none, false, .mv (.t 162)⟩])))))))
/-- slices.partitionCmpFunc[civiltime/api.HolidayDay] -/
def af186 : AFun := ⟨178, true, [.tmp 10, .tmp 11],
 (.seq (.region false [0, 1, 2, 3, 4] [] [⟨some 10, none, false, .mv (.c (.int .i64 0))⟩,
   ⟨some 11, none, false, .mv (.c (.bool false))⟩])
 (.seq (.region true [0, 1, 2, 4] [] [⟨some 14, none, false, .mv (.t 0)⟩,
   ⟨some 15, none, false, .mv (.t 1)⟩,
   ⟨some 16, none, false, .mv (.t 0)⟩,
   ⟨some 17, none, false, .mv (.t 3)⟩,
   ⟨some 18, none, false, .mv (.t 0)⟩,
   ⟨some 19, none, false, .mv (.t 3)⟩,
   ⟨some 20, none, false, .idxaddr none 2 (.t 18) (.t 19)⟩,
   ⟨some 21, none, false, .load true 2 (.t 20)⟩,
   ⟨some 22, none, false, .mv (.t 0)⟩,
   ⟨some 23, none, false, .mv (.t 1)⟩,
   ⟨some 24, none, false, .idxaddr none 2 (.t 22) (.t 23)⟩,
   ⟨some 25, none, false, .load true 2 (.t 24)⟩,
   ⟨some 26, none, false, .idxaddr none 2 (.t 14) (.t 15)⟩,
   ⟨none, none, false, .store 2 (.t 26) (.t 21)⟩,
   ⟨some 27, none, false, .idxaddr none 2 (.t 16) (.t 17)⟩,
   ⟨none, none, false, .store 2 (.t 27) (.t 25)⟩])
 (.seq (.region false [0, 1, 4, 12, 13] [] [⟨some 28, none, false, .mv (.t 1)⟩,
   ⟨some 29, none, false, .bin .add (.t 28) (.c (.int .i64 1))⟩,
   ⟨some 30, none, false, .mv (.t 2)⟩,
   ⟨some 31, none, false, .bin .sub (.t 30) (.c (.int .i64 1))⟩,
   ⟨some 12, none, false, .mv (.t 29)⟩,
   ⟨some 13, none, false, .mv (.t 31)⟩])
 (.seq (.block 0 af186L0)
 (.seq (.block 2 af186L1)
 (.seq (.seq (.region false [0, 1, 4, 12, 13, 71] [] [⟨some 69, none, false, .mv (.t 12)⟩,
   ⟨some 70, none, false, .mv (.t 13)⟩,
   ⟨some 71, none, false, .bin .gtr (.t 69) (.t 70)⟩])
 (.cond (.t 71)
  (.seq (.region true [13] [] [⟨some 72, none, false, .mv (.t 0)⟩,
    ⟨some 73, none, false, .mv (.t 13)⟩,
    ⟨some 74, none, false, .mv (.t 0)⟩,
    ⟨some 75, none, false, .mv (.t 1)⟩,
    ⟨some 76, none, false, .mv (.t 0)⟩,
    ⟨some 77, none, false, .mv (.t 1)⟩,
    ⟨some 78, none, false, .idxaddr none 2 (.t 76) (.t 77)⟩,
    ⟨some 79, none, false, .load true 2 (.t 78)⟩,
    ⟨some 80, none, false, .mv (.t 0)⟩,
    ⟨some 81, none, false, .mv (.t 13)⟩,
    ⟨some 82, none, false, .idxaddr none 2 (.t 80) (.t 81)⟩,
    ⟨some 83, none, false, .load true 2 (.t 82)⟩,
    ⟨some 84, none, false, .idxaddr none 2 (.t 72) (.t 73)⟩,
    ⟨none, none, false, .store 2 (.t 84) (.t 79)⟩,
    ⟨some 85, none, false, .idxaddr none 2 (.t 74) (.t 75)⟩,
    ⟨none, none, false, .store 2 (.t 85) (.t 83)⟩])
  (.seq (.region false [10, 11] [] [⟨some 86, none, false, .mv (.t 13)⟩,
    ⟨some 10, none, false, .mv (.t 86)⟩,
    ⟨some 11, none, false, .mv (.c (.bool true))⟩])
  .ret))
  .skip))
 (.seq (.region true [0, 1, 4, 12, 13] [] [⟨some 87, none, false, .mv (.t 0)⟩,
   ⟨some 88, none, false, .mv (.t 12)⟩,
   ⟨some 89, none, false, .mv (.t 0)⟩,
   ⟨some 90, none, false, .mv (.t 13)⟩,
   ⟨some 91, none, false, .mv (.t 0)⟩,
   ⟨some 92, none, false, .mv (.t 13)⟩,
   ⟨some 93, none, false, .idxaddr none 2 (.t 91) (.t 92)⟩,
   ⟨some 94, none, false, .load true 2 (.t 93)⟩,
   ⟨some 95, none, false, .mv (.t 0)⟩,
   ⟨some 96, none, false, .mv (.t 12)⟩,
   ⟨some 97, none, false, .idxaddr none 2 (.t 95) (.t 96)⟩,
   ⟨some 98, none, false, .load true 2 (.t 97)⟩,
   ⟨some 99, none, false, .idxaddr none 2 (.t 87) (.t 88)⟩,
   ⟨none, none, false, .store 2 (.t 99) (.t 94)⟩,
   ⟨some 100, none, false, .idxaddr none 2 (.t 89) (.t 90)⟩,
   ⟨none, none, false, .store 2 (.t 100) (.t 98)⟩])
 (.seq (.region false [0, 1, 4, 12, 13] [] [⟨some 101, none, false, .mv (.t 12)⟩,
   ⟨some 102, none, false, .bin .add (.t 101) (.c (.int .i64 1))⟩,
   ⟨some 12, none, false, .mv (.t 102)⟩])
 (.seq (.region false [0, 1, 4, 12, 13] [] [⟨some 103, none, false, .mv (.t 13)⟩,
   ⟨some 104, none, false, .bin .sub (.t 103) (.c (.int .i64 1))⟩,
   ⟨some 13, none, false, .mv (.t 104)⟩])
 (.seq (.block 4 af186L4)
 (.seq (.region true [13] [] [⟨some 163, none, false, .mv (.t 0)⟩,
   ⟨some 164, none, false, .mv (.t 13)⟩,
   ⟨some 165, none, false, .mv (.t 0)⟩,
   ⟨some 166, none, false, .mv (.t 1)⟩,
   ⟨some 167, none, false, .mv (.t 0)⟩,
   ⟨some 168, none, false, .mv (.t 1)⟩,
   ⟨some 169, none, false, .idxaddr none 2 (.t 167) (.t 168)⟩,
   ⟨some 170, none, false, .load true 2 (.t 169)⟩,
   ⟨some 171, none, false, .mv (.t 0)⟩,
   ⟨some 172, none, false, .mv (.t 13)⟩,
   ⟨some 173, none, false, .idxaddr none 2 (.t 171) (.t 172)⟩,
   ⟨some 174, none, false, .load true 2 (.t 173)⟩,
   ⟨some 175, none, false, .idxaddr none 2 (.t 163) (.t 164)⟩,
   ⟨none, none, false, .store 2 (.t 175) (.t 170)⟩,
   ⟨some 176, none, false, .idxaddr none 2 (.t 165) (.t 166)⟩,
   ⟨none, none, false, .store 2 (.t 176) (.t 174)⟩])
 (.seq (.region false [10, 11] [] [⟨some 177, none, false, .mv (.t 13)⟩,
   ⟨some 10, none, false, .mv (.t 177)⟩,
   ⟨some 11, none, false, .mv (.c (.bool false))⟩])
 .ret))))))))))))⟩
/-- math/bits.Len32 -/
def af187 : AFun := ⟨19, true, [.tmp 2],
 (.seq (.region false [0, 2] [] [⟨some 2, none, false, .mv (.c (.int .i64 0))⟩])
 (.seq (.seq (.region false [0, 2, 4] [] [⟨some 3, none, false, .mv (.t 0)⟩,
   ⟨some 4, none, false, .bin .geq (.t 3) (.c (.int .u32 65536))⟩])
 (.cond (.t 4)
  (.seq (.region false [0] [] [⟨some 5, none, false, .mv (.t 0)⟩,
    ⟨some 6, none, false, .bin .shr (.t 5) (.c (.int .u64 16))⟩,
    ⟨some 0, none, false, .mv (.t 6)⟩])
  (.region false [0, 2] [] [⟨some 2, none, false, .mv (.c (.int .i64 16))⟩]))
  .skip))
 (.seq (.seq (.region false [0, 2, 8] [] [⟨some 7, none, false, .mv (.t 0)⟩,
   ⟨some 8, none, false, .bin .geq (.t 7) (.c (.int .u32 256))⟩])
 (.cond (.t 8)
  (.seq (.region false [0, 2] [] [⟨some 9, none, false, .mv (.t 0)⟩,
    ⟨some 10, none, false, .bin .shr (.t 9) (.c (.int .u64 8))⟩,
    ⟨some 0, none, false, .mv (.t 10)⟩])
  (.region false [0, 2] [] [⟨some 11, none, false, .mv (.t 2)⟩,
    ⟨some 12, none, false, .bin .add (.t 11) (.c (.int .i64 8))⟩,
    ⟨some 2, none, false, .mv (.t 12)⟩]))
  .skip))
 (.seq (.region false [2] [] [⟨some 13, none, false, .mv (.t 2)⟩,
   ⟨some 14, none, false, .mv (.t 0)⟩,
   ⟨some 15, none, false, .conv (.int .u8) (.t 14)⟩,
   ⟨some 16, none, false, .sidx (.c (.str [0, 1, 2, 2, 3, 3, 3, 3, 4, 4, 4, 4, 4, 4, 4, 4, 5, 5, 5, 5, 5, 5, 5, 5, 5, 5, 5, 5, 5, 5, 5, 5, 6, 6, 6, 6, 6, 6, 6, 6, 6, 6, 6, 6, 6, 6, 6, 6, 6, 6, 6, 6, 6, 6, 6, 6, 6, 6, 6, 6, 6, 6, 6, 6, 7, 7, 7, 7, 7, 7, 7, 7, 7, 7, 7, 7, 7, 7, 7, 7, 7, 7, 7, 7, 7, 7, 7, 7, 7, 7, 7, 7, 7, 7, 7, 7, 7, 7, 7, 7, 7, 7, 7, 7, 7, 7, 7, 7, 7, 7, 7, 7, 7, 7, 7, 7, 7, 7, 7, 7, 7, 7, 7, 7, 7, 7, 7, 7, 8, 8, 8, 8, 8, 8, 8, 8, 8, 8, 8, 8, 8, 8, 8, 8, 8, 8, 8, 8, 8, 8, 8, 8, 8, 8, 8, 8, 8, 8, 8, 8, 8, 8, 8, 8, 8, 8, 8, 8, 8, 8, 8, 8, 8, 8, 8, 8, 8, 8, 8, 8, 8, 8, 8, 8, 8, 8, 8, 8, 8, 8, 8, 8, 8, 8, 8, 8, 8, 8, 8, 8, 8, 8, 8, 8, 8, 8, 8, 8, 8, 8, 8, 8, 8, 8, 8, 8, 8, 8, 8, 8, 8, 8, 8, 8, 8, 8, 8, 8, 8, 8, 8, 8, 8, 8, 8, 8, 8, 8, 8, 8, 8, 8, 8, 8, 8, 8, 8, 8, 8, 8, 8, 8, 8, 8, 8, 8])) (.t 15)⟩,
   ⟨some 17, none, false, .conv (.int .i64) (.t 16)⟩,
   ⟨some 18, none, false, .bin .add (.t 13) (.t 17)⟩,
   ⟨some 2, none, false, .mv (.t 18)⟩])
 .ret))))⟩
/-- math/bits.Len64 -/
def af188 : AFun := ⟨25, true, [.tmp 2],
 (.seq (.region false [0, 2] [] [⟨some 2, none, false, .mv (.c (.int .i64 0))⟩])
 (.seq (.seq (.region false [0, 2, 4] [] [⟨some 3, none, false, .mv (.t 0)⟩,
   ⟨some 4, none, false, .bin .geq (.t 3) (.c (.int .u64 4294967296))⟩])
 (.cond (.t 4)
  (.seq (.region false [0] [] [⟨some 5, none, false, .mv (.t 0)⟩,
    ⟨some 6, none, false, .bin .shr (.t 5) (.c (.int .u64 32))⟩,
    ⟨some 0, none, false, .mv (.t 6)⟩])
  (.region false [0, 2] [] [⟨some 2, none, false, .mv (.c (.int .i64 32))⟩]))
  .skip))
 (.seq (.seq (.region false [0, 2, 8] [] [⟨some 7, none, false, .mv (.t 0)⟩,
   ⟨some 8, none, false, .bin .geq (.t 7) (.c (.int .u64 65536))⟩])
 (.cond (.t 8)
  (.seq (.region false [0, 2] [] [⟨some 9, none, false, .mv (.t 0)⟩,
    ⟨some 10, none, false, .bin .shr (.t 9) (.c (.int .u64 16))⟩,
    ⟨some 0, none, false, .mv (.t 10)⟩])
  (.region false [0, 2] [] [⟨some 11, none, false, .mv (.t 2)⟩,
    ⟨some 12, none, false, .bin .add (.t 11) (.c (.int .i64 16))⟩,
    ⟨some 2, none, false, .mv (.t 12)⟩]))
  .skip))
 (.seq (.seq (.region false [0, 2, 14] [] [⟨some 13, none, false, .mv (.t 0)⟩,
   ⟨some 14, none, false, .bin .geq (.t 13) (.c (.int .u64 256))⟩])
 (.cond (.t 14)
  (.seq (.region false [0, 2] [] [⟨some 15, none, false, .mv (.t 0)⟩,
    ⟨some 16, none, false, .bin .shr (.t 15) (.c (.int .u64 8))⟩,
    ⟨some 0, none, false, .mv (.t 16)⟩])
  (.region false [0, 2] [] [⟨some 17, none, false, .mv (.t 2)⟩,
    ⟨some 18, none, false, .bin .add (.t 17) (.c (.int .i64 8))⟩,
    ⟨some 2, none, false, .mv (.t 18)⟩]))
  .skip))
 (.seq (.region false [2] [] [⟨some 19, none, false, .mv (.t 2)⟩,
   ⟨some 20, none, false, .mv (.t 0)⟩,
   ⟨some 21, none, false, .conv (.int .u8) (.t 20)⟩,
   ⟨some 22, none, false, .sidx (.c (.str [0, 1, 2, 2, 3, 3, 3, 3, 4, 4, 4, 4, 4, 4, 4, 4, 5, 5, 5, 5, 5, 5, 5, 5, 5, 5, 5, 5, 5, 5, 5, 5, 6, 6, 6, 6, 6, 6, 6, 6, 6, 6, 6, 6, 6, 6, 6, 6, 6, 6, 6, 6, 6, 6, 6, 6, 6, 6, 6, 6, 6, 6, 6, 6, 7, 7, 7, 7, 7, 7, 7, 7, 7, 7, 7, 7, 7, 7, 7, 7, 7, 7, 7, 7, 7, 7, 7, 7, 7, 7, 7, 7, 7, 7, 7, 7, 7, 7, 7, 7, 7, 7, 7, 7, 7, 7, 7, 7, 7, 7, 7, 7, 7, 7, 7, 7, 7, 7, 7, 7, 7, 7, 7, 7, 7, 7, 7, 7, 8, 8, 8, 8, 8, 8, 8, 8, 8, 8, 8, 8, 8, 8, 8, 8, 8, 8, 8, 8, 8, 8, 8, 8, 8, 8, 8, 8, 8, 8, 8, 8, 8, 8, 8, 8, 8, 8, 8, 8, 8, 8, 8, 8, 8, 8, 8, 8, 8, 8, 8, 8, 8, 8, 8, 8, 8, 8, 8, 8, 8, 8, 8, 8, 8, 8, 8, 8, 8, 8, 8, 8, 8, 8, 8, 8, 8, 8, 8, 8, 8, 8, 8, 8, 8, 8, 8, 8, 8, 8, 8, 8, 8, 8, 8, 8, 8, 8, 8, 8, 8, 8, 8, 8, 8, 8, 8, 8, 8, 8, 8, 8, 8, 8, 8, 8, 8, 8, 8, 8, 8, 8, 8, 8, 8, 8, 8, 8])) (.t 21)⟩,
   ⟨some 23, none, false, .conv (.int .i64) (.t 22)⟩,
   ⟨some 24, none, false, .bin .add (.t 19) (.t 23)⟩,
   ⟨some 2, none, false, .mv (.t 24)⟩])
 .ret)))))⟩
/-- cmp.isNaN[int] -/
def af189 : AFun := ⟨6, true, [.tmp 2],
 (.seq (.region false [0] [] [⟨some 2, none, false, .mv (.c (.bool false))⟩])
 (.seq (.region false [2] [] [⟨some 3, none, false, .mv (.t 0)⟩,
   ⟨some 4, none, false, .mv (.t 0)⟩,
   ⟨some 5, none, false, .bin .neq (.t 3) (.t 4)⟩,
   ⟨some 2, none, false, .mv (.t 5)⟩])
 .ret))⟩
def af194L0 : ACode := .loop [0, 1, 5, 6, 7, 8, 9, 10]
 (.seq (.seq (.region false [0, 1, 5, 6, 7, 8, 9, 10, 59] [] [⟨some 57, none, false, .mv (.t 8)⟩,
   ⟨some 58, none, false, .mv (.t 9)⟩,
   ⟨some 59, none, false, .bin .lss (.t 57) (.t 58)⟩])
 (.cond (.t 59)
  .skip
  (.exit 1)))
 (.block 2 (.seq (.seq (.region false [0, 1, 5, 6, 7, 8, 9, 10, 64] [] [⟨some 60, none, false, .mv (.t 0)⟩,
    ⟨some 61, none, false, .mv (.t 8)⟩,
    ⟨some 62, none, false, .sidx (.t 60) (.t 61)⟩,
    ⟨some 63, none, false, .mv (.t 6)⟩,
    ⟨some 64, none, false, .bin .neq (.t 62) (.t 63)⟩])
  (.cond (.t 64)
   (.seq (.region false [0, 1, 5, 6, 7, 8, 9, 10, 11] [] [⟨some 65, none, false, .mv (.t 0)⟩,
     ⟨some 66, none, false, .mv (.t 8)⟩,
     ⟨some 67, none, false, .bin .add (.t 66) (.c (.int .i64 1))⟩,
     ⟨some 68, none, false, .mv (.t 9)⟩,
     ⟨some 69, none, false, .slice .str (.t 65) (some (.t 67)) (some (.t 68)) none⟩,
     ⟨some 70, none, false, .mv (.t 6)⟩,
     ⟨some 71, none, false, .call (.f 154) [(.t 69), (.t 70)]⟩,
     ⟨some 11, none, false, .mv (.t 71)⟩])
   (.seq (.seq (.region false [0, 1, 5, 6, 7, 8, 9, 10, 11, 73] [] [⟨some 72, none, false, .mv (.t 11)⟩,
     ⟨some 73, none, false, .bin .lss (.t 72) (.c (.int .i64 0))⟩])
   (.cond (.t 73)
    (.seq (.region false [4] [] [⟨some 4, none, false, .mv (.c (.int .i64 (-1)))⟩])
    .ret)
    .skip))
   (.region false [0, 1, 5, 6, 7, 8, 9, 10] [] [⟨some 74, none, false, .mv (.t 8)⟩,
     ⟨some 75, none, false, .mv (.t 11)⟩,
     ⟨some 76, none, false, .bin .add (.t 75) (.c (.int .i64 1))⟩,
     ⟨some 77, none, false, .bin .add (.t 74) (.t 76)⟩,
     ⟨some 8, none, false, .mv (.t 77)⟩])))
   .skip))
  (.seq (.seq (.region false [0, 1, 5, 6, 7, 8, 9, 10, 93] [] [⟨some 78, none, false, .mv (.t 0)⟩,
    ⟨some 79, none, false, .mv (.t 8)⟩,
    ⟨some 80, none, false, .bin .add (.t 79) (.c (.int .i64 1))⟩,
    ⟨some 81, none, false, .sidx (.t 78) (.t 80)⟩,
    ⟨some 82, none, false, .mv (.t 7)⟩,
    ⟨some 83, none, false, .bin .eql (.t 81) (.t 82)⟩,
    ⟨some 84, none, false, .mv (.t 83)⟩,
    ⟨some 85, some (84, true), false, .mv (.t 0)⟩,
    ⟨some 86, some (84, true), false, .mv (.t 8)⟩,
    ⟨some 87, some (84, true), false, .mv (.t 8)⟩,
    ⟨some 88, some (84, true), false, .mv (.t 5)⟩,
    ⟨some 89, some (84, true), false, .bin .add (.t 87) (.t 88)⟩,
    ⟨some 90, some (84, true), false, .slice .str (.t 85) (some (.t 86)) (some (.t 89)) none⟩,
    ⟨some 91, some (84, true), false, .mv (.t 1)⟩,
    ⟨some 92, some (84, true), false, .bin .eql (.t 90) (.t 91)⟩,
    ⟨some 93, none, false, .pick (.t 84) (.t 92) (.c (.bool false))⟩])
  (.cond (.t 93)
   (.seq (.region false [4] [] [⟨some 94, none, false, .mv (.t 8)⟩,
     ⟨some 4, none, false, .mv (.t 94)⟩])
   .ret)
   .skip))
  (.seq (.region false [0, 1, 5, 6, 7, 8, 9, 10] [] [⟨some 95, none, false, .mv (.t 8)⟩,
    ⟨some 96, none, false, .bin .add (.t 95) (.c (.int .i64 1))⟩,
    ⟨some 8, none, false, .mv (.t 96)⟩])
  (.seq (.region false [0, 1, 5, 6, 7, 8, 9, 10] [] [⟨some 97, none, false, .mv (.t 10)⟩,
    ⟨some 98, none, false, .bin .add (.t 97) (.c (.int .i64 1))⟩,
    ⟨some 10, none, false, .mv (.t 98)⟩])
  (.seq (.region false [0, 1, 5, 6, 7, 8, 9, 10, 107] [] [⟨some 99, none, false, .mv (.t 5)⟩,
    ⟨some 100, none, false, .load false 1 (.g 1)⟩,
    ⟨some 101, none, false, .bin .leq (.t 99) (.t 100)⟩,
    ⟨some 102, none, false, .mv (.t 101)⟩,
    ⟨some 103, some (102, true), false, .mv (.t 10)⟩,
    ⟨some 104, some (102, true), false, .mv (.t 8)⟩,
    ⟨some 105, some (102, true), false, .call (.f 233) [(.t 104)]⟩,
    ⟨some 106, some (102, true), false, .bin .gtr (.t 103) (.t 105)⟩,
    ⟨some 107, none, false, .pick (.t 102) (.t 106) (.c (.bool false))⟩])
  (.cond (.t 107)
   (.seq (.region false [8, 12] [] [⟨some 108, none, false, .mv (.t 0)⟩,
     ⟨some 109, none, false, .mv (.t 8)⟩,
     ⟨some 110, none, false, .slice .str (.t 108) (some (.t 109)) none none⟩,
     ⟨some 111, none, false, .mv (.t 1)⟩,
     ⟨some 112, none, false, .call (.f 232) [(.t 110), (.t 111)]⟩,
     ⟨some 12, none, false, .mv (.t 112)⟩])
   (.seq (.seq (.region false [8, 12, 114] [] [⟨some 113, none, false, .mv (.t 12)⟩,
     ⟨some 114, none, false, .bin .geq (.t 113) (.c (.int .i64 0))⟩])
   (.cond (.t 114)
    (.seq (.region false [4] [] [⟨some 115, none, false, .mv (.t 12)⟩,
      ⟨some 116, none, false, .mv (.t 8)⟩,
      ⟨some 117, none, false, .bin .add (.t 115) (.t 116)⟩,
      ⟨some 4, none, false, .mv (.t 117)⟩])
    .ret)
    .skip))
   (.seq (.region false [4] [] [⟨some 4, none, false, .mv (.c (.int .i64 (-1)))⟩])
   .ret)))
   (.seq (.region false [0, 1, 5, 6, 7, 8, 9, 10, 132] [] [⟨some 118, none, false, .mv (.t 5)⟩,
     ⟨some 119, none, false, .load false 1 (.g 1)⟩,
     ⟨some 120, none, false, .bin .gtr (.t 118) (.t 119)⟩,
     ⟨some 121, none, false, .mv (.t 120)⟩,
     ⟨some 122, some (121, true), false, .mv (.t 10)⟩,
     ⟨some 123, some (121, true), false, .mv (.t 8)⟩,
     ⟨some 124, some (121, true), false, .bin .shr (.t 123) (.c (.int .u64 4))⟩,
     ⟨some 125, some (121, true), false, .bin .add (.c (.int .i64 4)) (.t 124)⟩,
     ⟨some 126, some (121, true), false, .bin .geq (.t 122) (.t 125)⟩,
     ⟨some 127, none, false, .pick (.t 121) (.t 126) (.c (.bool false))⟩,
     ⟨some 128, none, false, .mv (.t 127)⟩,
     ⟨some 129, some (128, true), false, .mv (.t 8)⟩,
     ⟨some 130, some (128, true), false, .mv (.t 9)⟩,
     ⟨some 131, some (128, true), false, .bin .lss (.t 129) (.t 130)⟩,
     ⟨some 132, none, false, .pick (.t 128) (.t 131) (.c (.bool false))⟩])
   (.cond (.t 132)
    (.seq (.region false [8, 13] [] [⟨some 133, none, false, .mv (.t 0)⟩,
      ⟨some 134, none, false, .mv (.t 8)⟩,
      ⟨some 135, none, false, .slice .str (.t 133) (some (.t 134)) none none⟩,
      ⟨some 136, none, false, .mv (.t 1)⟩,
      ⟨some 137, none, false, .call (.f 234) [(.t 135), (.t 136)]⟩,
      ⟨some 13, none, false, .mv (.t 137)⟩])
    (.seq (.seq (.region false [8, 13, 139] [] [⟨some 138, none, false, .mv (.t 13)⟩,
      ⟨some 139, none, false, .bin .lss (.t 138) (.c (.int .i64 0))⟩])
    (.cond (.t 139)
     (.seq (.region false [4] [] [⟨some 4, none, false, .mv (.c (.int .i64 (-1)))⟩])
     .ret)
     .skip))
    (.seq (.region false [4] [] [⟨some 140, none, false, .mv (.t 8)⟩,
      ⟨some 141, none, false, .mv (.t 13)⟩,
      ⟨some 142, none, false, .bin .add (.t 140) (.t 141)⟩,
      ⟨some 4, none, false, .mv (.t 142)⟩])
    .ret)))
    .skip))))))))))
/-- internal/stringslite.Index -/
def af194 : AFun := ⟨143, true, [.tmp 4],
 (.seq (.region false [0, 1] [] [⟨some 4, none, false, .mv (.c (.int .i64 0))⟩])
 (.seq (.region false [0, 1, 5] [] [⟨some 14, none, false, .mv (.t 1)⟩,
   ⟨some 15, none, false, .bi (.len 0) [(.t 14)]⟩,
   ⟨some 5, none, false, .mv (.t 15)⟩])
 (.seq (.block 0 (.seq (.region false [0, 1, 5, 16] [] [⟨some 17, none, false, .mv (.t 5)⟩,
    ⟨some 18, none, false, .bin .eql (.t 17) (.c (.int .i64 0))⟩,
    ⟨some 19, none, false, .mv (.t 18)⟩,
    ⟨some 20, some (19, false), false, .mv (.t 1)⟩,
    ⟨some 21, some (19, false), false, .mv (.t 0)⟩,
    ⟨some 22, some (19, false), false, .bin .eql (.t 20) (.t 21)⟩,
    ⟨some 23, none, false, .pick (.t 19) (.c (.bool true)) (.t 22)⟩,
    ⟨some 16, none, false, .mv (.t 23)⟩])
  (.cond (.t 16)
   (.seq (.region false [4] [] [⟨some 4, none, false, .mv (.c (.int .i64 0))⟩])
   .ret)
   (.seq (.region false [0, 1, 5, 24] [] [⟨some 25, none, false, .mv (.t 5)⟩,
     ⟨some 26, none, false, .bin .eql (.t 25) (.c (.int .i64 1))⟩,
     ⟨some 24, none, false, .mv (.t 26)⟩])
   (.cond (.t 24)
    (.seq (.region false [4] [] [⟨some 27, none, false, .mv (.t 0)⟩,
      ⟨some 28, none, false, .mv (.t 1)⟩,
      ⟨some 29, none, false, .sidx (.t 28) (.c (.int .i64 0))⟩,
      ⟨some 30, none, false, .call (.f 154) [(.t 27), (.t 29)]⟩,
      ⟨some 4, none, false, .mv (.t 30)⟩])
    .ret)
    (.seq (.region false [0, 1, 5, 31] [] [⟨some 32, none, false, .mv (.t 5)⟩,
      ⟨some 33, none, false, .mv (.t 0)⟩,
      ⟨some 34, none, false, .bi (.len 0) [(.t 33)]⟩,
      ⟨some 35, none, false, .bin .geq (.t 32) (.t 34)⟩,
      ⟨some 31, none, false, .mv (.t 35)⟩])
    (.cond (.t 31)
     (.seq (.region false [4] [] [⟨some 4, none, false, .mv (.c (.int .i64 (-1)))⟩])
     .ret)
     (.seq (.region false [0, 1, 5, 36] [] [⟨some 37, none, false, .mv (.t 5)⟩,
       ⟨some 38, none, false, .load false 1 (.g 1)⟩,
       ⟨some 39, none, false, .bin .leq (.t 37) (.t 38)⟩,
       ⟨some 40, none, false, .mv (.t 39)⟩,
       ⟨some 41, some (40, true), false, .mv (.t 0)⟩,
       ⟨some 42, some (40, true), false, .bi (.len 0) [(.t 41)]⟩,
       ⟨some 43, some (40, true), false, .bin .leq (.t 42) (.c (.int .i64 64))⟩,
       ⟨some 44, none, false, .pick (.t 40) (.t 43) (.c (.bool false))⟩,
       ⟨some 36, none, false, .mv (.t 44)⟩])
     (.cond (.t 36)
      (.seq (.region false [4] [] [⟨some 45, none, false, .mv (.t 0)⟩,
        ⟨some 46, none, false, .mv (.t 1)⟩,
        ⟨some 47, none, false, .call (.f 232) [(.t 45), (.t 46)]⟩,
        ⟨some 4, none, false, .mv (.t 47)⟩])
      .ret)
      .skip)))))))))
 (.seq (.region false [0, 1, 5, 6] [] [⟨some 48, none, false, .mv (.t 1)⟩,
   ⟨some 49, none, false, .sidx (.t 48) (.c (.int .i64 0))⟩,
   ⟨some 6, none, false, .mv (.t 49)⟩])
 (.seq (.region false [0, 1, 5, 6, 7] [] [⟨some 50, none, false, .mv (.t 1)⟩,
   ⟨some 51, none, false, .sidx (.t 50) (.c (.int .i64 1))⟩,
   ⟨some 7, none, false, .mv (.t 51)⟩])
 (.seq (.region false [0, 1, 5, 6, 7, 8] [] [⟨some 8, none, false, .mv (.c (.int .i64 0))⟩])
 (.seq (.region false [0, 1, 5, 6, 7, 8, 9] [] [⟨some 52, none, false, .mv (.t 0)⟩,
   ⟨some 53, none, false, .bi (.len 0) [(.t 52)]⟩,
   ⟨some 54, none, false, .mv (.t 5)⟩,
   ⟨some 55, none, false, .bin .sub (.t 53) (.t 54)⟩,
   ⟨some 56, none, false, .bin .add (.t 55) (.c (.int .i64 1))⟩,
   ⟨some 9, none, false, .mv (.t 56)⟩])
 (.seq (.region false [0, 1, 5, 6, 7, 8, 9, 10] [] [⟨some 10, none, false, .mv (.c (.int .i64 0))⟩])
 (.seq (.block 1 af194L0)
 (.seq (.region false [4] [] [⟨some 4, none, false, .mv (.c (.int .i64 (-1)))⟩])
 .ret))))))))))⟩
/-- unicode/utf8.decodeRuneInStringSlow -/
def af195 : AFun := ⟨117, true, [.tmp 2, .tmp 3],
 (.seq (.region false [0] [] [⟨some 2, none, false, .mv (.c (.int .i32 0))⟩,
   ⟨some 3, none, false, .mv (.c (.int .i64 0))⟩])
 (.seq (.region false [0, 4] [] [⟨some 13, none, false, .mv (.t 0)⟩,
   ⟨some 14, none, false, .bi (.len 0) [(.t 13)]⟩,
   ⟨some 4, none, false, .mv (.t 14)⟩])
 (.seq (.seq (.region false [0, 4, 16] [] [⟨some 15, none, false, .mv (.t 4)⟩,
   ⟨some 16, none, false, .bin .lss (.t 15) (.c (.int .i64 1))⟩])
 (.cond (.t 16)
  (.seq (.region false [2, 3] [] [⟨some 2, none, false, .mv (.c (.int .i32 65533))⟩,
    ⟨some 3, none, false, .mv (.c (.int .i64 0))⟩])
  .ret)
  .skip))
 (.seq (.region false [0, 4, 5] [] [⟨some 17, none, false, .mv (.t 0)⟩,
   ⟨some 18, none, false, .sidx (.t 17) (.c (.int .i64 0))⟩,
   ⟨some 5, none, false, .mv (.t 18)⟩])
 (.seq (.region false [0, 4, 5, 6] [] [⟨some 19, none, false, .mv (.t 5)⟩,
   ⟨some 20, none, false, .idxaddr (some 256) 1 (.g 2) (.t 19)⟩,
   ⟨some 21, none, false, .load false 1 (.t 20)⟩,
   ⟨some 6, none, false, .mv (.t 21)⟩])
 (.seq (.seq (.region false [0, 4, 5, 6, 23] [] [⟨some 22, none, false, .mv (.t 6)⟩,
   ⟨some 23, none, false, .bin .geq (.t 22) (.c (.int .u8 240))⟩])
 (.cond (.t 23)
  (.seq (.region false [0, 7] [] [⟨some 24, none, false, .mv (.t 6)⟩,
    ⟨some 25, none, false, .conv (.int .i32) (.t 24)⟩,
    ⟨some 26, none, false, .bin .shl (.t 25) (.c (.int .u64 31))⟩,
    ⟨some 27, none, false, .bin .shr (.t 26) (.c (.int .u64 31))⟩,
    ⟨some 7, none, false, .mv (.t 27)⟩])
  (.seq (.region false [2, 3] [] [⟨some 28, none, false, .mv (.t 0)⟩,
    ⟨some 29, none, false, .sidx (.t 28) (.c (.int .i64 0))⟩,
    ⟨some 30, none, false, .conv (.int .i32) (.t 29)⟩,
    ⟨some 31, none, false, .mv (.t 7)⟩,
    ⟨some 32, none, false, .bin .andNot (.t 30) (.t 31)⟩,
    ⟨some 33, none, false, .mv (.t 7)⟩,
    ⟨some 34, none, false, .bin .and (.c (.int .i32 65533)) (.t 33)⟩,
    ⟨some 35, none, false, .bin .or (.t 32) (.t 34)⟩,
    ⟨some 2, none, false, .mv (.t 35)⟩,
    ⟨some 3, none, false, .mv (.c (.int .i64 1))⟩])
  .ret))
  .skip))
 (.seq (.region false [0, 4, 5, 6, 8] [] [⟨some 36, none, false, .mv (.t 6)⟩,
   ⟨some 37, none, false, .bin .and (.t 36) (.c (.int .u8 7))⟩,
   ⟨some 38, none, false, .conv (.int .i64) (.t 37)⟩,
   ⟨some 8, none, false, .mv (.t 38)⟩])
 (.seq (.region false [0, 4, 5, 8, 9] [] [⟨some 39, none, false, .mv (.t 6)⟩,
   ⟨some 40, none, false, .bin .shr (.t 39) (.c (.int .u64 4))⟩,
   ⟨some 41, none, false, .idxaddr (some 16) 2 (.g 3) (.t 40)⟩,
   ⟨some 42, none, false, .load true 2 (.t 41)⟩,
   ⟨some 9, none, false, .new [(.int .u8 0), (.int .u8 0)]⟩,
   ⟨none, none, false, .store 2 (.t 9) (.t 42)⟩])
 (.seq (.seq (.region false [0, 5, 8, 9, 45] [] [⟨some 43, none, false, .mv (.t 4)⟩,
   ⟨some 44, none, false, .mv (.t 8)⟩,
   ⟨some 45, none, false, .bin .lss (.t 43) (.t 44)⟩])
 (.cond (.t 45)
  (.seq (.region false [2, 3] [] [⟨some 2, none, false, .mv (.c (.int .i32 65533))⟩,
    ⟨some 3, none, false, .mv (.c (.int .i64 1))⟩])
  .ret)
  .skip))
 (.seq (.region false [0, 5, 8, 9, 10] [] [⟨some 46, none, false, .mv (.t 0)⟩,
   ⟨some 47, none, false, .sidx (.t 46) (.c (.int .i64 1))⟩,
   ⟨some 10, none, false, .mv (.t 47)⟩])
 (.seq (.seq (.region false [0, 5, 8, 10, 57] [] [⟨some 48, none, false, .mv (.t 10)⟩,
   ⟨some 49, none, false, .fldaddr 0 (.t 9)⟩,
   ⟨some 50, none, false, .load false 1 (.t 49)⟩,
   ⟨some 51, none, false, .bin .lss (.t 48) (.t 50)⟩,
   ⟨some 52, none, false, .mv (.t 51)⟩,
   ⟨some 53, some (52, false), false, .fldaddr 1 (.t 9)⟩,
   ⟨some 54, some (52, false), false, .load false 1 (.t 53)⟩,
   ⟨some 55, some (52, false), false, .mv (.t 10)⟩,
   ⟨some 56, some (52, false), false, .bin .lss (.t 54) (.t 55)⟩,
   ⟨some 57, none, false, .pick (.t 52) (.c (.bool true)) (.t 56)⟩])
 (.cond (.t 57)
  (.seq (.region false [2, 3] [] [⟨some 2, none, false, .mv (.c (.int .i32 65533))⟩,
    ⟨some 3, none, false, .mv (.c (.int .i64 1))⟩])
  .ret)
  .skip))
 (.seq (.seq (.region false [0, 5, 8, 10, 59] [] [⟨some 58, none, false, .mv (.t 8)⟩,
   ⟨some 59, none, false, .bin .leq (.t 58) (.c (.int .i64 2))⟩])
 (.cond (.t 59)
  (.seq (.region false [2, 3] [] [⟨some 60, none, false, .mv (.t 5)⟩,
    ⟨some 61, none, false, .bin .and (.t 60) (.c (.int .u8 31))⟩,
    ⟨some 62, none, false, .conv (.int .i32) (.t 61)⟩,
    ⟨some 63, none, false, .bin .shl (.t 62) (.c (.int .u64 6))⟩,
    ⟨some 64, none, false, .mv (.t 10)⟩,
    ⟨some 65, none, false, .bin .and (.t 64) (.c (.int .u8 63))⟩,
    ⟨some 66, none, false, .conv (.int .i32) (.t 65)⟩,
    ⟨some 67, none, false, .bin .or (.t 63) (.t 66)⟩,
    ⟨some 2, none, false, .mv (.t 67)⟩,
    ⟨some 3, none, false, .mv (.c (.int .i64 2))⟩])
  .ret)
  .skip))
 (.seq (.region false [0, 5, 8, 10, 11] [] [⟨some 68, none, false, .mv (.t 0)⟩,
   ⟨some 69, none, false, .sidx (.t 68) (.c (.int .i64 2))⟩,
   ⟨some 11, none, false, .mv (.t 69)⟩])
 (.seq (.seq (.region false [0, 5, 8, 10, 11, 75] [] [⟨some 70, none, false, .mv (.t 11)⟩,
   ⟨some 71, none, false, .bin .lss (.t 70) (.c (.int .u8 128))⟩,
   ⟨some 72, none, false, .mv (.t 71)⟩,
   ⟨some 73, some (72, false), false, .mv (.t 11)⟩,
   ⟨some 74, some (72, false), false, .bin .lss (.c (.int .u8 191)) (.t 73)⟩,
   ⟨some 75, none, false, .pick (.t 72) (.c (.bool true)) (.t 74)⟩])
 (.cond (.t 75)
  (.seq (.region false [2, 3] [] [⟨some 2, none, false, .mv (.c (.int .i32 65533))⟩,
    ⟨some 3, none, false, .mv (.c (.int .i64 1))⟩])
  .ret)
  .skip))
 (.seq (.seq (.region false [0, 5, 10, 11, 77] [] [⟨some 76, none, false, .mv (.t 8)⟩,
   ⟨some 77, none, false, .bin .leq (.t 76) (.c (.int .i64 3))⟩])
 (.cond (.t 77)
  (.seq (.region false [2, 3] [] [⟨some 78, none, false, .mv (.t 5)⟩,
    ⟨some 79, none, false, .bin .and (.t 78) (.c (.int .u8 15))⟩,
    ⟨some 80, none, false, .conv (.int .i32) (.t 79)⟩,
    ⟨some 81, none, false, .bin .shl (.t 80) (.c (.int .u64 12))⟩,
    ⟨some 82, none, false, .mv (.t 10)⟩,
    ⟨some 83, none, false, .bin .and (.t 82) (.c (.int .u8 63))⟩,
    ⟨some 84, none, false, .conv (.int .i32) (.t 83)⟩,
    ⟨some 85, none, false, .bin .shl (.t 84) (.c (.int .u64 6))⟩,
    ⟨some 86, none, false, .bin .or (.t 81) (.t 85)⟩,
    ⟨some 87, none, false, .mv (.t 11)⟩,
    ⟨some 88, none, false, .bin .and (.t 87) (.c (.int .u8 63))⟩,
    ⟨some 89, none, false, .conv (.int .i32) (.t 88)⟩,
    ⟨some 90, none, false, .bin .or (.t 86) (.t 89)⟩,
    ⟨some 2, none, false, .mv (.t 90)⟩,
    ⟨some 3, none, false, .mv (.c (.int .i64 3))⟩])
  .ret)
  .skip))
 (.seq (.region false [5, 10, 11, 12] [] [⟨some 91, none, false, .mv (.t 0)⟩,
   ⟨some 92, none, false, .sidx (.t 91) (.c (.int .i64 3))⟩,
   ⟨some 12, none, false, .mv (.t 92)⟩])
 (.seq (.seq (.region false [5, 10, 11, 12, 98] [] [⟨some 93, none, false, .mv (.t 12)⟩,
   ⟨some 94, none, false, .bin .lss (.t 93) (.c (.int .u8 128))⟩,
   ⟨some 95, none, false, .mv (.t 94)⟩,
   ⟨some 96, some (95, false), false, .mv (.t 12)⟩,
   ⟨some 97, some (95, false), false, .bin .lss (.c (.int .u8 191)) (.t 96)⟩,
   ⟨some 98, none, false, .pick (.t 95) (.c (.bool true)) (.t 97)⟩])
 (.cond (.t 98)
  (.seq (.region false [2, 3] [] [⟨some 2, none, false, .mv (.c (.int .i32 65533))⟩,
    ⟨some 3, none, false, .mv (.c (.int .i64 1))⟩])
  .ret)
  .skip))
 (.seq (.region false [2, 3] [] [⟨some 99, none, false, .mv (.t 5)⟩,
   ⟨some 100, none, false, .bin .and (.t 99) (.c (.int .u8 7))⟩,
   ⟨some 101, none, false, .conv (.int .i32) (.t 100)⟩,
   ⟨some 102, none, false, .bin .shl (.t 101) (.c (.int .u64 18))⟩,
   ⟨some 103, none, false, .mv (.t 10)⟩,
   ⟨some 104, none, false, .bin .and (.t 103) (.c (.int .u8 63))⟩,
   ⟨some 105, none, false, .conv (.int .i32) (.t 104)⟩,
   ⟨some 106, none, false, .bin .shl (.t 105) (.c (.int .u64 12))⟩,
   ⟨some 107, none, false, .bin .or (.t 102) (.t 106)⟩,
   ⟨some 108, none, false, .mv (.t 11)⟩,
   ⟨some 109, none, false, .bin .and (.t 108) (.c (.int .u8 63))⟩,
   ⟨some 110, none, false, .conv (.int .i32) (.t 109)⟩,
   ⟨some 111, none, false, .bin .shl (.t 110) (.c (.int .u64 6))⟩,
   ⟨some 112, none, false, .bin .or (.t 107) (.t 111)⟩,
   ⟨some 113, none, false, .mv (.t 12)⟩,
   ⟨some 114, none, false, .bin .and (.t 113) (.c (.int .u8 63))⟩,
   ⟨some 115, none, false, .conv (.int .i32) (.t 114)⟩,
   ⟨some 116, none, false, .bin .or (.t 112) (.t 115)⟩,
   ⟨some 2, none, false, .mv (.t 116)⟩,
   ⟨some 3, none, false, .mv (.c (.int .i64 4))⟩])
 .ret))))))))))))))))))⟩
/-- civiltime/islamic.Valid -/
def af210 : AFun := ⟨9, true, [.tmp 2],
 (.seq (.region false [0] [] [⟨some 2, none, false, .mv (.c (.bool false))⟩])
 (.seq (.region false [2] [] [⟨some 3, none, false, .mv (.t 0)⟩,
   ⟨some 4, none, false, .bin .geq (.t 3) (.c (.int .i64 1))⟩,
   ⟨some 5, none, false, .mv (.t 4)⟩,
   ⟨some 6, some (5, true), false, .mv (.t 0)⟩,
   ⟨some 7, some (5, true), false, .bin .leq (.t 6) (.c (.int .i64 4))⟩,
   ⟨some 8, none, false, .pick (.t 5) (.t 7) (.c (.bool false))⟩,
   ⟨some 2, none, false, .mv (.t 8)⟩])
 .ret))⟩
/-- civiltime/integer.Floor -/
def af211 : AFun := ⟨16, true, [.tmp 4],
 (.seq (.region false [0, 1] [] [⟨some 4, none, false, .mv (.c (.int .i64 0))⟩])
 (.seq (.region false [5] [] [⟨some 9, none, false, .mv (.t 0)⟩,
   ⟨some 10, none, false, .mv (.t 1)⟩,
   ⟨some 11, none, false, .call (.f 100) [(.t 9), (.t 10)]⟩,
   ⟨some 8, none, false, .mv (.t 11)⟩,
   ⟨some 12, none, false, .ext 0 (.t 8)⟩,
   ⟨some 13, none, false, .ext 1 (.t 8)⟩,
   ⟨some 14, none, false, .ext 2 (.t 8)⟩,
   ⟨some 5, none, false, .mv (.t 12)⟩,
   ⟨some 6, none, false, .mv (.t 13)⟩,
   ⟨some 7, none, false, .mv (.t 14)⟩])
 (.seq (.region false [4] [] [⟨some 15, none, false, .mv (.t 5)⟩,
   ⟨some 4, none, false, .mv (.t 15)⟩])
 .ret)))⟩
def af212L0 : ACode := .loop [1, 5, 9, 10, 11]
 (.seq (.region false [1, 5, 9, 10, 11, 12] [] [⟨some 12, none, false, .bin .lss (.t 11) (.t 10)⟩])
 (.seq (.cond (.t 12)
  .skip
  (.exit 0))
 (.seq (.block 1 (.seq (.region false [1, 5, 7, 9, 10, 11] [] [⟨some 13, none, false, .idxaddr none 1 (.t 9) (.t 11)⟩,
    ⟨some 14, none, false, .load false 1 (.t 13)⟩,
    ⟨some 7, none, false, .mv (.t 14)⟩])
  (.seq (.region false [1, 5, 9, 10, 11, 18] [] [⟨some 15, none, false, .mv (.t 7)⟩,
    ⟨some 16, none, false, .mv (.t 1)⟩,
    ⟨some 17, none, false, .call (.f 241) [(.t 16)]⟩,
    ⟨some 18, none, false, .bin .lss (.t 15) (.t 17)⟩])
  (.cond (.t 18)
   (.region false [1, 5, 9, 10, 11] [] [⟨some 19, none, false, .mv (.t 5)⟩,
     ⟨some 20, none, false, .bin .add (.t 19) (.c (.int .i64 1))⟩,
     ⟨some 5, none, false, .mv (.t 20)⟩])
   .skip))))
 (.region false [1, 5, 9, 10, 11] [] [⟨some 21, none, false, .bin .add (.t 11) (.c (.int .i64 1))⟩,
   ⟨some 11, none, false, .mv (.t 21)⟩]))))
/-- civiltime/islamic.first -/
def af212 : AFun := ⟨34, true, [.tmp 4],
 (.seq (.region false [0, 1] [] [⟨some 4, none, false, .mv (.c (.int .i64 0))⟩])
 (.seq (.region false [0, 1, 5] [] [⟨some 5, none, false, .mv (.c (.int .i64 0))⟩])
 (.seq (.seq (.region false [1, 5, 9, 10, 11] [] [⟨some 8, none, false, .mv (.t 0)⟩,
   ⟨some 9, none, false, .call (.f 240) [(.t 8)]⟩,
   ⟨some 10, none, false, .bi (.len 1) [(.t 9)]⟩,
   ⟨some 11, none, false, .mv (.c (.int .i64 0))⟩])
 (.block 0 af212L0))
 (.seq (.region false [4] [] [⟨some 22, none, false, .mv (.t 1)⟩,
   ⟨some 23, none, false, .bin .sub (.t 22) (.c (.int .i64 1))⟩,
   ⟨some 24, none, false, .bin .quo (.t 23) (.c (.int .i64 30))⟩,
   ⟨some 25, none, false, .bin .mul (.t 24) (.c (.int .i64 10631))⟩,
   ⟨some 26, none, false, .bin .add (.c (.int .i64 (-492148))) (.t 25)⟩,
   ⟨some 27, none, false, .mv (.t 1)⟩,
   ⟨some 28, none, false, .call (.f 241) [(.t 27)]⟩,
   ⟨some 29, none, false, .bin .sub (.t 28) (.c (.int .i64 1))⟩,
   ⟨some 30, none, false, .bin .mul (.t 29) (.c (.int .i64 354))⟩,
   ⟨some 31, none, false, .bin .add (.t 26) (.t 30)⟩,
   ⟨some 32, none, false, .mv (.t 5)⟩,
   ⟨some 33, none, false, .bin .add (.t 31) (.t 32)⟩,
   ⟨some 4, none, false, .mv (.t 33)⟩])
 .ret))))⟩
/-- civiltime/islamic.Day -/
def af213 : AFun := ⟨32, true, [.tmp 4, .tmp 5],
 (.seq (.region false [0, 3] [] [⟨some 3, none, false, .box (.t 1)⟩,
   ⟨some 4, none, false, .mv (.c (.int .i64 0))⟩,
   ⟨some 5, none, false, .mv (.c (.int .i64 0))⟩])
 (.seq (.seq (.region true [0, 3, 19] [] [⟨some 6, none, false, .fldaddr 2 (.t 3)⟩,
   ⟨some 7, none, false, .load false 1 (.t 6)⟩,
   ⟨some 8, none, false, .bin .lss (.t 7) (.c (.int .i64 1))⟩,
   ⟨some 9, none, false, .mv (.t 8)⟩,
   ⟨some 10, some (9, false), false, .fldaddr 2 (.t 3)⟩,
   ⟨some 11, some (9, false), false, .load false 1 (.t 10)⟩,
   ⟨some 12, some (9, false), false, .mv (.t 0)⟩,
   ⟨some 13, some (9, false), false, .fldaddr 0 (.t 3)⟩,
   ⟨some 14, some (9, false), false, .load false 1 (.t 13)⟩,
   ⟨some 15, some (9, false), false, .fldaddr 1 (.t 3)⟩,
   ⟨some 16, some (9, false), false, .load false 1 (.t 15)⟩,
   ⟨some 17, some (9, false), true, .call (.f 242) [(.t 12), (.t 14), (.t 16)]⟩,
   ⟨some 18, some (9, false), false, .bin .gtr (.t 11) (.t 17)⟩,
   ⟨some 19, none, false, .pick (.t 9) (.c (.bool true)) (.t 18)⟩])
 (.cond (.t 19)
  (.seq (.region false [4, 5] [] [⟨some 4, none, false, .mv (.c (.int .i64 0))⟩,
    ⟨some 5, none, false, .mv (.c (.int .i64 1))⟩])
  .ret)
  .skip))
 (.seq (.region true [4, 5] [] [⟨some 20, none, false, .mv (.t 0)⟩,
   ⟨some 21, none, false, .fldaddr 0 (.t 3)⟩,
   ⟨some 22, none, false, .load false 1 (.t 21)⟩,
   ⟨some 23, none, true, .call (.f 212) [(.t 20), (.t 22)]⟩,
   ⟨some 24, none, false, .fldaddr 1 (.t 3)⟩,
   ⟨some 25, none, false, .load false 1 (.t 24)⟩,
   ⟨some 26, none, true, .call (.f 243) [(.t 25)]⟩,
   ⟨some 27, none, false, .bin .add (.t 23) (.t 26)⟩,
   ⟨some 28, none, false, .fldaddr 2 (.t 3)⟩,
   ⟨some 29, none, false, .load false 1 (.t 28)⟩,
   ⟨some 30, none, false, .bin .add (.t 27) (.t 29)⟩,
   ⟨some 31, none, false, .bin .sub (.t 30) (.c (.int .i64 1))⟩,
   ⟨some 4, none, false, .mv (.t 31)⟩,
   ⟨some 5, none, false, .mv (.c (.int .i64 0))⟩])
 .ret)))⟩
/-- civiltime/hebrew.Date -/
def af214 : AFun := ⟨13, true, [.cell 2 true 3, .tmp 3],
 (.seq (.region false [0, 2] [] [⟨some 2, none, false, .new [(.int .i64 0), (.int .i64 0), (.int .i64 0)]⟩,
   ⟨some 3, none, false, .mv (.c (.int .i64 0))⟩])
 (.seq (.seq (.region false [0, 2, 9] [] [⟨some 4, none, false, .mv (.t 0)⟩,
   ⟨some 5, none, false, .bin .lss (.t 4) (.c (.int .i64 (-719162)))⟩,
   ⟨some 6, none, false, .mv (.t 5)⟩,
   ⟨some 7, some (6, false), false, .mv (.t 0)⟩,
   ⟨some 8, some (6, false), false, .bin .geq (.t 7) (.c (.int .i64 2932897))⟩,
   ⟨some 9, none, false, .pick (.t 6) (.c (.bool true)) (.t 8)⟩])
 (.cond (.t 9)
  (.seq (.region false [2, 3] [] [⟨some 10, none, false, .build [(.int .i64 0), (.int .i64 0), (.int .i64 0)] []⟩,
    ⟨none, none, false, .store 3 (.t 2) (.t 10)⟩,
    ⟨some 3, none, false, .mv (.c (.int .i64 2))⟩])
  .ret)
  .skip))
 (.seq (.region false [2, 3] [] [⟨some 11, none, false, .mv (.t 0)⟩,
   ⟨some 12, none, false, .call (.f 244) [(.t 11)]⟩,
   ⟨none, none, false, .store 3 (.t 2) (.t 12)⟩,
   ⟨some 3, none, false, .mv (.c (.int .i64 0))⟩])
 .ret)))⟩
/-- civiltime/civiltimeref06.ValidDate -/
def af215 : AFun := ⟨19, true, [.tmp 4],
 (.seq (.region false [0, 3] [] [⟨some 3, none, false, .box (.t 1)⟩,
   ⟨some 4, none, false, .mv (.c (.bool false))⟩])
 (.seq (.region true [4] [] [⟨some 5, none, false, .fldaddr 2 (.t 3)⟩,
   ⟨some 6, none, false, .load false 1 (.t 5)⟩,
   ⟨some 7, none, false, .bin .geq (.t 6) (.c (.int .i64 1))⟩,
   ⟨some 8, none, false, .mv (.t 7)⟩,
   ⟨some 9, some (8, true), false, .fldaddr 2 (.t 3)⟩,
   ⟨some 10, some (8, true), false, .load false 1 (.t 9)⟩,
   ⟨some 11, some (8, true), false, .mv (.t 0)⟩,
   ⟨some 12, some (8, true), false, .fldaddr 0 (.t 3)⟩,
   ⟨some 13, some (8, true), false, .load false 1 (.t 12)⟩,
   ⟨some 14, some (8, true), false, .fldaddr 1 (.t 3)⟩,
   ⟨some 15, some (8, true), false, .load false 1 (.t 14)⟩,
   ⟨some 16, some (8, true), true, .call (.f 217) [(.t 11), (.t 13), (.t 15)]⟩,
   ⟨some 17, some (8, true), false, .bin .leq (.t 10) (.t 16)⟩,
   ⟨some 18, none, false, .pick (.t 8) (.t 17) (.c (.bool false))⟩,
   ⟨some 4, none, false, .mv (.t 18)⟩])
 .ret))⟩
def af216L0 : ACode := .loop [0, 1, 7, 8]
 (.seq (.seq (.region false [0, 1, 7, 8, 29] [] [⟨some 27, none, false, .mv (.t 8)⟩,
   ⟨some 28, none, false, .mv (.t 1)⟩,
   ⟨some 29, none, false, .bin .lss (.t 27) (.t 28)⟩])
 (.cond (.t 29)
  .skip
  (.exit 0)))
 (.seq (.block 1 (.region false [0, 1, 7, 8] [] [⟨some 32, none, false, .mv (.t 7)⟩,
    ⟨some 33, none, false, .mv (.t 0)⟩,
    ⟨some 34, none, false, .mv (.t 8)⟩,
    ⟨some 35, none, false, .call (.f 245) [(.t 33), (.t 34)]⟩,
    ⟨some 36, none, false, .bin .add (.t 32) (.t 35)⟩,
    ⟨some 7, none, false, .mv (.t 36)⟩]))
 (.region false [0, 1, 7, 8] [] [⟨some 30, none, false, .mv (.t 8)⟩,
   ⟨some 31, none, false, .bin .add (.t 30) (.c (.int .i64 1))⟩,
   ⟨some 8, none, false, .mv (.t 31)⟩])))
/-- civiltime/civiltimeref06.New -/
def af216 : AFun := ⟨38, true, [.tmp 4, .tmp 5],
 (.seq (.region false [0, 1] [] [⟨some 4, none, false, .mv (.c (.int .i64 0))⟩,
   ⟨some 5, none, false, .mv (.c (.int .i64 0))⟩])
 (.seq (.seq (.region false [0, 1, 11] [] [⟨some 9, none, false, .mv (.t 0)⟩,
   ⟨some 10, none, false, .call (.f 168) [(.t 9)]⟩,
   ⟨some 11, none, false, .un .not (.t 10)⟩])
 (.cond (.t 11)
  (.seq (.region false [4, 5] [] [⟨some 4, none, false, .mv (.c (.int .i64 0))⟩,
    ⟨some 5, none, false, .mv (.c (.int .i64 1))⟩])
  .ret)
  .skip))
 (.seq (.seq (.region false [0, 1, 17] [] [⟨some 12, none, false, .mv (.t 1)⟩,
   ⟨some 13, none, false, .bin .lss (.t 12) (.c (.int .i64 1))⟩,
   ⟨some 14, none, false, .mv (.t 13)⟩,
   ⟨some 15, some (14, false), false, .mv (.t 1)⟩,
   ⟨some 16, some (14, false), false, .bin .gtr (.t 15) (.c (.int .i64 9601))⟩,
   ⟨some 17, none, false, .pick (.t 14) (.c (.bool true)) (.t 16)⟩])
 (.cond (.t 17)
  (.seq (.region false [4, 5] [] [⟨some 4, none, false, .mv (.c (.int .i64 0))⟩,
    ⟨some 5, none, false, .mv (.c (.int .i64 2))⟩])
  .ret)
  .skip))
 (.seq (.region false [0, 1, 6] [] [⟨some 18, none, false, .mv (.t 1)⟩,
   ⟨some 19, none, false, .bin .sub (.t 18) (.c (.int .i64 1))⟩,
   ⟨some 20, none, false, .bin .quo (.t 19) (.c (.int .i64 30))⟩,
   ⟨some 6, none, false, .mv (.t 20)⟩])
 (.seq (.region false [0, 1, 6, 7] [] [⟨some 21, none, false, .mv (.t 6)⟩,
   ⟨some 22, none, false, .bin .mul (.t 21) (.c (.int .i64 10631))⟩,
   ⟨some 23, none, false, .bin .add (.c (.int .i64 (-492148))) (.t 22)⟩,
   ⟨some 7, none, false, .mv (.t 23)⟩])
 (.seq (.seq (.region false [0, 1, 7, 8] [] [⟨some 24, none, false, .mv (.t 6)⟩,
   ⟨some 25, none, false, .bin .mul (.c (.int .i64 30)) (.t 24)⟩,
   ⟨some 26, none, false, .bin .add (.t 25) (.c (.int .i64 1))⟩,
   ⟨some 8, none, false, .mv (.t 26)⟩])
 (.block 0 af216L0))
 (.seq (.region false [4, 5] [] [⟨some 37, none, false, .mv (.t 7)⟩,
   ⟨some 4, none, false, .mv (.t 37)⟩,
   ⟨some 5, none, false, .mv (.c (.int .i64 0))⟩])
 .ret)))))))⟩
/-- civiltime/civiltimeref06.Length -/
def af217 : AFun := ⟨31, true, [.tmp 6],
 (.seq (.region false [0, 1, 2] [] [⟨some 6, none, false, .mv (.c (.int .i64 0))⟩])
 (.seq (.seq (.region false [0, 1, 2, 18] [] [⟨some 7, none, false, .mv (.t 0)⟩,
   ⟨some 8, none, false, .mv (.t 1)⟩,
   ⟨some 9, none, false, .call (.f 246) [(.t 7), (.t 8)]⟩,
   ⟨some 10, none, false, .un .not (.t 9)⟩,
   ⟨some 11, none, false, .mv (.t 10)⟩,
   ⟨some 12, some (11, false), false, .mv (.t 2)⟩,
   ⟨some 13, some (11, false), false, .bin .lss (.t 12) (.c (.int .i64 1))⟩,
   ⟨some 14, none, false, .pick (.t 11) (.c (.bool true)) (.t 13)⟩,
   ⟨some 15, none, false, .mv (.t 14)⟩,
   ⟨some 16, some (15, false), false, .mv (.t 2)⟩,
   ⟨some 17, some (15, false), false, .bin .gtr (.t 16) (.c (.int .i64 12))⟩,
   ⟨some 18, none, false, .pick (.t 15) (.c (.bool true)) (.t 17)⟩])
 (.cond (.t 18)
  (.seq (.region false [6] [] [⟨some 6, none, false, .mv (.c (.int .i64 0))⟩])
  .ret)
  .skip))
 (.seq (.seq (.region false [30] [] [⟨some 19, none, false, .mv (.t 2)⟩,
   ⟨some 20, none, false, .bin .rem (.t 19) (.c (.int .i64 2))⟩,
   ⟨some 21, none, false, .bin .eql (.t 20) (.c (.int .i64 1))⟩,
   ⟨some 22, none, false, .mv (.t 21)⟩,
   ⟨some 23, some (22, false), false, .mv (.t 2)⟩,
   ⟨some 24, some (22, false), false, .bin .eql (.t 23) (.c (.int .i64 12))⟩,
   ⟨some 25, some (22, false), false, .mv (.t 24)⟩,
   ⟨some 26, some (25, true), false, .mv (.t 0)⟩,
   ⟨some 27, some (25, true), false, .mv (.t 1)⟩,
   ⟨some 28, some (25, true), false, .call (.f 247) [(.t 26), (.t 27)]⟩,
   ⟨some 29, some (22, false), false, .pick (.t 25) (.t 28) (.c (.bool false))⟩,
   ⟨some 30, none, false, .pick (.t 22) (.c (.bool true)) (.t 29)⟩])
 (.cond (.t 30)
  (.seq (.region false [6] [] [⟨some 6, none, false, .mv (.c (.int .i64 30))⟩])
  .ret)
  .skip))
 (.seq (.region false [6] [] [⟨some 6, none, false, .mv (.c (.int .i64 29))⟩])
 .ret))))⟩
/-- civiltime/civiltimeref07.IsYear -/
def af218 : AFun := ⟨9, true, [.tmp 2],
 (.seq (.region false [0] [] [⟨some 2, none, false, .mv (.c (.bool false))⟩])
 (.seq (.region false [2] [] [⟨some 3, none, false, .mv (.t 0)⟩,
   ⟨some 4, none, false, .bin .geq (.t 3) (.c (.int .i64 1))⟩,
   ⟨some 5, none, false, .mv (.t 4)⟩,
   ⟨some 6, some (5, true), false, .mv (.t 0)⟩,
   ⟨some 7, some (5, true), false, .bin .leq (.t 6) (.c (.int .i64 20000))⟩,
   ⟨some 8, none, false, .pick (.t 5) (.t 7) (.c (.bool false))⟩,
   ⟨some 2, none, false, .mv (.t 8)⟩])
 .ret))⟩
/-- civiltime/civiltimeref07.Length -/
def af219 : AFun := ⟨37, true, [.tmp 4],
 (.seq (.region false [0, 1] [] [⟨some 4, none, false, .mv (.c (.int .i64 0))⟩])
 (.seq (.seq (.region false [0, 1, 13] [] [⟨some 6, none, false, .mv (.t 1)⟩,
   ⟨some 7, none, false, .bin .lss (.t 6) (.c (.int .i64 1))⟩,
   ⟨some 8, none, false, .mv (.t 7)⟩,
   ⟨some 9, some (8, false), false, .mv (.t 1)⟩,
   ⟨some 10, some (8, false), false, .mv (.t 0)⟩,
   ⟨some 11, some (8, false), false, .call (.f 248) [(.t 10)]⟩,
   ⟨some 12, some (8, false), false, .bin .gtr (.t 9) (.t 11)⟩,
   ⟨some 13, none, false, .pick (.t 8) (.c (.bool true)) (.t 12)⟩])
 (.cond (.t 13)
  (.seq (.region false [4] [] [⟨some 4, none, false, .mv (.c (.int .i64 0))⟩])
  .ret)
  .skip))
 (.seq (.region false [0, 1, 5] [] [⟨some 14, none, false, .mv (.t 0)⟩,
   ⟨some 15, none, false, .call (.f 249) [(.t 14)]⟩,
   ⟨some 16, none, false, .bin .rem (.t 15) (.c (.int .i64 10))⟩,
   ⟨some 5, none, false, .mv (.t 16)⟩])
 (.seq (.seq (.region false [0, 5, 17] [] [⟨some 17, none, false, .mv (.t 1)⟩])
 (.block 0 (.seq (.seq (.region false [0, 5, 17, 18] [] [⟨some 19, none, false, .bin .eql (.t 17) (.c (.int .i64 2))⟩,
    ⟨some 18, none, false, .mv (.t 19)⟩])
  (.cond (.t 18)
   .skip
   (.seq (.region false [0, 5, 17, 18] [] [⟨some 20, none, false, .bin .eql (.t 17) (.c (.int .i64 4))⟩,
     ⟨some 18, none, false, .mv (.t 20)⟩])
   (.cond (.t 18)
    .skip
    (.seq (.region false [0, 5, 17, 18] [] [⟨some 21, none, false, .bin .eql (.t 17) (.c (.int .i64 6))⟩,
      ⟨some 18, none, false, .mv (.t 21)⟩])
    (.cond (.t 18)
     .skip
     (.seq (.region false [0, 5, 17, 18] [] [⟨some 22, none, false, .bin .eql (.t 17) (.c (.int .i64 10))⟩,
       ⟨some 18, none, false, .mv (.t 22)⟩])
     (.cond (.t 18)
      .skip
      (.region false [0, 5, 17, 18] [] [⟨some 23, none, false, .bin .eql (.t 17) (.c (.int .i64 13))⟩,
        ⟨some 18, none, false, .mv (.t 23)⟩])))))))))
  (.cond (.t 18)
   (.seq (.region false [4] [] [⟨some 4, none, false, .mv (.c (.int .i64 29))⟩])
   .ret)
   (.seq (.region false [0, 5, 17, 24] [] [⟨some 25, none, false, .bin .eql (.t 17) (.c (.int .i64 12))⟩,
     ⟨some 24, none, false, .mv (.t 25)⟩])
   (.cond (.t 24)
    (.seq (.region false [28] [] [⟨some 26, none, false, .mv (.t 0)⟩,
      ⟨some 27, none, false, .call (.f 250) [(.t 26)]⟩,
      ⟨some 28, none, false, .un .not (.t 27)⟩])
    (.cond (.t 28)
     (.seq (.region false [4] [] [⟨some 4, none, false, .mv (.c (.int .i64 29))⟩])
     .ret)
     .skip))
    (.seq (.region false [5, 17, 29] [] [⟨some 30, none, false, .bin .eql (.t 17) (.c (.int .i64 8))⟩,
      ⟨some 29, none, false, .mv (.t 30)⟩])
    (.cond (.t 29)
     (.seq (.region false [32] [] [⟨some 31, none, false, .mv (.t 5)⟩,
       ⟨some 32, none, false, .bin .neq (.t 31) (.c (.int .i64 5))⟩])
     (.cond (.t 32)
      (.seq (.region false [4] [] [⟨some 4, none, false, .mv (.c (.int .i64 29))⟩])
      .ret)
      .skip))
     (.seq (.region false [5, 33] [] [⟨some 34, none, false, .bin .eql (.t 17) (.c (.int .i64 9))⟩,
       ⟨some 33, none, false, .mv (.t 34)⟩])
     (.cond (.t 33)
      (.seq (.region false [36] [] [⟨some 35, none, false, .mv (.t 5)⟩,
        ⟨some 36, none, false, .bin .eql (.t 35) (.c (.int .i64 3))⟩])
      (.cond (.t 36)
       (.seq (.region false [4] [] [⟨some 4, none, false, .mv (.c (.int .i64 29))⟩])
       .ret)
       .skip))
      .skip))))))))))
 (.seq (.region false [4] [] [⟨some 4, none, false, .mv (.c (.int .i64 30))⟩])
 .ret)))))⟩
/-- civiltime/civiltimeref07.New -/
def af220 : AFun := ⟨23, true, [.tmp 2],
 (.seq (.region false [0] [] [⟨some 2, none, false, .mv (.c (.int .i64 0))⟩])
 (.seq (.region false [0, 3] [] [⟨some 5, none, false, .mv (.t 0)⟩,
   ⟨some 6, none, false, .call (.f 251) [(.t 5)]⟩,
   ⟨some 3, none, false, .mv (.t 6)⟩])
 (.seq (.region false [0, 3, 4] [] [⟨some 4, none, false, .mv (.c (.int .i64 0))⟩])
 (.seq (.seq (.region false [0, 3, 4, 12] [] [⟨some 7, none, false, .mv (.t 0)⟩,
   ⟨some 8, none, false, .bin .add (.t 7) (.c (.int .i64 1))⟩,
   ⟨some 9, none, false, .call (.f 251) [(.t 8)]⟩,
   ⟨some 10, none, false, .mv (.t 3)⟩,
   ⟨some 11, none, false, .bin .sub (.t 9) (.t 10)⟩,
   ⟨some 12, none, false, .bin .eql (.t 11) (.c (.int .i64 356))⟩])
 (.cond (.t 12)
  (.region false [3, 4] [] [⟨some 4, none, false, .mv (.c (.int .i64 2))⟩])
  (.seq (.region false [3, 4, 18] [] [⟨some 13, none, false, .mv (.t 3)⟩,
    ⟨some 14, none, false, .mv (.t 0)⟩,
    ⟨some 15, none, false, .bin .sub (.t 14) (.c (.int .i64 1))⟩,
    ⟨some 16, none, false, .call (.f 251) [(.t 15)]⟩,
    ⟨some 17, none, false, .bin .sub (.t 13) (.t 16)⟩,
    ⟨some 18, none, false, .bin .eql (.t 17) (.c (.int .i64 382))⟩])
  (.cond (.t 18)
   (.region false [3, 4] [] [⟨some 4, none, false, .mv (.c (.int .i64 1))⟩])
   .skip))))
 (.seq (.region false [2] [] [⟨some 19, none, false, .mv (.t 3)⟩,
   ⟨some 20, none, false, .bin .add (.c (.int .i64 (-2092590))) (.t 19)⟩,
   ⟨some 21, none, false, .mv (.t 4)⟩,
   ⟨some 22, none, false, .bin .add (.t 20) (.t 21)⟩,
   ⟨some 2, none, false, .mv (.t 22)⟩])
 .ret)))))⟩
def af221L0 : ACode := .loop [0, 3, 4]
 (.seq (.seq (.region false [0, 3, 4, 9] [] [⟨some 6, none, false, .mv (.t 4)⟩,
   ⟨some 7, none, false, .mv (.t 0)⟩,
   ⟨some 8, none, false, .call (.f 248) [(.t 7)]⟩,
   ⟨some 9, none, false, .bin .leq (.t 6) (.t 8)⟩])
 (.cond (.t 9)
  .skip
  (.exit 0)))
 (.seq (.block 1 (.region false [0, 3, 4] [] [⟨some 12, none, false, .mv (.t 3)⟩,
    ⟨some 13, none, false, .mv (.t 4)⟩,
    ⟨some 14, none, false, .bslice [(.int .i64 0)] [(0, 1, (.t 13))] 1 1⟩,
    ⟨some 15, none, false, .bi (.append 1 8) [(.t 12), (.t 14)]⟩,
    ⟨some 3, none, false, .mv (.t 15)⟩]))
 (.region false [0, 3, 4] [] [⟨some 10, none, false, .mv (.t 4)⟩,
   ⟨some 11, none, false, .bin .add (.t 10) (.c (.int .i64 1))⟩,
   ⟨some 4, none, false, .mv (.t 11)⟩])))
def af221L1 : ACode := .loop [3, 5]
 (.seq (.seq (.region false [3, 5, 17] [] [⟨some 16, none, false, .mv (.t 5)⟩,
   ⟨some 17, none, false, .bin .leq (.t 16) (.c (.int .i64 6))⟩])
 (.cond (.t 17)
  .skip
  (.exit 2)))
 (.seq (.block 3 (.region false [3, 5] [] [⟨some 20, none, false, .mv (.t 3)⟩,
    ⟨some 21, none, false, .mv (.t 5)⟩,
    ⟨some 22, none, false, .bslice [(.int .i64 0)] [(0, 1, (.t 21))] 1 1⟩,
    ⟨some 23, none, false, .bi (.append 1 8) [(.t 20), (.t 22)]⟩,
    ⟨some 3, none, false, .mv (.t 23)⟩]))
 (.region false [3, 5] [] [⟨some 18, none, false, .mv (.t 5)⟩,
   ⟨some 19, none, false, .bin .add (.t 18) (.c (.int .i64 1))⟩,
   ⟨some 5, none, false, .mv (.t 19)⟩])))
/-- civiltime/civiltimeref07.Order -/
def af221 : AFun := ⟨25, true, [.tmp 2],
 (.seq (.region false [0] [] [⟨some 2, none, false, .mv (.c .nilSl)⟩])
 (.seq (.region false [0, 3] [] [⟨some 3, none, false, .mv (.c .nilSl)⟩])
 (.seq (.seq (.region false [0, 3, 4] [] [⟨some 4, none, false, .mv (.c (.int .i64 7))⟩])
 (.block 0 af221L0))
 (.seq (.seq (.region false [3, 5] [] [⟨some 5, none, false, .mv (.c (.int .i64 1))⟩])
 (.block 2 af221L1))
 (.seq (.region false [2] [] [⟨some 24, none, false, .mv (.t 3)⟩,
   ⟨some 2, none, false, .mv (.t 24)⟩])
 .ret)))))⟩
/-- strings.CutPrefix -/
def af222 : AFun := ⟨11, true, [.tmp 4, .tmp 5],
 (.seq (.region false [0, 1] [] [⟨some 4, none, false, .mv (.c (.str []))⟩,
   ⟨some 5, none, false, .mv (.c (.bool false))⟩])
 (.seq (.region false [4, 5] [] [⟨some 6, none, false, .mv (.t 0)⟩,
   ⟨some 7, none, false, .mv (.t 1)⟩,
   ⟨some 8, none, false, .call (.f 252) [(.t 6), (.t 7)]⟩,
   ⟨some 9, none, false, .ext 0 (.t 8)⟩,
   ⟨some 10, none, false, .ext 1 (.t 8)⟩,
   ⟨some 4, none, false, .mv (.t 9)⟩,
   ⟨some 5, none, false, .mv (.t 10)⟩])
 .ret))⟩
def af223L0 : ACode := .loop [0, 2, 3, 4, 10]
 (.block 1 (.seq (.region false [0, 2, 3, 4, 10, 11] [] [⟨some 13, none, false, .mv (.t 10)⟩,
    ⟨some 14, none, false, .bin .mul (.c (.int .i64 2)) (.t 13)⟩,
    ⟨some 15, none, false, .bin .add (.t 14) (.c (.int .i64 1))⟩,
    ⟨some 11, none, false, .mv (.t 15)⟩])
  (.seq (.seq (.region false [0, 2, 3, 4, 10, 11, 18] [] [⟨some 16, none, false, .mv (.t 11)⟩,
    ⟨some 17, none, false, .mv (.t 2)⟩,
    ⟨some 18, none, false, .bin .geq (.t 16) (.t 17)⟩])
  (.cond (.t 18)
   (.exit 0)
   .skip))
  (.seq (.seq (.region true [0, 2, 3, 4, 10, 11, 40] [] [⟨some 19, none, false, .mv (.t 11)⟩,
    ⟨some 20, none, false, .bin .add (.t 19) (.c (.int .i64 1))⟩,
    ⟨some 21, none, false, .mv (.t 2)⟩,
    ⟨some 22, none, false, .bin .lss (.t 20) (.t 21)⟩,
    ⟨some 23, none, false, .mv (.t 22)⟩,
    ⟨some 24, some (23, true), false, .mv (.t 4)⟩,
    ⟨some 25, some (23, true), false, .mv (.t 0)⟩,
    ⟨some 26, some (23, true), false, .mv (.t 3)⟩,
    ⟨some 27, some (23, true), false, .mv (.t 11)⟩,
    ⟨some 28, some (23, true), false, .bin .add (.t 26) (.t 27)⟩,
    ⟨some 29, some (23, true), false, .idxaddr none 2 (.t 25) (.t 28)⟩,
    ⟨some 30, some (23, true), false, .load true 2 (.t 29)⟩,
    ⟨some 31, some (23, true), false, .mv (.t 0)⟩,
    ⟨some 32, some (23, true), false, .mv (.t 3)⟩,
    ⟨some 33, some (23, true), false, .mv (.t 11)⟩,
    ⟨some 34, some (23, true), false, .bin .add (.t 32) (.t 33)⟩,
    ⟨some 35, some (23, true), false, .bin .add (.t 34) (.c (.int .i64 1))⟩,
    ⟨some 36, some (23, true), false, .idxaddr none 2 (.t 31) (.t 35)⟩,
    ⟨some 37, some (23, true), false, .load true 2 (.t 36)⟩,
    ⟨some 38, some (23, true), false, .call (.t 24) [(.t 30), (.t 37)]⟩,
    ⟨some 39, some (23, true), false, .bin .lss (.t 38) (.c (.int .i64 0))⟩,
    ⟨some 40, none, false, .pick (.t 23) (.t 39) (.c (.bool false))⟩])
  (.cond (.t 40)
   (.region false [0, 2, 3, 4, 10, 11] [] [⟨some 41, none, false, .mv (.t 11)⟩,
     ⟨some 42, none, false, .bin .add (.t 41) (.c (.int .i64 1))⟩,
     ⟨some 11, none, false, .mv (.t 42)⟩])
   .skip))
  (.seq (.seq (.region true [0, 2, 3, 4, 10, 11, 58] [] [⟨some 43, none, false, .mv (.t 4)⟩,
    ⟨some 44, none, false, .mv (.t 0)⟩,
    ⟨some 45, none, false, .mv (.t 3)⟩,
    ⟨some 46, none, false, .mv (.t 10)⟩,
    ⟨some 47, none, false, .bin .add (.t 45) (.t 46)⟩,
    ⟨some 48, none, false, .idxaddr none 2 (.t 44) (.t 47)⟩,
    ⟨some 49, none, false, .load true 2 (.t 48)⟩,
    ⟨some 50, none, false, .mv (.t 0)⟩,
    ⟨some 51, none, false, .mv (.t 3)⟩,
    ⟨some 52, none, false, .mv (.t 11)⟩,
    ⟨some 53, none, false, .bin .add (.t 51) (.t 52)⟩,
    ⟨some 54, none, false, .idxaddr none 2 (.t 50) (.t 53)⟩,
    ⟨some 55, none, false, .load true 2 (.t 54)⟩,
    ⟨some 56, none, false, .call (.t 43) [(.t 49), (.t 55)]⟩,
    ⟨some 57, none, false, .bin .lss (.t 56) (.c (.int .i64 0))⟩,
    ⟨some 58, none, false, .un .not (.t 57)⟩])
  (.cond (.t 58)
   .ret
   .skip))
  (.seq (.region true [0, 2, 3, 4, 11] [] [⟨some 59, none, false, .mv (.t 0)⟩,
    ⟨some 60, none, false, .mv (.t 3)⟩,
    ⟨some 61, none, false, .mv (.t 10)⟩,
    ⟨some 62, none, false, .bin .add (.t 60) (.t 61)⟩,
    ⟨some 63, none, false, .mv (.t 0)⟩,
    ⟨some 64, none, false, .mv (.t 3)⟩,
    ⟨some 65, none, false, .mv (.t 11)⟩,
    ⟨some 66, none, false, .bin .add (.t 64) (.t 65)⟩,
    ⟨some 67, none, false, .mv (.t 0)⟩,
    ⟨some 68, none, false, .mv (.t 3)⟩,
    ⟨some 69, none, false, .mv (.t 11)⟩,
    ⟨some 70, none, false, .bin .add (.t 68) (.t 69)⟩,
    ⟨some 71, none, false, .idxaddr none 2 (.t 67) (.t 70)⟩,
    ⟨some 72, none, false, .load true 2 (.t 71)⟩,
    ⟨some 73, none, false, .mv (.t 0)⟩,
    ⟨some 74, none, false, .mv (.t 3)⟩,
    ⟨some 75, none, false, .mv (.t 10)⟩,
    ⟨some 76, none, false, .bin .add (.t 74) (.t 75)⟩,
    ⟨some 77, none, false, .idxaddr none 2 (.t 73) (.t 76)⟩,
    ⟨some 78, none, false, .load true 2 (.t 77)⟩,
    ⟨some 79, none, false, .idxaddr none 2 (.t 59) (.t 62)⟩,
    ⟨none, none, false, .store 2 (.t 79) (.t 72)⟩,
    ⟨some 80, none, false, .idxaddr none 2 (.t 63) (.t 66)⟩,
    ⟨none, none, false, .store 2 (.t 80) (.t 78)⟩])
  (.region false [0, 2, 3, 4, 10] [] [⟨some 81, none, false, .mv (.t 11)⟩,
    ⟨some 10, none, false, .mv (.t 81)⟩])))))))
/-- slices.siftDownCmpFunc[civiltime/api.HolidayDay] -/
def af223 : AFun := ⟨82, true, [],
 (.seq (.region false [0, 2, 3, 4, 10] [] [⟨some 12, none, false, .mv (.t 1)⟩,
   ⟨some 10, none, false, .mv (.t 12)⟩])
 (.block 0 af223L0))⟩
/-- slices.nextPowerOfTwo -/
def af224 : AFun := ⟨7, true, [.tmp 2],
 (.seq (.region false [0] [] [⟨some 2, none, false, .mv (.c (.int .u64 0))⟩])
 (.seq (.region false [2] [] [⟨some 3, none, false, .mv (.t 0)⟩,
   ⟨some 4, none, false, .conv (.int .u64) (.t 3)⟩,
   ⟨some 5, none, false, .call (.f 123) [(.t 4)]⟩,
   ⟨some 6, none, false, .bin .shl (.c (.int .u64 1)) (.t 5)⟩,
   ⟨some 2, none, false, .mv (.t 6)⟩])
 .ret))⟩
/-- (*slices.xorshift).Next -/
def af225 : AFun := ⟨33, true, [.tmp 2],
 (.seq (.region false [0] [] [⟨some 2, none, false, .mv (.c (.int .u64 0))⟩])
 (.seq (.region true [0] [] [⟨some 3, none, false, .mv (.t 0)⟩,
   ⟨some 4, none, false, .nilck (.t 3)⟩,
   ⟨some 5, none, false, .load false 1 (.t 4)⟩,
   ⟨some 6, none, false, .mv (.t 0)⟩,
   ⟨some 7, none, false, .nilck (.t 6)⟩,
   ⟨some 8, none, false, .load false 1 (.t 7)⟩,
   ⟨some 9, none, false, .bin .shl (.t 8) (.c (.int .u64 13))⟩,
   ⟨some 10, none, false, .bin .xor (.t 5) (.t 9)⟩,
   ⟨some 11, none, false, .nilck (.t 3)⟩,
   ⟨none, none, false, .store 1 (.t 11) (.t 10)⟩])
 (.seq (.region true [0] [] [⟨some 12, none, false, .mv (.t 0)⟩,
   ⟨some 13, none, false, .nilck (.t 12)⟩,
   ⟨some 14, none, false, .load false 1 (.t 13)⟩,
   ⟨some 15, none, false, .mv (.t 0)⟩,
   ⟨some 16, none, false, .nilck (.t 15)⟩,
   ⟨some 17, none, false, .load false 1 (.t 16)⟩,
   ⟨some 18, none, false, .bin .shr (.t 17) (.c (.int .u64 7))⟩,
   ⟨some 19, none, false, .bin .xor (.t 14) (.t 18)⟩,
   ⟨some 20, none, false, .nilck (.t 12)⟩,
   ⟨none, none, false, .store 1 (.t 20) (.t 19)⟩])
 (.seq (.region true [0] [] [⟨some 21, none, false, .mv (.t 0)⟩,
   ⟨some 22, none, false, .nilck (.t 21)⟩,
   ⟨some 23, none, false, .load false 1 (.t 22)⟩,
   ⟨some 24, none, false, .mv (.t 0)⟩,
   ⟨some 25, none, false, .nilck (.t 24)⟩,
   ⟨some 26, none, false, .load false 1 (.t 25)⟩,
   ⟨some 27, none, false, .bin .shl (.t 26) (.c (.int .u64 17))⟩,
   ⟨some 28, none, false, .bin .xor (.t 23) (.t 27)⟩,
   ⟨some 29, none, false, .nilck (.t 21)⟩,
   ⟨none, none, false, .store 1 (.t 29) (.t 28)⟩])
 (.seq (.region false [2] [] [⟨some 30, none, false, .mv (.t 0)⟩,
   ⟨some 31, none, false, .nilck (.t 30)⟩,
   ⟨some 32, none, false, .load false 1 (.t 31)⟩,
   ⟨some 2, none, false, .mv (.t 32)⟩])
 .ret)))))⟩
/-- slices.medianAdjacentCmpFunc[civiltime/api.HolidayDay] -/
def af226 : AFun := ⟨18, true, [.tmp 8],
 (.seq (.region false [0, 1, 2, 3] [] [⟨some 8, none, false, .mv (.c (.int .i64 0))⟩])
 (.seq (.region false [8] [] [⟨some 9, none, false, .mv (.t 0)⟩,
   ⟨some 10, none, false, .mv (.t 1)⟩,
   ⟨some 11, none, false, .bin .sub (.t 10) (.c (.int .i64 1))⟩,
   ⟨some 12, none, false, .mv (.t 1)⟩,
   ⟨some 13, none, false, .mv (.t 1)⟩,
   ⟨some 14, none, false, .bin .add (.t 13) (.c (.int .i64 1))⟩,
   ⟨some 15, none, false, .mv (.t 2)⟩,
   ⟨some 16, none, false, .mv (.t 3)⟩,
   ⟨some 17, none, false, .call (.f 227) [(.t 9), (.t 11), (.t 12), (.t 14), (.t 15), (.t 16)]⟩,
   ⟨some 8, none, false, .mv (.t 17)⟩])
 .ret))⟩
/-- slices.medianCmpFunc[civiltime/api.HolidayDay] -/
def af227 : AFun := ⟨41, true, [.tmp 12],
 (.seq (.region false [0, 1, 2, 3, 4, 5] [] [⟨some 12, none, false, .mv (.c (.int .i64 0))⟩])
 (.seq (.region false [0, 1, 2, 3, 4, 5] [] [⟨some 14, none, false, .mv (.t 0)⟩,
   ⟨some 15, none, false, .mv (.t 1)⟩,
   ⟨some 16, none, false, .mv (.t 2)⟩,
   ⟨some 17, none, false, .mv (.t 4)⟩,
   ⟨some 18, none, false, .mv (.t 5)⟩,
   ⟨some 19, none, false, .call (.f 253) [(.t 14), (.t 15), (.t 16), (.t 17), (.t 18)]⟩,
   ⟨some 13, none, false, .mv (.t 19)⟩,
   ⟨some 20, none, false, .ext 0 (.t 13)⟩,
   ⟨some 21, none, false, .ext 1 (.t 13)⟩,
   ⟨some 1, none, false, .mv (.t 20)⟩,
   ⟨some 2, none, false, .mv (.t 21)⟩])
 (.seq (.region false [0, 1, 2, 4, 5] [] [⟨some 23, none, false, .mv (.t 0)⟩,
   ⟨some 24, none, false, .mv (.t 2)⟩,
   ⟨some 25, none, false, .mv (.t 3)⟩,
   ⟨some 26, none, false, .mv (.t 4)⟩,
   ⟨some 27, none, false, .mv (.t 5)⟩,
   ⟨some 28, none, false, .call (.f 253) [(.t 23), (.t 24), (.t 25), (.t 26), (.t 27)]⟩,
   ⟨some 22, none, false, .mv (.t 28)⟩,
   ⟨some 29, none, false, .ext 0 (.t 22)⟩,
   ⟨some 30, none, false, .ext 1 (.t 22)⟩,
   ⟨some 2, none, false, .mv (.t 29)⟩,
   ⟨some 3, none, false, .mv (.t 30)⟩])
 (.seq (.region false [2] [] [⟨some 32, none, false, .mv (.t 0)⟩,
   ⟨some 33, none, false, .mv (.t 1)⟩,
   ⟨some 34, none, false, .mv (.t 2)⟩,
   ⟨some 35, none, false, .mv (.t 4)⟩,
   ⟨some 36, none, false, .mv (.t 5)⟩,
   ⟨some 37, none, false, .call (.f 253) [(.t 32), (.t 33), (.t 34), (.t 35), (.t 36)]⟩,
   ⟨some 31, none, false, .mv (.t 37)⟩,
   ⟨some 38, none, false, .ext 0 (.t 31)⟩,
   ⟨some 39, none, false, .ext 1 (.t 31)⟩,
   ⟨some 1, none, false, .mv (.t 38)⟩,
   ⟨some 2, none, false, .mv (.t 39)⟩])
 (.seq (.region false [12] [] [⟨some 40, none, false, .mv (.t 2)⟩,
   ⟨some 12, none, false, .mv (.t 40)⟩])
 .ret)))))⟩
/-- internal/bytealg.Cutover -/
def af233 : AFun := ⟨6, true, [.tmp 2],
 (.seq (.region false [0] [] [⟨some 2, none, false, .mv (.c (.int .i64 0))⟩])
 (.seq (.region false [2] [] [⟨some 3, none, false, .mv (.t 0)⟩,
   ⟨some 4, none, false, .bin .add (.t 3) (.c (.int .i64 16))⟩,
   ⟨some 5, none, false, .bin .quo (.t 4) (.c (.int .i64 8))⟩,
   ⟨some 2, none, false, .mv (.t 5)⟩])
 .ret))⟩
def af234L0 : ACode := .loop [0, 1, 5, 6, 7, 8, 9]
 (.seq (.seq (.region false [0, 1, 5, 6, 7, 8, 9, 20] [] [⟨some 18, none, false, .mv (.t 9)⟩,
   ⟨some 19, none, false, .mv (.t 7)⟩,
   ⟨some 20, none, false, .bin .lss (.t 18) (.t 19)⟩])
 (.cond (.t 20)
  .skip
  (.exit 0)))
 (.seq (.block 1 (.region false [0, 1, 5, 6, 7, 8, 9] [] [⟨some 23, none, false, .mv (.t 8)⟩,
    ⟨some 24, none, false, .bin .mul (.t 23) (.c (.int .u32 16777619))⟩,
    ⟨some 25, none, false, .mv (.t 0)⟩,
    ⟨some 26, none, false, .mv (.t 9)⟩,
    ⟨some 27, none, false, .sidx (.t 25) (.t 26)⟩,
    ⟨some 28, none, false, .conv (.int .u32) (.t 27)⟩,
    ⟨some 29, none, false, .bin .add (.t 24) (.t 28)⟩,
    ⟨some 8, none, false, .mv (.t 29)⟩]))
 (.region false [0, 1, 5, 6, 7, 8, 9] [] [⟨some 21, none, false, .mv (.t 9)⟩,
   ⟨some 22, none, false, .bin .add (.t 21) (.c (.int .i64 1))⟩,
   ⟨some 9, none, false, .mv (.t 22)⟩])))
def af234L1 : ACode := .loop [0, 1, 5, 6, 7, 8, 10]
 (.seq (.seq (.region false [0, 1, 5, 6, 7, 8, 10, 44] [] [⟨some 41, none, false, .mv (.t 10)⟩,
   ⟨some 42, none, false, .mv (.t 0)⟩,
   ⟨some 43, none, false, .bi (.len 0) [(.t 42)]⟩,
   ⟨some 44, none, false, .bin .lss (.t 41) (.t 43)⟩])
 (.cond (.t 44)
  .skip
  (.exit 2)))
 (.block 3 (.seq (.region false [0, 1, 5, 6, 7, 8, 10] [] [⟨some 45, none, false, .mv (.t 8)⟩,
    ⟨some 46, none, false, .bin .mul (.t 45) (.c (.int .u32 16777619))⟩,
    ⟨some 8, none, false, .mv (.t 46)⟩])
  (.seq (.region false [0, 1, 5, 6, 7, 8, 10] [] [⟨some 47, none, false, .mv (.t 8)⟩,
    ⟨some 48, none, false, .mv (.t 0)⟩,
    ⟨some 49, none, false, .mv (.t 10)⟩,
    ⟨some 50, none, false, .sidx (.t 48) (.t 49)⟩,
    ⟨some 51, none, false, .conv (.int .u32) (.t 50)⟩,
    ⟨some 52, none, false, .bin .add (.t 47) (.t 51)⟩,
    ⟨some 8, none, false, .mv (.t 52)⟩])
  (.seq (.region false [0, 1, 5, 6, 7, 8, 10] [] [⟨some 53, none, false, .mv (.t 8)⟩,
    ⟨some 54, none, false, .mv (.t 6)⟩,
    ⟨some 55, none, false, .mv (.t 0)⟩,
    ⟨some 56, none, false, .mv (.t 10)⟩,
    ⟨some 57, none, false, .mv (.t 7)⟩,
    ⟨some 58, none, false, .bin .sub (.t 56) (.t 57)⟩,
    ⟨some 59, none, false, .sidx (.t 55) (.t 58)⟩,
    ⟨some 60, none, false, .conv (.int .u32) (.t 59)⟩,
    ⟨some 61, none, false, .bin .mul (.t 54) (.t 60)⟩,
    ⟨some 62, none, false, .bin .sub (.t 53) (.t 61)⟩,
    ⟨some 8, none, false, .mv (.t 62)⟩])
  (.seq (.region false [0, 1, 5, 6, 7, 8, 10] [] [⟨some 63, none, false, .mv (.t 10)⟩,
    ⟨some 64, none, false, .bin .add (.t 63) (.c (.int .i64 1))⟩,
    ⟨some 10, none, false, .mv (.t 64)⟩])
  (.seq (.region false [0, 1, 5, 6, 7, 8, 10, 77] [] [⟨some 65, none, false, .mv (.t 8)⟩,
    ⟨some 66, none, false, .mv (.t 5)⟩,
    ⟨some 67, none, false, .bin .eql (.t 65) (.t 66)⟩,
    ⟨some 68, none, false, .mv (.t 67)⟩,
    ⟨some 69, some (68, true), false, .mv (.t 0)⟩,
    ⟨some 70, some (68, true), false, .mv (.t 10)⟩,
    ⟨some 71, some (68, true), false, .mv (.t 7)⟩,
    ⟨some 72, some (68, true), false, .bin .sub (.t 70) (.t 71)⟩,
    ⟨some 73, some (68, true), false, .mv (.t 10)⟩,
    ⟨some 74, some (68, true), false, .slice .str (.t 69) (some (.t 72)) (some (.t 73)) none⟩,
    ⟨some 75, some (68, true), false, .mv (.t 1)⟩,
    ⟨some 76, some (68, true), false, .bin .eql (.t 74) (.t 75)⟩,
    ⟨some 77, none, false, .pick (.t 68) (.t 76) (.c (.bool false))⟩])
  (.cond (.t 77)
   (.seq (.region false [4] [] [⟨some 78, none, false, .mv (.t 10)⟩,
     ⟨some 79, none, false, .mv (.t 7)⟩,
     ⟨some 80, none, false, .bin .sub (.t 78) (.t 79)⟩,
     ⟨some 4, none, false, .mv (.t 80)⟩])
   .ret)
   .skip))))))))
/-- internal/bytealg.IndexRabinKarp[string] -/
def af234 : AFun := ⟨81, true, [.tmp 4],
 (.seq (.region false [0, 1] [] [⟨some 4, none, false, .mv (.c (.int .i64 0))⟩])
 (.seq (.region false [0, 1, 5, 6] [] [⟨some 12, none, false, .mv (.t 1)⟩,
   ⟨some 13, none, false, .call (.f 258) [(.t 12)]⟩,
   ⟨some 11, none, false, .mv (.t 13)⟩,
   ⟨some 14, none, false, .ext 0 (.t 11)⟩,
   ⟨some 15, none, false, .ext 1 (.t 11)⟩,
   ⟨some 5, none, false, .mv (.t 14)⟩,
   ⟨some 6, none, false, .mv (.t 15)⟩])
 (.seq (.region false [0, 1, 5, 6, 7] [] [⟨some 16, none, false, .mv (.t 1)⟩,
   ⟨some 17, none, false, .bi (.len 0) [(.t 16)]⟩,
   ⟨some 7, none, false, .mv (.t 17)⟩])
 (.seq (.region false [0, 1, 5, 6, 7, 8] [] [⟨some 8, none, false, .mv (.c (.int .u32 0))⟩])
 (.seq (.seq (.region false [0, 1, 5, 6, 7, 8, 9] [] [⟨some 9, none, false, .mv (.c (.int .i64 0))⟩])
 (.block 0 af234L0))
 (.seq (.seq (.region false [0, 1, 5, 6, 7, 8, 39] [] [⟨some 30, none, false, .mv (.t 8)⟩,
   ⟨some 31, none, false, .mv (.t 5)⟩,
   ⟨some 32, none, false, .bin .eql (.t 30) (.t 31)⟩,
   ⟨some 33, none, false, .mv (.t 32)⟩,
   ⟨some 34, some (33, true), false, .mv (.t 0)⟩,
   ⟨some 35, some (33, true), false, .mv (.t 7)⟩,
   ⟨some 36, some (33, true), false, .slice .str (.t 34) none (some (.t 35)) none⟩,
   ⟨some 37, some (33, true), false, .mv (.t 1)⟩,
   ⟨some 38, some (33, true), false, .bin .eql (.t 36) (.t 37)⟩,
   ⟨some 39, none, false, .pick (.t 33) (.t 38) (.c (.bool false))⟩])
 (.cond (.t 39)
  (.seq (.region false [4] [] [⟨some 4, none, false, .mv (.c (.int .i64 0))⟩])
  .ret)
  .skip))
 (.seq (.seq (.region false [0, 1, 5, 6, 7, 8, 10] [] [⟨some 40, none, false, .mv (.t 7)⟩,
   ⟨some 10, none, false, .mv (.t 40)⟩])
 (.block 2 af234L1))
 (.seq (.region false [4] [] [⟨some 4, none, false, .mv (.c (.int .i64 (-1)))⟩])
 .ret))))))))⟩
/-- civiltime/islamic.leaps -/
def af240 : AFun := ⟨12, true, [.tmp 2],
 (.seq (.region false [0] [] [⟨some 2, none, false, .mv (.c .nilSl)⟩])
 (.seq (.region false [2] [] [⟨some 3, none, false, .bslice [(.int .i64 0), (.int .i64 0), (.int .i64 0), (.int .i64 0), (.int .i64 0), (.int .i64 0), (.int .i64 0), (.int .i64 0), (.int .i64 0), (.int .i64 0), (.int .i64 0)] [(0, 1, (.c (.int .i64 2))), (1, 1, (.c (.int .i64 5))), (2, 1, (.c (.int .i64 7))), (3, 1, (.c (.int .i64 10))), (4, 1, (.c (.int .i64 13))), (5, 1, (.c (.int .i64 15))), (6, 1, (.c (.int .i64 18))), (7, 1, (.c (.int .i64 21))), (8, 1, (.c (.int .i64 24))), (9, 1, (.c (.int .i64 26))), (10, 1, (.c (.int .i64 29)))] 11 1⟩,
   ⟨some 4, none, false, .bslice [(.int .i64 0), (.int .i64 0), (.int .i64 0), (.int .i64 0), (.int .i64 0), (.int .i64 0), (.int .i64 0), (.int .i64 0), (.int .i64 0), (.int .i64 0), (.int .i64 0)] [(0, 1, (.c (.int .i64 2))), (1, 1, (.c (.int .i64 5))), (2, 1, (.c (.int .i64 7))), (3, 1, (.c (.int .i64 10))), (4, 1, (.c (.int .i64 13))), (5, 1, (.c (.int .i64 16))), (6, 1, (.c (.int .i64 18))), (7, 1, (.c (.int .i64 21))), (8, 1, (.c (.int .i64 24))), (9, 1, (.c (.int .i64 26))), (10, 1, (.c (.int .i64 29)))] 11 1⟩,
   ⟨some 5, none, false, .bslice [(.int .i64 0), (.int .i64 0), (.int .i64 0), (.int .i64 0), (.int .i64 0), (.int .i64 0), (.int .i64 0), (.int .i64 0), (.int .i64 0), (.int .i64 0), (.int .i64 0)] [(0, 1, (.c (.int .i64 2))), (1, 1, (.c (.int .i64 5))), (2, 1, (.c (.int .i64 8))), (3, 1, (.c (.int .i64 10))), (4, 1, (.c (.int .i64 13))), (5, 1, (.c (.int .i64 16))), (6, 1, (.c (.int .i64 19))), (7, 1, (.c (.int .i64 21))), (8, 1, (.c (.int .i64 24))), (9, 1, (.c (.int .i64 27))), (10, 1, (.c (.int .i64 29)))] 11 1⟩,
   ⟨some 6, none, false, .bslice [(.int .i64 0), (.int .i64 0), (.int .i64 0), (.int .i64 0), (.int .i64 0), (.int .i64 0), (.int .i64 0), (.int .i64 0), (.int .i64 0), (.int .i64 0), (.int .i64 0)] [(0, 1, (.c (.int .i64 2))), (1, 1, (.c (.int .i64 5))), (2, 1, (.c (.int .i64 8))), (3, 1, (.c (.int .i64 11))), (4, 1, (.c (.int .i64 13))), (5, 1, (.c (.int .i64 16))), (6, 1, (.c (.int .i64 19))), (7, 1, (.c (.int .i64 21))), (8, 1, (.c (.int .i64 24))), (9, 1, (.c (.int .i64 27))), (10, 1, (.c (.int .i64 30)))] 11 1⟩,
   ⟨some 7, none, false, .bslice [.nilSl, .nilSl, .nilSl, .nilSl] [(0, 1, (.t 3)), (1, 1, (.t 4)), (2, 1, (.t 5)), (3, 1, (.t 6))] 4 1⟩,
   ⟨some 8, none, false, .mv (.t 0)⟩,
   ⟨some 9, none, false, .bin .sub (.t 8) (.c (.int .i64 1))⟩,
   ⟨some 10, none, false, .idxaddr none 1 (.t 7) (.t 9)⟩,
   ⟨some 11, none, false, .load false 1 (.t 10)⟩,
   ⟨some 2, none, false, .mv (.t 11)⟩])
 .ret))⟩
/-- civiltime/islamic.place -/
def af241 : AFun := ⟨7, true, [.tmp 2],
 (.seq (.region false [0] [] [⟨some 2, none, false, .mv (.c (.int .i64 0))⟩])
 (.seq (.region false [2] [] [⟨some 3, none, false, .mv (.t 0)⟩,
   ⟨some 4, none, false, .bin .sub (.t 3) (.c (.int .i64 1))⟩,
   ⟨some 5, none, false, .bin .rem (.t 4) (.c (.int .i64 30))⟩,
   ⟨some 6, none, false, .bin .add (.t 5) (.c (.int .i64 1))⟩,
   ⟨some 2, none, false, .mv (.t 6)⟩])
 .ret))⟩
/-- civiltime/islamic.Length -/
def af242 : AFun := ⟨37, true, [.tmp 6],
 (.seq (.region false [0, 1, 2] [] [⟨some 6, none, false, .mv (.c (.int .i64 0))⟩])
 (.seq (.block 0 (.seq (.region false [0, 1, 2, 7] [] [⟨some 8, none, false, .mv (.t 0)⟩,
    ⟨some 9, none, false, .call (.f 210) [(.t 8)]⟩,
    ⟨some 10, none, false, .un .not (.t 9)⟩,
    ⟨some 11, none, false, .mv (.t 10)⟩,
    ⟨some 12, some (11, false), false, .mv (.t 1)⟩,
    ⟨some 13, some (11, false), false, .call (.f 269) [(.t 12)]⟩,
    ⟨some 14, some (11, false), false, .un .not (.t 13)⟩,
    ⟨some 15, none, false, .pick (.t 11) (.c (.bool true)) (.t 14)⟩,
    ⟨some 16, none, false, .mv (.t 15)⟩,
    ⟨some 17, some (16, false), false, .mv (.t 2)⟩,
    ⟨some 18, some (16, false), false, .bin .lss (.t 17) (.c (.int .i64 1))⟩,
    ⟨some 19, none, false, .pick (.t 16) (.c (.bool true)) (.t 18)⟩,
    ⟨some 20, none, false, .mv (.t 19)⟩,
    ⟨some 21, some (20, false), false, .mv (.t 2)⟩,
    ⟨some 22, some (20, false), false, .bin .gtr (.t 21) (.c (.int .i64 12))⟩,
    ⟨some 23, none, false, .pick (.t 20) (.c (.bool true)) (.t 22)⟩,
    ⟨some 7, none, false, .mv (.t 23)⟩])
  (.cond (.t 7)
   (.seq (.region false [6] [] [⟨some 6, none, false, .mv (.c (.int .i64 0))⟩])
   .ret)
   (.seq (.region false [24] [] [⟨some 25, none, false, .mv (.t 2)⟩,
     ⟨some 26, none, false, .bin .rem (.t 25) (.c (.int .i64 2))⟩,
     ⟨some 27, none, false, .bin .eql (.t 26) (.c (.int .i64 1))⟩,
     ⟨some 28, none, false, .mv (.t 27)⟩,
     ⟨some 29, some (28, false), false, .mv (.t 2)⟩,
     ⟨some 30, some (28, false), false, .bin .eql (.t 29) (.c (.int .i64 12))⟩,
     ⟨some 31, some (28, false), false, .mv (.t 30)⟩,
     ⟨some 32, some (31, true), false, .mv (.t 0)⟩,
     ⟨some 33, some (31, true), false, .mv (.t 1)⟩,
     ⟨some 34, some (31, true), false, .call (.f 270) [(.t 32), (.t 33)]⟩,
     ⟨some 35, some (28, false), false, .pick (.t 31) (.t 34) (.c (.bool false))⟩,
     ⟨some 36, none, false, .pick (.t 28) (.c (.bool true)) (.t 35)⟩,
     ⟨some 24, none, false, .mv (.t 36)⟩])
   (.cond (.t 24)
    (.seq (.region false [6] [] [⟨some 6, none, false, .mv (.c (.int .i64 30))⟩])
    .ret)
    .skip)))))
 (.seq (.region false [6] [] [⟨some 6, none, false, .mv (.c (.int .i64 29))⟩])
 .ret)))⟩
/-- civiltime/islamic.before -/
def af243 : AFun := ⟨9, true, [.tmp 2],
 (.seq (.region false [0] [] [⟨some 2, none, false, .mv (.c (.int .i64 0))⟩])
 (.seq (.region false [2] [] [⟨some 3, none, false, .mv (.t 0)⟩,
   ⟨some 4, none, false, .bin .sub (.t 3) (.c (.int .i64 1))⟩,
   ⟨some 5, none, false, .bin .mul (.c (.int .i64 29)) (.t 4)⟩,
   ⟨some 6, none, false, .mv (.t 0)⟩,
   ⟨some 7, none, false, .bin .quo (.t 6) (.c (.int .i64 2))⟩,
   ⟨some 8, none, false, .bin .add (.t 5) (.t 7)⟩,
   ⟨some 2, none, false, .mv (.t 8)⟩])
 .ret))⟩
def af244L0 : ACode := .loop [0, 2, 3]
 (.seq (.seq (.region false [0, 2, 3, 16] [] [⟨some 12, none, false, .mv (.t 3)⟩,
   ⟨some 13, none, false, .bin .add (.t 12) (.c (.int .i64 1))⟩,
   ⟨some 14, none, false, .call (.f 271) [(.t 13)]⟩,
   ⟨some 15, none, false, .mv (.t 0)⟩,
   ⟨some 16, none, false, .bin .leq (.t 14) (.t 15)⟩])
 (.cond (.t 16)
  .skip
  (.exit 0)))
 (.block 1 (.region false [0, 2, 3] [] [⟨some 17, none, false, .mv (.t 3)⟩,
    ⟨some 18, none, false, .bin .add (.t 17) (.c (.int .i64 1))⟩,
    ⟨some 3, none, false, .mv (.t 18)⟩])))
def af244L1 : ACode := .loop [2, 3, 4, 24, 25, 26]
 (.seq (.region false [2, 3, 4, 24, 25, 26, 27] [] [⟨some 27, none, false, .bin .lss (.t 26) (.t 25)⟩])
 (.seq (.cond (.t 27)
  .skip
  (.exit 2))
 (.seq (.block 3 (.seq (.region false [2, 3, 4, 6, 24, 25, 26] [] [⟨some 28, none, false, .idxaddr none 1 (.t 24) (.t 26)⟩,
    ⟨some 29, none, false, .load false 1 (.t 28)⟩,
    ⟨some 6, none, false, .mv (.t 29)⟩])
  (.seq (.region false [2, 3, 4, 6, 7, 24, 25, 26] [] [⟨some 30, none, false, .mv (.t 3)⟩,
    ⟨some 31, none, false, .mv (.t 6)⟩,
    ⟨some 32, none, false, .call (.f 273) [(.t 30), (.t 31)]⟩,
    ⟨some 7, none, false, .mv (.t 32)⟩])
  (.seq (.seq (.region false [2, 3, 4, 6, 7, 24, 25, 26, 35] [] [⟨some 33, none, false, .mv (.t 4)⟩,
    ⟨some 34, none, false, .mv (.t 7)⟩,
    ⟨some 35, none, false, .bin .lss (.t 33) (.t 34)⟩])
  (.cond (.t 35)
   (.seq (.region false [2] [] [⟨some 36, none, false, .mv (.t 3)⟩,
     ⟨some 37, none, false, .mv (.t 6)⟩,
     ⟨some 38, none, false, .mv (.t 4)⟩,
     ⟨some 39, none, false, .bin .add (.t 38) (.c (.int .i64 1))⟩,
     ⟨some 40, none, false, .build [(.int .i64 0), (.int .i64 0), (.int .i64 0)] [(0, 1, (.t 36)), (1, 1, (.t 37)), (2, 1, (.t 39))]⟩,
     ⟨none, none, false, .store 3 (.t 2) (.t 40)⟩])
   .ret)
   .skip))
  (.region false [2, 3, 4, 24, 25, 26] [] [⟨some 41, none, false, .mv (.t 4)⟩,
    ⟨some 42, none, false, .mv (.t 7)⟩,
    ⟨some 43, none, false, .bin .sub (.t 41) (.t 42)⟩,
    ⟨some 4, none, false, .mv (.t 43)⟩])))))
 (.region false [2, 3, 4, 24, 25, 26] [] [⟨some 44, none, false, .bin .add (.t 26) (.c (.int .i64 1))⟩,
   ⟨some 26, none, false, .mv (.t 44)⟩]))))
/-- civiltime/hebrew.date -/
def af244 : AFun := ⟨46, true, [.cell 2 true 3],
 (.seq (.region false [0, 2] [] [⟨some 2, none, false, .new [(.int .i64 0), (.int .i64 0), (.int .i64 0)]⟩])
 (.seq (.region false [0, 2, 3] [] [⟨some 8, none, false, .mv (.t 0)⟩,
   ⟨some 9, none, false, .bin .sub (.t 8) (.c (.int .i64 (-2092590)))⟩,
   ⟨some 10, none, false, .bin .quo (.t 9) (.c (.int .i64 366))⟩,
   ⟨some 11, none, false, .bi .max [(.c (.int .i64 1)), (.t 10)]⟩,
   ⟨some 3, none, false, .mv (.t 11)⟩])
 (.seq (.block 0 af244L0)
 (.seq (.region false [2, 3, 4] [] [⟨some 19, none, false, .mv (.t 0)⟩,
   ⟨some 20, none, false, .mv (.t 3)⟩,
   ⟨some 21, none, false, .call (.f 271) [(.t 20)]⟩,
   ⟨some 22, none, false, .bin .sub (.t 19) (.t 21)⟩,
   ⟨some 4, none, false, .mv (.t 22)⟩])
 (.seq (.seq (.region false [2, 3, 4, 24, 25, 26] [] [⟨some 23, none, false, .mv (.t 3)⟩,
   ⟨some 24, none, false, .call (.f 272) [(.t 23)]⟩,
   ⟨some 25, none, false, .bi (.len 1) [(.t 24)]⟩,
   ⟨some 26, none, false, .mv (.c (.int .i64 0))⟩])
 (.block 2 af244L1))
 (.seq (.region false [2] [] [⟨some 45, none, false, .build [(.int .i64 0), (.int .i64 0), (.int .i64 0)] []⟩,
   ⟨none, none, false, .store 3 (.t 2) (.t 45)⟩])
 .ret))))))⟩
def af245L0 : ACode := .loop [0, 1, 5, 6]
 (.seq (.seq (.region false [0, 1, 5, 6, 8] [] [⟨some 7, none, false, .mv (.t 6)⟩,
   ⟨some 8, none, false, .bin .leq (.t 7) (.c (.int .i64 12))⟩])
 (.cond (.t 8)
  .skip
  (.exit 0)))
 (.seq (.block 1 (.region false [0, 1, 5, 6] [] [⟨some 11, none, false, .mv (.t 5)⟩,
    ⟨some 12, none, false, .mv (.t 0)⟩,
    ⟨some 13, none, false, .mv (.t 1)⟩,
    ⟨some 14, none, false, .mv (.t 6)⟩,
    ⟨some 15, none, false, .call (.f 217) [(.t 12), (.t 13), (.t 14)]⟩,
    ⟨some 16, none, false, .bin .add (.t 11) (.t 15)⟩,
    ⟨some 5, none, false, .mv (.t 16)⟩]))
 (.region false [0, 1, 5, 6] [] [⟨some 9, none, false, .mv (.t 6)⟩,
   ⟨some 10, none, false, .bin .add (.t 9) (.c (.int .i64 1))⟩,
   ⟨some 6, none, false, .mv (.t 10)⟩])))
/-- civiltime/civiltimeref06.YearLength -/
def af245 : AFun := ⟨18, true, [.tmp 4],
 (.seq (.region false [0, 1] [] [⟨some 4, none, false, .mv (.c (.int .i64 0))⟩])
 (.seq (.region false [0, 1, 5] [] [⟨some 5, none, false, .mv (.c (.int .i64 0))⟩])
 (.seq (.seq (.region false [0, 1, 5, 6] [] [⟨some 6, none, false, .mv (.c (.int .i64 1))⟩])
 (.block 0 af245L0))
 (.seq (.region false [4] [] [⟨some 17, none, false, .mv (.t 5)⟩,
   ⟨some 4, none, false, .mv (.t 17)⟩])
 .ret))))⟩
/-- civiltime/civiltimeref06.year -/
def af246 : AFun := ⟨15, true, [.tmp 4],
 (.seq (.region false [0, 1] [] [⟨some 4, none, false, .mv (.c (.bool false))⟩])
 (.seq (.region false [4] [] [⟨some 5, none, false, .mv (.t 0)⟩,
   ⟨some 6, none, false, .call (.f 168) [(.t 5)]⟩,
   ⟨some 7, none, false, .mv (.t 6)⟩,
   ⟨some 8, some (7, true), false, .mv (.t 1)⟩,
   ⟨some 9, some (7, true), false, .bin .geq (.t 8) (.c (.int .i64 1))⟩,
   ⟨some 10, none, false, .pick (.t 7) (.t 9) (.c (.bool false))⟩,
   ⟨some 11, none, false, .mv (.t 10)⟩,
   ⟨some 12, some (11, true), false, .mv (.t 1)⟩,
   ⟨some 13, some (11, true), false, .bin .leq (.t 12) (.c (.int .i64 9600))⟩,
   ⟨some 14, none, false, .pick (.t 11) (.t 13) (.c (.bool false))⟩,
   ⟨some 4, none, false, .mv (.t 14)⟩])
 .ret))⟩
def af247L0 : ACode := .loop [1, 5, 6]
 (.seq (.seq (.region false [1, 5, 6, 16] [] [⟨some 13, none, false, .mv (.t 6)⟩,
   ⟨some 14, none, false, .mv (.t 5)⟩,
   ⟨some 15, none, false, .bi (.len 1) [(.t 14)]⟩,
   ⟨some 16, none, false, .bin .lss (.t 13) (.t 15)⟩])
 (.cond (.t 16)
  .skip
  (.exit 0)))
 (.seq (.block 1 (.seq (.region false [1, 5, 6, 27] [] [⟨some 19, none, false, .mv (.t 1)⟩,
    ⟨some 20, none, false, .bin .sub (.t 19) (.c (.int .i64 1))⟩,
    ⟨some 21, none, false, .bin .rem (.t 20) (.c (.int .i64 30))⟩,
    ⟨some 22, none, false, .bin .add (.t 21) (.c (.int .i64 1))⟩,
    ⟨some 23, none, false, .mv (.t 5)⟩,
    ⟨some 24, none, false, .mv (.t 6)⟩,
    ⟨some 25, none, false, .idxaddr none 1 (.t 23) (.t 24)⟩,
    ⟨some 26, none, false, .load false 1 (.t 25)⟩,
    ⟨some 27, none, false, .bin .eql (.t 22) (.t 26)⟩])
  (.cond (.t 27)
   (.seq (.region false [4] [] [⟨some 4, none, false, .mv (.c (.bool true))⟩])
   .ret)
   .skip)))
 (.region false [1, 5, 6] [] [⟨some 17, none, false, .mv (.t 6)⟩,
   ⟨some 18, none, false, .bin .add (.t 17) (.c (.int .i64 1))⟩,
   ⟨some 6, none, false, .mv (.t 18)⟩])))
/-- civiltime/civiltimeref06.Leap -/
def af247 : AFun := ⟨28, true, [.tmp 4],
 (.seq (.region false [0, 1] [] [⟨some 4, none, false, .mv (.c (.bool false))⟩])
 (.seq (.seq (.region false [0, 1, 10] [] [⟨some 7, none, false, .mv (.t 0)⟩,
   ⟨some 8, none, false, .mv (.t 1)⟩,
   ⟨some 9, none, false, .call (.f 246) [(.t 7), (.t 8)]⟩,
   ⟨some 10, none, false, .un .not (.t 9)⟩])
 (.cond (.t 10)
  (.seq (.region false [4] [] [⟨some 4, none, false, .mv (.c (.bool false))⟩])
  .ret)
  .skip))
 (.seq (.region false [1, 5] [] [⟨some 11, none, false, .mv (.t 0)⟩,
   ⟨some 12, none, false, .call (.f 274) [(.t 11)]⟩,
   ⟨some 5, none, false, .mv (.t 12)⟩])
 (.seq (.seq (.region false [1, 5, 6] [] [⟨some 6, none, false, .mv (.c (.int .i64 0))⟩])
 (.block 0 af247L0))
 (.seq (.region false [4] [] [⟨some 4, none, false, .mv (.c (.bool false))⟩])
 .ret)))))⟩
/-- civiltime/civiltimeref07.Months -/
def af248 : AFun := ⟨8, true, [.tmp 2],
 (.seq (.region false [0] [] [⟨some 2, none, false, .mv (.c (.int .i64 0))⟩])
 (.seq (.seq (.region false [0, 5] [] [⟨some 3, none, false, .mv (.t 0)⟩,
   ⟨some 4, none, false, .call (.f 218) [(.t 3)]⟩,
   ⟨some 5, none, false, .un .not (.t 4)⟩])
 (.cond (.t 5)
  (.seq (.region false [2] [] [⟨some 2, none, false, .mv (.c (.int .i64 0))⟩])
  .ret)
  .skip))
 (.seq (.seq (.region false [7] [] [⟨some 6, none, false, .mv (.t 0)⟩,
   ⟨some 7, none, false, .call (.f 250) [(.t 6)]⟩])
 (.cond (.t 7)
  (.seq (.region false [2] [] [⟨some 2, none, false, .mv (.c (.int .i64 13))⟩])
  .ret)
  .skip))
 (.seq (.region false [2] [] [⟨some 2, none, false, .mv (.c (.int .i64 12))⟩])
 .ret))))⟩
/-- civiltime/civiltimeref07.YearLength -/
def af249 : AFun := ⟨12, true, [.tmp 2],
 (.seq (.region false [0] [] [⟨some 2, none, false, .mv (.c (.int .i64 0))⟩])
 (.seq (.seq (.region false [0, 5] [] [⟨some 3, none, false, .mv (.t 0)⟩,
   ⟨some 4, none, false, .call (.f 218) [(.t 3)]⟩,
   ⟨some 5, none, false, .un .not (.t 4)⟩])
 (.cond (.t 5)
  (.seq (.region false [2] [] [⟨some 2, none, false, .mv (.c (.int .i64 0))⟩])
  .ret)
  .skip))
 (.seq (.region false [2] [] [⟨some 6, none, false, .mv (.t 0)⟩,
   ⟨some 7, none, false, .bin .add (.t 6) (.c (.int .i64 1))⟩,
   ⟨some 8, none, false, .call (.f 220) [(.t 7)]⟩,
   ⟨some 9, none, false, .mv (.t 0)⟩,
   ⟨some 10, none, false, .call (.f 220) [(.t 9)]⟩,
   ⟨some 11, none, false, .bin .sub (.t 8) (.t 10)⟩,
   ⟨some 2, none, false, .mv (.t 11)⟩])
 .ret)))⟩
/-- civiltime/civiltimeref07.leap -/
def af250 : AFun := ⟨8, true, [.tmp 2],
 (.seq (.region false [0] [] [⟨some 2, none, false, .mv (.c (.bool false))⟩])
 (.seq (.region false [2] [] [⟨some 3, none, false, .mv (.t 0)⟩,
   ⟨some 4, none, false, .bin .mul (.c (.int .i64 7)) (.t 3)⟩,
   ⟨some 5, none, false, .bin .add (.t 4) (.c (.int .i64 1))⟩,
   ⟨some 6, none, false, .call (.f 275) [(.t 5), (.c (.int .i64 19))]⟩,
   ⟨some 7, none, false, .bin .lss (.t 6) (.c (.int .i64 7))⟩,
   ⟨some 2, none, false, .mv (.t 7)⟩])
 .ret))⟩
/-- civiltime/civiltimeref07.Elapsed -/
def af251 : AFun := ⟨22, true, [.tmp 2],
 (.seq (.region false [0] [] [⟨some 2, none, false, .mv (.c (.int .i64 0))⟩])
 (.seq (.region false [3] [] [⟨some 5, none, false, .mv (.t 0)⟩,
   ⟨some 6, none, false, .call (.f 276) [(.t 5)]⟩,
   ⟨some 3, none, false, .mv (.t 6)⟩])
 (.seq (.region false [4] [] [⟨some 7, none, false, .mv (.t 3)⟩,
   ⟨some 8, none, false, .bin .mul (.c (.int .i64 29)) (.t 7)⟩,
   ⟨some 9, none, false, .mv (.t 3)⟩,
   ⟨some 10, none, false, .bin .mul (.c (.int .i64 13753)) (.t 9)⟩,
   ⟨some 11, none, false, .bin .add (.c (.int .i64 12084)) (.t 10)⟩,
   ⟨some 12, none, false, .call (.f 277) [(.t 11), (.c (.int .i64 25920))]⟩,
   ⟨some 13, none, false, .bin .add (.t 8) (.t 12)⟩,
   ⟨some 4, none, false, .mv (.t 13)⟩])
 (.seq (.seq (.region false [4, 18] [] [⟨some 14, none, false, .mv (.t 4)⟩,
   ⟨some 15, none, false, .bin .add (.t 14) (.c (.int .i64 1))⟩,
   ⟨some 16, none, false, .bin .mul (.c (.int .i64 3)) (.t 15)⟩,
   ⟨some 17, none, false, .call (.f 275) [(.t 16), (.c (.int .i64 7))]⟩,
   ⟨some 18, none, false, .bin .lss (.t 17) (.c (.int .i64 3))⟩])
 (.cond (.t 18)
  (.seq (.region false [2] [] [⟨some 19, none, false, .mv (.t 4)⟩,
    ⟨some 20, none, false, .bin .add (.t 19) (.c (.int .i64 1))⟩,
    ⟨some 2, none, false, .mv (.t 20)⟩])
  .ret)
  .skip))
 (.seq (.region false [2] [] [⟨some 21, none, false, .mv (.t 4)⟩,
   ⟨some 2, none, false, .mv (.t 21)⟩])
 .ret)))))⟩
/-- internal/stringslite.CutPrefix -/
def af252 : AFun := ⟨15, true, [.tmp 4, .tmp 5],
 (.seq (.region false [0, 1] [] [⟨some 4, none, false, .mv (.c (.str []))⟩,
   ⟨some 5, none, false, .mv (.c (.bool false))⟩])
 (.seq (.seq (.region false [0, 1, 9] [] [⟨some 6, none, false, .mv (.t 0)⟩,
   ⟨some 7, none, false, .mv (.t 1)⟩,
   ⟨some 8, none, false, .call (.f 138) [(.t 6), (.t 7)]⟩,
   ⟨some 9, none, false, .un .not (.t 8)⟩])
 (.cond (.t 9)
  (.seq (.region false [4, 5] [] [⟨some 10, none, false, .mv (.t 0)⟩,
    ⟨some 4, none, false, .mv (.t 10)⟩,
    ⟨some 5, none, false, .mv (.c (.bool false))⟩])
  .ret)
  .skip))
 (.seq (.region false [4, 5] [] [⟨some 11, none, false, .mv (.t 0)⟩,
   ⟨some 12, none, false, .mv (.t 1)⟩,
   ⟨some 13, none, false, .bi (.len 0) [(.t 12)]⟩,
   ⟨some 14, none, false, .slice .str (.t 11) (some (.t 13)) none none⟩,
   ⟨some 4, none, false, .mv (.t 14)⟩,
   ⟨some 5, none, false, .mv (.c (.bool true))⟩])
 .ret)))⟩
/-- slices.order2CmpFunc[civiltime/api.HolidayDay] -/
def af253 : AFun := ⟨32, true, [.tmp 10, .tmp 11],
 (.seq (.region false [0, 1, 2, 3, 4] [] [⟨some 10, none, false, .mv (.c (.int .i64 0))⟩,
   ⟨some 11, none, false, .mv (.c (.int .i64 0))⟩])
 (.seq (.seq (.region true [1, 2, 3, 22] [] [⟨some 12, none, false, .mv (.t 4)⟩,
   ⟨some 13, none, false, .mv (.t 0)⟩,
   ⟨some 14, none, false, .mv (.t 2)⟩,
   ⟨some 15, none, false, .idxaddr none 2 (.t 13) (.t 14)⟩,
   ⟨some 16, none, false, .load true 2 (.t 15)⟩,
   ⟨some 17, none, false, .mv (.t 0)⟩,
   ⟨some 18, none, false, .mv (.t 1)⟩,
   ⟨some 19, none, false, .idxaddr none 2 (.t 17) (.t 18)⟩,
   ⟨some 20, none, false, .load true 2 (.t 19)⟩,
   ⟨some 21, none, false, .call (.t 12) [(.t 16), (.t 20)]⟩,
   ⟨some 22, none, false, .bin .lss (.t 21) (.c (.int .i64 0))⟩])
 (.cond (.t 22)
  (.seq (.region false [1, 2] [] [⟨some 23, none, false, .mv (.t 3)⟩,
    ⟨some 24, none, false, .nilck (.t 23)⟩,
    ⟨some 25, none, false, .load false 1 (.t 24)⟩,
    ⟨some 26, none, false, .bin .add (.t 25) (.c (.int .i64 1))⟩,
    ⟨some 27, none, false, .nilck (.t 23)⟩,
    ⟨none, none, false, .store 1 (.t 27) (.t 26)⟩])
  (.seq (.region false [10, 11] [] [⟨some 28, none, false, .mv (.t 2)⟩,
    ⟨some 29, none, false, .mv (.t 1)⟩,
    ⟨some 10, none, false, .mv (.t 28)⟩,
    ⟨some 11, none, false, .mv (.t 29)⟩])
  .ret))
  .skip))
 (.seq (.region false [10, 11] [] [⟨some 30, none, false, .mv (.t 1)⟩,
   ⟨some 31, none, false, .mv (.t 2)⟩,
   ⟨some 10, none, false, .mv (.t 30)⟩,
   ⟨some 11, none, false, .mv (.t 31)⟩])
 .ret)))⟩
def af258L0 : ACode := .loop [0, 4, 5]
 (.seq (.seq (.region false [0, 4, 5, 12] [] [⟨some 9, none, false, .mv (.t 5)⟩,
   ⟨some 10, none, false, .mv (.t 0)⟩,
   ⟨some 11, none, false, .bi (.len 0) [(.t 10)]⟩,
   ⟨some 12, none, false, .bin .lss (.t 9) (.t 11)⟩])
 (.cond (.t 12)
  .skip
  (.exit 0)))
 (.seq (.block 1 (.region false [0, 4, 5] [] [⟨some 15, none, false, .mv (.t 4)⟩,
    ⟨some 16, none, false, .bin .mul (.t 15) (.c (.int .u32 16777619))⟩,
    ⟨some 17, none, false, .mv (.t 0)⟩,
    ⟨some 18, none, false, .mv (.t 5)⟩,
    ⟨some 19, none, false, .sidx (.t 17) (.t 18)⟩,
    ⟨some 20, none, false, .conv (.int .u32) (.t 19)⟩,
    ⟨some 21, none, false, .bin .add (.t 16) (.t 20)⟩,
    ⟨some 4, none, false, .mv (.t 21)⟩]))
 (.region false [0, 4, 5] [] [⟨some 13, none, false, .mv (.t 5)⟩,
   ⟨some 14, none, false, .bin .add (.t 13) (.c (.int .i64 1))⟩,
   ⟨some 5, none, false, .mv (.t 14)⟩])))
def af258L1 : ACode := .loop [4, 6, 7, 8]
 (.seq (.seq (.region false [4, 6, 7, 8, 25] [] [⟨some 24, none, false, .mv (.t 8)⟩,
   ⟨some 25, none, false, .bin .gtr (.t 24) (.c (.int .i64 0))⟩])
 (.cond (.t 25)
  .skip
  (.exit 2)))
 (.seq (.block 3 (.seq (.seq (.region false [4, 6, 7, 8, 30] [] [⟨some 28, none, false, .mv (.t 8)⟩,
    ⟨some 29, none, false, .bin .and (.t 28) (.c (.int .i64 1))⟩,
    ⟨some 30, none, false, .bin .neq (.t 29) (.c (.int .i64 0))⟩])
  (.cond (.t 30)
   (.region false [4, 6, 7, 8] [] [⟨some 31, none, false, .mv (.t 6)⟩,
     ⟨some 32, none, false, .mv (.t 7)⟩,
     ⟨some 33, none, false, .bin .mul (.t 31) (.t 32)⟩,
     ⟨some 6, none, false, .mv (.t 33)⟩])
   .skip))
  (.region false [4, 6, 7, 8] [] [⟨some 34, none, false, .mv (.t 7)⟩,
    ⟨some 35, none, false, .mv (.t 7)⟩,
    ⟨some 36, none, false, .bin .mul (.t 34) (.t 35)⟩,
    ⟨some 7, none, false, .mv (.t 36)⟩])))
 (.region false [4, 6, 7, 8] [] [⟨some 26, none, false, .mv (.t 8)⟩,
   ⟨some 27, none, false, .bin .shr (.t 26) (.c (.int .u64 1))⟩,
   ⟨some 8, none, false, .mv (.t 27)⟩])))
/-- internal/bytealg.hashStr[string] -/
def af258 : AFun := ⟨39, true, [.tmp 2, .tmp 3],
 (.seq (.region false [0] [] [⟨some 2, none, false, .mv (.c (.int .u32 0))⟩,
   ⟨some 3, none, false, .mv (.c (.int .u32 0))⟩])
 (.seq (.region false [0, 4] [] [⟨some 4, none, false, .mv (.c (.int .u32 0))⟩])
 (.seq (.seq (.region false [0, 4, 5] [] [⟨some 5, none, false, .mv (.c (.int .i64 0))⟩])
 (.block 0 af258L0))
 (.seq (.region false [0, 4, 6, 7] [] [⟨some 6, none, false, .mv (.c (.int .u32 1))⟩,
   ⟨some 7, none, false, .mv (.c (.int .u32 16777619))⟩])
 (.seq (.seq (.region false [4, 6, 7, 8] [] [⟨some 22, none, false, .mv (.t 0)⟩,
   ⟨some 23, none, false, .bi (.len 0) [(.t 22)]⟩,
   ⟨some 8, none, false, .mv (.t 23)⟩])
 (.block 2 af258L1))
 (.seq (.region false [2, 3] [] [⟨some 37, none, false, .mv (.t 4)⟩,
   ⟨some 38, none, false, .mv (.t 6)⟩,
   ⟨some 2, none, false, .mv (.t 37)⟩,
   ⟨some 3, none, false, .mv (.t 38)⟩])
 .ret))))))⟩
/-- civiltime/islamic.year -/
def af269 : AFun := ⟨9, true, [.tmp 2],
 (.seq (.region false [0] [] [⟨some 2, none, false, .mv (.c (.bool false))⟩])
 (.seq (.region false [2] [] [⟨some 3, none, false, .mv (.t 0)⟩,
   ⟨some 4, none, false, .bin .geq (.t 3) (.c (.int .i64 1))⟩,
   ⟨some 5, none, false, .mv (.t 4)⟩,
   ⟨some 6, some (5, true), false, .mv (.t 0)⟩,
   ⟨some 7, some (5, true), false, .bin .leq (.t 6) (.c (.int .i64 9600))⟩,
   ⟨some 8, none, false, .pick (.t 5) (.t 7) (.c (.bool false))⟩,
   ⟨some 2, none, false, .mv (.t 8)⟩])
 .ret))⟩
/-- civiltime/islamic.Leap -/
def af270 : AFun := ⟨18, true, [.tmp 4],
 (.seq (.region false [0, 1] [] [⟨some 4, none, false, .mv (.c (.bool false))⟩])
 (.seq (.region false [4] [] [⟨some 5, none, false, .mv (.t 0)⟩,
   ⟨some 6, none, false, .call (.f 210) [(.t 5)]⟩,
   ⟨some 7, none, false, .mv (.t 6)⟩,
   ⟨some 8, some (7, true), false, .mv (.t 1)⟩,
   ⟨some 9, some (7, true), false, .call (.f 269) [(.t 8)]⟩,
   ⟨some 10, none, false, .pick (.t 7) (.t 9) (.c (.bool false))⟩,
   ⟨some 11, none, false, .mv (.t 10)⟩,
   ⟨some 12, some (11, true), false, .mv (.t 0)⟩,
   ⟨some 13, some (11, true), false, .call (.f 240) [(.t 12)]⟩,
   ⟨some 14, some (11, true), false, .mv (.t 1)⟩,
   ⟨some 15, some (11, true), false, .call (.f 241) [(.t 14)]⟩,
   ⟨some 16, some (11, true), false, .call (.f 284) [(.t 13), (.t 15)]⟩,
   ⟨some 17, none, false, .pick (.t 11) (.t 16) (.c (.bool false))⟩,
   ⟨some 4, none, false, .mv (.t 17)⟩])
 .ret))⟩
/-- civiltime/hebrew.begin -/
def af271 : AFun := ⟨32, true, [.tmp 2],
 (.seq (.region false [0] [] [⟨some 2, none, false, .mv (.c (.int .i64 0))⟩])
 (.seq (.region false [3, 4, 5] [] [⟨some 7, none, false, .mv (.t 0)⟩,
   ⟨some 8, none, false, .bin .sub (.t 7) (.c (.int .i64 1))⟩,
   ⟨some 9, none, false, .call (.f 285) [(.t 8)]⟩,
   ⟨some 10, none, false, .mv (.t 0)⟩,
   ⟨some 11, none, false, .call (.f 285) [(.t 10)]⟩,
   ⟨some 12, none, false, .mv (.t 0)⟩,
   ⟨some 13, none, false, .bin .add (.t 12) (.c (.int .i64 1))⟩,
   ⟨some 14, none, false, .call (.f 285) [(.t 13)]⟩,
   ⟨some 3, none, false, .mv (.t 9)⟩,
   ⟨some 4, none, false, .mv (.t 11)⟩,
   ⟨some 5, none, false, .mv (.t 14)⟩])
 (.seq (.region false [3, 4, 5, 6] [] [⟨some 15, none, false, .mv (.t 4)⟩,
   ⟨some 16, none, false, .bin .add (.c (.int .i64 (-2092590))) (.t 15)⟩,
   ⟨some 6, none, false, .mv (.t 16)⟩])
 (.seq (.block 0 (.seq (.region false [3, 4, 6, 17] [] [⟨some 18, none, false, .mv (.t 5)⟩,
    ⟨some 19, none, false, .mv (.t 4)⟩,
    ⟨some 20, none, false, .bin .sub (.t 18) (.t 19)⟩,
    ⟨some 21, none, false, .bin .eql (.t 20) (.c (.int .i64 356))⟩,
    ⟨some 17, none, false, .mv (.t 21)⟩])
  (.cond (.t 17)
   (.seq (.region false [2] [] [⟨some 22, none, false, .mv (.t 6)⟩,
     ⟨some 23, none, false, .bin .add (.t 22) (.c (.int .i64 2))⟩,
     ⟨some 2, none, false, .mv (.t 23)⟩])
   .ret)
   (.seq (.region false [6, 24] [] [⟨some 25, none, false, .mv (.t 4)⟩,
     ⟨some 26, none, false, .mv (.t 3)⟩,
     ⟨some 27, none, false, .bin .sub (.t 25) (.t 26)⟩,
     ⟨some 28, none, false, .bin .eql (.t 27) (.c (.int .i64 382))⟩,
     ⟨some 24, none, false, .mv (.t 28)⟩])
   (.cond (.t 24)
    (.seq (.region false [2] [] [⟨some 29, none, false, .mv (.t 6)⟩,
      ⟨some 30, none, false, .bin .add (.t 29) (.c (.int .i64 1))⟩,
      ⟨some 2, none, false, .mv (.t 30)⟩])
    .ret)
    .skip)))))
 (.seq (.region false [2] [] [⟨some 31, none, false, .mv (.t 6)⟩,
   ⟨some 2, none, false, .mv (.t 31)⟩])
 .ret)))))⟩
def af272L0 : ACode := .loop [0, 3, 4]
 (.seq (.seq (.region false [0, 3, 4, 9] [] [⟨some 6, none, false, .mv (.t 4)⟩,
   ⟨some 7, none, false, .mv (.t 0)⟩,
   ⟨some 8, none, false, .call (.f 286) [(.t 7)]⟩,
   ⟨some 9, none, false, .bin .leq (.t 6) (.t 8)⟩])
 (.cond (.t 9)
  .skip
  (.exit 0)))
 (.seq (.block 1 (.region false [0, 3, 4] [] [⟨some 12, none, false, .mv (.t 3)⟩,
    ⟨some 13, none, false, .mv (.t 4)⟩,
    ⟨some 14, none, false, .bslice [(.int .i64 0)] [(0, 1, (.t 13))] 1 1⟩,
    ⟨some 15, none, false, .bi (.append 1 8) [(.t 12), (.t 14)]⟩,
    ⟨some 3, none, false, .mv (.t 15)⟩]))
 (.region false [0, 3, 4] [] [⟨some 10, none, false, .mv (.t 4)⟩,
   ⟨some 11, none, false, .bin .add (.t 10) (.c (.int .i64 1))⟩,
   ⟨some 4, none, false, .mv (.t 11)⟩])))
def af272L1 : ACode := .loop [3, 16]
 (.seq (.region false [3, 16, 17] [] [⟨some 17, none, false, .bin .lss (.t 16) (.c (.int .i64 6))⟩])
 (.seq (.cond (.t 17)
  .skip
  (.exit 2))
 (.seq (.block 3 (.seq (.region false [3, 5, 16] [] [⟨some 18, none, false, .mv (.t 16)⟩,
    ⟨some 5, none, false, .mv (.t 18)⟩])
  (.region false [3, 16] [] [⟨some 19, none, false, .mv (.t 3)⟩,
    ⟨some 20, none, false, .mv (.t 5)⟩,
    ⟨some 21, none, false, .bin .add (.t 20) (.c (.int .i64 1))⟩,
    ⟨some 22, none, false, .bslice [(.int .i64 0)] [(0, 1, (.t 21))] 1 1⟩,
    ⟨some 23, none, false, .bi (.append 1 8) [(.t 19), (.t 22)]⟩,
    ⟨some 3, none, false, .mv (.t 23)⟩])))
 (.region false [3, 16] [] [⟨some 24, none, false, .bin .add (.t 16) (.c (.int .i64 1))⟩,
   ⟨some 16, none, false, .mv (.t 24)⟩]))))
/-- civiltime/hebrew.order -/
def af272 : AFun := ⟨26, true, [.tmp 2],
 (.seq (.region false [0] [] [⟨some 2, none, false, .mv (.c .nilSl)⟩])
 (.seq (.region false [0, 3] [] [⟨some 3, none, false, .mv (.c .nilSl)⟩])
 (.seq (.seq (.region false [0, 3, 4] [] [⟨some 4, none, false, .mv (.c (.int .i64 7))⟩])
 (.block 0 af272L0))
 (.seq (.seq (.region false [3, 16] [] [⟨some 16, none, false, .mv (.c (.int .i64 0))⟩])
 (.block 2 af272L1))
 (.seq (.region false [2] [] [⟨some 25, none, false, .mv (.t 3)⟩,
   ⟨some 2, none, false, .mv (.t 25)⟩])
 .ret)))))⟩
/-- civiltime/hebrew.Length -/
def af273 : AFun := ⟨37, true, [.tmp 4],
 (.seq (.region false [0, 1] [] [⟨some 4, none, false, .mv (.c (.int .i64 0))⟩])
 (.seq (.seq (.region false [0, 1, 12] [] [⟨some 5, none, false, .mv (.t 1)⟩,
   ⟨some 6, none, false, .bin .lss (.t 5) (.c (.int .i64 1))⟩,
   ⟨some 7, none, false, .mv (.t 6)⟩,
   ⟨some 8, some (7, false), false, .mv (.t 1)⟩,
   ⟨some 9, some (7, false), false, .mv (.t 0)⟩,
   ⟨some 10, some (7, false), false, .call (.f 286) [(.t 9)]⟩,
   ⟨some 11, some (7, false), false, .bin .gtr (.t 8) (.t 10)⟩,
   ⟨some 12, none, false, .pick (.t 7) (.c (.bool true)) (.t 11)⟩])
 (.cond (.t 12)
  (.seq (.region false [4] [] [⟨some 4, none, false, .mv (.c (.int .i64 0))⟩])
  .ret)
  .skip))
 (.seq (.seq (.region false [0, 13] [] [⟨some 13, none, false, .mv (.t 1)⟩])
 (.block 0 (.seq (.seq (.region false [0, 13, 14] [] [⟨some 15, none, false, .bin .eql (.t 13) (.c (.int .i64 2))⟩,
    ⟨some 14, none, false, .mv (.t 15)⟩])
  (.cond (.t 14)
   .skip
   (.seq (.region false [0, 13, 14] [] [⟨some 16, none, false, .bin .eql (.t 13) (.c (.int .i64 4))⟩,
     ⟨some 14, none, false, .mv (.t 16)⟩])
   (.cond (.t 14)
    .skip
    (.seq (.region false [0, 13, 14] [] [⟨some 17, none, false, .bin .eql (.t 13) (.c (.int .i64 6))⟩,
      ⟨some 14, none, false, .mv (.t 17)⟩])
    (.cond (.t 14)
     .skip
     (.seq (.region false [0, 13, 14] [] [⟨some 18, none, false, .bin .eql (.t 13) (.c (.int .i64 10))⟩,
       ⟨some 14, none, false, .mv (.t 18)⟩])
     (.cond (.t 14)
      .skip
      (.region false [0, 13, 14] [] [⟨some 19, none, false, .bin .eql (.t 13) (.c (.int .i64 13))⟩,
        ⟨some 14, none, false, .mv (.t 19)⟩])))))))))
  (.cond (.t 14)
   (.seq (.region false [4] [] [⟨some 4, none, false, .mv (.c (.int .i64 29))⟩])
   .ret)
   (.seq (.region false [0, 13, 20] [] [⟨some 21, none, false, .bin .eql (.t 13) (.c (.int .i64 12))⟩,
     ⟨some 20, none, false, .mv (.t 21)⟩])
   (.cond (.t 20)
    (.seq (.region false [24] [] [⟨some 22, none, false, .mv (.t 0)⟩,
      ⟨some 23, none, false, .call (.f 287) [(.t 22)]⟩,
      ⟨some 24, none, false, .un .not (.t 23)⟩])
    (.cond (.t 24)
     (.seq (.region false [4] [] [⟨some 4, none, false, .mv (.c (.int .i64 29))⟩])
     .ret)
     .skip))
    (.seq (.region false [0, 13, 25] [] [⟨some 26, none, false, .bin .eql (.t 13) (.c (.int .i64 8))⟩,
      ⟨some 25, none, false, .mv (.t 26)⟩])
    (.cond (.t 25)
     (.seq (.region false [30] [] [⟨some 27, none, false, .mv (.t 0)⟩,
       ⟨some 28, none, false, .call (.f 288) [(.t 27)]⟩,
       ⟨some 29, none, false, .bin .rem (.t 28) (.c (.int .i64 10))⟩,
       ⟨some 30, none, false, .bin .neq (.t 29) (.c (.int .i64 5))⟩])
     (.cond (.t 30)
      (.seq (.region false [4] [] [⟨some 4, none, false, .mv (.c (.int .i64 29))⟩])
      .ret)
      .skip))
     (.seq (.region false [0, 31] [] [⟨some 32, none, false, .bin .eql (.t 13) (.c (.int .i64 9))⟩,
       ⟨some 31, none, false, .mv (.t 32)⟩])
     (.cond (.t 31)
      (.seq (.region false [36] [] [⟨some 33, none, false, .mv (.t 0)⟩,
        ⟨some 34, none, false, .call (.f 288) [(.t 33)]⟩,
        ⟨some 35, none, false, .bin .rem (.t 34) (.c (.int .i64 10))⟩,
        ⟨some 36, none, false, .bin .eql (.t 35) (.c (.int .i64 3))⟩])
      (.cond (.t 36)
       (.seq (.region false [4] [] [⟨some 4, none, false, .mv (.c (.int .i64 29))⟩])
       .ret)
       .skip))
      .skip))))))))))
 (.seq (.region false [4] [] [⟨some 4, none, false, .mv (.c (.int .i64 30))⟩])
 .ret))))⟩
/-- civiltime/civiltimeref06.leaps -/
def af274 : AFun := ⟨16, true, [.tmp 2],
 (.seq (.region false [0] [] [⟨some 2, none, false, .mv (.c .nilSl)⟩])
 (.seq (.seq (.region false [3] [] [⟨some 3, none, false, .mv (.t 0)⟩])
 (.block 0 (.seq (.region false [3, 4] [] [⟨some 5, none, false, .bin .eql (.t 3) (.c (.int .i64 1))⟩,
    ⟨some 4, none, false, .mv (.t 5)⟩])
  (.cond (.t 4)
   (.seq (.region false [2] [] [⟨some 6, none, false, .bslice [(.int .i64 0), (.int .i64 0), (.int .i64 0), (.int .i64 0), (.int .i64 0), (.int .i64 0), (.int .i64 0), (.int .i64 0), (.int .i64 0), (.int .i64 0), (.int .i64 0)] [(0, 1, (.c (.int .i64 2))), (1, 1, (.c (.int .i64 5))), (2, 1, (.c (.int .i64 7))), (3, 1, (.c (.int .i64 10))), (4, 1, (.c (.int .i64 13))), (5, 1, (.c (.int .i64 15))), (6, 1, (.c (.int .i64 18))), (7, 1, (.c (.int .i64 21))), (8, 1, (.c (.int .i64 24))), (9, 1, (.c (.int .i64 26))), (10, 1, (.c (.int .i64 29)))] 11 1⟩,
     ⟨some 2, none, false, .mv (.t 6)⟩])
   .ret)
   (.seq (.region false [3, 7] [] [⟨some 8, none, false, .bin .eql (.t 3) (.c (.int .i64 2))⟩,
     ⟨some 7, none, false, .mv (.t 8)⟩])
   (.cond (.t 7)
    (.seq (.region false [2] [] [⟨some 9, none, false, .bslice [(.int .i64 0), (.int .i64 0), (.int .i64 0), (.int .i64 0), (.int .i64 0), (.int .i64 0), (.int .i64 0), (.int .i64 0), (.int .i64 0), (.int .i64 0), (.int .i64 0)] [(0, 1, (.c (.int .i64 2))), (1, 1, (.c (.int .i64 5))), (2, 1, (.c (.int .i64 7))), (3, 1, (.c (.int .i64 10))), (4, 1, (.c (.int .i64 13))), (5, 1, (.c (.int .i64 16))), (6, 1, (.c (.int .i64 18))), (7, 1, (.c (.int .i64 21))), (8, 1, (.c (.int .i64 24))), (9, 1, (.c (.int .i64 26))), (10, 1, (.c (.int .i64 29)))] 11 1⟩,
      ⟨some 2, none, false, .mv (.t 9)⟩])
    .ret)
    (.seq (.region false [3, 10] [] [⟨some 11, none, false, .bin .eql (.t 3) (.c (.int .i64 3))⟩,
      ⟨some 10, none, false, .mv (.t 11)⟩])
    (.cond (.t 10)
     (.seq (.region false [2] [] [⟨some 12, none, false, .bslice [(.int .i64 0), (.int .i64 0), (.int .i64 0), (.int .i64 0), (.int .i64 0), (.int .i64 0), (.int .i64 0), (.int .i64 0), (.int .i64 0), (.int .i64 0), (.int .i64 0)] [(0, 1, (.c (.int .i64 2))), (1, 1, (.c (.int .i64 5))), (2, 1, (.c (.int .i64 8))), (3, 1, (.c (.int .i64 10))), (4, 1, (.c (.int .i64 13))), (5, 1, (.c (.int .i64 16))), (6, 1, (.c (.int .i64 19))), (7, 1, (.c (.int .i64 21))), (8, 1, (.c (.int .i64 24))), (9, 1, (.c (.int .i64 27))), (10, 1, (.c (.int .i64 29)))] 11 1⟩,
       ⟨some 2, none, false, .mv (.t 12)⟩])
     .ret)
     (.seq (.region false [13] [] [⟨some 14, none, false, .bin .eql (.t 3) (.c (.int .i64 4))⟩,
       ⟨some 13, none, false, .mv (.t 14)⟩])
     (.cond (.t 13)
      (.seq (.region false [2] [] [⟨some 15, none, false, .bslice [(.int .i64 0), (.int .i64 0), (.int .i64 0), (.int .i64 0), (.int .i64 0), (.int .i64 0), (.int .i64 0), (.int .i64 0), (.int .i64 0), (.int .i64 0), (.int .i64 0)] [(0, 1, (.c (.int .i64 2))), (1, 1, (.c (.int .i64 5))), (2, 1, (.c (.int .i64 8))), (3, 1, (.c (.int .i64 11))), (4, 1, (.c (.int .i64 13))), (5, 1, (.c (.int .i64 16))), (6, 1, (.c (.int .i64 19))), (7, 1, (.c (.int .i64 21))), (8, 1, (.c (.int .i64 24))), (9, 1, (.c (.int .i64 27))), (10, 1, (.c (.int .i64 30)))] 11 1⟩,
        ⟨some 2, none, false, .mv (.t 15)⟩])
      .ret)
      .skip))))))))))
 (.seq (.region false [2] [] [⟨some 2, none, false, .mv (.c .nilSl)⟩])
 .ret)))⟩
/-- civiltime/civiltimeref07.rest -/
def af275 : AFun := ⟨12, true, [.tmp 4],
 (.seq (.region false [0, 1] [] [⟨some 4, none, false, .mv (.c (.int .i64 0))⟩])
 (.seq (.region false [4] [] [⟨some 5, none, false, .mv (.t 0)⟩,
   ⟨some 6, none, false, .mv (.t 1)⟩,
   ⟨some 7, none, false, .mv (.t 0)⟩,
   ⟨some 8, none, false, .mv (.t 1)⟩,
   ⟨some 9, none, false, .call (.f 277) [(.t 7), (.t 8)]⟩,
   ⟨some 10, none, false, .bin .mul (.t 6) (.t 9)⟩,
   ⟨some 11, none, false, .bin .sub (.t 5) (.t 10)⟩,
   ⟨some 4, none, false, .mv (.t 11)⟩])
 .ret))⟩
/-- civiltime/civiltimeref07.Before -/
def af276 : AFun := ⟨7, true, [.tmp 2],
 (.seq (.region false [0] [] [⟨some 2, none, false, .mv (.c (.int .i64 0))⟩])
 (.seq (.region false [2] [] [⟨some 3, none, false, .mv (.t 0)⟩,
   ⟨some 4, none, false, .bin .mul (.c (.int .i64 235)) (.t 3)⟩,
   ⟨some 5, none, false, .bin .sub (.t 4) (.c (.int .i64 234))⟩,
   ⟨some 6, none, false, .call (.f 277) [(.t 5), (.c (.int .i64 19))]⟩,
   ⟨some 2, none, false, .mv (.t 6)⟩])
 .ret))⟩
/-- civiltime/civiltimeref07.floor -/
def af277 : AFun := ⟨16, true, [.tmp 4],
 (.seq (.region false [0, 1] [] [⟨some 4, none, false, .mv (.c (.int .i64 0))⟩])
 (.seq (.region false [0, 1, 5] [] [⟨some 6, none, false, .mv (.t 0)⟩,
   ⟨some 7, none, false, .mv (.t 1)⟩,
   ⟨some 8, none, false, .bin .quo (.t 6) (.t 7)⟩,
   ⟨some 5, none, false, .mv (.t 8)⟩])
 (.seq (.seq (.region false [5, 12] [] [⟨some 9, none, false, .mv (.t 0)⟩,
   ⟨some 10, none, false, .mv (.t 1)⟩,
   ⟨some 11, none, false, .bin .rem (.t 9) (.t 10)⟩,
   ⟨some 12, none, false, .bin .lss (.t 11) (.c (.int .i64 0))⟩])
 (.cond (.t 12)
  (.region false [5] [] [⟨some 13, none, false, .mv (.t 5)⟩,
    ⟨some 14, none, false, .bin .sub (.t 13) (.c (.int .i64 1))⟩,
    ⟨some 5, none, false, .mv (.t 14)⟩])
  .skip))
 (.seq (.region false [4] [] [⟨some 15, none, false, .mv (.t 5)⟩,
   ⟨some 4, none, false, .mv (.t 15)⟩])
 .ret))))⟩
/-- slices.Contains[[]int,int] -/
def af284 : AFun := ⟨9, true, [.tmp 4],
 (.seq (.region false [0, 1] [] [⟨some 4, none, false, .mv (.c (.bool false))⟩])
 (.seq (.region false [4] [] [⟨some 5, none, false, .mv (.t 0)⟩,
   ⟨some 6, none, false, .mv (.t 1)⟩,
   ⟨some 7, none, false, .call (.f 299) [(.t 5), (.t 6)]⟩,
   ⟨some 8, none, false, .bin .geq (.t 7) (.c (.int .i64 0))⟩,
   ⟨some 4, none, false, .mv (.t 8)⟩])
 .ret))⟩
/-- civiltime/hebrew.elapsed -/
def af285 : AFun := ⟨22, true, [.tmp 2],
 (.seq (.region false [0] [] [⟨some 2, none, false, .mv (.c (.int .i64 0))⟩])
 (.seq (.region false [3] [] [⟨some 5, none, false, .mv (.t 0)⟩,
   ⟨some 6, none, false, .call (.f 300) [(.t 5)]⟩,
   ⟨some 3, none, false, .mv (.t 6)⟩])
 (.seq (.region false [4] [] [⟨some 7, none, false, .mv (.t 3)⟩,
   ⟨some 8, none, false, .bin .mul (.c (.int .i64 29)) (.t 7)⟩,
   ⟨some 9, none, false, .mv (.t 3)⟩,
   ⟨some 10, none, false, .bin .mul (.c (.int .i64 13753)) (.t 9)⟩,
   ⟨some 11, none, false, .bin .add (.c (.int .i64 12084)) (.t 10)⟩,
   ⟨some 12, none, false, .call (.f 211) [(.t 11), (.c (.int .i64 25920))]⟩,
   ⟨some 13, none, false, .bin .add (.t 8) (.t 12)⟩,
   ⟨some 4, none, false, .mv (.t 13)⟩])
 (.seq (.seq (.region false [4, 18] [] [⟨some 14, none, false, .mv (.t 4)⟩,
   ⟨some 15, none, false, .bin .add (.t 14) (.c (.int .i64 1))⟩,
   ⟨some 16, none, false, .bin .mul (.c (.int .i64 3)) (.t 15)⟩,
   ⟨some 17, none, false, .call (.f 52) [(.t 16), (.c (.int .i64 7))]⟩,
   ⟨some 18, none, false, .bin .lss (.t 17) (.c (.int .i64 3))⟩])
 (.cond (.t 18)
  (.region false [4] [] [⟨some 19, none, false, .mv (.t 4)⟩,
    ⟨some 20, none, false, .bin .add (.t 19) (.c (.int .i64 1))⟩,
    ⟨some 4, none, false, .mv (.t 20)⟩])
  .skip))
 (.seq (.region false [2] [] [⟨some 21, none, false, .mv (.t 4)⟩,
   ⟨some 2, none, false, .mv (.t 21)⟩])
 .ret)))))⟩
/-- civiltime/hebrew.Months -/
def af286 : AFun := ⟨10, true, [.tmp 2],
 (.seq (.region false [0] [] [⟨some 2, none, false, .mv (.c (.int .i64 0))⟩])
 (.seq (.block 0 (.seq (.region false [0, 3] [] [⟨some 4, none, false, .mv (.t 0)⟩,
    ⟨some 5, none, false, .call (.f 301) [(.t 4)]⟩,
    ⟨some 6, none, false, .un .not (.t 5)⟩,
    ⟨some 3, none, false, .mv (.t 6)⟩])
  (.cond (.t 3)
   (.seq (.region false [2] [] [⟨some 2, none, false, .mv (.c (.int .i64 0))⟩])
   .ret)
   (.seq (.region false [7] [] [⟨some 8, none, false, .mv (.t 0)⟩,
     ⟨some 9, none, false, .call (.f 287) [(.t 8)]⟩,
     ⟨some 7, none, false, .mv (.t 9)⟩])
   (.cond (.t 7)
    (.seq (.region false [2] [] [⟨some 2, none, false, .mv (.c (.int .i64 13))⟩])
    .ret)
    .skip)))))
 (.seq (.region false [2] [] [⟨some 2, none, false, .mv (.c (.int .i64 12))⟩])
 .ret)))⟩
/-- civiltime/hebrew.leap -/
def af287 : AFun := ⟨8, true, [.tmp 2],
 (.seq (.region false [0] [] [⟨some 2, none, false, .mv (.c (.bool false))⟩])
 (.seq (.region false [2] [] [⟨some 3, none, false, .mv (.t 0)⟩,
   ⟨some 4, none, false, .bin .mul (.c (.int .i64 7)) (.t 3)⟩,
   ⟨some 5, none, false, .bin .add (.t 4) (.c (.int .i64 1))⟩,
   ⟨some 6, none, false, .call (.f 52) [(.t 5), (.c (.int .i64 19))]⟩,
   ⟨some 7, none, false, .bin .lss (.t 6) (.c (.int .i64 7))⟩,
   ⟨some 2, none, false, .mv (.t 7)⟩])
 .ret))⟩
/-- civiltime/hebrew.YearLength -/
def af288 : AFun := ⟨12, true, [.tmp 2],
 (.seq (.region false [0] [] [⟨some 2, none, false, .mv (.c (.int .i64 0))⟩])
 (.seq (.seq (.region false [0, 5] [] [⟨some 3, none, false, .mv (.t 0)⟩,
   ⟨some 4, none, false, .call (.f 301) [(.t 3)]⟩,
   ⟨some 5, none, false, .un .not (.t 4)⟩])
 (.cond (.t 5)
  (.seq (.region false [2] [] [⟨some 2, none, false, .mv (.c (.int .i64 0))⟩])
  .ret)
  .skip))
 (.seq (.region false [2] [] [⟨some 6, none, false, .mv (.t 0)⟩,
   ⟨some 7, none, false, .bin .add (.t 6) (.c (.int .i64 1))⟩,
   ⟨some 8, none, false, .call (.f 271) [(.t 7)]⟩,
   ⟨some 9, none, false, .mv (.t 0)⟩,
   ⟨some 10, none, false, .call (.f 271) [(.t 9)]⟩,
   ⟨some 11, none, false, .bin .sub (.t 8) (.t 10)⟩,
   ⟨some 2, none, false, .mv (.t 11)⟩])
 .ret)))⟩
def af299L0 : ACode := .loop [0, 1, 7, 8]
 (.seq (.region false [0, 1, 7, 8, 9] [] [⟨some 9, none, false, .bin .lss (.t 8) (.t 7)⟩])
 (.seq (.cond (.t 9)
  .skip
  (.exit 0))
 (.seq (.block 1 (.seq (.region false [0, 1, 5, 7, 8] [] [⟨some 10, none, false, .mv (.t 8)⟩,
    ⟨some 5, none, false, .mv (.t 10)⟩])
  (.seq (.region false [0, 1, 5, 7, 8, 16] [] [⟨some 11, none, false, .mv (.t 1)⟩,
    ⟨some 12, none, false, .mv (.t 0)⟩,
    ⟨some 13, none, false, .mv (.t 5)⟩,
    ⟨some 14, none, false, .idxaddr none 1 (.t 12) (.t 13)⟩,
    ⟨some 15, none, false, .load false 1 (.t 14)⟩,
    ⟨some 16, none, false, .bin .eql (.t 11) (.t 15)⟩])
  (.cond (.t 16)
   (.seq (.region false [4] [] [⟨some 17, none, false, .mv (.t 5)⟩,
     ⟨some 4, none, false, .mv (.t 17)⟩])
   .ret)
   .skip))))
 (.region false [0, 1, 7, 8] [] [⟨some 18, none, false, .bin .add (.t 8) (.c (.int .i64 1))⟩,
   ⟨some 8, none, false, .mv (.t 18)⟩]))))
/-- slices.Index[[]int,int] -/
def af299 : AFun := ⟨19, true, [.tmp 4],
 (.seq (.region false [0, 1] [] [⟨some 4, none, false, .mv (.c (.int .i64 0))⟩])
 (.seq (.seq (.region false [0, 1, 7, 8] [] [⟨some 6, none, false, .mv (.t 0)⟩,
   ⟨some 7, none, false, .bi (.len 1) [(.t 6)]⟩,
   ⟨some 8, none, false, .mv (.c (.int .i64 0))⟩])
 (.block 0 af299L0))
 (.seq (.region false [4] [] [⟨some 4, none, false, .mv (.c (.int .i64 (-1)))⟩])
 .ret)))⟩
end Go.Proofs.YtkaadpkokmhfjaaGreatDoor
