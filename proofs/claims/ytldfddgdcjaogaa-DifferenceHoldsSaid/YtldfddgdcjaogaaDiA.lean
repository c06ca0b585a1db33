import Derived.Test.YtldfddgdcjaogaaMxRa
import Derived.KernelRfl
import Derived.Test.YtldfddgdcjaogaaChecked
/-
  The functions of this chapter in the machine's code, and that the given program's code is this one. Printed by a program of this repo (gencodes.py).
-/
namespace Go.Mx
set_option linter.unusedVariables false
set_option linter.unusedSimpArgs false
set_option linter.unusedSectionVars false
open Go

/-- coinage/coinagelaw33.DifferenceTight -/
abbrev K3 : Nat := 33
def hints3 : List (List Bool) := [bits 65 [6], bits 65 [6]]
@[simp] def r3 : List Bool := bits 65 [6]
@[simp] def R3 (s6 : V) : St := tab 65 33 (fu dd 6 s6) dd
def c3 : MF := ⟨(.seq (.ops [⟨none, .box 5 (.t 2)⟩,
   ⟨none, .asg 6 (.c (.v (.bool false)))⟩])
 (.seq (.seq (.ops [⟨none, .call (some 13) 12 []⟩,
    ⟨none, .un 14 .not (.t 13)⟩,
    ⟨none, .mv 15 (.t 14)⟩,
    ⟨some (15, false), .mv 16 (.t 1)⟩,
    ⟨some (15, false), .call (some 17) 13 [(.t 16)]⟩,
    ⟨some (15, false), .un 18 .not (.t 17)⟩,
    ⟨none, .pick 19 (.t 15) (.c (.v (.bool true))) (.t 18)⟩])
  (.cnd (.t 19)
   (.seq (.ops [⟨none, .call (some 20) 12 []⟩,
     ⟨none, .asg 6 (.t 20)⟩])
   (.seq (.scr r3) .ret))
   .skip))
 (.seq (.ops [⟨none, .mv 22 (.t 0)⟩,
   ⟨none, .mv 23 (.t 1)⟩,
   ⟨none, .fa 24 0 (.t 5)⟩,
   ⟨none, .ld1 25 (.t 24)⟩,
   ⟨none, .fa 26 1 (.t 5)⟩,
   ⟨none, .ld1 27 (.t 26)⟩,
   ⟨none, .call (some 28) 14 [(.t 22), (.t 23), (.t 25), (.t 27)]⟩,
   ⟨none, .mv 21 (.t 28)⟩,
   ⟨none, .ext 29 (.t 21) 0⟩,
   ⟨none, .ext 30 (.t 21) 1⟩,
   ⟨none, .ext 31 (.t 21) 2⟩,
   ⟨none, .asg 7 (.t 29)⟩,
   ⟨none, .asg 8 (.t 30)⟩,
   ⟨none, .asg 9 (.t 31)⟩])
 (.seq (.ops [⟨none, .mv 33 (.t 0)⟩,
   ⟨none, .mv 34 (.t 1)⟩,
   ⟨none, .fa 35 0 (.t 5)⟩,
   ⟨none, .ld1 36 (.t 35)⟩,
   ⟨none, .fa 37 1 (.t 5)⟩,
   ⟨none, .ld1 38 (.t 37)⟩,
   ⟨none, .call (some 39) 15 [(.t 33), (.t 34), (.t 36), (.t 38)]⟩,
   ⟨none, .mv 32 (.t 39)⟩,
   ⟨none, .ext 40 (.t 32) 0⟩,
   ⟨none, .ext 41 (.t 32) 1⟩,
   ⟨none, .ext 42 (.t 32) 2⟩,
   ⟨none, .asg 10 (.t 40)⟩,
   ⟨none, .asg 11 (.t 41)⟩,
   ⟨none, .asg 12 (.t 42)⟩])
 (.seq (.ops (⟨none, .mv 43 (.t 0)⟩ ::
   ⟨none, .mv 44 (.t 1)⟩ ::
   ⟨none, .call (some 45) 16 [(.t 43), (.t 44)]⟩ ::
   ⟨none, .mv 46 (.t 0)⟩ ::
   ⟨none, .mv 47 (.t 1)⟩ ::
   ⟨none, .call (some 48) 17 [(.t 46), (.t 47)]⟩ ::
   ⟨none, .bin 49 .eql .bool (.t 45) (.t 48)⟩ ::
   ⟨none, .mv 50 (.t 49)⟩ ::
   ⟨some (50, true), .mv 51 (.t 7)⟩ ::
   ⟨some (50, true), .mv 52 (.t 10)⟩ ::
   ⟨some (50, true), .bin 53 .eql .num (.t 51) (.t 52)⟩ ::
   ⟨none, .pick 54 (.t 50) (.t 53) (.c (.v (.bool false)))⟩ ::
   ⟨none, .mv 55 (.t 54)⟩ ::
   ⟨some (55, true), .mv 56 (.t 8)⟩ ::
   ⟨some (55, true), .mv 57 (.t 11)⟩ ::
   ⟨some (55, true), .bin 58 .eql .bool (.t 56) (.t 57)⟩ ::
   ⟨none, .pick 59 (.t 55) (.t 58) (.c (.v (.bool false)))⟩ ::
   ⟨none, .mv 60 (.t 59)⟩ ::
   ⟨some (60, true), .mv 61 (.t 9)⟩ ::
   ⟨some (60, true), .mv 62 (.t 12)⟩ ::
   ⟨some (60, true), .bin 63 .eql .num (.t 61) (.t 62)⟩ ::
   ⟨none, .pick 64 (.t 60) (.t 63) (.c (.v (.bool false)))⟩ ::
   ⟨none, .asg 6 (.t 64)⟩ :: []))
 (.seq (.scr r3) .ret)))))),
  65, [6]⟩

/-- coinage/coinagelaw33.DifferenceSolves -/
abbrev K4 : Nat := 24
def hints4 : List (List Bool) := [bits 37 [4], bits 37 [4]]
@[simp] def r4 : List Bool := bits 37 [4]
@[simp] def R4 (s4 : V) : St := tab 37 24 (fu dd 4 s4) dd
def c4 : MF := ⟨(.seq (.ops [⟨none, .asg 4 (.c (.v (.bool false)))⟩])
 (.seq (.seq (.ops [⟨none, .call (some 9) 12 []⟩,
    ⟨none, .un 10 .not (.t 9)⟩,
    ⟨none, .mv 11 (.t 10)⟩,
    ⟨some (11, false), .mv 12 (.t 1)⟩,
    ⟨some (11, false), .call (some 13) 13 [(.t 12)]⟩,
    ⟨some (11, false), .un 14 .not (.t 13)⟩,
    ⟨none, .pick 15 (.t 11) (.c (.v (.bool true))) (.t 14)⟩])
  (.cnd (.t 15)
   (.seq (.ops [⟨none, .call (some 16) 12 []⟩,
     ⟨none, .asg 4 (.t 16)⟩])
   (.seq (.scr r4) .ret))
   .skip))
 (.seq (.ops [⟨none, .mv 18 (.t 0)⟩,
   ⟨none, .mv 19 (.t 1)⟩,
   ⟨none, .call (some 20) 18 [(.t 18), (.t 19)]⟩,
   ⟨none, .mv 17 (.t 20)⟩,
   ⟨none, .ext 21 (.t 17) 0⟩,
   ⟨none, .ext 22 (.t 17) 1⟩,
   ⟨none, .asg 5 (.t 21)⟩,
   ⟨none, .asg 6 (.t 22)⟩])
 (.seq (.ops [⟨none, .mv 24 (.t 0)⟩,
   ⟨none, .mv 25 (.t 1)⟩,
   ⟨none, .call (some 26) 19 [(.t 24), (.t 25)]⟩,
   ⟨none, .mv 23 (.t 26)⟩,
   ⟨none, .ext 27 (.t 23) 0⟩,
   ⟨none, .ext 28 (.t 23) 1⟩,
   ⟨none, .asg 7 (.t 27)⟩,
   ⟨none, .asg 8 (.t 28)⟩])
 (.seq (.ops [⟨none, .mv 29 (.t 5)⟩,
   ⟨none, .mv 30 (.t 7)⟩,
   ⟨none, .call (some 31) 20 [(.t 29), (.t 30)]⟩,
   ⟨none, .mv 32 (.t 31)⟩,
   ⟨some (32, true), .mv 33 (.t 6)⟩,
   ⟨some (32, true), .mv 34 (.t 8)⟩,
   ⟨some (32, true), .bin 35 .eql .num (.t 33) (.t 34)⟩,
   ⟨none, .pick 36 (.t 32) (.t 35) (.c (.v (.bool false)))⟩,
   ⟨none, .asg 4 (.t 36)⟩])
 (.seq (.scr r4) .ret)))))),
  37, [4]⟩

/-- coinage/coinagelaw33.DifferenceRefutes -/
abbrev K5 : Nat := 24
def hints5 : List (List Bool) := [bits 37 [4], bits 37 [4]]
@[simp] def r5 : List Bool := bits 37 [4]
@[simp] def R5 (s4 : V) : St := tab 37 24 (fu dd 4 s4) dd
def c5 : MF := ⟨(.seq (.ops [⟨none, .asg 4 (.c (.v (.bool false)))⟩])
 (.seq (.seq (.ops [⟨none, .call (some 9) 12 []⟩,
    ⟨none, .un 10 .not (.t 9)⟩,
    ⟨none, .mv 11 (.t 10)⟩,
    ⟨some (11, false), .mv 12 (.t 1)⟩,
    ⟨some (11, false), .call (some 13) 13 [(.t 12)]⟩,
    ⟨some (11, false), .un 14 .not (.t 13)⟩,
    ⟨none, .pick 15 (.t 11) (.c (.v (.bool true))) (.t 14)⟩])
  (.cnd (.t 15)
   (.seq (.ops [⟨none, .call (some 16) 12 []⟩,
     ⟨none, .asg 4 (.t 16)⟩])
   (.seq (.scr r5) .ret))
   .skip))
 (.seq (.ops [⟨none, .mv 18 (.t 0)⟩,
   ⟨none, .mv 19 (.t 1)⟩,
   ⟨none, .call (some 20) 21 [(.t 18), (.t 19)]⟩,
   ⟨none, .mv 17 (.t 20)⟩,
   ⟨none, .ext 21 (.t 17) 0⟩,
   ⟨none, .ext 22 (.t 17) 1⟩,
   ⟨none, .asg 5 (.t 21)⟩,
   ⟨none, .asg 6 (.t 22)⟩])
 (.seq (.ops [⟨none, .mv 24 (.t 0)⟩,
   ⟨none, .mv 25 (.t 1)⟩,
   ⟨none, .call (some 26) 22 [(.t 24), (.t 25)]⟩,
   ⟨none, .mv 23 (.t 26)⟩,
   ⟨none, .ext 27 (.t 23) 0⟩,
   ⟨none, .ext 28 (.t 23) 1⟩,
   ⟨none, .asg 7 (.t 27)⟩,
   ⟨none, .asg 8 (.t 28)⟩])
 (.seq (.ops [⟨none, .mv 29 (.t 5)⟩,
   ⟨none, .mv 30 (.t 7)⟩,
   ⟨none, .call (some 31) 20 [(.t 29), (.t 30)]⟩,
   ⟨none, .mv 32 (.t 31)⟩,
   ⟨some (32, true), .mv 33 (.t 6)⟩,
   ⟨some (32, true), .mv 34 (.t 8)⟩,
   ⟨some (32, true), .bin 35 .eql .num (.t 33) (.t 34)⟩,
   ⟨none, .pick 36 (.t 32) (.t 35) (.c (.v (.bool false)))⟩,
   ⟨none, .asg 4 (.t 36)⟩])
 (.seq (.scr r5) .ret)))))),
  37, [4]⟩

/-- coinage/coinagelaw33.DifferenceGreatest -/
abbrev K6 : Nat := 109
def hints6 : List (List Bool) := [bits 120 [6], bits 120 [6], bits 120 [6], bits 120 [6], bits 120 [6], bits 120 [6]]
@[simp] def r6 : List Bool := bits 120 [6]
@[simp] def R6 (s6 : V) : St := tab 120 109 (fu dd 6 s6) dd
def c6 : MF := ⟨(.seq (.ops [⟨none, .box 5 (.t 2)⟩,
   ⟨none, .asg 6 (.c (.v (.bool false)))⟩])
 (.seq (.seq (.ops [⟨none, .call (some 18) 12 []⟩,
    ⟨none, .un 19 .not (.t 18)⟩,
    ⟨none, .mv 20 (.t 19)⟩,
    ⟨some (20, false), .mv 21 (.t 1)⟩,
    ⟨some (20, false), .len 22 false (.t 21)⟩,
    ⟨some (20, false), .bin 23 .gtr .num (.t 22) (.c (.v (.int .i64 60)))⟩,
    ⟨none, .pick 24 (.t 20) (.c (.v (.bool true))) (.t 23)⟩,
    ⟨none, .mv 25 (.t 24)⟩,
    ⟨some (25, false), .mv 26 (.t 0)⟩,
    ⟨some (25, false), .mv 27 (.t 1)⟩,
    ⟨some (25, false), .call (some 28) 17 [(.t 26), (.t 27)]⟩,
    ⟨some (25, false), .un 29 .not (.t 28)⟩,
    ⟨none, .pick 30 (.t 25) (.c (.v (.bool true))) (.t 29)⟩])
  (.cnd (.t 30)
   (.seq (.ops [⟨none, .call (some 31) 12 []⟩,
     ⟨none, .asg 6 (.t 31)⟩])
   (.seq (.scr r6) .ret))
   .skip))
 (.seq (.drw [⟨none, .fa 32 0 (.t 5)⟩,
   ⟨none, .ld1 33 (.t 32)⟩,
   ⟨none, .mv 34 (.t 0)⟩,
   ⟨none, .call (some 35) 23 [(.t 33), (.t 34)]⟩,
   ⟨none, .fa 36 1 (.t 5)⟩,
   ⟨none, .ld1 37 (.t 36)⟩,
   ⟨none, .mv 38 (.t 0)⟩] [⟨none, .call (some 39) 23 [(.t 37), (.t 38)]⟩,
   ⟨none, .asg 7 (.t 35)⟩,
   ⟨none, .asg 8 (.t 39)⟩])
 (.seq (.ops [⟨none, .mv 41 (.t 0)⟩,
   ⟨none, .mv 42 (.t 1)⟩,
   ⟨none, .mv 43 (.t 7)⟩,
   ⟨none, .mv 44 (.t 8)⟩,
   ⟨none, .call (some 45) 14 [(.t 41), (.t 42), (.t 43), (.t 44)]⟩,
   ⟨none, .mv 40 (.t 45)⟩,
   ⟨none, .ext 46 (.t 40) 0⟩,
   ⟨none, .ext 47 (.t 40) 1⟩,
   ⟨none, .ext 48 (.t 40) 2⟩,
   ⟨none, .asg 9 (.t 46)⟩,
   ⟨none, .asg 10 (.t 47)⟩,
   ⟨none, .asg 11 (.t 48)⟩])
 (.seq (.seq (.ops [⟨none, .mv 49 (.t 11)⟩,
    ⟨none, .bin 50 .eql .num (.t 49) (.c (.v (.int .i64 10)))⟩,
    ⟨none, .mv 51 (.t 50)⟩,
    ⟨some (51, false), .mv 52 (.t 7)⟩,
    ⟨some (51, false), .mv 53 (.t 8)⟩,
    ⟨some (51, false), .bin 54 .eql .num (.t 52) (.t 53)⟩,
    ⟨none, .pick 55 (.t 51) (.c (.v (.bool true))) (.t 54)⟩])
  (.cnd (.t 55)
   (.seq (.ops [⟨none, .mv 56 (.t 11)⟩,
     ⟨none, .bin 57 .eql .num (.t 56) (.c (.v (.int .i64 10)))⟩,
     ⟨none, .mv 58 (.t 57)⟩,
     ⟨some (58, false), .mv 59 (.t 11)⟩,
     ⟨some (58, false), .bin 60 .eql .num (.t 59) (.c (.v (.int .i64 0)))⟩,
     ⟨some (58, false), .mv 61 (.t 60)⟩,
     ⟨some (61, true), .mv 62 (.t 10)⟩,
     ⟨some (58, false), .pick 63 (.t 61) (.t 62) (.c (.v (.bool false)))⟩,
     ⟨some (58, false), .mv 64 (.t 63)⟩,
     ⟨some (64, true), .mv 65 (.t 9)⟩,
     ⟨some (64, true), .bin 66 .eql .num (.t 65) (.c (.v (.int .i64 0)))⟩,
     ⟨some (58, false), .pick 67 (.t 64) (.t 66) (.c (.v (.bool false)))⟩,
     ⟨none, .pick 68 (.t 58) (.c (.v (.bool true))) (.t 67)⟩,
     ⟨none, .asg 6 (.t 68)⟩])
   (.seq (.scr r6) .ret))
   .skip))
 (.seq (.seq (.ops [⟨none, .mv 69 (.t 11)⟩,
    ⟨none, .bin 70 .neq .num (.t 69) (.c (.v (.int .i64 0)))⟩])
  (.cnd (.t 70)
   (.seq (.ops [⟨none, .asg 6 (.c (.v (.bool false)))⟩])
   (.seq (.scr r6) .ret))
   .skip))
 (.seq (.seq (.ops [⟨none, .mv 71 (.t 10)⟩,
    ⟨none, .un 72 .not (.t 71)⟩])
  (.cnd (.t 72)
   (.seq (.ops [⟨none, .mv 73 (.t 9)⟩,
     ⟨none, .bin 74 .eql .num (.t 73) (.c (.v (.int .i64 0)))⟩,
     ⟨none, .asg 6 (.t 74)⟩])
   (.seq (.scr r6) .ret))
   .skip))
 (.seq (.seq (.ops [⟨none, .mv 75 (.t 9)⟩,
    ⟨none, .bin 76 .lss .num (.t 75) (.c (.v (.int .i64 (-999999))))⟩,
    ⟨none, .mv 77 (.t 76)⟩,
    ⟨some (77, false), .mv 78 (.t 9)⟩,
    ⟨some (77, false), .bin 79 .gtr .num (.t 78) (.c (.v (.int .i64 999999)))⟩,
    ⟨none, .pick 80 (.t 77) (.c (.v (.bool true))) (.t 79)⟩])
  (.cnd (.t 80)
   (.seq (.ops [⟨none, .asg 6 (.c (.v (.bool true)))⟩])
   (.seq (.scr r6) .ret))
   .skip))
 (.seq (.ops [⟨none, .mz 81 3⟩,
   ⟨none, .mv 82 (.t 1)⟩,
   ⟨none, .app 83 3 (.t 81) (.t 82)⟩,
   ⟨none, .mv 84 (.t 8)⟩,
   ⟨none, .mv 85 (.t 7)⟩,
   ⟨none, .mv 86 (.t 9)⟩,
   ⟨none, .un 87 .neg (.t 86)⟩,
   ⟨none, .bld 88 [(.v (.int .i64 0)), (.v (.int .i64 0)), (.v (.int .i64 0))] [(0, 1, (.t 84)), (1, 1, (.t 85)), (2, 1, (.t 87))]⟩,
   ⟨none, .bs 89 3 1 [(.v (.int .i64 0)), (.v (.int .i64 0)), (.v (.int .i64 0))] [(0, 3, (.t 88))]⟩,
   ⟨none, .app 90 3 (.t 83) (.t 89)⟩,
   ⟨none, .asg 12 (.t 90)⟩])
 (.seq (.ops [⟨none, .mz 91 3⟩,
   ⟨none, .mv 92 (.t 1)⟩,
   ⟨none, .app 93 3 (.t 91) (.t 92)⟩,
   ⟨none, .mv 94 (.t 8)⟩,
   ⟨none, .mv 95 (.t 7)⟩,
   ⟨none, .mv 96 (.t 9)⟩,
   ⟨none, .un 97 .neg (.t 96)⟩,
   ⟨none, .bin 98 .sub .num (.t 97) (.c (.v (.int .i64 1)))⟩,
   ⟨none, .bld 99 [(.v (.int .i64 0)), (.v (.int .i64 0)), (.v (.int .i64 0))] [(0, 1, (.t 94)), (1, 1, (.t 95)), (2, 1, (.t 98))]⟩,
   ⟨none, .bs 100 3 1 [(.v (.int .i64 0)), (.v (.int .i64 0)), (.v (.int .i64 0))] [(0, 3, (.t 99))]⟩,
   ⟨none, .app 101 3 (.t 93) (.t 100)⟩,
   ⟨none, .asg 13 (.t 101)⟩])
 (.seq (.ops [⟨none, .mv 103 (.t 0)⟩,
   ⟨none, .mv 104 (.t 12)⟩,
   ⟨none, .call (some 105) 21 [(.t 103), (.t 104)]⟩,
   ⟨none, .mv 102 (.t 105)⟩,
   ⟨none, .ext 106 (.t 102) 0⟩,
   ⟨none, .ext 107 (.t 102) 1⟩,
   ⟨none, .asg 14 (.t 106)⟩,
   ⟨none, .asg 15 (.t 107)⟩])
 (.seq (.ops [⟨none, .mv 109 (.t 0)⟩,
   ⟨none, .mv 110 (.t 13)⟩,
   ⟨none, .call (some 111) 21 [(.t 109), (.t 110)]⟩,
   ⟨none, .mv 108 (.t 111)⟩,
   ⟨none, .ext 112 (.t 108) 0⟩,
   ⟨none, .ext 113 (.t 108) 1⟩,
   ⟨none, .asg 16 (.t 112)⟩,
   ⟨none, .asg 17 (.t 113)⟩])
 (.seq (.ops [⟨none, .mv 114 (.t 15)⟩,
   ⟨none, .bin 115 .eql .num (.t 114) (.c (.v (.int .i64 7)))⟩,
   ⟨none, .mv 116 (.t 115)⟩,
   ⟨some (116, true), .mv 117 (.t 17)⟩,
   ⟨some (116, true), .bin 118 .eql .num (.t 117) (.c (.v (.int .i64 0)))⟩,
   ⟨none, .pick 119 (.t 116) (.t 118) (.c (.v (.bool false)))⟩,
   ⟨none, .asg 6 (.t 119)⟩])
 (.seq (.scr r6) .ret)))))))))))))),
  120, [6]⟩

/-- coinage/coinagelaw33.DifferenceTriangles -/
abbrev K7 : Nat := 67
def hints7 : List (List Bool) := [bits 115 [6], bits 115 [6], bits 115 [6]]
@[simp] def r7 : List Bool := bits 115 [6]
@[simp] def R7 (s6 : V) : St := tab 115 67 (fu dd 6 s6) dd
def c7 : MF := ⟨(.seq (.ops [⟨none, .box 5 (.t 2)⟩,
   ⟨none, .asg 6 (.c (.v (.bool false)))⟩])
 (.seq (.seq (.ops [⟨none, .call (some 19) 12 []⟩,
    ⟨none, .un 20 .not (.t 19)⟩,
    ⟨none, .mv 21 (.t 20)⟩,
    ⟨some (21, false), .mv 22 (.t 1)⟩,
    ⟨some (21, false), .call (some 23) 13 [(.t 22)]⟩,
    ⟨some (21, false), .un 24 .not (.t 23)⟩,
    ⟨none, .pick 25 (.t 21) (.c (.v (.bool true))) (.t 24)⟩,
    ⟨none, .mv 26 (.t 25)⟩,
    ⟨some (26, false), .mv 27 (.t 0)⟩,
    ⟨some (26, false), .mv 28 (.t 1)⟩,
    ⟨some (26, false), .call (some 29) 17 [(.t 27), (.t 28)]⟩,
    ⟨some (26, false), .un 30 .not (.t 29)⟩,
    ⟨none, .pick 31 (.t 26) (.c (.v (.bool true))) (.t 30)⟩])
  (.cnd (.t 31)
   (.seq (.ops [⟨none, .call (some 32) 12 []⟩,
     ⟨none, .asg 6 (.t 32)⟩])
   (.seq (.scr r7) .ret))
   .skip))
 (.seq (.drw (⟨none, .ixa 33 1 3 (.t 5) (.c (.v (.int .i64 0)))⟩ ::
   ⟨none, .ld1 34 (.t 33)⟩ ::
   ⟨none, .cvi 35 .i64 (.t 34)⟩ ::
   ⟨none, .mv 36 (.t 0)⟩ ::
   ⟨none, .bin 37 .rem .num (.t 35) (.t 36)⟩ ::
   ⟨none, .ixa 38 1 3 (.t 5) (.c (.v (.int .i64 1)))⟩ ::
   ⟨none, .ld1 39 (.t 38)⟩ ::
   ⟨none, .cvi 40 .i64 (.t 39)⟩ ::
   ⟨none, .mv 41 (.t 0)⟩ ::
   ⟨none, .bin 42 .rem .num (.t 40) (.t 41)⟩ ::
   ⟨none, .ixa 43 1 3 (.t 5) (.c (.v (.int .i64 2)))⟩ ::
   ⟨none, .ld1 44 (.t 43)⟩ ::
   ⟨none, .cvi 45 .i64 (.t 44)⟩ ::
   ⟨none, .mv 46 (.t 0)⟩ ::
   ⟨none, .bin 47 .rem .num (.t 45) (.t 46)⟩ ::
   ⟨none, .mv 7 (.t 37)⟩ ::
   ⟨none, .mv 8 (.t 42)⟩ :: []) [⟨none, .asg 9 (.t 47)⟩,
   ⟨none, .asg 7 (.t 7)⟩,
   ⟨none, .asg 8 (.t 8)⟩])
 (.seq (.ops [⟨none, .mv 49 (.t 0)⟩,
   ⟨none, .mv 50 (.t 1)⟩,
   ⟨none, .mv 51 (.t 7)⟩,
   ⟨none, .mv 52 (.t 8)⟩,
   ⟨none, .call (some 53) 14 [(.t 49), (.t 50), (.t 51), (.t 52)]⟩,
   ⟨none, .mv 48 (.t 53)⟩,
   ⟨none, .ext 54 (.t 48) 0⟩,
   ⟨none, .ext 55 (.t 48) 1⟩,
   ⟨none, .ext 56 (.t 48) 2⟩,
   ⟨none, .asg 10 (.t 54)⟩,
   ⟨none, .asg 11 (.t 55)⟩,
   ⟨none, .asg 12 (.t 56)⟩])
 (.seq (.ops [⟨none, .mv 58 (.t 0)⟩,
   ⟨none, .mv 59 (.t 1)⟩,
   ⟨none, .mv 60 (.t 8)⟩,
   ⟨none, .mv 61 (.t 9)⟩,
   ⟨none, .call (some 62) 14 [(.t 58), (.t 59), (.t 60), (.t 61)]⟩,
   ⟨none, .mv 57 (.t 62)⟩,
   ⟨none, .ext 63 (.t 57) 0⟩,
   ⟨none, .ext 64 (.t 57) 1⟩,
   ⟨none, .ext 65 (.t 57) 2⟩,
   ⟨none, .asg 13 (.t 63)⟩,
   ⟨none, .asg 14 (.t 64)⟩,
   ⟨none, .asg 15 (.t 65)⟩])
 (.seq (.ops [⟨none, .mv 67 (.t 0)⟩,
   ⟨none, .mv 68 (.t 1)⟩,
   ⟨none, .mv 69 (.t 7)⟩,
   ⟨none, .mv 70 (.t 9)⟩,
   ⟨none, .call (some 71) 14 [(.t 67), (.t 68), (.t 69), (.t 70)]⟩,
   ⟨none, .mv 66 (.t 71)⟩,
   ⟨none, .ext 72 (.t 66) 0⟩,
   ⟨none, .ext 73 (.t 66) 1⟩,
   ⟨none, .ext 74 (.t 66) 2⟩,
   ⟨none, .asg 16 (.t 72)⟩,
   ⟨none, .asg 17 (.t 73)⟩,
   ⟨none, .asg 18 (.t 74)⟩])
 (.seq (.seq (.ops [⟨none, .mv 75 (.t 12)⟩,
    ⟨none, .mv 76 (.t 15)⟩,
    ⟨none, .bin 77 .neq .num (.t 75) (.t 76)⟩,
    ⟨none, .mv 78 (.t 77)⟩,
    ⟨some (78, false), .mv 79 (.t 15)⟩,
    ⟨some (78, false), .mv 80 (.t 18)⟩,
    ⟨some (78, false), .bin 81 .neq .num (.t 79) (.t 80)⟩,
    ⟨none, .pick 82 (.t 78) (.c (.v (.bool true))) (.t 81)⟩,
    ⟨none, .mv 83 (.t 82)⟩,
    ⟨some (83, false), .mv 84 (.t 12)⟩,
    ⟨some (83, false), .bin 85 .neq .num (.t 84) (.c (.v (.int .i64 0)))⟩,
    ⟨none, .pick 86 (.t 83) (.c (.v (.bool true))) (.t 85)⟩])
  (.cnd (.t 86)
   (.seq (.ops [⟨none, .mv 87 (.t 12)⟩,
     ⟨none, .mv 88 (.t 15)⟩,
     ⟨none, .bin 89 .eql .num (.t 87) (.t 88)⟩,
     ⟨none, .mv 90 (.t 89)⟩,
     ⟨some (90, true), .mv 91 (.t 15)⟩,
     ⟨some (90, true), .mv 92 (.t 18)⟩,
     ⟨some (90, true), .bin 93 .eql .num (.t 91) (.t 92)⟩,
     ⟨none, .pick 94 (.t 90) (.t 93) (.c (.v (.bool false)))⟩,
     ⟨none, .mv 95 (.t 94)⟩,
     ⟨some (95, true), .mv 96 (.t 12)⟩,
     ⟨some (95, true), .bin 97 .eql .num (.t 96) (.c (.v (.int .i64 10)))⟩,
     ⟨none, .pick 98 (.t 95) (.t 97) (.c (.v (.bool false)))⟩,
     ⟨none, .asg 6 (.t 98)⟩])
   (.seq (.scr r7) .ret))
   .skip))
 (.seq (.ops (⟨none, .mv 99 (.t 11)⟩ ::
   ⟨none, .un 100 .not (.t 99)⟩ ::
   ⟨none, .mv 101 (.t 100)⟩ ::
   ⟨some (101, false), .mv 102 (.t 14)⟩ ::
   ⟨some (101, false), .un 103 .not (.t 102)⟩ ::
   ⟨none, .pick 104 (.t 101) (.c (.v (.bool true))) (.t 103)⟩ ::
   ⟨none, .mv 105 (.t 104)⟩ ::
   ⟨some (105, false), .mv 106 (.t 17)⟩ ::
   ⟨some (105, false), .mv 107 (.t 106)⟩ ::
   ⟨some (107, true), .mv 108 (.t 16)⟩ ::
   ⟨some (107, true), .mv 109 (.t 10)⟩ ::
   ⟨some (107, true), .mv 110 (.t 13)⟩ ::
   ⟨some (107, true), .bin 111 .add .num (.t 109) (.t 110)⟩ ::
   ⟨some (107, true), .bin 112 .leq .num (.t 108) (.t 111)⟩ ::
   ⟨some (105, false), .pick 113 (.t 107) (.t 112) (.c (.v (.bool false)))⟩ ::
   ⟨none, .pick 114 (.t 105) (.c (.v (.bool true))) (.t 113)⟩ ::
   ⟨none, .asg 6 (.t 114)⟩ :: []))
 (.seq (.scr r7) .ret))))))))),
  115, [6]⟩

/-- coinage/coinagelaw33.DifferenceMore -/
abbrev K8 : Nat := 57
def hints8 : List (List Bool) := [bits 96 [6], bits 96 [], bits 96 [0, 1, 5, 7, 8], bits 96 [], bits 96 [0, 1, 5, 7, 8], bits 96 [6], bits 96 [0, 1, 5, 7, 8], bits 96 [6], bits 96 [6]]
@[simp] def r8 : List Bool := bits 96 [6]
@[simp] def R8 (s6 : V) : St := tab 96 57 (fu dd 6 s6) dd
@[simp] def x8_0 : List Bool := bits 96 []
@[simp] def X8_0 : St := tab 96 57 dd dd
@[simp] def h8_0 : List Bool := bits 96 [0, 1, 5, 7, 8]
@[simp] def L8_0 (s0 s1 s5 s7 s8 : V) : St := tab 96 57 (fu (fu (fu (fu (fu dd 8 s8) 7 s7) 5 s5) 1 s1) 0 s0) dd
@[simp] def x8_1 : List Bool := bits 96 [0, 1, 5, 7, 8]
@[simp] def X8_1 (s0 s1 s5 s7 s8 : V) : St := tab 96 57 (fu (fu (fu (fu (fu dd 8 s8) 7 s7) 5 s5) 1 s1) 0 s0) dd
def b8_0 : MC := .seq (.scr h8_0)
 (.seq (.seq (.ops [⟨none, .mv 41 (.t 8)⟩,
    ⟨none, .mv 42 (.t 0)⟩,
    ⟨none, .bin 43 .lss .num (.t 41) (.t 42)⟩])
  (.cnd (.t 43)
   .skip
   (.seq (.scr x8_0) (.ex 0))))
 (.seq (.seq (.blk 1 (.seq (.ops [⟨none, .mv 47 (.t 0)⟩,
     ⟨none, .mv 48 (.t 1)⟩,
     ⟨none, .mv 49 (.t 8)⟩,
     ⟨none, .fa 50 1 (.t 5)⟩,
     ⟨none, .ld1 51 (.t 50)⟩,
     ⟨none, .call (some 52) 14 [(.t 47), (.t 48), (.t 49), (.t 51)]⟩,
     ⟨none, .mv 46 (.t 52)⟩,
     ⟨none, .ext 53 (.t 46) 0⟩,
     ⟨none, .ext 54 (.t 46) 1⟩,
     ⟨none, .ext 55 (.t 46) 2⟩,
     ⟨none, .asg 9 (.t 53)⟩,
     ⟨none, .asg 10 (.t 54)⟩,
     ⟨none, .asg 11 (.t 55)⟩])
   (.seq (.ops [⟨none, .mv 57 (.t 0)⟩,
     ⟨none, .mv 58 (.t 7)⟩,
     ⟨none, .mv 59 (.t 8)⟩,
     ⟨none, .fa 60 1 (.t 5)⟩,
     ⟨none, .ld1 61 (.t 60)⟩,
     ⟨none, .call (some 62) 14 [(.t 57), (.t 58), (.t 59), (.t 61)]⟩,
     ⟨none, .mv 56 (.t 62)⟩,
     ⟨none, .ext 63 (.t 56) 0⟩,
     ⟨none, .ext 64 (.t 56) 1⟩,
     ⟨none, .ext 65 (.t 56) 2⟩,
     ⟨none, .asg 12 (.t 63)⟩,
     ⟨none, .asg 13 (.t 64)⟩,
     ⟨none, .asg 14 (.t 65)⟩])
   (.seq (.seq (.ops [⟨none, .mv 66 (.t 11)⟩,
      ⟨none, .bin 67 .neq .num (.t 66) (.c (.v (.int .i64 0)))⟩])
    (.cnd (.t 67)
     (.seq (.seq (.ops [⟨none, .mv 68 (.t 11)⟩,
        ⟨none, .bin 69 .neq .num (.t 68) (.c (.v (.int .i64 10)))⟩,
        ⟨none, .mv 70 (.t 69)⟩,
        ⟨some (70, false), .mv 71 (.t 14)⟩,
        ⟨some (70, false), .bin 72 .neq .num (.t 71) (.c (.v (.int .i64 10)))⟩,
        ⟨none, .pick 73 (.t 70) (.c (.v (.bool true))) (.t 72)⟩])
      (.cnd (.t 73)
       (.seq (.ops [⟨none, .asg 6 (.c (.v (.bool false)))⟩])
       (.seq (.scr r8) .ret))
       .skip))
     (.seq (.scr x8_1) (.ex 1)))
     .skip))
   (.seq (.ops (⟨none, .mv 74 (.t 14)⟩ ::
     ⟨none, .bin 75 .eql .num (.t 74) (.c (.v (.int .i64 0)))⟩ ::
     ⟨none, .mv 76 (.t 75)⟩ ::
     ⟨some (76, true), .mv 77 (.t 10)⟩ ::
     ⟨none, .pick 78 (.t 76) (.t 77) (.c (.v (.bool false)))⟩ ::
     ⟨none, .mv 79 (.t 78)⟩ ::
     ⟨some (79, true), .mv 80 (.t 13)⟩ ::
     ⟨some (79, true), .un 81 .not (.t 80)⟩ ::
     ⟨some (79, true), .mv 82 (.t 81)⟩ ::
     ⟨some (82, false), .mv 83 (.t 12)⟩ ::
     ⟨some (82, false), .mv 84 (.t 9)⟩ ::
     ⟨some (82, false), .bin 85 .gtr .num (.t 83) (.t 84)⟩ ::
     ⟨some (79, true), .pick 86 (.t 82) (.c (.v (.bool true))) (.t 85)⟩ ::
     ⟨none, .pick 87 (.t 79) (.t 86) (.c (.v (.bool false)))⟩ ::
     ⟨none, .mv 88 (.t 87)⟩ ::
     ⟨some (88, false), .mv 89 (.t 14)⟩ ::
     ⟨some (88, false), .bin 90 .neq .num (.t 89) (.c (.v (.int .i64 0)))⟩ ::
     ⟨some (88, false), .mv 91 (.t 90)⟩ ::
     ⟨some (91, true), .mv 92 (.t 14)⟩ ::
     ⟨some (91, true), .bin 93 .neq .num (.t 92) (.c (.v (.int .i64 10)))⟩ ::
     ⟨some (88, false), .pick 94 (.t 91) (.t 93) (.c (.v (.bool false)))⟩ ::
     ⟨none, .pick 95 (.t 88) (.c (.v (.bool true))) (.t 94)⟩ :: []))
   (.cnd (.t 95)
    (.seq (.ops [⟨none, .asg 6 (.c (.v (.bool false)))⟩])
    (.seq (.scr r8) .ret))
    .skip)))))) (.scr x8_1))
 (.ops [⟨none, .mv 44 (.t 8)⟩,
  ⟨none, .bin 45 .add .num (.t 44) (.c (.v (.int .i64 1)))⟩,
  ⟨none, .asg 8 (.t 45)⟩])))
def c8 : MF := ⟨(.seq (.ops [⟨none, .box 5 (.t 2)⟩,
   ⟨none, .asg 6 (.c (.v (.bool false)))⟩])
 (.seq (.seq (.ops (⟨none, .call (some 15) 12 []⟩ ::
    ⟨none, .un 16 .not (.t 15)⟩ ::
    ⟨none, .mv 17 (.t 16)⟩ ::
    ⟨some (17, false), .mv 18 (.t 1)⟩ ::
    ⟨some (17, false), .len 19 false (.t 18)⟩ ::
    ⟨some (17, false), .bin 20 .gtr .num (.t 19) (.c (.v (.int .i64 79)))⟩ ::
    ⟨none, .pick 21 (.t 17) (.c (.v (.bool true))) (.t 20)⟩ ::
    ⟨none, .mv 22 (.t 21)⟩ ::
    ⟨some (22, false), .mv 23 (.t 0)⟩ ::
    ⟨some (22, false), .mv 24 (.t 1)⟩ ::
    ⟨some (22, false), .call (some 25) 17 [(.t 23), (.t 24)]⟩ ::
    ⟨some (22, false), .un 26 .not (.t 25)⟩ ::
    ⟨none, .pick 27 (.t 22) (.c (.v (.bool true))) (.t 26)⟩ ::
    ⟨none, .mv 28 (.t 27)⟩ ::
    ⟨some (28, false), .mv 29 (.t 0)⟩ ::
    ⟨some (28, false), .ldn 30 3 (.t 5)⟩ ::
    ⟨some (28, false), .call (some 31) 24 [(.t 29), (.t 30)]⟩ ::
    ⟨some (28, false), .un 32 .not (.t 31)⟩ ::
    ⟨none, .pick 33 (.t 28) (.c (.v (.bool true))) (.t 32)⟩ :: []))
  (.cnd (.t 33)
   (.seq (.ops [⟨none, .call (some 34) 12 []⟩,
     ⟨none, .asg 6 (.t 34)⟩])
   (.seq (.scr r8) .ret))
   .skip))
 (.seq (.drw [⟨none, .mz 35 3⟩,
   ⟨none, .mv 36 (.t 1)⟩,
   ⟨none, .app 37 3 (.t 35) (.t 36)⟩,
   ⟨none, .ldn 38 3 (.t 5)⟩,
   ⟨none, .bs 39 3 1 [(.v (.int .i64 0)), (.v (.int .i64 0)), (.v (.int .i64 0))] [(0, 3, (.t 38))]⟩] [⟨none, .app 40 3 (.t 37) (.t 39)⟩,
   ⟨none, .asg 7 (.t 40)⟩])
 (.seq (.seq (.ops [⟨none, .asg 8 (.c (.v (.int .i64 0)))⟩])
  (.seq (.blk 0 (.lop b8_0)) (.scr x8_0)))
 (.seq (.ops [⟨none, .asg 6 (.c (.v (.bool true)))⟩])
 (.seq (.scr r8) .ret)))))),
  96, [6]⟩

/-- coinage/coinagelaw33.DifferenceImplies -/
abbrev K9 : Nat := 20
def hints9 : List (List Bool) := [bits 53 [6], bits 53 [6]]
@[simp] def r9 : List Bool := bits 53 [6]
@[simp] def R9 (s6 : V) : St := tab 53 20 (fu dd 6 s6) dd
def c9 : MF := ⟨(.seq (.ops [⟨none, .box 5 (.t 2)⟩,
   ⟨none, .asg 6 (.c (.v (.bool false)))⟩])
 (.seq (.seq (.ops [⟨none, .call (some 11) 12 []⟩,
    ⟨none, .un 12 .not (.t 11)⟩,
    ⟨none, .mv 13 (.t 12)⟩,
    ⟨some (13, false), .mv 14 (.t 1)⟩,
    ⟨some (13, false), .call (some 15) 13 [(.t 14)]⟩,
    ⟨some (13, false), .un 16 .not (.t 15)⟩,
    ⟨none, .pick 17 (.t 13) (.c (.v (.bool true))) (.t 16)⟩])
  (.cnd (.t 17)
   (.seq (.ops [⟨none, .call (some 18) 12 []⟩,
     ⟨none, .asg 6 (.t 18)⟩])
   (.seq (.scr r9) .ret))
   .skip))
 (.seq (.ops [⟨none, .mv 20 (.t 0)⟩,
   ⟨none, .mv 21 (.t 1)⟩,
   ⟨none, .fa 22 0 (.t 5)⟩,
   ⟨none, .ld1 23 (.t 22)⟩,
   ⟨none, .fa 24 1 (.t 5)⟩,
   ⟨none, .ld1 25 (.t 24)⟩,
   ⟨none, .call (some 26) 14 [(.t 20), (.t 21), (.t 23), (.t 25)]⟩,
   ⟨none, .mv 19 (.t 26)⟩,
   ⟨none, .ext 27 (.t 19) 0⟩,
   ⟨none, .ext 28 (.t 19) 1⟩,
   ⟨none, .ext 29 (.t 19) 2⟩,
   ⟨none, .asg 7 (.t 27)⟩,
   ⟨none, .asg 8 (.t 28)⟩,
   ⟨none, .asg 9 (.t 29)⟩])
 (.seq (.ops [⟨none, .mv 30 (.t 0)⟩,
   ⟨none, .ldn 31 3 (.t 5)⟩,
   ⟨none, .bs 32 3 1 [(.v (.int .i64 0)), (.v (.int .i64 0)), (.v (.int .i64 0))] [(0, 3, (.t 31))]⟩,
   ⟨none, .call (some 33) 16 [(.t 30), (.t 32)]⟩,
   ⟨none, .asg 10 (.t 33)⟩])
 (.seq (.ops (⟨none, .mv 34 (.t 0)⟩ ::
   ⟨none, .mv 35 (.t 1)⟩ ::
   ⟨none, .ldn 36 3 (.t 5)⟩ ::
   ⟨none, .call (some 37) 25 [(.t 34), (.t 35), (.t 36)]⟩ ::
   ⟨none, .mv 38 (.t 10)⟩ ::
   ⟨none, .mv 39 (.t 38)⟩ ::
   ⟨some (39, true), .mv 40 (.t 9)⟩ ::
   ⟨some (39, true), .bin 41 .eql .num (.t 40) (.c (.v (.int .i64 0)))⟩ ::
   ⟨none, .pick 42 (.t 39) (.t 41) (.c (.v (.bool false)))⟩ ::
   ⟨none, .mv 43 (.t 42)⟩ ::
   ⟨some (43, true), .mv 44 (.t 8)⟩ ::
   ⟨none, .pick 45 (.t 43) (.t 44) (.c (.v (.bool false)))⟩ ::
   ⟨none, .mv 46 (.t 45)⟩ ::
   ⟨some (46, true), .mv 47 (.t 7)⟩ ::
   ⟨some (46, true), .fa 48 2 (.t 5)⟩ ::
   ⟨some (46, true), .ld1 49 (.t 48)⟩ ::
   ⟨some (46, true), .bin 50 .leq .num (.t 47) (.t 49)⟩ ::
   ⟨none, .pick 51 (.t 46) (.t 50) (.c (.v (.bool false)))⟩ ::
   ⟨none, .bin 52 .eql .bool (.t 37) (.t 51)⟩ ::
   ⟨none, .asg 6 (.t 52)⟩ :: []))
 (.seq (.scr r9) .ret)))))),
  53, [6]⟩

/-- coinage/coinagelaw33.DifferenceHolds -/
abbrev K10 : Nat := 7
def hints10 : List (List Bool) := [bits 40 [6], bits 40 [6]]
@[simp] def r10 : List Bool := bits 40 [6]
@[simp] def R10 (s6 : V) : St := tab 40 7 (fu dd 6 s6) dd
def c10 : MF := ⟨(.seq (.ops [⟨none, .asg 6 (.c (.v (.bool false)))⟩])
 (.seq (.seq (.ops [⟨none, .call (some 7) 12 []⟩,
    ⟨none, .un 8 .not (.t 7)⟩,
    ⟨none, .mv 9 (.t 8)⟩,
    ⟨some (9, false), .mv 10 (.t 1)⟩,
    ⟨some (9, false), .call (some 11) 13 [(.t 10)]⟩,
    ⟨some (9, false), .un 12 .not (.t 11)⟩,
    ⟨none, .pick 13 (.t 9) (.c (.v (.bool true))) (.t 12)⟩,
    ⟨none, .mv 14 (.t 13)⟩,
    ⟨some (14, false), .mv 15 (.t 2)⟩,
    ⟨some (14, false), .len 16 false (.t 15)⟩,
    ⟨some (14, false), .bin 17 .gtr .num (.t 16) (.c (.v (.int .i64 40)))⟩,
    ⟨none, .pick 18 (.t 14) (.c (.v (.bool true))) (.t 17)⟩])
  (.cnd (.t 18)
   (.seq (.ops [⟨none, .call (some 19) 12 []⟩,
     ⟨none, .asg 6 (.t 19)⟩])
   (.seq (.scr r10) .ret))
   .skip))
 (.seq (.ops (⟨none, .mv 20 (.t 0)⟩ ::
   ⟨none, .mv 21 (.t 1)⟩ ::
   ⟨none, .mv 22 (.t 2)⟩ ::
   ⟨none, .call (some 23) 26 [(.t 20), (.t 21), (.t 22)]⟩ ::
   ⟨none, .mv 24 (.t 0)⟩ ::
   ⟨none, .mv 25 (.t 1)⟩ ::
   ⟨none, .mv 26 (.t 2)⟩ ::
   ⟨none, .call (some 27) 27 [(.t 24), (.t 25), (.t 26)]⟩ ::
   ⟨none, .bin 28 .eql .bool (.t 23) (.t 27)⟩ ::
   ⟨none, .mv 29 (.t 28)⟩ ::
   ⟨some (29, true), .mv 30 (.t 0)⟩ ::
   ⟨some (29, true), .mv 31 (.t 1)⟩ ::
   ⟨some (29, true), .mv 32 (.t 2)⟩ ::
   ⟨some (29, true), .call (some 33) 28 [(.t 30), (.t 31), (.t 32)]⟩ ::
   ⟨some (29, true), .mv 34 (.t 0)⟩ ::
   ⟨some (29, true), .mv 35 (.t 1)⟩ ::
   ⟨some (29, true), .mv 36 (.t 2)⟩ ::
   ⟨some (29, true), .call (some 37) 29 [(.t 34), (.t 35), (.t 36)]⟩ ::
   ⟨some (29, true), .bin 38 .eql .bool (.t 33) (.t 37)⟩ ::
   ⟨none, .pick 39 (.t 29) (.t 38) (.c (.v (.bool false)))⟩ ::
   ⟨none, .asg 6 (.t 39)⟩ :: []))
 (.seq (.scr r10) .ret)))),
  40, [6]⟩

/-- coinage/coinagelaw33.DifferenceSplits -/
abbrev K11 : Nat := 130
def hints11 : List (List Bool) := [bits 142 [4], bits 142 [0, 1, 5, 6], bits 142 [4], bits 142 [4], bits 142 [4], bits 142 [4], bits 142 [0, 1], bits 142 [0, 1, 5, 9, 10], bits 142 [0, 1], bits 142 [0, 1, 5, 9, 10], bits 142 [4], bits 142 [4]]
@[simp] def r11 : List Bool := bits 142 [4]
@[simp] def R11 (s4 : V) : St := tab 142 130 (fu dd 4 s4) dd
@[simp] def x11_0 : List Bool := bits 142 [0, 1, 5, 6]
@[simp] def X11_0 (s0 s1 s5 s6 : V) : St := tab 142 130 (fu (fu (fu (fu dd 6 s6) 5 s5) 1 s1) 0 s0) dd
@[simp] def x11_1 : List Bool := bits 142 [0, 1]
@[simp] def X11_1 (s0 s1 : V) : St := tab 142 130 (fu (fu dd 1 s1) 0 s0) dd
@[simp] def h11_0 : List Bool := bits 142 [0, 1, 5, 9, 10]
@[simp] def L11_0 (s0 s1 s5 s9 s10 : V) : St := tab 142 130 (fu (fu (fu (fu (fu dd 10 s10) 9 s9) 5 s5) 1 s1) 0 s0) dd
@[simp] def x11_2 : List Bool := bits 142 [0, 1, 5, 9, 10]
@[simp] def X11_2 (s0 s1 s5 s9 s10 : V) : St := tab 142 130 (fu (fu (fu (fu (fu dd 10 s10) 9 s9) 5 s5) 1 s1) 0 s0) dd
def b11_0 : MC := .seq (.scr h11_0)
 (.seq (.seq (.ops [⟨none, .mv 92 (.t 10)⟩,
    ⟨none, .mv 93 (.t 5)⟩,
    ⟨none, .len 94 false (.t 93)⟩,
    ⟨none, .bin 95 .lss .num (.t 92) (.t 94)⟩])
  (.cnd (.t 95)
   .skip
   (.seq (.scr x11_1) (.ex 1))))
 (.seq (.seq (.blk 2 (.seq (.ops [⟨none, .mv 98 (.t 1)⟩,
     ⟨none, .mv 99 (.t 5)⟩,
     ⟨none, .mv 100 (.t 10)⟩,
     ⟨none, .ixs 101 1 (.t 99) (.t 100)⟩,
     ⟨none, .ld1 102 (.t 101)⟩,
     ⟨none, .ixs 103 3 (.t 98) (.t 102)⟩,
     ⟨none, .fa 104 0 (.t 103)⟩,
     ⟨none, .ld1 105 (.t 104)⟩,
     ⟨none, .asg 11 (.t 105)⟩])
   (.seq (.seq (.drw [⟨none, .mv 106 (.t 5)⟩,
      ⟨none, .mv 107 (.t 10)⟩,
      ⟨none, .ixs 108 1 (.t 106) (.t 107)⟩,
      ⟨none, .ld1 109 (.t 108)⟩,
      ⟨none, .mv 110 (.t 5)⟩,
      ⟨none, .ixs 111 1 (.t 110) (.c (.v (.int .i64 0)))⟩,
      ⟨none, .ld1 112 (.t 111)⟩,
      ⟨none, .bin 113 .lss .num (.t 109) (.t 112)⟩,
      ⟨none, .mv 114 (.t 113)⟩,
      ⟨some (114, false), .mv 115 (.t 9)⟩,
      ⟨some (114, false), .mv 116 (.t 11)⟩] [⟨some (114, false), .ixs 117 1 (.t 115) (.t 116)⟩,
      ⟨some (114, false), .ld1 118 (.t 117)⟩,
      ⟨none, .pick 119 (.t 114) (.c (.v (.bool true))) (.t 118)⟩])
    (.cnd (.t 119)
     (.seq (.ops [⟨none, .asg 4 (.c (.v (.bool false)))⟩])
     (.seq (.scr r11) .ret))
     .skip))
   (.ops [⟨none, .mv 120 (.t 9)⟩,
    ⟨none, .mv 121 (.t 11)⟩,
    ⟨none, .ixs 122 1 (.t 120) (.t 121)⟩,
    ⟨none, .stn none 1 (.t 122) (.c (.v (.bool true)))⟩])))) (.scr x11_2))
 (.ops [⟨none, .mv 96 (.t 10)⟩,
  ⟨none, .bin 97 .add .num (.t 96) (.c (.v (.int .i64 1)))⟩,
  ⟨none, .asg 10 (.t 97)⟩])))
def c11 : MF := ⟨(.seq (.ops [⟨none, .asg 4 (.c (.v (.bool false)))⟩])
 (.seq (.seq (.ops [⟨none, .call (some 17) 12 []⟩,
    ⟨none, .un 18 .not (.t 17)⟩,
    ⟨none, .mv 19 (.t 18)⟩,
    ⟨some (19, false), .mv 20 (.t 1)⟩,
    ⟨some (19, false), .len 21 false (.t 20)⟩,
    ⟨some (19, false), .bin 22 .gtr .num (.t 21) (.c (.v (.int .i64 60)))⟩,
    ⟨none, .pick 23 (.t 19) (.c (.v (.bool true))) (.t 22)⟩])
  (.cnd (.t 23)
   (.seq (.ops [⟨none, .call (some 24) 12 []⟩,
     ⟨none, .asg 4 (.t 24)⟩])
   (.seq (.scr r11) .ret))
   .skip))
 (.seq (.ops [⟨none, .mv 26 (.t 0)⟩,
   ⟨none, .mv 27 (.t 1)⟩,
   ⟨none, .call (some 28) 21 [(.t 26), (.t 27)]⟩,
   ⟨none, .mv 25 (.t 28)⟩,
   ⟨none, .ext 29 (.t 25) 0⟩,
   ⟨none, .ext 30 (.t 25) 1⟩,
   ⟨none, .asg 5 (.t 29)⟩,
   ⟨none, .asg 6 (.t 30)⟩])
 (.seq (.seq (.ops [⟨none, .mv 31 (.t 6)⟩])
  (.seq (.blk 0 (.seq (.ops [⟨none, .bin 33 .eql .num (.t 31) (.c (.v (.int .i64 1)))⟩,
     ⟨none, .asg 32 (.t 33)⟩])
   (.cnd (.t 32)
    (.seq (.ops [⟨none, .mv 34 (.t 0)⟩,
      ⟨none, .mv 35 (.t 1)⟩,
      ⟨none, .call (some 36) 17 [(.t 34), (.t 35)]⟩,
      ⟨none, .un 37 .not (.t 36)⟩,
      ⟨none, .asg 4 (.t 37)⟩])
    (.seq (.scr r11) .ret))
    (.seq (.ops [⟨none, .bin 39 .eql .num (.t 31) (.c (.v (.int .i64 7)))⟩,
      ⟨none, .asg 38 (.t 39)⟩])
    (.cnd (.t 38)
     (.seq (.seq (.ops [⟨none, .mv 40 (.t 1)⟩,
        ⟨none, .call (some 41) 30 [(.t 40)]⟩])
      (.cnd (.t 41)
       (.seq (.ops [⟨none, .asg 4 (.c (.v (.bool true)))⟩])
       (.seq (.scr r11) .ret))
       .skip))
     (.seq (.ops [⟨none, .mv 43 (.t 0)⟩,
       ⟨none, .mv 44 (.t 0)⟩,
       ⟨none, .mv 45 (.t 1)⟩,
       ⟨none, .call (some 46) 31 [(.t 44), (.t 45)]⟩,
       ⟨none, .call (some 47) 18 [(.t 43), (.t 46)]⟩,
       ⟨none, .mv 42 (.t 47)⟩,
       ⟨none, .ext 48 (.t 42) 0⟩,
       ⟨none, .ext 49 (.t 42) 1⟩,
       ⟨none, .asg 7 (.t 48)⟩,
       ⟨none, .asg 8 (.t 49)⟩])
     (.seq (.ops [⟨none, .mv 50 (.t 5)⟩,
       ⟨none, .len 51 false (.t 50)⟩,
       ⟨none, .bin 52 .eql .num (.t 51) (.c (.v (.int .i64 0)))⟩,
       ⟨none, .mv 53 (.t 52)⟩,
       ⟨some (53, true), .mv 54 (.t 8)⟩,
       ⟨some (53, true), .bin 55 .eql .num (.t 54) (.c (.v (.int .i64 0)))⟩,
       ⟨none, .pick 56 (.t 53) (.t 55) (.c (.v (.bool false)))⟩,
       ⟨none, .mv 57 (.t 56)⟩,
       ⟨some (57, true), .mv 58 (.t 0)⟩,
       ⟨some (57, true), .mv 59 (.t 1)⟩,
       ⟨some (57, true), .mv 60 (.t 7)⟩,
       ⟨some (57, true), .call (some 61) 26 [(.t 58), (.t 59), (.t 60)]⟩,
       ⟨none, .pick 62 (.t 57) (.t 61) (.c (.v (.bool false)))⟩,
       ⟨none, .asg 4 (.t 62)⟩])
     (.seq (.scr r11) .ret))))
     .skip))))) (.scr x11_0)))
 (.seq (.seq (.ops (⟨none, .mv 63 (.t 6)⟩ ::
    ⟨none, .bin 64 .neq .num (.t 63) (.c (.v (.int .i64 0)))⟩ ::
    ⟨none, .mv 65 (.t 64)⟩ ::
    ⟨some (65, false), .mv 66 (.t 0)⟩ ::
    ⟨some (65, false), .mv 67 (.t 1)⟩ ::
    ⟨some (65, false), .call (some 68) 17 [(.t 66), (.t 67)]⟩ ::
    ⟨some (65, false), .un 69 .not (.t 68)⟩ ::
    ⟨none, .pick 70 (.t 65) (.c (.v (.bool true))) (.t 69)⟩ ::
    ⟨none, .mv 71 (.t 70)⟩ ::
    ⟨some (71, false), .mv 72 (.t 0)⟩ ::
    ⟨some (71, false), .mv 73 (.t 1)⟩ ::
    ⟨some (71, false), .mv 74 (.t 5)⟩ ::
    ⟨some (71, false), .call (some 75) 28 [(.t 72), (.t 73), (.t 74)]⟩ ::
    ⟨some (71, false), .un 76 .not (.t 75)⟩ ::
    ⟨none, .pick 77 (.t 71) (.c (.v (.bool true))) (.t 76)⟩ ::
    ⟨none, .mv 78 (.t 77)⟩ ::
    ⟨some (78, false), .mv 79 (.t 0)⟩ ::
    ⟨some (78, false), .mv 80 (.t 1)⟩ ::
    ⟨some (78, false), .mv 81 (.t 5)⟩ ::
    ⟨some (78, false), .call (some 82) 29 [(.t 79), (.t 80), (.t 81)]⟩ ::
    ⟨some (78, false), .un 83 .not (.t 82)⟩ ::
    ⟨none, .pick 84 (.t 78) (.c (.v (.bool true))) (.t 83)⟩ ::
    ⟨none, .mv 85 (.t 84)⟩ ::
    ⟨some (85, false), .mv 86 (.t 5)⟩ ::
    ⟨some (85, false), .len 87 false (.t 86)⟩ ::
    ⟨some (85, false), .mv 88 (.t 0)⟩ ::
    ⟨some (85, false), .bin 89 .gtr .num (.t 87) (.t 88)⟩ ::
    ⟨none, .pick 90 (.t 85) (.c (.v (.bool true))) (.t 89)⟩ :: []))
  (.cnd (.t 90)
   (.seq (.ops [⟨none, .asg 4 (.c (.v (.bool false)))⟩])
   (.seq (.scr r11) .ret))
   .skip))
 (.seq (.ops [⟨none, .mks 91 1 [(.v (.bool false))] (.c (.v (.int .i64 16))) (.c (.v (.int .i64 16)))⟩,
   ⟨none, .asg 9 (.t 91)⟩])
 (.seq (.seq (.ops [⟨none, .asg 10 (.c (.v (.int .i64 0)))⟩])
  (.seq (.blk 1 (.lop b11_0)) (.scr x11_1)))
 (.seq (.ops [⟨none, .mv 124 (.t 0)⟩,
   ⟨none, .mv 125 (.t 1)⟩,
   ⟨none, .call (some 126) 18 [(.t 124), (.t 125)]⟩,
   ⟨none, .mv 123 (.t 126)⟩,
   ⟨none, .ext 127 (.t 123) 0⟩,
   ⟨none, .ext 128 (.t 123) 1⟩,
   ⟨none, .asg 12 (.t 127)⟩,
   ⟨none, .asg 13 (.t 128)⟩])
 (.seq (.ops [⟨none, .mv 130 (.t 0)⟩,
   ⟨none, .mv 131 (.t 1)⟩,
   ⟨none, .call (some 132) 14 [(.t 130), (.t 131), (.c (.v (.int .i64 0))), (.c (.v (.int .i64 0)))]⟩,
   ⟨none, .mv 129 (.t 132)⟩,
   ⟨none, .ext 133 (.t 129) 0⟩,
   ⟨none, .ext 134 (.t 129) 1⟩,
   ⟨none, .ext 135 (.t 129) 2⟩,
   ⟨none, .asg 14 (.t 133)⟩,
   ⟨none, .asg 15 (.t 134)⟩,
   ⟨none, .asg 16 (.t 135)⟩])
 (.seq (.ops [⟨none, .mv 136 (.t 13)⟩,
   ⟨none, .bin 137 .eql .num (.t 136) (.c (.v (.int .i64 10)))⟩,
   ⟨none, .mv 138 (.t 137)⟩,
   ⟨some (138, true), .mv 139 (.t 16)⟩,
   ⟨some (138, true), .bin 140 .eql .num (.t 139) (.c (.v (.int .i64 10)))⟩,
   ⟨none, .pick 141 (.t 138) (.t 140) (.c (.v (.bool false)))⟩,
   ⟨none, .asg 4 (.t 141)⟩])
 (.seq (.scr r11) .ret))))))))))),
  142, [4]⟩

/-- coinage/coinagelaw33.awake -/
abbrev K12 : Nat := 24
def hints12 : List (List Bool) := [bits 58 [0]]
@[simp] def r12 : List Bool := bits 58 [0]
@[simp] def R12 (s0 : V) : St := tab 58 24 (fu dd 0 s0) dd
def c12 : MF := ⟨(.seq (.ops [⟨none, .asg 0 (.c (.v (.bool false)))⟩])
 (.seq (.ops [⟨none, .bld 9 [(.v (.int .i64 0)), (.v (.int .i64 0)), (.v (.int .i64 0))] [(0, 1, (.c (.v (.int .i64 0)))), (1, 1, (.c (.v (.int .i64 1)))), (2, 1, (.c (.v (.int .i64 5))))]⟩,
   ⟨none, .bld 10 [(.v (.int .i64 0)), (.v (.int .i64 0)), (.v (.int .i64 0))] [(0, 1, (.c (.v (.int .i64 1)))), (1, 1, (.c (.v (.int .i64 2)))), (2, 1, (.c (.v (.int .i64 (-2)))))]⟩,
   ⟨none, .bs 11 3 2 [(.v (.int .i64 0)), (.v (.int .i64 0)), (.v (.int .i64 0))] [(0, 3, (.t 9)), (3, 3, (.t 10))]⟩,
   ⟨none, .asg 1 (.t 11)⟩])
 (.seq (.ops [⟨none, .mv 13 (.t 1)⟩,
   ⟨none, .call (some 14) 18 [(.c (.v (.int .i64 3))), (.t 13)]⟩,
   ⟨none, .mv 12 (.t 14)⟩,
   ⟨none, .ext 15 (.t 12) 0⟩,
   ⟨none, .ext 16 (.t 12) 1⟩,
   ⟨none, .asg 2 (.t 15)⟩,
   ⟨none, .asg 3 (.t 16)⟩])
 (.seq (.ops [⟨none, .mv 18 (.t 1)⟩,
   ⟨none, .call (some 19) 14 [(.c (.v (.int .i64 3))), (.t 18), (.c (.v (.int .i64 0))), (.c (.v (.int .i64 2)))]⟩,
   ⟨none, .mv 17 (.t 19)⟩,
   ⟨none, .ext 20 (.t 17) 0⟩,
   ⟨none, .ext 21 (.t 17) 1⟩,
   ⟨none, .ext 22 (.t 17) 2⟩,
   ⟨none, .asg 4 (.t 20)⟩,
   ⟨none, .asg 5 (.t 21)⟩,
   ⟨none, .asg 6 (.t 22)⟩])
 (.seq (.ops [⟨none, .mv 24 (.t 1)⟩,
   ⟨none, .bld 25 [(.v (.int .i64 0)), (.v (.int .i64 0)), (.v (.int .i64 0))] [(0, 1, (.c (.v (.int .i64 2)))), (1, 1, (.c (.v (.int .i64 0)))), (2, 1, (.c (.v (.int .i64 (-4)))))]⟩,
   ⟨none, .bs 26 3 1 [(.v (.int .i64 0)), (.v (.int .i64 0)), (.v (.int .i64 0))] [(0, 3, (.t 25))]⟩,
   ⟨none, .app 27 3 (.t 24) (.t 26)⟩,
   ⟨none, .call (some 28) 21 [(.c (.v (.int .i64 3))), (.t 27)]⟩,
   ⟨none, .mv 23 (.t 28)⟩,
   ⟨none, .ext 29 (.t 23) 0⟩,
   ⟨none, .ext 30 (.t 23) 1⟩,
   ⟨none, .asg 7 (.t 29)⟩,
   ⟨none, .asg 8 (.t 30)⟩])
 (.seq (.ops (⟨none, .mv 31 (.t 3)⟩ ::
   ⟨none, .bin 32 .eql .num (.t 31) (.c (.v (.int .i64 0)))⟩ ::
   ⟨none, .mv 33 (.t 32)⟩ ::
   ⟨some (33, true), .mv 34 (.t 2)⟩ ::
   ⟨some (33, true), .bs 35 1 3 [(.v (.int .i64 0))] [(0, 1, (.c (.v (.int .i64 0)))), (1, 1, (.c (.v (.int .i64 5)))), (2, 1, (.c (.v (.int .i64 3))))]⟩ ::
   ⟨some (33, true), .call (some 36) 20 [(.t 34), (.t 35)]⟩ ::
   ⟨none, .pick 37 (.t 33) (.t 36) (.c (.v (.bool false)))⟩ ::
   ⟨none, .mv 38 (.t 37)⟩ ::
   ⟨some (38, true), .mv 39 (.t 4)⟩ ::
   ⟨some (38, true), .bin 40 .eql .num (.t 39) (.c (.v (.int .i64 3)))⟩ ::
   ⟨none, .pick 41 (.t 38) (.t 40) (.c (.v (.bool false)))⟩ ::
   ⟨none, .mv 42 (.t 41)⟩ ::
   ⟨some (42, true), .mv 43 (.t 5)⟩ ::
   ⟨none, .pick 44 (.t 42) (.t 43) (.c (.v (.bool false)))⟩ ::
   ⟨none, .mv 45 (.t 44)⟩ ::
   ⟨some (45, true), .mv 46 (.t 6)⟩ ::
   ⟨some (45, true), .bin 47 .eql .num (.t 46) (.c (.v (.int .i64 0)))⟩ ::
   ⟨none, .pick 48 (.t 45) (.t 47) (.c (.v (.bool false)))⟩ ::
   ⟨none, .mv 49 (.t 48)⟩ ::
   ⟨some (49, true), .mv 50 (.t 8)⟩ ::
   ⟨some (49, true), .bin 51 .eql .num (.t 50) (.c (.v (.int .i64 0)))⟩ ::
   ⟨none, .pick 52 (.t 49) (.t 51) (.c (.v (.bool false)))⟩ ::
   ⟨none, .mv 53 (.t 52)⟩ ::
   ⟨some (53, true), .mv 54 (.t 7)⟩ ::
   ⟨some (53, true), .bs 55 1 3 [(.v (.int .i64 0))] [(0, 1, (.c (.v (.int .i64 0)))), (1, 1, (.c (.v (.int .i64 1)))), (2, 1, (.c (.v (.int .i64 2))))]⟩ ::
   ⟨some (53, true), .call (some 56) 20 [(.t 54), (.t 55)]⟩ ::
   ⟨none, .pick 57 (.t 53) (.t 56) (.c (.v (.bool false)))⟩ ::
   ⟨none, .asg 0 (.t 57)⟩ :: []))
 (.seq (.scr r12) .ret))))))),
  58, [0]⟩

/-- coinage/coinagelaw33.few -/
abbrev K13 : Nat := 3
def hints13 : List (List Bool) := [bits 6 [2]]
@[simp] def r13 : List Bool := bits 6 [2]
@[simp] def R13 (s2 : V) : St := tab 6 3 (fu dd 2 s2) dd
def c13 : MF := ⟨(.seq (.ops [⟨none, .asg 2 (.c (.v (.bool false)))⟩])
 (.seq (.ops [⟨none, .mv 3 (.t 0)⟩,
   ⟨none, .len 4 false (.t 3)⟩,
   ⟨none, .bin 5 .leq .num (.t 4) (.c (.v (.int .i64 90)))⟩,
   ⟨none, .asg 2 (.t 5)⟩])
 (.seq (.scr r13) .ret))),
  6, [2]⟩

/-- coinage/difference.Tight -/
abbrev K14 : Nat := 36
def hints14 : List (List Bool) := [bits 59 [0, 1, 2, 3], bits 59 [8, 9, 10], bits 59 [8, 9, 10], bits 59 [8, 9, 10], bits 59 [8, 9, 10]]
@[simp] def r14 : List Bool := bits 59 [8, 9, 10]
@[simp] def R14 (s8 s9 s10 : V) : St := tab 59 36 (fu (fu (fu dd 10 s10) 9 s9) 8 s8) dd
@[simp] def x14_0 : List Bool := bits 59 [0, 1, 2, 3]
@[simp] def X14_0 (s0 s1 s2 s3 : V) : St := tab 59 36 (fu (fu (fu (fu dd 3 s3) 2 s2) 1 s1) 0 s0) dd
def c14 : MF := ⟨(.seq (.ops [⟨none, .asg 8 (.c (.v (.int .i64 0)))⟩,
   ⟨none, .asg 9 (.c (.v (.bool false)))⟩,
   ⟨none, .asg 10 (.c (.v (.int .i64 0)))⟩])
 (.seq (.seq (.blk 0 (.seq (.ops [⟨none, .mv 14 (.t 0)⟩,
     ⟨none, .mv 15 (.t 1)⟩,
     ⟨none, .call (some 16) 16 [(.t 14), (.t 15)]⟩,
     ⟨none, .un 17 .not (.t 16)⟩,
     ⟨none, .asg 13 (.t 17)⟩])
   (.cnd (.t 13)
    (.seq (.ops [⟨none, .asg 8 (.c (.v (.int .i64 0)))⟩,
      ⟨none, .asg 9 (.c (.v (.bool false)))⟩,
      ⟨none, .asg 10 (.c (.v (.int .i64 1)))⟩])
    (.seq (.scr r14) .ret))
    (.seq (.ops (⟨none, .mv 19 (.t 2)⟩ ::
      ⟨none, .bin 20 .lss .num (.t 19) (.c (.v (.int .i64 0)))⟩ ::
      ⟨none, .mv 21 (.t 20)⟩ ::
      ⟨some (21, false), .mv 22 (.t 2)⟩ ::
      ⟨some (21, false), .mv 23 (.t 0)⟩ ::
      ⟨some (21, false), .bin 24 .geq .num (.t 22) (.t 23)⟩ ::
      ⟨none, .pick 25 (.t 21) (.c (.v (.bool true))) (.t 24)⟩ ::
      ⟨none, .mv 26 (.t 25)⟩ ::
      ⟨some (26, false), .mv 27 (.t 3)⟩ ::
      ⟨some (26, false), .bin 28 .lss .num (.t 27) (.c (.v (.int .i64 0)))⟩ ::
      ⟨none, .pick 29 (.t 26) (.c (.v (.bool true))) (.t 28)⟩ ::
      ⟨none, .mv 30 (.t 29)⟩ ::
      ⟨some (30, false), .mv 31 (.t 3)⟩ ::
      ⟨some (30, false), .mv 32 (.t 0)⟩ ::
      ⟨some (30, false), .bin 33 .geq .num (.t 31) (.t 32)⟩ ::
      ⟨none, .pick 34 (.t 30) (.c (.v (.bool true))) (.t 33)⟩ ::
      ⟨none, .asg 18 (.t 34)⟩ :: []))
    (.cnd (.t 18)
     (.seq (.ops [⟨none, .asg 8 (.c (.v (.int .i64 0)))⟩,
       ⟨none, .asg 9 (.c (.v (.bool false)))⟩,
       ⟨none, .asg 10 (.c (.v (.int .i64 2)))⟩])
     (.seq (.scr r14) .ret))
     .skip))))) (.scr x14_0))
 (.seq (.ops [⟨none, .mv 36 (.t 0)⟩,
   ⟨none, .mv 37 (.t 1)⟩,
   ⟨none, .call (some 38) 32 [(.t 36), (.t 37)]⟩,
   ⟨none, .mv 35 (.t 38)⟩,
   ⟨none, .ext 39 (.t 35) 0⟩,
   ⟨none, .ext 40 (.t 35) 1⟩,
   ⟨none, .asg 11 (.t 39)⟩,
   ⟨none, .asg 12 (.t 40)⟩])
 (.seq (.seq (.ops [⟨none, .mv 41 (.t 12)⟩,
    ⟨none, .un 42 .not (.t 41)⟩])
  (.cnd (.t 42)
   (.seq (.ops [⟨none, .asg 8 (.c (.v (.int .i64 0)))⟩,
     ⟨none, .asg 9 (.c (.v (.bool false)))⟩,
     ⟨none, .asg 10 (.c (.v (.int .i64 10)))⟩])
   (.seq (.scr r14) .ret))
   .skip))
 (.seq (.drw (⟨none, .mv 43 (.t 11)⟩ ::
   ⟨none, .mv 44 (.t 2)⟩ ::
   ⟨none, .ixs 45 1 (.t 43) (.t 44)⟩ ::
   ⟨none, .ld1 46 (.t 45)⟩ ::
   ⟨none, .mv 47 (.t 3)⟩ ::
   ⟨none, .ixs 48 2 (.t 46) (.t 47)⟩ ::
   ⟨none, .fa 49 0 (.t 48)⟩ ::
   ⟨none, .ld1 50 (.t 49)⟩ ::
   ⟨none, .mv 51 (.t 11)⟩ ::
   ⟨none, .mv 52 (.t 2)⟩ ::
   ⟨none, .ixs 53 1 (.t 51) (.t 52)⟩ ::
   ⟨none, .ld1 54 (.t 53)⟩ ::
   ⟨none, .mv 55 (.t 3)⟩ ::
   ⟨none, .ixs 56 2 (.t 54) (.t 55)⟩ ::
   ⟨none, .fa 57 1 (.t 56)⟩ ::
   ⟨none, .ld1 58 (.t 57)⟩ ::
   ⟨none, .mv 8 (.t 50)⟩ :: []) [⟨none, .asg 9 (.t 58)⟩,
   ⟨none, .asg 10 (.c (.v (.int .i64 0)))⟩,
   ⟨none, .asg 8 (.t 8)⟩])
 (.seq (.scr r14) .ret)))))),
  59, [8, 9, 10]⟩

/-- coinage/coinageref33.Tight -/
abbrev K15 : Nat := 12
def hints15 : List (List Bool) := [bits 44 [8, 9, 10], bits 44 [8, 9, 10], bits 44 [8, 9, 10], bits 44 [8, 9, 10], bits 44 [8, 9, 10]]
@[simp] def r15 : List Bool := bits 44 [8, 9, 10]
@[simp] def R15 (s8 s9 s10 : V) : St := tab 44 12 (fu (fu (fu dd 10 s10) 9 s9) 8 s8) dd
def c15 : MF := ⟨(.seq (.ops [⟨none, .asg 8 (.c (.v (.int .i64 0)))⟩,
   ⟨none, .asg 9 (.c (.v (.bool false)))⟩,
   ⟨none, .asg 10 (.c (.v (.int .i64 0)))⟩])
 (.seq (.seq (.ops [⟨none, .mv 12 (.t 0)⟩,
    ⟨none, .mv 13 (.t 1)⟩,
    ⟨none, .call (some 14) 17 [(.t 12), (.t 13)]⟩,
    ⟨none, .un 15 .not (.t 14)⟩])
  (.cnd (.t 15)
   (.seq (.ops [⟨none, .asg 8 (.c (.v (.int .i64 0)))⟩,
     ⟨none, .asg 9 (.c (.v (.bool false)))⟩,
     ⟨none, .asg 10 (.c (.v (.int .i64 1)))⟩])
   (.seq (.scr r15) .ret))
   .skip))
 (.seq (.seq (.ops [⟨none, .mv 16 (.t 2)⟩,
    ⟨none, .mv 17 (.t 0)⟩,
    ⟨none, .bin 18 .sub .num (.t 17) (.c (.v (.int .i64 1)))⟩,
    ⟨none, .call (some 19) 33 [(.t 16), (.c (.v (.int .i64 0))), (.t 18)]⟩,
    ⟨none, .un 20 .not (.t 19)⟩,
    ⟨none, .mv 21 (.t 20)⟩,
    ⟨some (21, false), .mv 22 (.t 3)⟩,
    ⟨some (21, false), .mv 23 (.t 0)⟩,
    ⟨some (21, false), .bin 24 .sub .num (.t 23) (.c (.v (.int .i64 1)))⟩,
    ⟨some (21, false), .call (some 25) 33 [(.t 22), (.c (.v (.int .i64 0))), (.t 24)]⟩,
    ⟨some (21, false), .un 26 .not (.t 25)⟩,
    ⟨none, .pick 27 (.t 21) (.c (.v (.bool true))) (.t 26)⟩])
  (.cnd (.t 27)
   (.seq (.ops [⟨none, .asg 8 (.c (.v (.int .i64 0)))⟩,
     ⟨none, .asg 9 (.c (.v (.bool false)))⟩,
     ⟨none, .asg 10 (.c (.v (.int .i64 2)))⟩])
   (.seq (.scr r15) .ret))
   .skip))
 (.seq (.seq (.ops [⟨none, .mv 28 (.t 0)⟩,
    ⟨none, .mv 29 (.t 1)⟩,
    ⟨none, .call (some 30) 34 [(.t 28), (.t 29)]⟩,
    ⟨none, .un 31 .not (.t 30)⟩])
  (.cnd (.t 31)
   (.seq (.ops [⟨none, .asg 8 (.c (.v (.int .i64 0)))⟩,
     ⟨none, .asg 9 (.c (.v (.bool false)))⟩,
     ⟨none, .asg 10 (.c (.v (.int .i64 10)))⟩])
   (.seq (.scr r15) .ret))
   .skip))
 (.seq (.ops [⟨none, .mv 32 (.t 0)⟩,
   ⟨none, .mv 33 (.t 1)⟩,
   ⟨none, .call (some 34) 35 [(.t 32), (.t 33)]⟩,
   ⟨none, .mv 35 (.t 2)⟩,
   ⟨none, .ixs 36 1 (.t 34) (.t 35)⟩,
   ⟨none, .ld1 37 (.t 36)⟩,
   ⟨none, .mv 38 (.t 3)⟩,
   ⟨none, .ixs 39 1 (.t 37) (.t 38)⟩,
   ⟨none, .ld1 40 (.t 39)⟩,
   ⟨none, .asg 11 (.t 40)⟩])
 (.seq (.seq (.ops [⟨none, .mv 41 (.t 11)⟩,
    ⟨none, .bin 42 .eql .num (.t 41) (.c (.v (.int .i64 1099511627776)))⟩])
  (.cnd (.t 42)
   (.seq (.ops [⟨none, .asg 8 (.c (.v (.int .i64 0)))⟩,
     ⟨none, .asg 9 (.c (.v (.bool false)))⟩,
     ⟨none, .asg 10 (.c (.v (.int .i64 0)))⟩])
   (.seq (.scr r15) .ret))
   .skip))
 (.seq (.ops [⟨none, .mv 43 (.t 11)⟩,
   ⟨none, .asg 8 (.t 43)⟩,
   ⟨none, .asg 9 (.c (.v (.bool true)))⟩,
   ⟨none, .asg 10 (.c (.v (.int .i64 0)))⟩])
 (.seq (.scr r15) .ret)))))))),
  44, [8, 9, 10]⟩

/-- coinage/difference.Valid -/
abbrev K16 : Nat := 6
def hints16 : List (List Bool) := [bits 24 [4]]
@[simp] def r16 : List Bool := bits 24 [4]
@[simp] def R16 (s4 : V) : St := tab 24 6 (fu dd 4 s4) dd
def c16 : MF := ⟨(.seq (.ops [⟨none, .box 2 (.t 0)⟩,
   ⟨none, .asg 4 (.c (.v (.bool false)))⟩])
 (.seq (.ops [⟨none, .mkf 6 36 [(.t 2)]⟩,
   ⟨none, .asg 5 (.t 6)⟩])
 (.seq (.ops (⟨none, .ld1 7 (.t 2)⟩ ::
   ⟨none, .bin 8 .geq .num (.t 7) (.c (.v (.int .i64 1)))⟩ ::
   ⟨none, .mv 9 (.t 8)⟩ ::
   ⟨some (9, true), .ld1 10 (.t 2)⟩ ::
   ⟨some (9, true), .bin 11 .leq .num (.t 10) (.c (.v (.int .i64 16)))⟩ ::
   ⟨none, .pick 12 (.t 9) (.t 11) (.c (.v (.bool false)))⟩ ::
   ⟨none, .mv 13 (.t 12)⟩ ::
   ⟨some (13, true), .mv 14 (.t 1)⟩ ::
   ⟨some (13, true), .len 15 false (.t 14)⟩ ::
   ⟨some (13, true), .bin 16 .leq .num (.t 15) (.c (.v (.int .i64 80)))⟩ ::
   ⟨none, .pick 17 (.t 13) (.t 16) (.c (.v (.bool false)))⟩ ::
   ⟨none, .mv 18 (.t 17)⟩ ::
   ⟨some (18, true), .mv 19 (.t 1)⟩ ::
   ⟨some (18, true), .mv 20 (.t 5)⟩ ::
   ⟨some (18, true), .call (some 21) 38 [(.t 19), (.t 20)]⟩ ::
   ⟨some (18, true), .un 22 .not (.t 21)⟩ ::
   ⟨none, .pick 23 (.t 18) (.t 22) (.c (.v (.bool false)))⟩ ::
   ⟨none, .asg 4 (.t 23)⟩ :: []))
 (.seq (.scr r16) .ret)))),
  24, [4]⟩

/-- coinage/coinageref33.Valid -/
abbrev K17 : Nat := 6
def hints17 : List (List Bool) := [bits 26 [0, 1], bits 26 [0, 1, 5], bits 26 [0, 1], bits 26 [0, 1, 5], bits 26 [4], bits 26 [4]]
@[simp] def r17 : List Bool := bits 26 [4]
@[simp] def R17 (s4 : V) : St := tab 26 6 (fu dd 4 s4) dd
@[simp] def x17_0 : List Bool := bits 26 [0, 1]
@[simp] def X17_0 (s0 s1 : V) : St := tab 26 6 (fu (fu dd 1 s1) 0 s0) dd
@[simp] def h17_0 : List Bool := bits 26 [0, 1, 5]
@[simp] def L17_0 (s0 s1 s5 : V) : St := tab 26 6 (fu (fu (fu dd 5 s5) 1 s1) 0 s0) dd
@[simp] def x17_1 : List Bool := bits 26 [0, 1, 5]
@[simp] def X17_1 (s0 s1 s5 : V) : St := tab 26 6 (fu (fu (fu dd 5 s5) 1 s1) 0 s0) dd
def b17_0 : MC := .seq (.scr h17_0)
 (.seq (.seq (.ops [⟨none, .mv 6 (.t 5)⟩,
    ⟨none, .mv 7 (.t 1)⟩,
    ⟨none, .len 8 false (.t 7)⟩,
    ⟨none, .bin 9 .lss .num (.t 6) (.t 8)⟩])
  (.cnd (.t 9)
   .skip
   (.seq (.scr x17_0) (.ex 0))))
 (.seq (.seq (.blk 1 (.seq (.ops [⟨none, .mv 12 (.t 0)⟩,
     ⟨none, .mv 13 (.t 1)⟩,
     ⟨none, .mv 14 (.t 5)⟩,
     ⟨none, .ixs 15 3 (.t 13) (.t 14)⟩,
     ⟨none, .ldn 16 3 (.t 15)⟩,
     ⟨none, .call (some 17) 24 [(.t 12), (.t 16)]⟩,
     ⟨none, .un 18 .not (.t 17)⟩])
   (.cnd (.t 18)
    (.seq (.ops [⟨none, .asg 4 (.c (.v (.bool false)))⟩])
    (.seq (.scr r17) .ret))
    .skip))) (.scr x17_1))
 (.ops [⟨none, .mv 10 (.t 5)⟩,
  ⟨none, .bin 11 .add .num (.t 10) (.c (.v (.int .i64 1)))⟩,
  ⟨none, .asg 5 (.t 11)⟩])))
def c17 : MF := ⟨(.seq (.ops [⟨none, .asg 4 (.c (.v (.bool false)))⟩])
 (.seq (.seq (.ops [⟨none, .asg 5 (.c (.v (.int .i64 0)))⟩])
  (.seq (.blk 0 (.lop b17_0)) (.scr x17_0)))
 (.seq (.ops [⟨none, .mv 19 (.t 0)⟩,
   ⟨none, .call (some 20) 33 [(.t 19), (.c (.v (.int .i64 1))), (.c (.v (.int .i64 16)))]⟩,
   ⟨none, .mv 21 (.t 20)⟩,
   ⟨some (21, true), .mv 22 (.t 1)⟩,
   ⟨some (21, true), .len 23 false (.t 22)⟩,
   ⟨some (21, true), .bin 24 .leq .num (.t 23) (.c (.v (.int .i64 80)))⟩,
   ⟨none, .pick 25 (.t 21) (.t 24) (.c (.v (.bool false)))⟩,
   ⟨none, .asg 4 (.t 25)⟩])
 (.seq (.scr r17) .ret)))),
  26, [4]⟩

/-- coinage/difference.Solve -/
abbrev K18 : Nat := 28
def hints18 : List (List Bool) := [bits 41 [4, 5], bits 41 [4, 5], bits 41 [8], bits 41 [6, 8, 23, 24, 25, 26, 27], bits 41 [8], bits 41 [6, 8, 23, 24, 25, 26, 27], bits 41 [4, 5], bits 41 [4, 5]]
@[simp] def r18 : List Bool := bits 41 [4, 5]
@[simp] def R18 (s4 s5 : V) : St := tab 41 28 (fu (fu dd 5 s5) 4 s4) dd
@[simp] def x18_0 : List Bool := bits 41 [8]
@[simp] def X18_0 (s8 : V) : St := tab 41 28 (fu dd 8 s8) dd
@[simp] def h18_0 : List Bool := bits 41 [6, 8, 23, 24, 25, 26, 27]
@[simp] def L18_0 (s6 s8 s23 s24 s25 s26 s27 : V) : St := tab 41 28 (fu (fu (fu (fu (fu (fu (fu dd 27 s27) 26 s26) 25 s25) 24 s24) 23 s23) 8 s8) 6 s6) dd
@[simp] def x18_1 : List Bool := bits 41 [6, 8, 23, 24, 25, 26, 27]
@[simp] def X18_1 (s6 s8 s23 s24 s25 s26 s27 : V) : St := tab 41 28 (fu (fu (fu (fu (fu (fu (fu dd 27 s27) 26 s26) 25 s25) 24 s24) 23 s23) 8 s8) 6 s6) dd
def b18_0 : MC := .seq (.scr h18_0)
 (.seq (.ops [⟨none, .bin 28 .lss .num (.t 27) (.t 26)⟩])
 (.seq (.cnd (.t 28)
   .skip
   (.seq (.scr x18_0) (.ex 0)))
 (.seq (.seq (.blk 1 (.seq (.ops [⟨none, .ixs 29 2 (.t 25) (.t 27)⟩,
     ⟨none, .ldn 30 2 (.t 29)⟩,
     ⟨none, .alc 10 [(.v (.int .i64 0)), (.v (.bool false))]⟩,
     ⟨none, .stn none 2 (.t 10) (.t 30)⟩])
   (.seq (.seq (.ops [⟨none, .fa 31 1 (.t 10)⟩,
      ⟨none, .ld1 32 (.t 31)⟩,
      ⟨none, .un 33 .not (.t 32)⟩])
    (.cnd (.t 33)
     (.seq (.ops [⟨none, .asg 4 (.c (.nd (.sl true 1 0) []))⟩,
       ⟨none, .asg 5 (.c (.v (.int .i64 7)))⟩])
     (.seq (.scr r18) .ret))
     .skip))
   (.ops [⟨none, .mv 34 (.t 8)⟩,
    ⟨none, .fa 35 0 (.t 10)⟩,
    ⟨none, .ld1 36 (.t 35)⟩,
    ⟨none, .bs 37 1 1 [(.v (.int .i64 0))] [(0, 1, (.t 36))]⟩,
    ⟨none, .app 38 1 (.t 34) (.t 37)⟩,
    ⟨none, .asg 8 (.t 38)⟩])))) (.scr x18_1))
 (.ops [⟨none, .bin 39 .add .num (.t 27) (.c (.v (.int .i64 1)))⟩,
  ⟨none, .mv 27 (.t 39)⟩]))))
def c18 : MF := ⟨(.seq (.ops [⟨none, .asg 4 (.c (.nd (.sl true 1 0) []))⟩,
   ⟨none, .asg 5 (.c (.v (.int .i64 0)))⟩])
 (.seq (.seq (.ops [⟨none, .mv 11 (.t 0)⟩,
    ⟨none, .mv 12 (.t 1)⟩,
    ⟨none, .call (some 13) 16 [(.t 11), (.t 12)]⟩,
    ⟨none, .un 14 .not (.t 13)⟩])
  (.cnd (.t 14)
   (.seq (.ops [⟨none, .asg 4 (.c (.nd (.sl true 1 0) []))⟩,
     ⟨none, .asg 5 (.c (.v (.int .i64 1)))⟩])
   (.seq (.scr r18) .ret))
   .skip))
 (.seq (.ops [⟨none, .mv 16 (.t 0)⟩,
   ⟨none, .mv 17 (.t 1)⟩,
   ⟨none, .call (some 18) 32 [(.t 16), (.t 17)]⟩,
   ⟨none, .mv 15 (.t 18)⟩,
   ⟨none, .ext 19 (.t 15) 0⟩,
   ⟨none, .ext 20 (.t 15) 1⟩,
   ⟨none, .asg 6 (.t 19)⟩,
   ⟨none, .asg 7 (.t 20)⟩])
 (.seq (.seq (.ops [⟨none, .mv 21 (.t 7)⟩,
    ⟨none, .un 22 .not (.t 21)⟩])
  (.cnd (.t 22)
   (.seq (.ops [⟨none, .asg 4 (.c (.nd (.sl true 1 0) []))⟩,
     ⟨none, .asg 5 (.c (.v (.int .i64 10)))⟩])
   (.seq (.scr r18) .ret))
   .skip))
 (.seq (.ops [⟨none, .asg 8 (.c (.nd (.sl true 1 0) []))⟩])
 (.seq (.seq (.ops [⟨none, .mv 23 (.t 6)⟩,
    ⟨none, .ixs 24 1 (.t 23) (.c (.v (.int .i64 0)))⟩,
    ⟨none, .ld1 25 (.t 24)⟩,
    ⟨none, .len 26 false (.t 25)⟩,
    ⟨none, .mv 27 (.c (.v (.int .i64 0)))⟩])
  (.seq (.blk 0 (.lop b18_0)) (.scr x18_0)))
 (.seq (.ops [⟨none, .mv 40 (.t 8)⟩,
   ⟨none, .asg 4 (.t 40)⟩,
   ⟨none, .asg 5 (.c (.v (.int .i64 0)))⟩])
 (.seq (.scr r18) .ret)))))))),
  41, [4, 5]⟩

/-- coinage/coinageref33.Solve -/
abbrev K19 : Nat := 21
def hints19 : List (List Bool) := [bits 32 [4, 5], bits 32 [4, 5], bits 32 [6, 18, 19, 20], bits 32 [0, 6, 7, 18, 19, 20], bits 32 [6, 18, 19, 20], bits 32 [0, 6, 7, 18, 19, 20], bits 32 [4, 5], bits 32 [4, 5]]
@[simp] def r19 : List Bool := bits 32 [4, 5]
@[simp] def R19 (s4 s5 : V) : St := tab 32 21 (fu (fu dd 5 s5) 4 s4) dd
@[simp] def x19_0 : List Bool := bits 32 [6, 18, 19, 20]
@[simp] def X19_0 (s6 s18 s19 s20 : V) : St := tab 32 21 (fu (fu (fu (fu dd 20 s20) 19 s19) 18 s18) 6 s6) dd
@[simp] def h19_0 : List Bool := bits 32 [0, 6, 7, 18, 19, 20]
@[simp] def L19_0 (s0 s6 s7 s18 s19 s20 : V) : St := tab 32 21 (fu (fu (fu (fu (fu (fu dd 20 s20) 19 s19) 18 s18) 7 s7) 6 s6) 0 s0) dd
@[simp] def x19_1 : List Bool := bits 32 [0, 6, 7, 18, 19, 20]
@[simp] def X19_1 (s0 s6 s7 s18 s19 s20 : V) : St := tab 32 21 (fu (fu (fu (fu (fu (fu dd 20 s20) 19 s19) 18 s18) 7 s7) 6 s6) 0 s0) dd
def b19_0 : MC := .seq (.scr h19_0)
 (.seq (.seq (.ops [⟨none, .mv 21 (.t 7)⟩,
    ⟨none, .mv 22 (.t 0)⟩,
    ⟨none, .bin 23 .lss .num (.t 21) (.t 22)⟩])
  (.cnd (.t 23)
   .skip
   (.seq (.scr x19_0) (.ex 0))))
 (.seq (.seq (.blk 1 (.seq (.ops [⟨none, .mv 26 (.t 6)⟩,
     ⟨none, .mv 27 (.t 7)⟩,
     ⟨none, .ixs 28 1 (.t 26) (.t 27)⟩,
     ⟨none, .ld1 29 (.t 28)⟩,
     ⟨none, .bin 30 .eql .num (.t 29) (.c (.v (.int .i64 1099511627776)))⟩])
   (.cnd (.t 30)
    (.seq (.ops [⟨none, .asg 4 (.c (.nd (.sl true 1 0) []))⟩,
      ⟨none, .asg 5 (.c (.v (.int .i64 7)))⟩])
    (.seq (.scr r19) .ret))
    .skip))) (.scr x19_1))
 (.ops [⟨none, .mv 24 (.t 7)⟩,
  ⟨none, .bin 25 .add .num (.t 24) (.c (.v (.int .i64 1)))⟩,
  ⟨none, .asg 7 (.t 25)⟩])))
def c19 : MF := ⟨(.seq (.ops [⟨none, .asg 4 (.c (.nd (.sl true 1 0) []))⟩,
   ⟨none, .asg 5 (.c (.v (.int .i64 0)))⟩])
 (.seq (.seq (.ops [⟨none, .mv 8 (.t 0)⟩,
    ⟨none, .mv 9 (.t 1)⟩,
    ⟨none, .call (some 10) 17 [(.t 8), (.t 9)]⟩,
    ⟨none, .un 11 .not (.t 10)⟩])
  (.cnd (.t 11)
   (.seq (.ops [⟨none, .asg 4 (.c (.nd (.sl true 1 0) []))⟩,
     ⟨none, .asg 5 (.c (.v (.int .i64 1)))⟩])
   (.seq (.scr r19) .ret))
   .skip))
 (.seq (.seq (.ops [⟨none, .mv 12 (.t 0)⟩,
    ⟨none, .mv 13 (.t 1)⟩,
    ⟨none, .call (some 14) 34 [(.t 12), (.t 13)]⟩,
    ⟨none, .un 15 .not (.t 14)⟩])
  (.cnd (.t 15)
   (.seq (.ops [⟨none, .asg 4 (.c (.nd (.sl true 1 0) []))⟩,
     ⟨none, .asg 5 (.c (.v (.int .i64 10)))⟩])
   (.seq (.scr r19) .ret))
   .skip))
 (.seq (.ops [⟨none, .mv 16 (.t 0)⟩,
   ⟨none, .mv 17 (.t 1)⟩,
   ⟨none, .call (some 18) 35 [(.t 16), (.t 17)]⟩,
   ⟨none, .ixs 19 1 (.t 18) (.c (.v (.int .i64 0)))⟩,
   ⟨none, .ld1 20 (.t 19)⟩,
   ⟨none, .asg 6 (.t 20)⟩])
 (.seq (.seq (.ops [⟨none, .asg 7 (.c (.v (.int .i64 0)))⟩])
  (.seq (.blk 0 (.lop b19_0)) (.scr x19_0)))
 (.seq (.ops [⟨none, .mv 31 (.t 6)⟩,
   ⟨none, .asg 4 (.t 31)⟩,
   ⟨none, .asg 5 (.c (.v (.int .i64 0)))⟩])
 (.seq (.scr r19) .ret))))))),
  32, [4, 5]⟩

/-- coinage/coinagebase.Ints -/
abbrev K20 : Nat := 6
def hints20 : List (List Bool) := [bits 26 [4], bits 26 [], bits 26 [0, 1, 5], bits 26 [], bits 26 [0, 1, 5], bits 26 [4], bits 26 [4]]
@[simp] def r20 : List Bool := bits 26 [4]
@[simp] def R20 (s4 : V) : St := tab 26 6 (fu dd 4 s4) dd
@[simp] def x20_0 : List Bool := bits 26 []
@[simp] def X20_0 : St := tab 26 6 dd dd
@[simp] def h20_0 : List Bool := bits 26 [0, 1, 5]
@[simp] def L20_0 (s0 s1 s5 : V) : St := tab 26 6 (fu (fu (fu dd 5 s5) 1 s1) 0 s0) dd
@[simp] def x20_1 : List Bool := bits 26 [0, 1, 5]
@[simp] def X20_1 (s0 s1 s5 : V) : St := tab 26 6 (fu (fu (fu dd 5 s5) 1 s1) 0 s0) dd
def b20_0 : MC := .seq (.scr h20_0)
 (.seq (.seq (.ops [⟨none, .mv 11 (.t 5)⟩,
    ⟨none, .mv 12 (.t 0)⟩,
    ⟨none, .len 13 false (.t 12)⟩,
    ⟨none, .bin 14 .lss .num (.t 11) (.t 13)⟩])
  (.cnd (.t 14)
   .skip
   (.seq (.scr x20_0) (.ex 0))))
 (.seq (.seq (.blk 1 (.seq (.drw [⟨none, .mv 17 (.t 0)⟩,
     ⟨none, .mv 18 (.t 5)⟩,
     ⟨none, .ixs 19 1 (.t 17) (.t 18)⟩,
     ⟨none, .ld1 20 (.t 19)⟩,
     ⟨none, .mv 21 (.t 1)⟩,
     ⟨none, .mv 22 (.t 5)⟩,
     ⟨none, .ixs 23 1 (.t 21) (.t 22)⟩,
     ⟨none, .ld1 24 (.t 23)⟩] [⟨none, .bin 25 .neq .num (.t 20) (.t 24)⟩])
   (.cnd (.t 25)
    (.seq (.ops [⟨none, .asg 4 (.c (.v (.bool false)))⟩])
    (.seq (.scr r20) .ret))
    .skip))) (.scr x20_1))
 (.ops [⟨none, .mv 15 (.t 5)⟩,
  ⟨none, .bin 16 .add .num (.t 15) (.c (.v (.int .i64 1)))⟩,
  ⟨none, .asg 5 (.t 16)⟩])))
def c20 : MF := ⟨(.seq (.ops [⟨none, .asg 4 (.c (.v (.bool false)))⟩])
 (.seq (.seq (.ops [⟨none, .mv 6 (.t 0)⟩,
    ⟨none, .len 7 false (.t 6)⟩,
    ⟨none, .mv 8 (.t 1)⟩,
    ⟨none, .len 9 false (.t 8)⟩,
    ⟨none, .bin 10 .neq .num (.t 7) (.t 9)⟩])
  (.cnd (.t 10)
   (.seq (.ops [⟨none, .asg 4 (.c (.v (.bool false)))⟩])
   (.seq (.scr r20) .ret))
   .skip))
 (.seq (.seq (.ops [⟨none, .asg 5 (.c (.v (.int .i64 0)))⟩])
  (.seq (.blk 0 (.lop b20_0)) (.scr x20_0)))
 (.seq (.ops [⟨none, .asg 4 (.c (.v (.bool true)))⟩])
 (.seq (.scr r20) .ret))))),
  26, [4]⟩

/-- coinage/difference.Refute -/
abbrev K21 : Nat := 30
def hints21 : List (List Bool) := [bits 41 [4, 5], bits 41 [4, 5], bits 41 [], bits 41 [0, 1, 8], bits 41 [], bits 41 [0, 1, 8], bits 41 [0, 1, 8], bits 41 [0, 1, 8, 28, 29], bits 41 [0, 1, 8], bits 41 [0, 1, 8, 28, 29], bits 41 [4, 5], bits 41 [4, 5]]
@[simp] def r21 : List Bool := bits 41 [4, 5]
@[simp] def R21 (s4 s5 : V) : St := tab 41 30 (fu (fu dd 5 s5) 4 s4) dd
@[simp] def x21_0 : List Bool := bits 41 []
@[simp] def X21_0 : St := tab 41 30 dd dd
@[simp] def h21_0 : List Bool := bits 41 [0, 1, 8]
@[simp] def L21_0 (s0 s1 s8 : V) : St := tab 41 30 (fu (fu (fu dd 8 s8) 1 s1) 0 s0) dd
@[simp] def x21_1 : List Bool := bits 41 [0, 1, 8]
@[simp] def X21_1 (s0 s1 s8 : V) : St := tab 41 30 (fu (fu (fu dd 8 s8) 1 s1) 0 s0) dd
@[simp] def x21_2 : List Bool := bits 41 [0, 1, 8]
@[simp] def X21_2 (s0 s1 s8 : V) : St := tab 41 30 (fu (fu (fu dd 8 s8) 1 s1) 0 s0) dd
@[simp] def h21_1 : List Bool := bits 41 [0, 1, 8, 28, 29]
@[simp] def L21_1 (s0 s1 s8 s28 s29 : V) : St := tab 41 30 (fu (fu (fu (fu (fu dd 29 s29) 28 s28) 8 s8) 1 s1) 0 s0) dd
@[simp] def x21_3 : List Bool := bits 41 [0, 1, 8, 28, 29]
@[simp] def X21_3 (s0 s1 s8 s28 s29 : V) : St := tab 41 30 (fu (fu (fu (fu (fu dd 29 s29) 28 s28) 8 s8) 1 s1) 0 s0) dd
def b21_1 : MC := .seq (.scr h21_1)
 (.seq (.ops [⟨none, .bin 30 .lss .num (.t 29) (.t 28)⟩])
 (.seq (.cnd (.t 30)
   .skip
   (.seq (.scr x21_2) (.ex 2)))
 (.seq (.seq (.blk 3 (.seq (.ops [⟨none, .mv 31 (.t 29)⟩,
     ⟨none, .asg 9 (.t 31)⟩])
   (.seq (.ops [⟨none, .mv 32 (.t 0)⟩,
     ⟨none, .mv 33 (.t 1)⟩,
     ⟨none, .mv 34 (.t 9)⟩,
     ⟨none, .mv 35 (.t 8)⟩,
     ⟨none, .call (some 36) 39 [(.t 32), (.t 33), (.t 34), (.t 35)]⟩,
     ⟨none, .asg 10 (.t 36)⟩])
   (.seq (.ops [⟨none, .mv 37 (.t 10)⟩,
     ⟨none, .bin 38 .neq (.nilT false) (.t 37) (.c (.nd (.sl true 0 0) []))⟩])
   (.cnd (.t 38)
    (.seq (.ops [⟨none, .mv 39 (.t 10)⟩,
      ⟨none, .asg 4 (.t 39)⟩,
      ⟨none, .asg 5 (.c (.v (.int .i64 0)))⟩])
    (.seq (.scr r21) .ret))
    .skip))))) (.scr x21_3))
 (.ops [⟨none, .bin 40 .add .num (.t 29) (.c (.v (.int .i64 1)))⟩,
  ⟨none, .mv 29 (.t 40)⟩]))))
def b21_0 : MC := .seq (.scr h21_0)
 (.seq (.seq (.ops [⟨none, .mv 22 (.t 8)⟩,
    ⟨none, .mv 23 (.t 0)⟩,
    ⟨none, .bin 24 .leq .num (.t 22) (.t 23)⟩])
  (.cnd (.t 24)
   .skip
   (.seq (.scr x21_0) (.ex 0))))
 (.seq (.seq (.blk 1 (.seq (.ops [⟨none, .mv 27 (.t 1)⟩,
     ⟨none, .len 28 false (.t 27)⟩,
     ⟨none, .mv 29 (.c (.v (.int .i64 0)))⟩])
   (.seq (.blk 2 (.lop b21_1)) (.scr x21_2)))) (.scr x21_1))
 (.ops [⟨none, .mv 25 (.t 8)⟩,
  ⟨none, .bin 26 .add .num (.t 25) (.c (.v (.int .i64 1)))⟩,
  ⟨none, .asg 8 (.t 26)⟩])))
def c21 : MF := ⟨(.seq (.ops [⟨none, .asg 4 (.c (.nd (.sl true 1 0) []))⟩,
   ⟨none, .asg 5 (.c (.v (.int .i64 0)))⟩])
 (.seq (.seq (.ops [⟨none, .mv 11 (.t 0)⟩,
    ⟨none, .mv 12 (.t 1)⟩,
    ⟨none, .call (some 13) 16 [(.t 11), (.t 12)]⟩,
    ⟨none, .un 14 .not (.t 13)⟩])
  (.cnd (.t 14)
   (.seq (.ops [⟨none, .asg 4 (.c (.nd (.sl true 1 0) []))⟩,
     ⟨none, .asg 5 (.c (.v (.int .i64 1)))⟩])
   (.seq (.scr r21) .ret))
   .skip))
 (.seq (.seq (.ops [⟨none, .mv 16 (.t 0)⟩,
    ⟨none, .mv 17 (.t 1)⟩,
    ⟨none, .call (some 18) 32 [(.t 16), (.t 17)]⟩,
    ⟨none, .mv 15 (.t 18)⟩,
    ⟨none, .ext 19 (.t 15) 0⟩,
    ⟨none, .ext 20 (.t 15) 1⟩,
    ⟨none, .asg 6 (.t 19)⟩,
    ⟨none, .asg 7 (.t 20)⟩])
  (.seq (.ops [⟨none, .mv 21 (.t 7)⟩])
  (.cnd (.t 21)
   (.seq (.ops [⟨none, .asg 4 (.c (.nd (.sl true 1 0) []))⟩,
     ⟨none, .asg 5 (.c (.v (.int .i64 7)))⟩])
   (.seq (.scr r21) .ret))
   .skip)))
 (.seq (.seq (.ops [⟨none, .asg 8 (.c (.v (.int .i64 2)))⟩])
  (.seq (.blk 0 (.lop b21_0)) (.scr x21_0)))
 (.seq (.ops [⟨none, .asg 4 (.c (.nd (.sl true 1 0) []))⟩,
   ⟨none, .asg 5 (.c (.v (.int .i64 7)))⟩])
 (.seq (.scr r21) .ret)))))),
  41, [4, 5]⟩

/-- coinage/coinageref33.Refute -/
abbrev K22 : Nat := 15
def hints22 : List (List Bool) := [bits 150 [4, 5], bits 150 [], bits 150 [0, 1, 6], bits 150 [], bits 150 [0, 1, 6], bits 150 [0, 1, 6], bits 150 [0, 1, 6, 7], bits 150 [0, 1, 6], bits 150 [0, 1, 6, 7], bits 150 [0, 1, 6, 7], bits 150 [9], bits 150 [1, 6, 7, 8, 9, 10, 11], bits 150 [9], bits 150 [1, 6, 7, 8, 9, 10, 11], bits 150 [1, 6, 7, 8, 9, 10, 11], bits 150 [1, 6, 7, 8, 9, 10, 11, 12, 13], bits 150 [1, 6, 7, 8, 9, 10, 11], bits 150 [1, 6, 7, 8, 9, 10, 11, 12, 13], bits 150 [1, 6, 7, 8, 9, 10, 11], bits 150 [4, 5], bits 150 [4, 5]]
@[simp] def r22 : List Bool := bits 150 [4, 5]
@[simp] def R22 (s4 s5 : V) : St := tab 150 15 (fu (fu dd 5 s5) 4 s4) dd
@[simp] def x22_0 : List Bool := bits 150 []
@[simp] def X22_0 : St := tab 150 15 dd dd
@[simp] def h22_0 : List Bool := bits 150 [0, 1, 6]
@[simp] def L22_0 (s0 s1 s6 : V) : St := tab 150 15 (fu (fu (fu dd 6 s6) 1 s1) 0 s0) dd
@[simp] def x22_1 : List Bool := bits 150 [0, 1, 6]
@[simp] def X22_1 (s0 s1 s6 : V) : St := tab 150 15 (fu (fu (fu dd 6 s6) 1 s1) 0 s0) dd
@[simp] def x22_2 : List Bool := bits 150 [0, 1, 6]
@[simp] def X22_2 (s0 s1 s6 : V) : St := tab 150 15 (fu (fu (fu dd 6 s6) 1 s1) 0 s0) dd
@[simp] def h22_1 : List Bool := bits 150 [0, 1, 6, 7]
@[simp] def L22_1 (s0 s1 s6 s7 : V) : St := tab 150 15 (fu (fu (fu (fu dd 7 s7) 6 s6) 1 s1) 0 s0) dd
@[simp] def x22_3 : List Bool := bits 150 [0, 1, 6, 7]
@[simp] def X22_3 (s0 s1 s6 s7 : V) : St := tab 150 15 (fu (fu (fu (fu dd 7 s7) 6 s6) 1 s1) 0 s0) dd
@[simp] def x22_4 : List Bool := bits 150 [9]
@[simp] def X22_4 (s9 : V) : St := tab 150 15 (fu dd 9 s9) dd
@[simp] def h22_2 : List Bool := bits 150 [1, 6, 7, 8, 9, 10, 11]
@[simp] def L22_2 (s1 s6 s7 s8 s9 s10 s11 : V) : St := tab 150 15 (fu (fu (fu (fu (fu (fu (fu dd 11 s11) 10 s10) 9 s9) 8 s8) 7 s7) 6 s6) 1 s1) dd
@[simp] def x22_5 : List Bool := bits 150 [1, 6, 7, 8, 9, 10, 11]
@[simp] def X22_5 (s1 s6 s7 s8 s9 s10 s11 : V) : St := tab 150 15 (fu (fu (fu (fu (fu (fu (fu dd 11 s11) 10 s10) 9 s9) 8 s8) 7 s7) 6 s6) 1 s1) dd
@[simp] def x22_6 : List Bool := bits 150 [1, 6, 7, 8, 9, 10, 11]
@[simp] def X22_6 (s1 s6 s7 s8 s9 s10 s11 : V) : St := tab 150 15 (fu (fu (fu (fu (fu (fu (fu dd 11 s11) 10 s10) 9 s9) 8 s8) 7 s7) 6 s6) 1 s1) dd
@[simp] def h22_3 : List Bool := bits 150 [1, 6, 7, 8, 9, 10, 11, 12, 13]
@[simp] def L22_3 (s1 s6 s7 s8 s9 s10 s11 s12 s13 : V) : St := tab 150 15 (fu (fu (fu (fu (fu (fu (fu (fu (fu dd 13 s13) 12 s12) 11 s11) 10 s10) 9 s9) 8 s8) 7 s7) 6 s6) 1 s1) dd
@[simp] def x22_7 : List Bool := bits 150 [1, 6, 7, 8, 9, 10, 11, 12, 13]
@[simp] def X22_7 (s1 s6 s7 s8 s9 s10 s11 s12 s13 : V) : St := tab 150 15 (fu (fu (fu (fu (fu (fu (fu (fu (fu dd 13 s13) 12 s12) 11 s11) 10 s10) 9 s9) 8 s8) 7 s7) 6 s6) 1 s1) dd
def b22_3 : MC := .seq (.scr h22_3)
 (.seq (.seq (.ops [⟨none, .mv 92 (.t 13)⟩,
    ⟨none, .mv 93 (.t 1)⟩,
    ⟨none, .len 94 false (.t 93)⟩,
    ⟨none, .bin 95 .lss .num (.t 92) (.t 94)⟩])
  (.cnd (.t 95)
   .skip
   (.seq (.scr x22_6) (.ex 6))))
 (.seq (.seq (.blk 7 (.seq (.drw [⟨none, .mv 98 (.t 8)⟩,
     ⟨none, .mv 99 (.t 12)⟩,
     ⟨none, .bin 100 .sub .num (.t 99) (.c (.v (.int .i64 1)))⟩,
     ⟨none, .ixs 101 1 (.t 98) (.t 100)⟩,
     ⟨none, .ld1 102 (.t 101)⟩,
     ⟨none, .mv 103 (.t 1)⟩,
     ⟨none, .mv 104 (.t 13)⟩,
     ⟨none, .ixs 105 3 (.t 103) (.t 104)⟩,
     ⟨none, .fa 106 1 (.t 105)⟩,
     ⟨none, .ld1 107 (.t 106)⟩] [⟨none, .ixs 108 1 (.t 102) (.t 107)⟩,
     ⟨none, .ld1 109 (.t 108)⟩,
     ⟨none, .asg 14 (.t 109)⟩])
   (.seq (.ops (⟨none, .mv 110 (.t 1)⟩ ::
     ⟨none, .mv 111 (.t 13)⟩ ::
     ⟨none, .ixs 112 3 (.t 110) (.t 111)⟩ ::
     ⟨none, .fa 113 0 (.t 112)⟩ ::
     ⟨none, .ld1 114 (.t 113)⟩ ::
     ⟨none, .mv 115 (.t 11)⟩ ::
     ⟨none, .bin 116 .eql .num (.t 114) (.t 115)⟩ ::
     ⟨none, .mv 117 (.t 116)⟩ ::
     ⟨some (117, true), .mv 118 (.t 14)⟩ ::
     ⟨some (117, true), .bin 119 .neq .num (.t 118) (.c (.v (.int .i64 1099511627776)))⟩ ::
     ⟨none, .pick 120 (.t 117) (.t 119) (.c (.v (.bool false)))⟩ ::
     ⟨none, .mv 121 (.t 120)⟩ ::
     ⟨some (121, true), .mv 122 (.t 10)⟩ ::
     ⟨some (121, true), .mv 123 (.t 1)⟩ ::
     ⟨some (121, true), .mv 124 (.t 13)⟩ ::
     ⟨some (121, true), .ixs 125 3 (.t 123) (.t 124)⟩ ::
     ⟨some (121, true), .fa 126 2 (.t 125)⟩ ::
     ⟨some (121, true), .ld1 127 (.t 126)⟩ ::
     ⟨some (121, true), .bin 128 .add .num (.t 122) (.t 127)⟩ ::
     ⟨some (121, true), .mv 129 (.t 14)⟩ ::
     ⟨some (121, true), .bin 130 .add .num (.t 128) (.t 129)⟩ ::
     ⟨some (121, true), .bin 131 .lss .num (.t 130) (.c (.v (.int .i64 0)))⟩ ::
     ⟨none, .pick 132 (.t 121) (.t 131) (.c (.v (.bool false)))⟩ :: []))
   (.cnd (.t 132)
    (.seq (.ops [⟨none, .mv 133 (.t 9)⟩,
      ⟨none, .mv 134 (.t 13)⟩,
      ⟨none, .bs 135 1 1 [(.v (.int .i64 0))] [(0, 1, (.t 134))]⟩,
      ⟨none, .app 136 1 (.t 133) (.t 135)⟩,
      ⟨none, .asg 9 (.t 136)⟩])
    (.seq (.ops [⟨none, .mv 137 (.t 10)⟩,
      ⟨none, .mv 138 (.t 1)⟩,
      ⟨none, .mv 139 (.t 13)⟩,
      ⟨none, .ixs 140 3 (.t 138) (.t 139)⟩,
      ⟨none, .fa 141 2 (.t 140)⟩,
      ⟨none, .ld1 142 (.t 141)⟩,
      ⟨none, .bin 143 .add .num (.t 137) (.t 142)⟩,
      ⟨none, .asg 10 (.t 143)⟩])
    (.seq (.ops [⟨none, .mv 144 (.t 1)⟩,
      ⟨none, .mv 145 (.t 13)⟩,
      ⟨none, .ixs 146 3 (.t 144) (.t 145)⟩,
      ⟨none, .fa 147 1 (.t 146)⟩,
      ⟨none, .ld1 148 (.t 147)⟩,
      ⟨none, .asg 11 (.t 148)⟩])
    (.seq (.scr x22_6) (.ex 6)))))
    .skip)))) (.scr x22_7))
 (.ops [⟨none, .mv 96 (.t 13)⟩,
  ⟨none, .bin 97 .add .num (.t 96) (.c (.v (.int .i64 1)))⟩,
  ⟨none, .asg 13 (.t 97)⟩])))
def b22_2 : MC := .seq (.scr h22_2)
 (.seq (.seq (.ops [⟨none, .mv 82 (.t 9)⟩,
    ⟨none, .len 83 false (.t 82)⟩,
    ⟨none, .mv 84 (.t 6)⟩,
    ⟨none, .bin 85 .lss .num (.t 83) (.t 84)⟩])
  (.cnd (.t 85)
   .skip
   (.seq (.scr x22_4) (.ex 4))))
 (.seq (.blk 5 (.seq (.ops [⟨none, .mv 86 (.t 6)⟩,
    ⟨none, .mv 87 (.t 9)⟩,
    ⟨none, .len 88 false (.t 87)⟩,
    ⟨none, .bin 89 .sub .num (.t 86) (.t 88)⟩,
    ⟨none, .asg 12 (.t 89)⟩])
  (.seq (.ops [⟨none, .mv 90 (.t 7)⟩,
    ⟨none, .bin 91 .add .num (.t 90) (.c (.v (.int .i64 1)))⟩,
    ⟨none, .asg 13 (.t 91)⟩])
  (.seq (.blk 6 (.lop b22_3)) (.scr x22_6))))) (.scr x22_5)))
def b22_1 : MC := .seq (.scr h22_1)
 (.seq (.seq (.ops [⟨none, .mv 24 (.t 7)⟩,
    ⟨none, .mv 25 (.t 1)⟩,
    ⟨none, .len 26 false (.t 25)⟩,
    ⟨none, .bin 27 .lss .num (.t 24) (.t 26)⟩])
  (.cnd (.t 27)
   .skip
   (.seq (.scr x22_2) (.ex 2))))
 (.seq (.seq (.blk 3 (.seq (.ops [⟨none, .mv 30 (.t 0)⟩,
     ⟨none, .mv 31 (.t 1)⟩,
     ⟨none, .mv 32 (.t 7)⟩,
     ⟨none, .mv 33 (.t 6)⟩,
     ⟨none, .bin 34 .sub .num (.t 33) (.c (.v (.int .i64 1)))⟩,
     ⟨none, .call (some 35) 40 [(.t 30), (.t 31), (.t 32), (.t 34)]⟩,
     ⟨none, .asg 8 (.t 35)⟩])
   (.seq (.seq (.drw (⟨none, .mv 36 (.t 8)⟩ ::
      ⟨none, .mv 37 (.t 6)⟩ ::
      ⟨none, .bin 38 .sub .num (.t 37) (.c (.v (.int .i64 1)))⟩ ::
      ⟨none, .ixs 39 1 (.t 36) (.t 38)⟩ ::
      ⟨none, .ld1 40 (.t 39)⟩ ::
      ⟨none, .mv 41 (.t 1)⟩ ::
      ⟨none, .mv 42 (.t 7)⟩ ::
      ⟨none, .ixs 43 3 (.t 41) (.t 42)⟩ ::
      ⟨none, .fa 44 1 (.t 43)⟩ ::
      ⟨none, .ld1 45 (.t 44)⟩ ::
      ⟨none, .ixs 46 1 (.t 40) (.t 45)⟩ ::
      ⟨none, .ld1 47 (.t 46)⟩ ::
      ⟨none, .bin 48 .eql .num (.t 47) (.c (.v (.int .i64 1099511627776)))⟩ ::
      ⟨none, .mv 49 (.t 48)⟩ ::
      ⟨some (49, false), .mv 50 (.t 1)⟩ ::
      ⟨some (49, false), .mv 51 (.t 7)⟩ ::
      ⟨some (49, false), .ixs 52 3 (.t 50) (.t 51)⟩ ::
      ⟨some (49, false), .fa 53 2 (.t 52)⟩ ::
      ⟨some (49, false), .ld1 54 (.t 53)⟩ ::
      ⟨some (49, false), .mv 55 (.t 8)⟩ ::
      ⟨some (49, false), .mv 56 (.t 6)⟩ ::
      ⟨some (49, false), .bin 57 .sub .num (.t 56) (.c (.v (.int .i64 1)))⟩ ::
      ⟨some (49, false), .ixs 58 1 (.t 55) (.t 57)⟩ ::
      ⟨some (49, false), .ld1 59 (.t 58)⟩ ::
      ⟨some (49, false), .mv 60 (.t 1)⟩ ::
      ⟨some (49, false), .mv 61 (.t 7)⟩ ::
      ⟨some (49, false), .ixs 62 3 (.t 60) (.t 61)⟩ ::
      ⟨some (49, false), .fa 63 1 (.t 62)⟩ ::
      ⟨some (49, false), .ld1 64 (.t 63)⟩ ::
      ⟨some (49, false), .ixs 65 1 (.t 59) (.t 64)⟩ ::
      ⟨some (49, false), .ld1 66 (.t 65)⟩ :: []) [⟨some (49, false), .bin 67 .add .num (.t 54) (.t 66)⟩,
      ⟨some (49, false), .bin 68 .geq .num (.t 67) (.c (.v (.int .i64 0)))⟩,
      ⟨none, .pick 69 (.t 49) (.c (.v (.bool true))) (.t 68)⟩])
    (.cnd (.t 69)
     (.seq (.scr x22_3) (.ex 3))
     .skip))
   (.seq (.ops [⟨none, .mv 70 (.t 7)⟩,
     ⟨none, .bs 71 1 1 [(.v (.int .i64 0))] [(0, 1, (.t 70))]⟩,
     ⟨none, .asg 9 (.t 71)⟩])
   (.seq (.drw [⟨none, .mv 72 (.t 1)⟩,
     ⟨none, .mv 73 (.t 7)⟩,
     ⟨none, .ixs 74 3 (.t 72) (.t 73)⟩,
     ⟨none, .fa 75 2 (.t 74)⟩,
     ⟨none, .ld1 76 (.t 75)⟩,
     ⟨none, .mv 77 (.t 1)⟩,
     ⟨none, .mv 78 (.t 7)⟩,
     ⟨none, .ixs 79 3 (.t 77) (.t 78)⟩,
     ⟨none, .fa 80 1 (.t 79)⟩,
     ⟨none, .ld1 81 (.t 80)⟩,
     ⟨none, .mv 10 (.t 76)⟩] [⟨none, .asg 11 (.t 81)⟩,
     ⟨none, .asg 10 (.t 10)⟩])
   (.seq (.seq (.blk 4 (.lop b22_2)) (.scr x22_4))
   (.seq (.ops [⟨none, .mv 149 (.t 9)⟩,
     ⟨none, .asg 4 (.t 149)⟩,
     ⟨none, .asg 5 (.c (.v (.int .i64 0)))⟩])
   (.seq (.scr r22) .ret)))))))) (.scr x22_3))
 (.ops [⟨none, .mv 28 (.t 7)⟩,
  ⟨none, .bin 29 .add .num (.t 28) (.c (.v (.int .i64 1)))⟩,
  ⟨none, .asg 7 (.t 29)⟩])))
def b22_0 : MC := .seq (.scr h22_0)
 (.seq (.seq (.ops [⟨none, .mv 19 (.t 6)⟩,
    ⟨none, .mv 20 (.t 0)⟩,
    ⟨none, .bin 21 .leq .num (.t 19) (.t 20)⟩])
  (.cnd (.t 21)
   .skip
   (.seq (.scr x22_0) (.ex 0))))
 (.seq (.seq (.blk 1 (.seq (.ops [⟨none, .asg 7 (.c (.v (.int .i64 0)))⟩])
   (.seq (.blk 2 (.lop b22_1)) (.scr x22_2)))) (.scr x22_1))
 (.ops [⟨none, .mv 22 (.t 6)⟩,
  ⟨none, .bin 23 .add .num (.t 22) (.c (.v (.int .i64 1)))⟩,
  ⟨none, .asg 6 (.t 23)⟩])))
def c22 : MF := ⟨(.seq (.ops [⟨none, .asg 4 (.c (.nd (.sl true 1 0) []))⟩,
   ⟨none, .asg 5 (.c (.v (.int .i64 0)))⟩])
 (.seq (.seq (.ops [⟨none, .mv 15 (.t 0)⟩,
    ⟨none, .mv 16 (.t 1)⟩,
    ⟨none, .call (some 17) 17 [(.t 15), (.t 16)]⟩,
    ⟨none, .un 18 .not (.t 17)⟩])
  (.cnd (.t 18)
   (.seq (.ops [⟨none, .asg 4 (.c (.nd (.sl true 1 0) []))⟩,
     ⟨none, .asg 5 (.c (.v (.int .i64 1)))⟩])
   (.seq (.scr r22) .ret))
   .skip))
 (.seq (.seq (.ops [⟨none, .asg 6 (.c (.v (.int .i64 2)))⟩])
  (.seq (.blk 0 (.lop b22_0)) (.scr x22_0)))
 (.seq (.ops [⟨none, .asg 4 (.c (.nd (.sl true 1 0) []))⟩,
   ⟨none, .asg 5 (.c (.v (.int .i64 7)))⟩])
 (.seq (.scr r22) .ret))))),
  150, [4, 5]⟩

/-- coinage/coinagebase.Mod -/
abbrev K23 : Nat := 6
def hints23 : List (List Bool) := [bits 15 [4]]
@[simp] def r23 : List Bool := bits 15 [4]
@[simp] def R23 (s4 : V) : St := tab 15 6 (fu dd 4 s4) dd
def c23 : MF := ⟨(.seq (.ops [⟨none, .asg 4 (.c (.v (.int .i64 0)))⟩])
 (.seq (.ops [⟨none, .mv 6 (.t 0)⟩,
   ⟨none, .mv 7 (.t 1)⟩,
   ⟨none, .bin 8 .rem .num (.t 6) (.t 7)⟩,
   ⟨none, .asg 5 (.t 8)⟩])
 (.seq (.seq (.ops [⟨none, .mv 9 (.t 5)⟩,
    ⟨none, .bin 10 .lss .num (.t 9) (.c (.v (.int .i64 0)))⟩])
  (.cnd (.t 10)
   (.ops [⟨none, .mv 11 (.t 5)⟩,
    ⟨none, .mv 12 (.t 1)⟩,
    ⟨none, .bin 13 .add .num (.t 11) (.t 12)⟩,
    ⟨none, .asg 5 (.t 13)⟩])
   .skip))
 (.seq (.ops [⟨none, .mv 14 (.t 5)⟩,
   ⟨none, .asg 4 (.t 14)⟩])
 (.seq (.scr r23) .ret))))),
  15, [4]⟩

/-- coinage/coinageref33.Bound -/
abbrev K24 : Nat := 5
def hints24 : List (List Bool) := [bits 29 [4]]
@[simp] def r24 : List Bool := bits 29 [4]
@[simp] def R24 (s4 : V) : St := tab 29 5 (fu dd 4 s4) dd
def c24 : MF := ⟨(.seq (.ops [⟨none, .box 3 (.t 1)⟩,
   ⟨none, .asg 4 (.c (.v (.bool false)))⟩])
 (.seq (.ops (⟨none, .fa 5 0 (.t 3)⟩ ::
   ⟨none, .ld1 6 (.t 5)⟩ ::
   ⟨none, .mv 7 (.t 0)⟩ ::
   ⟨none, .bin 8 .sub .num (.t 7) (.c (.v (.int .i64 1)))⟩ ::
   ⟨none, .call (some 9) 33 [(.t 6), (.c (.v (.int .i64 0))), (.t 8)]⟩ ::
   ⟨none, .mv 10 (.t 9)⟩ ::
   ⟨some (10, true), .fa 11 1 (.t 3)⟩ ::
   ⟨some (10, true), .ld1 12 (.t 11)⟩ ::
   ⟨some (10, true), .mv 13 (.t 0)⟩ ::
   ⟨some (10, true), .bin 14 .sub .num (.t 13) (.c (.v (.int .i64 1)))⟩ ::
   ⟨some (10, true), .call (some 15) 33 [(.t 12), (.c (.v (.int .i64 0))), (.t 14)]⟩ ::
   ⟨none, .pick 16 (.t 10) (.t 15) (.c (.v (.bool false)))⟩ ::
   ⟨none, .mv 17 (.t 16)⟩ ::
   ⟨some (17, true), .fa 18 0 (.t 3)⟩ ::
   ⟨some (17, true), .ld1 19 (.t 18)⟩ ::
   ⟨some (17, true), .fa 20 1 (.t 3)⟩ ::
   ⟨some (17, true), .ld1 21 (.t 20)⟩ ::
   ⟨some (17, true), .bin 22 .neq .num (.t 19) (.t 21)⟩ ::
   ⟨none, .pick 23 (.t 17) (.t 22) (.c (.v (.bool false)))⟩ ::
   ⟨none, .mv 24 (.t 23)⟩ ::
   ⟨some (24, true), .fa 25 2 (.t 3)⟩ ::
   ⟨some (24, true), .ld1 26 (.t 25)⟩ ::
   ⟨some (24, true), .call (some 27) 41 [(.t 26), (.c (.v (.int .i64 1000000)))]⟩ ::
   ⟨none, .pick 28 (.t 24) (.t 27) (.c (.v (.bool false)))⟩ ::
   ⟨none, .asg 4 (.t 28)⟩ :: []))
 (.seq (.scr r24) .ret))),
  29, [4]⟩

/-- coinage/difference.Implied -/
abbrev K25 : Nat := 21
def hints25 : List (List Bool) := [bits 42 [6], bits 42 [6]]
@[simp] def r25 : List Bool := bits 42 [6]
@[simp] def R25 (s6 : V) : St := tab 42 21 (fu dd 6 s6) dd
def c25 : MF := ⟨(.seq (.ops [⟨none, .box 5 (.t 2)⟩,
   ⟨none, .asg 6 (.c (.v (.bool false)))⟩])
 (.seq (.seq (.ops [⟨none, .mv 10 (.t 0)⟩,
    ⟨none, .mv 11 (.t 1)⟩,
    ⟨none, .call (some 12) 16 [(.t 10), (.t 11)]⟩,
    ⟨none, .un 13 .not (.t 12)⟩,
    ⟨none, .mv 14 (.t 13)⟩,
    ⟨some (14, false), .mv 15 (.t 0)⟩,
    ⟨some (14, false), .ldn 16 3 (.t 5)⟩,
    ⟨some (14, false), .call (some 17) 37 [(.t 15), (.t 16)]⟩,
    ⟨some (14, false), .un 18 .not (.t 17)⟩,
    ⟨none, .pick 19 (.t 14) (.c (.v (.bool true))) (.t 18)⟩])
  (.cnd (.t 19)
   (.seq (.ops [⟨none, .asg 6 (.c (.v (.bool false)))⟩])
   (.seq (.scr r25) .ret))
   .skip))
 (.seq (.ops [⟨none, .mv 21 (.t 0)⟩,
   ⟨none, .mv 22 (.t 1)⟩,
   ⟨none, .fa 23 0 (.t 5)⟩,
   ⟨none, .ld1 24 (.t 23)⟩,
   ⟨none, .fa 25 1 (.t 5)⟩,
   ⟨none, .ld1 26 (.t 25)⟩,
   ⟨none, .call (some 27) 14 [(.t 21), (.t 22), (.t 24), (.t 26)]⟩,
   ⟨none, .mv 20 (.t 27)⟩,
   ⟨none, .ext 28 (.t 20) 0⟩,
   ⟨none, .ext 29 (.t 20) 1⟩,
   ⟨none, .ext 30 (.t 20) 2⟩,
   ⟨none, .asg 7 (.t 28)⟩,
   ⟨none, .asg 8 (.t 29)⟩,
   ⟨none, .asg 9 (.t 30)⟩])
 (.seq (.ops [⟨none, .mv 31 (.t 9)⟩,
   ⟨none, .bin 32 .eql .num (.t 31) (.c (.v (.int .i64 0)))⟩,
   ⟨none, .mv 33 (.t 32)⟩,
   ⟨some (33, true), .mv 34 (.t 8)⟩,
   ⟨none, .pick 35 (.t 33) (.t 34) (.c (.v (.bool false)))⟩,
   ⟨none, .mv 36 (.t 35)⟩,
   ⟨some (36, true), .mv 37 (.t 7)⟩,
   ⟨some (36, true), .fa 38 2 (.t 5)⟩,
   ⟨some (36, true), .ld1 39 (.t 38)⟩,
   ⟨some (36, true), .bin 40 .leq .num (.t 37) (.t 39)⟩,
   ⟨none, .pick 41 (.t 36) (.t 40) (.c (.v (.bool false)))⟩,
   ⟨none, .asg 6 (.t 41)⟩])
 (.seq (.scr r25) .ret))))),
  42, [6]⟩

/-- coinage/difference.Holds -/
abbrev K26 : Nat := 7
def hints26 : List (List Bool) := [bits 25 [6], bits 25 [6]]
@[simp] def r26 : List Bool := bits 25 [6]
@[simp] def R26 (s6 : V) : St := tab 25 7 (fu dd 6 s6) dd
def c26 : MF := ⟨(.seq (.ops [⟨none, .sl0 5 0 (.t 2)⟩,
   ⟨none, .asg 6 (.c (.v (.bool false)))⟩])
 (.seq (.seq (.ops [⟨none, .mv 7 (.t 0)⟩,
    ⟨none, .mv 8 (.t 1)⟩,
    ⟨none, .call (some 9) 16 [(.t 7), (.t 8)]⟩,
    ⟨none, .un 10 .not (.t 9)⟩,
    ⟨none, .mv 11 (.t 10)⟩,
    ⟨some (11, false), .ld1 12 (.t 5)⟩,
    ⟨some (11, false), .len 13 false (.t 12)⟩,
    ⟨some (11, false), .mv 14 (.t 0)⟩,
    ⟨some (11, false), .bin 15 .neq .num (.t 13) (.t 14)⟩,
    ⟨none, .pick 16 (.t 11) (.c (.v (.bool true))) (.t 15)⟩,
    ⟨none, .mv 17 (.t 16)⟩,
    ⟨some (17, false), .ld1 18 (.t 5)⟩,
    ⟨some (17, false), .call (some 19) 42 [(.t 18), (.c (.nd (.fn (.func 43) 0) []))]⟩,
    ⟨none, .pick 20 (.t 17) (.c (.v (.bool true))) (.t 19)⟩])
  (.cnd (.t 20)
   (.seq (.ops [⟨none, .asg 6 (.c (.v (.bool false)))⟩])
   (.seq (.scr r26) .ret))
   .skip))
 (.seq (.ops [⟨none, .mv 21 (.t 1)⟩,
   ⟨none, .mkf 22 45 [(.t 5)]⟩,
   ⟨none, .call (some 23) 38 [(.t 21), (.t 22)]⟩,
   ⟨none, .un 24 .not (.t 23)⟩,
   ⟨none, .asg 6 (.t 24)⟩])
 (.seq (.scr r26) .ret)))),
  25, [6]⟩

/-- coinage/coinageref33.Holds -/
abbrev K27 : Nat := 9
def hints27 : List (List Bool) := [bits 59 [6], bits 59 [1, 2], bits 59 [0, 1, 2, 7], bits 59 [1, 2], bits 59 [0, 1, 2, 7], bits 59 [6], bits 59 [], bits 59 [1, 2, 8], bits 59 [], bits 59 [1, 2, 8], bits 59 [6], bits 59 [6]]
@[simp] def r27 : List Bool := bits 59 [6]
@[simp] def R27 (s6 : V) : St := tab 59 9 (fu dd 6 s6) dd
@[simp] def x27_0 : List Bool := bits 59 [1, 2]
@[simp] def X27_0 (s1 s2 : V) : St := tab 59 9 (fu (fu dd 2 s2) 1 s1) dd
@[simp] def h27_0 : List Bool := bits 59 [0, 1, 2, 7]
@[simp] def L27_0 (s0 s1 s2 s7 : V) : St := tab 59 9 (fu (fu (fu (fu dd 7 s7) 2 s2) 1 s1) 0 s0) dd
@[simp] def x27_1 : List Bool := bits 59 [0, 1, 2, 7]
@[simp] def X27_1 (s0 s1 s2 s7 : V) : St := tab 59 9 (fu (fu (fu (fu dd 7 s7) 2 s2) 1 s1) 0 s0) dd
def b27_0 : MC := .seq (.scr h27_0)
 (.seq (.seq (.ops [⟨none, .mv 19 (.t 7)⟩,
    ⟨none, .mv 20 (.t 0)⟩,
    ⟨none, .bin 21 .lss .num (.t 19) (.t 20)⟩])
  (.cnd (.t 21)
   .skip
   (.seq (.scr x27_0) (.ex 0))))
 (.seq (.seq (.blk 1 (.seq (.ops [⟨none, .mv 24 (.t 2)⟩,
     ⟨none, .mv 25 (.t 7)⟩,
     ⟨none, .ixs 26 1 (.t 24) (.t 25)⟩,
     ⟨none, .ld1 27 (.t 26)⟩,
     ⟨none, .call (some 28) 41 [(.t 27), (.c (.v (.int .i64 1000000000)))]⟩,
     ⟨none, .un 29 .not (.t 28)⟩])
   (.cnd (.t 29)
    (.seq (.ops [⟨none, .asg 6 (.c (.v (.bool false)))⟩])
    (.seq (.scr r27) .ret))
    .skip))) (.scr x27_1))
 (.ops [⟨none, .mv 22 (.t 7)⟩,
  ⟨none, .bin 23 .add .num (.t 22) (.c (.v (.int .i64 1)))⟩,
  ⟨none, .asg 7 (.t 23)⟩])))
@[simp] def x27_2 : List Bool := bits 59 []
@[simp] def X27_2 : St := tab 59 9 dd dd
@[simp] def h27_1 : List Bool := bits 59 [1, 2, 8]
@[simp] def L27_1 (s1 s2 s8 : V) : St := tab 59 9 (fu (fu (fu dd 8 s8) 2 s2) 1 s1) dd
@[simp] def x27_3 : List Bool := bits 59 [1, 2, 8]
@[simp] def X27_3 (s1 s2 s8 : V) : St := tab 59 9 (fu (fu (fu dd 8 s8) 2 s2) 1 s1) dd
def b27_1 : MC := .seq (.scr h27_1)
 (.seq (.seq (.ops [⟨none, .mv 30 (.t 8)⟩,
    ⟨none, .mv 31 (.t 1)⟩,
    ⟨none, .len 32 false (.t 31)⟩,
    ⟨none, .bin 33 .lss .num (.t 30) (.t 32)⟩])
  (.cnd (.t 33)
   .skip
   (.seq (.scr x27_2) (.ex 2))))
 (.seq (.seq (.blk 3 (.seq (.drw (⟨none, .mv 36 (.t 2)⟩ ::
     ⟨none, .mv 37 (.t 1)⟩ ::
     ⟨none, .mv 38 (.t 8)⟩ ::
     ⟨none, .ixs 39 3 (.t 37) (.t 38)⟩ ::
     ⟨none, .fa 40 1 (.t 39)⟩ ::
     ⟨none, .ld1 41 (.t 40)⟩ ::
     ⟨none, .ixs 42 1 (.t 36) (.t 41)⟩ ::
     ⟨none, .ld1 43 (.t 42)⟩ ::
     ⟨none, .mv 44 (.t 2)⟩ ::
     ⟨none, .mv 45 (.t 1)⟩ ::
     ⟨none, .mv 46 (.t 8)⟩ ::
     ⟨none, .ixs 47 3 (.t 45) (.t 46)⟩ ::
     ⟨none, .fa 48 0 (.t 47)⟩ ::
     ⟨none, .ld1 49 (.t 48)⟩ ::
     ⟨none, .ixs 50 1 (.t 44) (.t 49)⟩ ::
     ⟨none, .ld1 51 (.t 50)⟩ ::
     ⟨none, .bin 52 .sub .num (.t 43) (.t 51)⟩ ::
     ⟨none, .mv 53 (.t 1)⟩ ::
     ⟨none, .mv 54 (.t 8)⟩ ::
     ⟨none, .ixs 55 3 (.t 53) (.t 54)⟩ ::
     ⟨none, .fa 56 2 (.t 55)⟩ ::
     ⟨none, .ld1 57 (.t 56)⟩ :: []) [⟨none, .bin 58 .gtr .num (.t 52) (.t 57)⟩])
   (.cnd (.t 58)
    (.seq (.ops [⟨none, .asg 6 (.c (.v (.bool false)))⟩])
    (.seq (.scr r27) .ret))
    .skip))) (.scr x27_3))
 (.ops [⟨none, .mv 34 (.t 8)⟩,
  ⟨none, .bin 35 .add .num (.t 34) (.c (.v (.int .i64 1)))⟩,
  ⟨none, .asg 8 (.t 35)⟩])))
def c27 : MF := ⟨(.seq (.ops [⟨none, .asg 6 (.c (.v (.bool false)))⟩])
 (.seq (.seq (.ops [⟨none, .mv 9 (.t 0)⟩,
    ⟨none, .mv 10 (.t 1)⟩,
    ⟨none, .call (some 11) 17 [(.t 9), (.t 10)]⟩,
    ⟨none, .un 12 .not (.t 11)⟩,
    ⟨none, .mv 13 (.t 12)⟩,
    ⟨some (13, false), .mv 14 (.t 2)⟩,
    ⟨some (13, false), .len 15 false (.t 14)⟩,
    ⟨some (13, false), .mv 16 (.t 0)⟩,
    ⟨some (13, false), .bin 17 .neq .num (.t 15) (.t 16)⟩,
    ⟨none, .pick 18 (.t 13) (.c (.v (.bool true))) (.t 17)⟩])
  (.cnd (.t 18)
   (.seq (.ops [⟨none, .asg 6 (.c (.v (.bool false)))⟩])
   (.seq (.scr r27) .ret))
   .skip))
 (.seq (.seq (.ops [⟨none, .asg 7 (.c (.v (.int .i64 0)))⟩])
  (.seq (.blk 0 (.lop b27_0)) (.scr x27_0)))
 (.seq (.seq (.ops [⟨none, .asg 8 (.c (.v (.int .i64 0)))⟩])
  (.seq (.blk 2 (.lop b27_1)) (.scr x27_2)))
 (.seq (.ops [⟨none, .asg 6 (.c (.v (.bool true)))⟩])
 (.seq (.scr r27) .ret)))))),
  59, [6]⟩

/-- coinage/difference.IsCycle -/
abbrev K28 : Nat := 25
def hints28 : List (List Bool) := [bits 57 [6], bits 57 [6], bits 57 [7], bits 57 [2, 4, 7, 22, 23, 24], bits 57 [7], bits 57 [2, 4, 7, 22, 23, 24], bits 57 [6], bits 57 [6]]
@[simp] def r28 : List Bool := bits 57 [6]
@[simp] def R28 (s6 : V) : St := tab 57 25 (fu dd 6 s6) dd
@[simp] def x28_0 : List Bool := bits 57 [7]
@[simp] def X28_0 (s7 : V) : St := tab 57 25 (fu dd 7 s7) dd
@[simp] def h28_0 : List Bool := bits 57 [2, 4, 7, 22, 23, 24]
@[simp] def L28_0 (s2 s4 s7 s22 s23 s24 : V) : St := tab 57 25 (fu (fu (fu (fu (fu (fu dd 24 s24) 23 s23) 22 s22) 7 s7) 4 s4) 2 s2) dd
@[simp] def x28_1 : List Bool := bits 57 [2, 4, 7, 22, 23, 24]
@[simp] def X28_1 (s2 s4 s7 s22 s23 s24 : V) : St := tab 57 25 (fu (fu (fu (fu (fu (fu dd 24 s24) 23 s23) 22 s22) 7 s7) 4 s4) 2 s2) dd
def b28_0 : MC := .seq (.scr h28_0)
 (.seq (.ops [⟨none, .bin 25 .lss .num (.t 24) (.t 23)⟩])
 (.seq (.cnd (.t 25)
   .skip
   (.seq (.scr x28_0) (.ex 0)))
 (.seq (.seq (.blk 1 (.seq (.ops [⟨none, .mv 26 (.t 24)⟩,
     ⟨none, .ixs 27 1 (.t 22) (.t 24)⟩,
     ⟨none, .ld1 28 (.t 27)⟩,
     ⟨none, .asg 8 (.t 26)⟩,
     ⟨none, .asg 9 (.t 28)⟩])
   (.seq (.seq (.drw (⟨none, .ld1 29 (.t 4)⟩ ::
      ⟨none, .mv 30 (.t 9)⟩ ::
      ⟨none, .ixs 31 3 (.t 29) (.t 30)⟩ ::
      ⟨none, .fa 32 1 (.t 31)⟩ ::
      ⟨none, .ld1 33 (.t 32)⟩ ::
      ⟨none, .ld1 34 (.t 4)⟩ ::
      ⟨none, .mv 35 (.t 2)⟩ ::
      ⟨none, .mv 36 (.t 8)⟩ ::
      ⟨none, .bin 37 .add .num (.t 36) (.c (.v (.int .i64 1)))⟩ ::
      ⟨none, .mv 38 (.t 2)⟩ ::
      ⟨none, .len 39 false (.t 38)⟩ ::
      ⟨none, .bin 40 .rem .num (.t 37) (.t 39)⟩ ::
      ⟨none, .ixs 41 1 (.t 35) (.t 40)⟩ ::
      ⟨none, .ld1 42 (.t 41)⟩ ::
      ⟨none, .ixs 43 3 (.t 34) (.t 42)⟩ ::
      ⟨none, .fa 44 0 (.t 43)⟩ ::
      ⟨none, .ld1 45 (.t 44)⟩ :: []) [⟨none, .bin 46 .neq .num (.t 33) (.t 45)⟩])
    (.cnd (.t 46)
     (.seq (.ops [⟨none, .asg 6 (.c (.v (.bool false)))⟩])
     (.seq (.scr r28) .ret))
     .skip))
   (.ops [⟨none, .mv 47 (.t 7)⟩,
    ⟨none, .ld1 48 (.t 4)⟩,
    ⟨none, .mv 49 (.t 9)⟩,
    ⟨none, .ixs 50 3 (.t 48) (.t 49)⟩,
    ⟨none, .fa 51 2 (.t 50)⟩,
    ⟨none, .ld1 52 (.t 51)⟩,
    ⟨none, .bin 53 .add .num (.t 47) (.t 52)⟩,
    ⟨none, .asg 7 (.t 53)⟩])))) (.scr x28_1))
 (.ops [⟨none, .bin 54 .add .num (.t 24) (.c (.v (.int .i64 1)))⟩,
  ⟨none, .mv 24 (.t 54)⟩]))))
def c28 : MF := ⟨(.seq (.ops [⟨none, .sl0 4 0 (.t 1)⟩,
   ⟨none, .asg 6 (.c (.v (.bool false)))⟩])
 (.seq (.seq (.ops [⟨none, .mv 10 (.t 0)⟩,
    ⟨none, .ld1 11 (.t 4)⟩,
    ⟨none, .call (some 12) 16 [(.t 10), (.t 11)]⟩,
    ⟨none, .un 13 .not (.t 12)⟩,
    ⟨none, .mv 14 (.t 13)⟩,
    ⟨some (14, false), .mv 15 (.t 2)⟩,
    ⟨some (14, false), .len 16 false (.t 15)⟩,
    ⟨some (14, false), .bin 17 .eql .num (.t 16) (.c (.v (.int .i64 0)))⟩,
    ⟨none, .pick 18 (.t 14) (.c (.v (.bool true))) (.t 17)⟩])
  (.cnd (.t 18)
   (.seq (.ops [⟨none, .asg 6 (.c (.v (.bool false)))⟩])
   (.seq (.scr r28) .ret))
   .skip))
 (.seq (.seq (.ops [⟨none, .mv 19 (.t 2)⟩,
    ⟨none, .mkf 20 46 [(.t 4)]⟩,
    ⟨none, .call (some 21) 42 [(.t 19), (.t 20)]⟩])
  (.cnd (.t 21)
   (.seq (.ops [⟨none, .asg 6 (.c (.v (.bool false)))⟩])
   (.seq (.scr r28) .ret))
   .skip))
 (.seq (.ops [⟨none, .asg 7 (.c (.v (.int .i64 0)))⟩])
 (.seq (.seq (.ops [⟨none, .mv 22 (.t 2)⟩,
    ⟨none, .len 23 false (.t 22)⟩,
    ⟨none, .mv 24 (.c (.v (.int .i64 0)))⟩])
  (.seq (.blk 0 (.lop b28_0)) (.scr x28_0)))
 (.seq (.ops [⟨none, .mv 55 (.t 7)⟩,
   ⟨none, .bin 56 .lss .num (.t 55) (.c (.v (.int .i64 0)))⟩,
   ⟨none, .asg 6 (.t 56)⟩])
 (.seq (.scr r28) .ret))))))),
  57, [6]⟩

/-- coinage/coinageref33.IsCycle -/
abbrev K29 : Nat := 11
def hints29 : List (List Bool) := [bits 80 [6], bits 80 [1, 2, 7], bits 80 [1, 2, 7, 8], bits 80 [1, 2, 7], bits 80 [1, 2, 7, 8], bits 80 [6], bits 80 [7], bits 80 [1, 2, 7, 9], bits 80 [7], bits 80 [1, 2, 7, 9], bits 80 [6], bits 80 [6]]
@[simp] def r29 : List Bool := bits 80 [6]
@[simp] def R29 (s6 : V) : St := tab 80 11 (fu dd 6 s6) dd
@[simp] def x29_0 : List Bool := bits 80 [1, 2, 7]
@[simp] def X29_0 (s1 s2 s7 : V) : St := tab 80 11 (fu (fu (fu dd 7 s7) 2 s2) 1 s1) dd
@[simp] def h29_0 : List Bool := bits 80 [1, 2, 7, 8]
@[simp] def L29_0 (s1 s2 s7 s8 : V) : St := tab 80 11 (fu (fu (fu (fu dd 8 s8) 7 s7) 2 s2) 1 s1) dd
@[simp] def x29_1 : List Bool := bits 80 [1, 2, 7, 8]
@[simp] def X29_1 (s1 s2 s7 s8 : V) : St := tab 80 11 (fu (fu (fu (fu dd 8 s8) 7 s7) 2 s2) 1 s1) dd
def b29_0 : MC := .seq (.scr h29_0)
 (.seq (.seq (.ops [⟨none, .mv 20 (.t 8)⟩,
    ⟨none, .mv 21 (.t 2)⟩,
    ⟨none, .len 22 false (.t 21)⟩,
    ⟨none, .bin 23 .lss .num (.t 20) (.t 22)⟩])
  (.cnd (.t 23)
   .skip
   (.seq (.scr x29_0) (.ex 0))))
 (.seq (.seq (.blk 1 (.seq (.ops [⟨none, .mv 26 (.t 2)⟩,
     ⟨none, .mv 27 (.t 8)⟩,
     ⟨none, .ixs 28 1 (.t 26) (.t 27)⟩,
     ⟨none, .ld1 29 (.t 28)⟩,
     ⟨none, .mv 30 (.t 1)⟩,
     ⟨none, .len 31 false (.t 30)⟩,
     ⟨none, .bin 32 .sub .num (.t 31) (.c (.v (.int .i64 1)))⟩,
     ⟨none, .call (some 33) 33 [(.t 29), (.c (.v (.int .i64 0))), (.t 32)]⟩,
     ⟨none, .un 34 .not (.t 33)⟩])
   (.cnd (.t 34)
    (.seq (.ops [⟨none, .asg 6 (.c (.v (.bool false)))⟩])
    (.seq (.scr r29) .ret))
    .skip))) (.scr x29_1))
 (.ops [⟨none, .mv 24 (.t 8)⟩,
  ⟨none, .bin 25 .add .num (.t 24) (.c (.v (.int .i64 1)))⟩,
  ⟨none, .asg 8 (.t 25)⟩])))
@[simp] def x29_2 : List Bool := bits 80 [7]
@[simp] def X29_2 (s7 : V) : St := tab 80 11 (fu dd 7 s7) dd
@[simp] def h29_1 : List Bool := bits 80 [1, 2, 7, 9]
@[simp] def L29_1 (s1 s2 s7 s9 : V) : St := tab 80 11 (fu (fu (fu (fu dd 9 s9) 7 s7) 2 s2) 1 s1) dd
@[simp] def x29_3 : List Bool := bits 80 [1, 2, 7, 9]
@[simp] def X29_3 (s1 s2 s7 s9 : V) : St := tab 80 11 (fu (fu (fu (fu dd 9 s9) 7 s7) 2 s2) 1 s1) dd
def b29_1 : MC := .seq (.scr h29_1)
 (.seq (.seq (.ops [⟨none, .mv 35 (.t 9)⟩,
    ⟨none, .mv 36 (.t 2)⟩,
    ⟨none, .len 37 false (.t 36)⟩,
    ⟨none, .bin 38 .lss .num (.t 35) (.t 37)⟩])
  (.cnd (.t 38)
   .skip
   (.seq (.scr x29_2) (.ex 2))))
 (.seq (.seq (.blk 3 (.seq (.ops [⟨none, .mv 41 (.t 2)⟩,
     ⟨none, .ixs 42 1 (.t 41) (.c (.v (.int .i64 0)))⟩,
     ⟨none, .ld1 43 (.t 42)⟩,
     ⟨none, .asg 10 (.t 43)⟩])
   (.seq (.seq (.ops [⟨none, .mv 44 (.t 9)⟩,
      ⟨none, .bin 45 .add .num (.t 44) (.c (.v (.int .i64 1)))⟩,
      ⟨none, .mv 46 (.t 2)⟩,
      ⟨none, .len 47 false (.t 46)⟩,
      ⟨none, .bin 48 .lss .num (.t 45) (.t 47)⟩])
    (.cnd (.t 48)
     (.ops [⟨none, .mv 49 (.t 2)⟩,
      ⟨none, .mv 50 (.t 9)⟩,
      ⟨none, .bin 51 .add .num (.t 50) (.c (.v (.int .i64 1)))⟩,
      ⟨none, .ixs 52 1 (.t 49) (.t 51)⟩,
      ⟨none, .ld1 53 (.t 52)⟩,
      ⟨none, .asg 10 (.t 53)⟩])
     .skip))
   (.seq (.seq (.drw [⟨none, .mv 54 (.t 1)⟩,
      ⟨none, .mv 55 (.t 2)⟩,
      ⟨none, .mv 56 (.t 9)⟩,
      ⟨none, .ixs 57 1 (.t 55) (.t 56)⟩,
      ⟨none, .ld1 58 (.t 57)⟩,
      ⟨none, .ixs 59 3 (.t 54) (.t 58)⟩,
      ⟨none, .fa 60 1 (.t 59)⟩,
      ⟨none, .ld1 61 (.t 60)⟩,
      ⟨none, .mv 62 (.t 1)⟩,
      ⟨none, .mv 63 (.t 10)⟩,
      ⟨none, .ixs 64 3 (.t 62) (.t 63)⟩,
      ⟨none, .fa 65 0 (.t 64)⟩,
      ⟨none, .ld1 66 (.t 65)⟩] [⟨none, .bin 67 .neq .num (.t 61) (.t 66)⟩])
    (.cnd (.t 67)
     (.seq (.ops [⟨none, .asg 6 (.c (.v (.bool false)))⟩])
     (.seq (.scr r29) .ret))
     .skip))
   (.ops [⟨none, .mv 68 (.t 7)⟩,
    ⟨none, .mv 69 (.t 1)⟩,
    ⟨none, .mv 70 (.t 2)⟩,
    ⟨none, .mv 71 (.t 9)⟩,
    ⟨none, .ixs 72 1 (.t 70) (.t 71)⟩,
    ⟨none, .ld1 73 (.t 72)⟩,
    ⟨none, .ixs 74 3 (.t 69) (.t 73)⟩,
    ⟨none, .fa 75 2 (.t 74)⟩,
    ⟨none, .ld1 76 (.t 75)⟩,
    ⟨none, .bin 77 .add .num (.t 68) (.t 76)⟩,
    ⟨none, .asg 7 (.t 77)⟩]))))) (.scr x29_3))
 (.ops [⟨none, .mv 39 (.t 9)⟩,
  ⟨none, .bin 40 .add .num (.t 39) (.c (.v (.int .i64 1)))⟩,
  ⟨none, .asg 9 (.t 40)⟩])))
def c29 : MF := ⟨(.seq (.ops [⟨none, .asg 6 (.c (.v (.bool false)))⟩])
 (.seq (.seq (.ops [⟨none, .mv 11 (.t 0)⟩,
    ⟨none, .mv 12 (.t 1)⟩,
    ⟨none, .call (some 13) 17 [(.t 11), (.t 12)]⟩,
    ⟨none, .un 14 .not (.t 13)⟩,
    ⟨none, .mv 15 (.t 14)⟩,
    ⟨some (15, false), .mv 16 (.t 2)⟩,
    ⟨some (15, false), .len 17 false (.t 16)⟩,
    ⟨some (15, false), .bin 18 .eql .num (.t 17) (.c (.v (.int .i64 0)))⟩,
    ⟨none, .pick 19 (.t 15) (.c (.v (.bool true))) (.t 18)⟩])
  (.cnd (.t 19)
   (.seq (.ops [⟨none, .asg 6 (.c (.v (.bool false)))⟩])
   (.seq (.scr r29) .ret))
   .skip))
 (.seq (.ops [⟨none, .asg 7 (.c (.v (.int .i64 0)))⟩])
 (.seq (.seq (.ops [⟨none, .asg 8 (.c (.v (.int .i64 0)))⟩])
  (.seq (.blk 0 (.lop b29_0)) (.scr x29_0)))
 (.seq (.seq (.ops [⟨none, .asg 9 (.c (.v (.int .i64 0)))⟩])
  (.seq (.blk 2 (.lop b29_1)) (.scr x29_2)))
 (.seq (.ops [⟨none, .mv 78 (.t 7)⟩,
   ⟨none, .bin 79 .lss .num (.t 78) (.c (.v (.int .i64 0)))⟩,
   ⟨none, .asg 6 (.t 79)⟩])
 (.seq (.scr r29) .ret))))))),
  80, [6]⟩

/-- coinage/coinagelaw33.great -/
abbrev K30 : Nat := 4
def hints30 : List (List Bool) := [bits 17 [], bits 17 [0, 3], bits 17 [], bits 17 [0, 3], bits 17 [2], bits 17 [2]]
@[simp] def r30 : List Bool := bits 17 [2]
@[simp] def R30 (s2 : V) : St := tab 17 4 (fu dd 2 s2) dd
@[simp] def x30_0 : List Bool := bits 17 []
@[simp] def X30_0 : St := tab 17 4 dd dd
@[simp] def h30_0 : List Bool := bits 17 [0, 3]
@[simp] def L30_0 (s0 s3 : V) : St := tab 17 4 (fu (fu dd 3 s3) 0 s0) dd
@[simp] def x30_1 : List Bool := bits 17 [0, 3]
@[simp] def X30_1 (s0 s3 : V) : St := tab 17 4 (fu (fu dd 3 s3) 0 s0) dd
def b30_0 : MC := .seq (.scr h30_0)
 (.seq (.seq (.ops [⟨none, .mv 4 (.t 3)⟩,
    ⟨none, .mv 5 (.t 0)⟩,
    ⟨none, .len 6 false (.t 5)⟩,
    ⟨none, .bin 7 .lss .num (.t 4) (.t 6)⟩])
  (.cnd (.t 7)
   .skip
   (.seq (.scr x30_0) (.ex 0))))
 (.seq (.seq (.blk 1 (.seq (.ops [⟨none, .mv 10 (.t 0)⟩,
     ⟨none, .mv 11 (.t 3)⟩,
     ⟨none, .ixs 12 3 (.t 10) (.t 11)⟩,
     ⟨none, .fa 13 2 (.t 12)⟩,
     ⟨none, .ld1 14 (.t 13)⟩,
     ⟨none, .call (some 15) 41 [(.t 14), (.c (.v (.int .i64 60000)))]⟩,
     ⟨none, .un 16 .not (.t 15)⟩])
   (.cnd (.t 16)
    (.seq (.ops [⟨none, .asg 2 (.c (.v (.bool true)))⟩])
    (.seq (.scr r30) .ret))
    .skip))) (.scr x30_1))
 (.ops [⟨none, .mv 8 (.t 3)⟩,
  ⟨none, .bin 9 .add .num (.t 8) (.c (.v (.int .i64 1)))⟩,
  ⟨none, .asg 3 (.t 9)⟩])))
def c30 : MF := ⟨(.seq (.ops [⟨none, .asg 2 (.c (.v (.bool false)))⟩])
 (.seq (.seq (.ops [⟨none, .asg 3 (.c (.v (.int .i64 0)))⟩])
  (.seq (.blk 0 (.lop b30_0)) (.scr x30_0)))
 (.seq (.ops [⟨none, .asg 2 (.c (.v (.bool false)))⟩])
 (.seq (.scr r30) .ret)))),
  17, [2]⟩

/-- coinage/coinagelaw33.bounded -/
abbrev K31 : Nat := 7
def hints31 : List (List Bool) := [bits 21 [5], bits 21 [0, 5, 6], bits 21 [5], bits 21 [0, 5, 6], bits 21 [4]]
@[simp] def r31 : List Bool := bits 21 [4]
@[simp] def R31 (s4 : V) : St := tab 21 7 (fu dd 4 s4) dd
@[simp] def x31_0 : List Bool := bits 21 [5]
@[simp] def X31_0 (s5 : V) : St := tab 21 7 (fu dd 5 s5) dd
@[simp] def h31_0 : List Bool := bits 21 [0, 5, 6]
@[simp] def L31_0 (s0 s5 s6 : V) : St := tab 21 7 (fu (fu (fu dd 6 s6) 5 s5) 0 s0) dd
@[simp] def x31_1 : List Bool := bits 21 [0, 5, 6]
@[simp] def X31_1 (s0 s5 s6 : V) : St := tab 21 7 (fu (fu (fu dd 6 s6) 5 s5) 0 s0) dd
def b31_0 : MC := .seq (.scr h31_0)
 (.seq (.seq (.ops [⟨none, .mv 10 (.t 6)⟩,
    ⟨none, .mv 11 (.t 0)⟩,
    ⟨none, .bin 12 .lss .num (.t 10) (.t 11)⟩])
  (.cnd (.t 12)
   .skip
   (.seq (.scr x31_0) (.ex 0))))
 (.seq (.seq (.blk 1 (.ops [⟨none, .mv 15 (.t 5)⟩,
    ⟨none, .mv 16 (.t 6)⟩,
    ⟨none, .bld 17 [(.v (.int .i64 0)), (.v (.int .i64 0)), (.v (.int .i64 0))] [(0, 1, (.c (.v (.int .i64 0)))), (1, 1, (.t 16)), (2, 1, (.c (.v (.int .i64 1000000))))]⟩,
    ⟨none, .bs 18 3 1 [(.v (.int .i64 0)), (.v (.int .i64 0)), (.v (.int .i64 0))] [(0, 3, (.t 17))]⟩,
    ⟨none, .app 19 3 (.t 15) (.t 18)⟩,
    ⟨none, .asg 5 (.t 19)⟩])) (.scr x31_1))
 (.ops [⟨none, .mv 13 (.t 6)⟩,
  ⟨none, .bin 14 .add .num (.t 13) (.c (.v (.int .i64 1)))⟩,
  ⟨none, .asg 6 (.t 14)⟩])))
def c31 : MF := ⟨(.seq (.ops [⟨none, .asg 4 (.c (.nd (.sl true 3 0) []))⟩])
 (.seq (.ops [⟨none, .mz 7 3⟩,
   ⟨none, .mv 8 (.t 1)⟩,
   ⟨none, .app 9 3 (.t 7) (.t 8)⟩,
   ⟨none, .asg 5 (.t 9)⟩])
 (.seq (.seq (.ops [⟨none, .asg 6 (.c (.v (.int .i64 1)))⟩])
  (.seq (.blk 0 (.lop b31_0)) (.scr x31_0)))
 (.seq (.ops [⟨none, .mv 20 (.t 5)⟩,
   ⟨none, .asg 4 (.t 20)⟩])
 (.seq (.scr r31) .ret))))),
  21, [4]⟩

/-- coinage/difference.limits -/
abbrev K32 : Nat := 107
def hints32 : List (List Bool) := [bits 121 [0, 1, 6], bits 121 [0, 1, 6, 17, 18], bits 121 [0, 1, 6], bits 121 [0, 1, 6, 17, 18], bits 121 [0, 6], bits 121 [0, 1, 6, 34, 35, 36], bits 121 [0, 6], bits 121 [0, 1, 6, 34, 35, 36], bits 121 [6], bits 121 [0, 6, 62, 63], bits 121 [6], bits 121 [0, 6, 62, 63], bits 121 [0, 6, 62, 63], bits 121 [0, 6, 10, 62, 63, 66, 67], bits 121 [0, 6, 62, 63], bits 121 [0, 6, 10, 62, 63, 66, 67], bits 121 [0, 6, 10, 62, 63, 66, 67], bits 121 [0, 6, 10, 11, 62, 63, 66, 67, 70, 71], bits 121 [0, 6, 10, 62, 63, 66, 67], bits 121 [0, 6, 10, 11, 62, 63, 66, 67, 70, 71], bits 121 [0, 6, 62, 63], bits 121 [0, 6, 62, 63, 105, 106], bits 121 [0, 6, 62, 63], bits 121 [0, 6, 62, 63, 105, 106], bits 121 [4, 5], bits 121 [4, 5]]
@[simp] def r32 : List Bool := bits 121 [4, 5]
@[simp] def R32 (s4 s5 : V) : St := tab 121 107 (fu (fu dd 5 s5) 4 s4) dd
@[simp] def x32_0 : List Bool := bits 121 [0, 1, 6]
@[simp] def X32_0 (s0 s1 s6 : V) : St := tab 121 107 (fu (fu (fu dd 6 s6) 1 s1) 0 s0) dd
@[simp] def h32_0 : List Bool := bits 121 [0, 1, 6, 17, 18]
@[simp] def L32_0 (s0 s1 s6 s17 s18 : V) : St := tab 121 107 (fu (fu (fu (fu (fu dd 18 s18) 17 s17) 6 s6) 1 s1) 0 s0) dd
@[simp] def x32_1 : List Bool := bits 121 [0, 1, 6, 17, 18]
@[simp] def X32_1 (s0 s1 s6 s17 s18 : V) : St := tab 121 107 (fu (fu (fu (fu (fu dd 18 s18) 17 s17) 6 s6) 1 s1) 0 s0) dd
def b32_0 : MC := .seq (.scr h32_0)
 (.seq (.ops [⟨none, .bin 19 .lss .num (.t 18) (.t 17)⟩])
 (.seq (.cnd (.t 19)
   .skip
   (.seq (.scr x32_0) (.ex 0)))
 (.seq (.seq (.blk 1 (.seq (.ops [⟨none, .mv 20 (.t 18)⟩,
     ⟨none, .asg 7 (.t 20)⟩])
   (.seq (.ops [⟨none, .mv 21 (.t 6)⟩,
     ⟨none, .mv 22 (.t 7)⟩,
     ⟨none, .mv 23 (.t 0)⟩,
     ⟨none, .mks 24 2 [(.v (.int .i64 0)), (.v (.bool false))] (.t 23) (.t 23)⟩,
     ⟨none, .ixs 25 1 (.t 21) (.t 22)⟩,
     ⟨none, .stn none 1 (.t 25) (.t 24)⟩])
   (.ops [⟨none, .mv 26 (.t 6)⟩,
    ⟨none, .mv 27 (.t 7)⟩,
    ⟨none, .ixs 28 1 (.t 26) (.t 27)⟩,
    ⟨none, .ld1 29 (.t 28)⟩,
    ⟨none, .mv 30 (.t 7)⟩,
    ⟨none, .bld 31 [(.v (.int .i64 0)), (.v (.bool false))] [(0, 1, (.c (.v (.int .i64 0)))), (1, 1, (.c (.v (.bool true))))]⟩,
    ⟨none, .ixs 32 2 (.t 29) (.t 30)⟩,
    ⟨none, .stn none 2 (.t 32) (.t 31)⟩])))) (.scr x32_1))
 (.ops [⟨none, .bin 33 .add .num (.t 18) (.c (.v (.int .i64 1)))⟩,
  ⟨none, .mv 18 (.t 33)⟩]))))
@[simp] def x32_2 : List Bool := bits 121 [0, 6]
@[simp] def X32_2 (s0 s6 : V) : St := tab 121 107 (fu (fu dd 6 s6) 0 s0) dd
@[simp] def h32_1 : List Bool := bits 121 [0, 1, 6, 34, 35, 36]
@[simp] def L32_1 (s0 s1 s6 s34 s35 s36 : V) : St := tab 121 107 (fu (fu (fu (fu (fu (fu dd 36 s36) 35 s35) 34 s34) 6 s6) 1 s1) 0 s0) dd
@[simp] def x32_3 : List Bool := bits 121 [0, 1, 6, 34, 35, 36]
@[simp] def X32_3 (s0 s1 s6 s34 s35 s36 : V) : St := tab 121 107 (fu (fu (fu (fu (fu (fu dd 36 s36) 35 s35) 34 s34) 6 s6) 1 s1) 0 s0) dd
def b32_1 : MC := .seq (.scr h32_1)
 (.seq (.ops [⟨none, .bin 37 .lss .num (.t 36) (.t 35)⟩])
 (.seq (.cnd (.t 37)
   .skip
   (.seq (.scr x32_2) (.ex 2)))
 (.seq (.seq (.blk 3 (.seq (.ops [⟨none, .ixs 38 3 (.t 34) (.t 36)⟩,
     ⟨none, .ldn 39 3 (.t 38)⟩,
     ⟨none, .alc 9 [(.v (.int .i64 0)), (.v (.int .i64 0)), (.v (.int .i64 0))]⟩,
     ⟨none, .stn none 3 (.t 9) (.t 39)⟩])
   (.drw (⟨none, .mv 40 (.t 6)⟩ ::
    ⟨none, .fa 41 0 (.t 9)⟩ ::
    ⟨none, .ld1 42 (.t 41)⟩ ::
    ⟨none, .ixs 43 1 (.t 40) (.t 42)⟩ ::
    ⟨none, .ld1 44 (.t 43)⟩ ::
    ⟨none, .fa 45 1 (.t 9)⟩ ::
    ⟨none, .ld1 46 (.t 45)⟩ ::
    ⟨none, .mv 47 (.t 6)⟩ ::
    ⟨none, .fa 48 0 (.t 9)⟩ ::
    ⟨none, .ld1 49 (.t 48)⟩ ::
    ⟨none, .ixs 50 1 (.t 47) (.t 49)⟩ ::
    ⟨none, .ld1 51 (.t 50)⟩ ::
    ⟨none, .fa 52 1 (.t 9)⟩ ::
    ⟨none, .ld1 53 (.t 52)⟩ ::
    ⟨none, .ixs 54 2 (.t 51) (.t 53)⟩ ::
    ⟨none, .ldn 55 2 (.t 54)⟩ ::
    ⟨none, .fa 56 2 (.t 9)⟩ ::
    ⟨none, .ld1 57 (.t 56)⟩ ::
    ⟨none, .bld 58 [(.v (.int .i64 0)), (.v (.bool false))] [(0, 1, (.t 57)), (1, 1, (.c (.v (.bool true))))]⟩ ::
    ⟨none, .call (some 59) 47 [(.t 55), (.t 58)]⟩ :: []) [⟨none, .ixs 60 2 (.t 44) (.t 46)⟩,
    ⟨none, .stn none 2 (.t 60) (.t 59)⟩]))) (.scr x32_3))
 (.ops [⟨none, .bin 61 .add .num (.t 36) (.c (.v (.int .i64 1)))⟩,
  ⟨none, .mv 36 (.t 61)⟩]))))
@[simp] def x32_4 : List Bool := bits 121 [6]
@[simp] def X32_4 (s6 : V) : St := tab 121 107 (fu dd 6 s6) dd
@[simp] def h32_2 : List Bool := bits 121 [0, 6, 62, 63]
@[simp] def L32_2 (s0 s6 s62 s63 : V) : St := tab 121 107 (fu (fu (fu (fu dd 63 s63) 62 s62) 6 s6) 0 s0) dd
@[simp] def x32_5 : List Bool := bits 121 [0, 6, 62, 63]
@[simp] def X32_5 (s0 s6 s62 s63 : V) : St := tab 121 107 (fu (fu (fu (fu dd 63 s63) 62 s62) 6 s6) 0 s0) dd
@[simp] def x32_6 : List Bool := bits 121 [0, 6, 62, 63]
@[simp] def X32_6 (s0 s6 s62 s63 : V) : St := tab 121 107 (fu (fu (fu (fu dd 63 s63) 62 s62) 6 s6) 0 s0) dd
@[simp] def h32_3 : List Bool := bits 121 [0, 6, 10, 62, 63, 66, 67]
@[simp] def L32_3 (s0 s6 s10 s62 s63 s66 s67 : V) : St := tab 121 107 (fu (fu (fu (fu (fu (fu (fu dd 67 s67) 66 s66) 63 s63) 62 s62) 10 s10) 6 s6) 0 s0) dd
@[simp] def x32_7 : List Bool := bits 121 [0, 6, 10, 62, 63, 66, 67]
@[simp] def X32_7 (s0 s6 s10 s62 s63 s66 s67 : V) : St := tab 121 107 (fu (fu (fu (fu (fu (fu (fu dd 67 s67) 66 s66) 63 s63) 62 s62) 10 s10) 6 s6) 0 s0) dd
@[simp] def x32_8 : List Bool := bits 121 [0, 6, 10, 62, 63, 66, 67]
@[simp] def X32_8 (s0 s6 s10 s62 s63 s66 s67 : V) : St := tab 121 107 (fu (fu (fu (fu (fu (fu (fu dd 67 s67) 66 s66) 63 s63) 62 s62) 10 s10) 6 s6) 0 s0) dd
@[simp] def h32_4 : List Bool := bits 121 [0, 6, 10, 11, 62, 63, 66, 67, 70, 71]
@[simp] def L32_4 (s0 s6 s10 s11 s62 s63 s66 s67 s70 s71 : V) : St := tab 121 107 (fu (fu (fu (fu (fu (fu (fu (fu (fu (fu dd 71 s71) 70 s70) 67 s67) 66 s66) 63 s63) 62 s62) 11 s11) 10 s10) 6 s6) 0 s0) dd
@[simp] def x32_9 : List Bool := bits 121 [0, 6, 10, 11, 62, 63, 66, 67, 70, 71]
@[simp] def X32_9 (s0 s6 s10 s11 s62 s63 s66 s67 s70 s71 : V) : St := tab 121 107 (fu (fu (fu (fu (fu (fu (fu (fu (fu (fu dd 71 s71) 70 s70) 67 s67) 66 s66) 63 s63) 62 s62) 11 s11) 10 s10) 6 s6) 0 s0) dd
def b32_4 : MC := .seq (.scr h32_4)
 (.seq (.ops [⟨none, .bin 72 .lss .num (.t 71) (.t 70)⟩])
 (.seq (.cnd (.t 72)
   .skip
   (.seq (.scr x32_8) (.ex 8)))
 (.seq (.seq (.blk 9 (.seq (.ops [⟨none, .mv 73 (.t 71)⟩,
     ⟨none, .asg 12 (.t 73)⟩])
   (.drw (⟨none, .mv 74 (.t 6)⟩ ::
    ⟨none, .mv 75 (.t 11)⟩ ::
    ⟨none, .ixs 76 1 (.t 74) (.t 75)⟩ ::
    ⟨none, .ld1 77 (.t 76)⟩ ::
    ⟨none, .mv 78 (.t 12)⟩ ::
    ⟨none, .mv 79 (.t 6)⟩ ::
    ⟨none, .mv 80 (.t 11)⟩ ::
    ⟨none, .ixs 81 1 (.t 79) (.t 80)⟩ ::
    ⟨none, .ld1 82 (.t 81)⟩ ::
    ⟨none, .mv 83 (.t 12)⟩ ::
    ⟨none, .ixs 84 2 (.t 82) (.t 83)⟩ ::
    ⟨none, .ldn 85 2 (.t 84)⟩ ::
    ⟨none, .mv 86 (.t 6)⟩ ::
    ⟨none, .mv 87 (.t 11)⟩ ::
    ⟨none, .ixs 88 1 (.t 86) (.t 87)⟩ ::
    ⟨none, .ld1 89 (.t 88)⟩ ::
    ⟨none, .mv 90 (.t 10)⟩ ::
    ⟨none, .ixs 91 2 (.t 89) (.t 90)⟩ ::
    ⟨none, .ldn 92 2 (.t 91)⟩ ::
    ⟨none, .mv 93 (.t 6)⟩ ::
    ⟨none, .mv 94 (.t 10)⟩ ::
    ⟨none, .ixs 95 1 (.t 93) (.t 94)⟩ ::
    ⟨none, .ld1 96 (.t 95)⟩ ::
    ⟨none, .mv 97 (.t 12)⟩ ::
    ⟨none, .ixs 98 2 (.t 96) (.t 97)⟩ ::
    ⟨none, .ldn 99 2 (.t 98)⟩ ::
    ⟨none, .call (some 100) 48 [(.t 92), (.t 99)]⟩ ::
    ⟨none, .call (some 101) 47 [(.t 85), (.t 100)]⟩ :: []) [⟨none, .ixs 102 2 (.t 77) (.t 78)⟩,
    ⟨none, .stn none 2 (.t 102) (.t 101)⟩]))) (.scr x32_9))
 (.ops [⟨none, .bin 103 .add .num (.t 71) (.c (.v (.int .i64 1)))⟩,
  ⟨none, .mv 71 (.t 103)⟩]))))
def b32_3 : MC := .seq (.scr h32_3)
 (.seq (.ops [⟨none, .bin 68 .lss .num (.t 67) (.t 66)⟩])
 (.seq (.cnd (.t 68)
   .skip
   (.seq (.scr x32_6) (.ex 6)))
 (.seq (.seq (.blk 7 (.seq (.ops [⟨none, .mv 69 (.t 67)⟩,
     ⟨none, .asg 11 (.t 69)⟩])
   (.seq (.ops [⟨none, .mv 70 (.t 0)⟩,
     ⟨none, .mv 71 (.c (.v (.int .i64 0)))⟩])
   (.seq (.blk 8 (.lop b32_4)) (.scr x32_8))))) (.scr x32_7))
 (.ops [⟨none, .bin 104 .add .num (.t 67) (.c (.v (.int .i64 1)))⟩,
  ⟨none, .mv 67 (.t 104)⟩]))))
@[simp] def x32_10 : List Bool := bits 121 [0, 6, 62, 63]
@[simp] def X32_10 (s0 s6 s62 s63 : V) : St := tab 121 107 (fu (fu (fu (fu dd 63 s63) 62 s62) 6 s6) 0 s0) dd
@[simp] def h32_5 : List Bool := bits 121 [0, 6, 62, 63, 105, 106]
@[simp] def L32_5 (s0 s6 s62 s63 s105 s106 : V) : St := tab 121 107 (fu (fu (fu (fu (fu (fu dd 106 s106) 105 s105) 63 s63) 62 s62) 6 s6) 0 s0) dd
@[simp] def x32_11 : List Bool := bits 121 [0, 6, 62, 63, 105, 106]
@[simp] def X32_11 (s0 s6 s62 s63 s105 s106 : V) : St := tab 121 107 (fu (fu (fu (fu (fu (fu dd 106 s106) 105 s105) 63 s63) 62 s62) 6 s6) 0 s0) dd
def b32_5 : MC := .seq (.scr h32_5)
 (.seq (.ops [⟨none, .bin 107 .lss .num (.t 106) (.t 105)⟩])
 (.seq (.cnd (.t 107)
   .skip
   (.seq (.scr x32_10) (.ex 10)))
 (.seq (.seq (.blk 11 (.seq (.ops [⟨none, .mv 108 (.t 106)⟩,
     ⟨none, .asg 13 (.t 108)⟩])
   (.seq (.ops [⟨none, .mv 109 (.t 6)⟩,
     ⟨none, .mv 110 (.t 13)⟩,
     ⟨none, .ixs 111 1 (.t 109) (.t 110)⟩,
     ⟨none, .ld1 112 (.t 111)⟩,
     ⟨none, .mv 113 (.t 13)⟩,
     ⟨none, .ixs 114 2 (.t 112) (.t 113)⟩,
     ⟨none, .fa 115 0 (.t 114)⟩,
     ⟨none, .ld1 116 (.t 115)⟩,
     ⟨none, .bin 117 .lss .num (.t 116) (.c (.v (.int .i64 0)))⟩])
   (.cnd (.t 117)
    (.seq (.ops [⟨none, .asg 4 (.c (.nd (.sl true 1 0) []))⟩,
      ⟨none, .asg 5 (.c (.v (.bool false)))⟩])
    (.seq (.scr r32) .ret))
    .skip)))) (.scr x32_11))
 (.ops [⟨none, .bin 118 .add .num (.t 106) (.c (.v (.int .i64 1)))⟩,
  ⟨none, .mv 106 (.t 118)⟩]))))
def b32_2 : MC := .seq (.scr h32_2)
 (.seq (.ops [⟨none, .bin 64 .lss .num (.t 63) (.t 62)⟩])
 (.seq (.cnd (.t 64)
   .skip
   (.seq (.scr x32_4) (.ex 4)))
 (.seq (.seq (.blk 5 (.seq (.ops [⟨none, .mv 65 (.t 63)⟩,
     ⟨none, .asg 10 (.t 65)⟩])
   (.seq (.seq (.ops [⟨none, .mv 66 (.t 0)⟩,
      ⟨none, .mv 67 (.c (.v (.int .i64 0)))⟩])
    (.seq (.blk 6 (.lop b32_3)) (.scr x32_6)))
   (.seq (.ops [⟨none, .mv 105 (.t 0)⟩,
     ⟨none, .mv 106 (.c (.v (.int .i64 0)))⟩])
   (.seq (.blk 10 (.lop b32_5)) (.scr x32_10)))))) (.scr x32_5))
 (.ops [⟨none, .bin 119 .add .num (.t 63) (.c (.v (.int .i64 1)))⟩,
  ⟨none, .mv 63 (.t 119)⟩]))))
def c32 : MF := ⟨(.seq (.ops [⟨none, .asg 4 (.c (.nd (.sl true 1 0) []))⟩,
   ⟨none, .asg 5 (.c (.v (.bool false)))⟩])
 (.seq (.ops [⟨none, .mv 14 (.t 0)⟩,
   ⟨none, .mks 15 1 [(.nd (.sl true 2 0) [])] (.t 14) (.t 14)⟩,
   ⟨none, .asg 6 (.t 15)⟩])
 (.seq (.seq (.ops [⟨none, .mv 16 (.t 6)⟩,
    ⟨none, .len 17 false (.t 16)⟩,
    ⟨none, .mv 18 (.c (.v (.int .i64 0)))⟩])
  (.seq (.blk 0 (.lop b32_0)) (.scr x32_0)))
 (.seq (.seq (.ops [⟨none, .mv 34 (.t 1)⟩,
    ⟨none, .len 35 false (.t 34)⟩,
    ⟨none, .mv 36 (.c (.v (.int .i64 0)))⟩])
  (.seq (.blk 2 (.lop b32_1)) (.scr x32_2)))
 (.seq (.seq (.ops [⟨none, .mv 62 (.t 0)⟩,
    ⟨none, .mv 63 (.c (.v (.int .i64 0)))⟩])
  (.seq (.blk 4 (.lop b32_2)) (.scr x32_4)))
 (.seq (.ops [⟨none, .mv 120 (.t 6)⟩,
   ⟨none, .asg 4 (.t 120)⟩,
   ⟨none, .asg 5 (.c (.v (.bool true)))⟩])
 (.seq (.scr r32) .ret))))))),
  121, [4, 5]⟩

/-- coinage/coinagebase.In -/
abbrev K33 : Nat := 7
def hints33 : List (List Bool) := [bits 15 [6]]
@[simp] def r33 : List Bool := bits 15 [6]
@[simp] def R33 (s6 : V) : St := tab 15 7 (fu dd 6 s6) dd
def c33 : MF := ⟨(.seq (.ops [⟨none, .asg 6 (.c (.v (.bool false)))⟩])
 (.seq (.ops [⟨none, .mv 7 (.t 0)⟩,
   ⟨none, .mv 8 (.t 1)⟩,
   ⟨none, .bin 9 .geq .num (.t 7) (.t 8)⟩,
   ⟨none, .mv 10 (.t 9)⟩,
   ⟨some (10, true), .mv 11 (.t 0)⟩,
   ⟨some (10, true), .mv 12 (.t 2)⟩,
   ⟨some (10, true), .bin 13 .leq .num (.t 11) (.t 12)⟩,
   ⟨none, .pick 14 (.t 10) (.t 13) (.c (.v (.bool false)))⟩,
   ⟨none, .asg 6 (.t 14)⟩])
 (.seq (.scr r33) .ret))),
  15, [6]⟩

/-- coinage/coinageref33.Solvable -/
abbrev K34 : Nat := 7
def hints34 : List (List Bool) := [bits 23 [], bits 23 [0, 5, 6], bits 23 [], bits 23 [0, 5, 6], bits 23 [4], bits 23 [4]]
@[simp] def r34 : List Bool := bits 23 [4]
@[simp] def R34 (s4 : V) : St := tab 23 7 (fu dd 4 s4) dd
@[simp] def x34_0 : List Bool := bits 23 []
@[simp] def X34_0 : St := tab 23 7 dd dd
@[simp] def h34_0 : List Bool := bits 23 [0, 5, 6]
@[simp] def L34_0 (s0 s5 s6 : V) : St := tab 23 7 (fu (fu (fu dd 6 s6) 5 s5) 0 s0) dd
@[simp] def x34_1 : List Bool := bits 23 [0, 5, 6]
@[simp] def X34_1 (s0 s5 s6 : V) : St := tab 23 7 (fu (fu (fu dd 6 s6) 5 s5) 0 s0) dd
def b34_0 : MC := .seq (.scr h34_0)
 (.seq (.seq (.ops [⟨none, .mv 10 (.t 6)⟩,
    ⟨none, .mv 11 (.t 0)⟩,
    ⟨none, .bin 12 .lss .num (.t 10) (.t 11)⟩])
  (.cnd (.t 12)
   .skip
   (.seq (.scr x34_0) (.ex 0))))
 (.seq (.seq (.blk 1 (.seq (.ops [⟨none, .mv 15 (.t 5)⟩,
     ⟨none, .mv 16 (.t 6)⟩,
     ⟨none, .ixs 17 1 (.t 15) (.t 16)⟩,
     ⟨none, .ld1 18 (.t 17)⟩,
     ⟨none, .mv 19 (.t 6)⟩,
     ⟨none, .ixs 20 1 (.t 18) (.t 19)⟩,
     ⟨none, .ld1 21 (.t 20)⟩,
     ⟨none, .bin 22 .lss .num (.t 21) (.c (.v (.int .i64 0)))⟩])
   (.cnd (.t 22)
    (.seq (.ops [⟨none, .asg 4 (.c (.v (.bool false)))⟩])
    (.seq (.scr r34) .ret))
    .skip))) (.scr x34_1))
 (.ops [⟨none, .mv 13 (.t 6)⟩,
  ⟨none, .bin 14 .add .num (.t 13) (.c (.v (.int .i64 1)))⟩,
  ⟨none, .asg 6 (.t 14)⟩])))
def c34 : MF := ⟨(.seq (.ops [⟨none, .asg 4 (.c (.v (.bool false)))⟩])
 (.seq (.ops [⟨none, .mv 7 (.t 0)⟩,
   ⟨none, .mv 8 (.t 1)⟩,
   ⟨none, .call (some 9) 35 [(.t 7), (.t 8)]⟩,
   ⟨none, .asg 5 (.t 9)⟩])
 (.seq (.seq (.ops [⟨none, .asg 6 (.c (.v (.int .i64 0)))⟩])
  (.seq (.blk 0 (.lop b34_0)) (.scr x34_0)))
 (.seq (.ops [⟨none, .asg 4 (.c (.v (.bool true)))⟩])
 (.seq (.scr r34) .ret))))),
  23, [4]⟩

/-- coinage/coinageref33.least -/
abbrev K35 : Nat := 13
def hints35 : List (List Bool) := [bits 148 [0, 1, 5], bits 148 [0, 1, 5, 6], bits 148 [0, 1, 5], bits 148 [0, 1, 5, 6], bits 148 [0, 1, 5, 6, 7], bits 148 [0, 1, 5, 6, 7, 8], bits 148 [0, 1, 5, 6, 7], bits 148 [0, 1, 5, 6, 7, 8], bits 148 [0, 5], bits 148 [0, 1, 5, 9], bits 148 [0, 5], bits 148 [0, 1, 5, 9], bits 148 [5], bits 148 [0, 5, 10], bits 148 [5], bits 148 [0, 5, 10], bits 148 [0, 5, 10], bits 148 [0, 5, 10, 11], bits 148 [0, 5, 10], bits 148 [0, 5, 10, 11], bits 148 [0, 5, 10, 11], bits 148 [0, 5, 10, 11, 12], bits 148 [0, 5, 10, 11], bits 148 [0, 5, 10, 11, 12], bits 148 [4], bits 148 [4]]
@[simp] def r35 : List Bool := bits 148 [4]
@[simp] def R35 (s4 : V) : St := tab 148 13 (fu dd 4 s4) dd
@[simp] def x35_0 : List Bool := bits 148 [0, 1, 5]
@[simp] def X35_0 (s0 s1 s5 : V) : St := tab 148 13 (fu (fu (fu dd 5 s5) 1 s1) 0 s0) dd
@[simp] def h35_0 : List Bool := bits 148 [0, 1, 5, 6]
@[simp] def L35_0 (s0 s1 s5 s6 : V) : St := tab 148 13 (fu (fu (fu (fu dd 6 s6) 5 s5) 1 s1) 0 s0) dd
@[simp] def x35_1 : List Bool := bits 148 [0, 1, 5, 6]
@[simp] def X35_1 (s0 s1 s5 s6 : V) : St := tab 148 13 (fu (fu (fu (fu dd 6 s6) 5 s5) 1 s1) 0 s0) dd
@[simp] def x35_2 : List Bool := bits 148 [0, 1, 5, 6, 7]
@[simp] def X35_2 (s0 s1 s5 s6 s7 : V) : St := tab 148 13 (fu (fu (fu (fu (fu dd 7 s7) 6 s6) 5 s5) 1 s1) 0 s0) dd
@[simp] def h35_1 : List Bool := bits 148 [0, 1, 5, 6, 7, 8]
@[simp] def L35_1 (s0 s1 s5 s6 s7 s8 : V) : St := tab 148 13 (fu (fu (fu (fu (fu (fu dd 8 s8) 7 s7) 6 s6) 5 s5) 1 s1) 0 s0) dd
@[simp] def x35_3 : List Bool := bits 148 [0, 1, 5, 6, 7, 8]
@[simp] def X35_3 (s0 s1 s5 s6 s7 s8 : V) : St := tab 148 13 (fu (fu (fu (fu (fu (fu dd 8 s8) 7 s7) 6 s6) 5 s5) 1 s1) 0 s0) dd
def b35_1 : MC := .seq (.scr h35_1)
 (.seq (.seq (.ops [⟨none, .mv 20 (.t 8)⟩,
    ⟨none, .mv 21 (.t 0)⟩,
    ⟨none, .bin 22 .lss .num (.t 20) (.t 21)⟩])
  (.cnd (.t 22)
   .skip
   (.seq (.scr x35_2) (.ex 2))))
 (.seq (.seq (.blk 3 (.seq (.ops [⟨none, .mv 25 (.t 6)⟩,
     ⟨none, .mv 26 (.t 8)⟩,
     ⟨none, .bin 27 .neq .num (.t 25) (.t 26)⟩])
   (.cnd (.t 27)
    (.ops [⟨none, .mv 28 (.t 7)⟩,
     ⟨none, .mv 29 (.t 8)⟩,
     ⟨none, .ixs 30 1 (.t 28) (.t 29)⟩,
     ⟨none, .stn none 1 (.t 30) (.c (.v (.int .i64 1099511627776)))⟩])
    .skip))) (.scr x35_3))
 (.ops [⟨none, .mv 23 (.t 8)⟩,
  ⟨none, .bin 24 .add .num (.t 23) (.c (.v (.int .i64 1)))⟩,
  ⟨none, .asg 8 (.t 24)⟩])))
def b35_0 : MC := .seq (.scr h35_0)
 (.seq (.seq (.ops [⟨none, .mv 13 (.t 6)⟩,
    ⟨none, .mv 14 (.t 0)⟩,
    ⟨none, .bin 15 .lss .num (.t 13) (.t 14)⟩])
  (.cnd (.t 15)
   .skip
   (.seq (.scr x35_0) (.ex 0))))
 (.seq (.seq (.blk 1 (.seq (.ops [⟨none, .mv 18 (.t 0)⟩,
     ⟨none, .mks 19 1 [(.v (.int .i64 0))] (.t 18) (.t 18)⟩,
     ⟨none, .asg 7 (.t 19)⟩])
   (.seq (.seq (.ops [⟨none, .asg 8 (.c (.v (.int .i64 0)))⟩])
    (.seq (.blk 2 (.lop b35_1)) (.scr x35_2)))
   (.ops [⟨none, .mv 31 (.t 5)⟩,
    ⟨none, .mv 32 (.t 7)⟩,
    ⟨none, .bs 33 1 1 [(.nd (.sl true 1 0) [])] [(0, 1, (.t 32))]⟩,
    ⟨none, .app 34 1 (.t 31) (.t 33)⟩,
    ⟨none, .asg 5 (.t 34)⟩])))) (.scr x35_1))
 (.ops [⟨none, .mv 16 (.t 6)⟩,
  ⟨none, .bin 17 .add .num (.t 16) (.c (.v (.int .i64 1)))⟩,
  ⟨none, .asg 6 (.t 17)⟩])))
@[simp] def x35_4 : List Bool := bits 148 [0, 5]
@[simp] def X35_4 (s0 s5 : V) : St := tab 148 13 (fu (fu dd 5 s5) 0 s0) dd
@[simp] def h35_2 : List Bool := bits 148 [0, 1, 5, 9]
@[simp] def L35_2 (s0 s1 s5 s9 : V) : St := tab 148 13 (fu (fu (fu (fu dd 9 s9) 5 s5) 1 s1) 0 s0) dd
@[simp] def x35_5 : List Bool := bits 148 [0, 1, 5, 9]
@[simp] def X35_5 (s0 s1 s5 s9 : V) : St := tab 148 13 (fu (fu (fu (fu dd 9 s9) 5 s5) 1 s1) 0 s0) dd
def b35_2 : MC := .seq (.scr h35_2)
 (.seq (.seq (.ops [⟨none, .mv 35 (.t 9)⟩,
    ⟨none, .mv 36 (.t 1)⟩,
    ⟨none, .len 37 false (.t 36)⟩,
    ⟨none, .bin 38 .lss .num (.t 35) (.t 37)⟩])
  (.cnd (.t 38)
   .skip
   (.seq (.scr x35_4) (.ex 4))))
 (.seq (.seq (.blk 5 (.drw (⟨none, .mv 41 (.t 5)⟩ ::
    ⟨none, .mv 42 (.t 1)⟩ ::
    ⟨none, .mv 43 (.t 9)⟩ ::
    ⟨none, .ixs 44 3 (.t 42) (.t 43)⟩ ::
    ⟨none, .fa 45 0 (.t 44)⟩ ::
    ⟨none, .ld1 46 (.t 45)⟩ ::
    ⟨none, .ixs 47 1 (.t 41) (.t 46)⟩ ::
    ⟨none, .ld1 48 (.t 47)⟩ ::
    ⟨none, .mv 49 (.t 1)⟩ ::
    ⟨none, .mv 50 (.t 9)⟩ ::
    ⟨none, .ixs 51 3 (.t 49) (.t 50)⟩ ::
    ⟨none, .fa 52 1 (.t 51)⟩ ::
    ⟨none, .ld1 53 (.t 52)⟩ ::
    ⟨none, .mv 54 (.t 5)⟩ ::
    ⟨none, .mv 55 (.t 1)⟩ ::
    ⟨none, .mv 56 (.t 9)⟩ ::
    ⟨none, .ixs 57 3 (.t 55) (.t 56)⟩ ::
    ⟨none, .fa 58 0 (.t 57)⟩ ::
    ⟨none, .ld1 59 (.t 58)⟩ ::
    ⟨none, .ixs 60 1 (.t 54) (.t 59)⟩ ::
    ⟨none, .ld1 61 (.t 60)⟩ ::
    ⟨none, .mv 62 (.t 1)⟩ ::
    ⟨none, .mv 63 (.t 9)⟩ ::
    ⟨none, .ixs 64 3 (.t 62) (.t 63)⟩ ::
    ⟨none, .fa 65 1 (.t 64)⟩ ::
    ⟨none, .ld1 66 (.t 65)⟩ ::
    ⟨none, .ixs 67 1 (.t 61) (.t 66)⟩ ::
    ⟨none, .ld1 68 (.t 67)⟩ ::
    ⟨none, .mv 69 (.t 1)⟩ ::
    ⟨none, .mv 70 (.t 9)⟩ ::
    ⟨none, .ixs 71 3 (.t 69) (.t 70)⟩ ::
    ⟨none, .fa 72 2 (.t 71)⟩ ::
    ⟨none, .ld1 73 (.t 72)⟩ ::
    ⟨none, .mm 74 false (.t 68) (.t 73)⟩ :: []) [⟨none, .ixs 75 1 (.t 48) (.t 53)⟩,
    ⟨none, .stn none 1 (.t 75) (.t 74)⟩])) (.scr x35_5))
 (.ops [⟨none, .mv 39 (.t 9)⟩,
  ⟨none, .bin 40 .add .num (.t 39) (.c (.v (.int .i64 1)))⟩,
  ⟨none, .asg 9 (.t 40)⟩])))
@[simp] def x35_6 : List Bool := bits 148 [5]
@[simp] def X35_6 (s5 : V) : St := tab 148 13 (fu dd 5 s5) dd
@[simp] def h35_3 : List Bool := bits 148 [0, 5, 10]
@[simp] def L35_3 (s0 s5 s10 : V) : St := tab 148 13 (fu (fu (fu dd 10 s10) 5 s5) 0 s0) dd
@[simp] def x35_7 : List Bool := bits 148 [0, 5, 10]
@[simp] def X35_7 (s0 s5 s10 : V) : St := tab 148 13 (fu (fu (fu dd 10 s10) 5 s5) 0 s0) dd
@[simp] def x35_8 : List Bool := bits 148 [0, 5, 10]
@[simp] def X35_8 (s0 s5 s10 : V) : St := tab 148 13 (fu (fu (fu dd 10 s10) 5 s5) 0 s0) dd
@[simp] def h35_4 : List Bool := bits 148 [0, 5, 10, 11]
@[simp] def L35_4 (s0 s5 s10 s11 : V) : St := tab 148 13 (fu (fu (fu (fu dd 11 s11) 10 s10) 5 s5) 0 s0) dd
@[simp] def x35_9 : List Bool := bits 148 [0, 5, 10, 11]
@[simp] def X35_9 (s0 s5 s10 s11 : V) : St := tab 148 13 (fu (fu (fu (fu dd 11 s11) 10 s10) 5 s5) 0 s0) dd
@[simp] def x35_10 : List Bool := bits 148 [0, 5, 10, 11]
@[simp] def X35_10 (s0 s5 s10 s11 : V) : St := tab 148 13 (fu (fu (fu (fu dd 11 s11) 10 s10) 5 s5) 0 s0) dd
@[simp] def h35_5 : List Bool := bits 148 [0, 5, 10, 11, 12]
@[simp] def L35_5 (s0 s5 s10 s11 s12 : V) : St := tab 148 13 (fu (fu (fu (fu (fu dd 12 s12) 11 s11) 10 s10) 5 s5) 0 s0) dd
@[simp] def x35_11 : List Bool := bits 148 [0, 5, 10, 11, 12]
@[simp] def X35_11 (s0 s5 s10 s11 s12 : V) : St := tab 148 13 (fu (fu (fu (fu (fu dd 12 s12) 11 s11) 10 s10) 5 s5) 0 s0) dd
def b35_5 : MC := .seq (.scr h35_5)
 (.seq (.seq (.ops [⟨none, .mv 86 (.t 12)⟩,
    ⟨none, .mv 87 (.t 0)⟩,
    ⟨none, .bin 88 .lss .num (.t 86) (.t 87)⟩])
  (.cnd (.t 88)
   .skip
   (.seq (.scr x35_10) (.ex 10))))
 (.seq (.seq (.blk 11 (.seq (.ops (⟨none, .mv 91 (.t 5)⟩ ::
     ⟨none, .mv 92 (.t 11)⟩ ::
     ⟨none, .ixs 93 1 (.t 91) (.t 92)⟩ ::
     ⟨none, .ld1 94 (.t 93)⟩ ::
     ⟨none, .mv 95 (.t 10)⟩ ::
     ⟨none, .ixs 96 1 (.t 94) (.t 95)⟩ ::
     ⟨none, .ld1 97 (.t 96)⟩ ::
     ⟨none, .bin 98 .neq .num (.t 97) (.c (.v (.int .i64 1099511627776)))⟩ ::
     ⟨none, .mv 99 (.t 98)⟩ ::
     ⟨some (99, true), .mv 100 (.t 5)⟩ ::
     ⟨some (99, true), .mv 101 (.t 10)⟩ ::
     ⟨some (99, true), .ixs 102 1 (.t 100) (.t 101)⟩ ::
     ⟨some (99, true), .ld1 103 (.t 102)⟩ ::
     ⟨some (99, true), .mv 104 (.t 12)⟩ ::
     ⟨some (99, true), .ixs 105 1 (.t 103) (.t 104)⟩ ::
     ⟨some (99, true), .ld1 106 (.t 105)⟩ ::
     ⟨some (99, true), .bin 107 .neq .num (.t 106) (.c (.v (.int .i64 1099511627776)))⟩ ::
     ⟨none, .pick 108 (.t 99) (.t 107) (.c (.v (.bool false)))⟩ :: []))
   (.cnd (.t 108)
    (.drw (⟨none, .mv 109 (.t 5)⟩ ::
     ⟨none, .mv 110 (.t 11)⟩ ::
     ⟨none, .ixs 111 1 (.t 109) (.t 110)⟩ ::
     ⟨none, .ld1 112 (.t 111)⟩ ::
     ⟨none, .mv 113 (.t 12)⟩ ::
     ⟨none, .mv 114 (.t 5)⟩ ::
     ⟨none, .mv 115 (.t 11)⟩ ::
     ⟨none, .ixs 116 1 (.t 114) (.t 115)⟩ ::
     ⟨none, .ld1 117 (.t 116)⟩ ::
     ⟨none, .mv 118 (.t 12)⟩ ::
     ⟨none, .ixs 119 1 (.t 117) (.t 118)⟩ ::
     ⟨none, .ld1 120 (.t 119)⟩ ::
     ⟨none, .mv 121 (.t 5)⟩ ::
     ⟨none, .mv 122 (.t 11)⟩ ::
     ⟨none, .ixs 123 1 (.t 121) (.t 122)⟩ ::
     ⟨none, .ld1 124 (.t 123)⟩ ::
     ⟨none, .mv 125 (.t 10)⟩ ::
     ⟨none, .ixs 126 1 (.t 124) (.t 125)⟩ ::
     ⟨none, .ld1 127 (.t 126)⟩ ::
     ⟨none, .mv 128 (.t 5)⟩ ::
     ⟨none, .mv 129 (.t 10)⟩ ::
     ⟨none, .ixs 130 1 (.t 128) (.t 129)⟩ ::
     ⟨none, .ld1 131 (.t 130)⟩ ::
     ⟨none, .mv 132 (.t 12)⟩ ::
     ⟨none, .ixs 133 1 (.t 131) (.t 132)⟩ ::
     ⟨none, .ld1 134 (.t 133)⟩ ::
     ⟨none, .bin 135 .add .num (.t 127) (.t 134)⟩ ::
     ⟨none, .mm 136 false (.t 120) (.t 135)⟩ :: []) [⟨none, .ixs 137 1 (.t 112) (.t 113)⟩,
     ⟨none, .stn none 1 (.t 137) (.t 136)⟩])
    .skip))) (.scr x35_11))
 (.ops [⟨none, .mv 89 (.t 12)⟩,
  ⟨none, .bin 90 .add .num (.t 89) (.c (.v (.int .i64 1)))⟩,
  ⟨none, .asg 12 (.t 90)⟩])))
def b35_4 : MC := .seq (.scr h35_4)
 (.seq (.seq (.ops [⟨none, .mv 81 (.t 11)⟩,
    ⟨none, .mv 82 (.t 0)⟩,
    ⟨none, .bin 83 .lss .num (.t 81) (.t 82)⟩])
  (.cnd (.t 83)
   .skip
   (.seq (.scr x35_8) (.ex 8))))
 (.seq (.seq (.blk 9 (.seq (.seq (.ops [⟨none, .asg 12 (.c (.v (.int .i64 0)))⟩])
    (.seq (.blk 10 (.lop b35_5)) (.scr x35_10)))
   (.seq (.ops [⟨none, .mv 138 (.t 5)⟩,
     ⟨none, .mv 139 (.t 11)⟩,
     ⟨none, .ixs 140 1 (.t 138) (.t 139)⟩,
     ⟨none, .ld1 141 (.t 140)⟩,
     ⟨none, .mv 142 (.t 11)⟩,
     ⟨none, .ixs 143 1 (.t 141) (.t 142)⟩,
     ⟨none, .ld1 144 (.t 143)⟩,
     ⟨none, .bin 145 .lss .num (.t 144) (.c (.v (.int .i64 0)))⟩])
   (.cnd (.t 145)
    (.seq (.ops [⟨none, .mv 146 (.t 5)⟩,
      ⟨none, .asg 4 (.t 146)⟩])
    (.seq (.scr r35) .ret))
    .skip)))) (.scr x35_9))
 (.ops [⟨none, .mv 84 (.t 11)⟩,
  ⟨none, .bin 85 .add .num (.t 84) (.c (.v (.int .i64 1)))⟩,
  ⟨none, .asg 11 (.t 85)⟩])))
def b35_3 : MC := .seq (.scr h35_3)
 (.seq (.seq (.ops [⟨none, .mv 76 (.t 10)⟩,
    ⟨none, .mv 77 (.t 0)⟩,
    ⟨none, .bin 78 .lss .num (.t 76) (.t 77)⟩])
  (.cnd (.t 78)
   .skip
   (.seq (.scr x35_6) (.ex 6))))
 (.seq (.seq (.blk 7 (.seq (.ops [⟨none, .asg 11 (.c (.v (.int .i64 0)))⟩])
   (.seq (.blk 8 (.lop b35_4)) (.scr x35_8)))) (.scr x35_7))
 (.ops [⟨none, .mv 79 (.t 10)⟩,
  ⟨none, .bin 80 .add .num (.t 79) (.c (.v (.int .i64 1)))⟩,
  ⟨none, .asg 10 (.t 80)⟩])))
def c35 : MF := ⟨(.seq (.ops [⟨none, .asg 4 (.c (.nd (.sl true 1 0) []))⟩])
 (.seq (.ops [⟨none, .asg 5 (.c (.nd (.sl true 1 0) []))⟩])
 (.seq (.seq (.ops [⟨none, .asg 6 (.c (.v (.int .i64 0)))⟩])
  (.seq (.blk 0 (.lop b35_0)) (.scr x35_0)))
 (.seq (.seq (.ops [⟨none, .asg 9 (.c (.v (.int .i64 0)))⟩])
  (.seq (.blk 4 (.lop b35_2)) (.scr x35_4)))
 (.seq (.seq (.ops [⟨none, .asg 10 (.c (.v (.int .i64 0)))⟩])
  (.seq (.blk 6 (.lop b35_3)) (.scr x35_6)))
 (.seq (.ops [⟨none, .mv 147 (.t 5)⟩,
   ⟨none, .asg 4 (.t 147)⟩])
 (.seq (.scr r35) .ret))))))),
  148, [4]⟩

/-- coinage/difference.Valid$1 -/
abbrev K36 : Nat := 4
def hints36 : List (List Bool) := [bits 8 [3]]
@[simp] def r36 : List Bool := bits 8 [3]
@[simp] def R36 (s3 : V) : St := tab 8 4 (fu dd 3 s3) dd
def c36 : MF := ⟨(.seq (.ops [⟨none, .box 2 (.t 0)⟩,
   ⟨none, .asg 3 (.c (.v (.bool false)))⟩])
 (.seq (.ops [⟨none, .ld1 4 (.t 1)⟩,
   ⟨none, .ldn 5 3 (.t 2)⟩,
   ⟨none, .call (some 6) 37 [(.t 4), (.t 5)]⟩,
   ⟨none, .un 7 .not (.t 6)⟩,
   ⟨none, .asg 3 (.t 7)⟩])
 (.seq (.scr r36) .ret))),
  8, [3]⟩

/-- coinage/difference.right -/
abbrev K37 : Nat := 5
def hints37 : List (List Bool) := [bits 37 [4]]
@[simp] def r37 : List Bool := bits 37 [4]
@[simp] def R37 (s4 : V) : St := tab 37 5 (fu dd 4 s4) dd
def c37 : MF := ⟨(.seq (.ops [⟨none, .box 3 (.t 1)⟩,
   ⟨none, .asg 4 (.c (.v (.bool false)))⟩])
 (.seq (.ops (⟨none, .fa 5 0 (.t 3)⟩ ::
   ⟨none, .ld1 6 (.t 5)⟩ ::
   ⟨none, .bin 7 .geq .num (.t 6) (.c (.v (.int .i64 0)))⟩ ::
   ⟨none, .mv 8 (.t 7)⟩ ::
   ⟨some (8, true), .fa 9 0 (.t 3)⟩ ::
   ⟨some (8, true), .ld1 10 (.t 9)⟩ ::
   ⟨some (8, true), .mv 11 (.t 0)⟩ ::
   ⟨some (8, true), .bin 12 .lss .num (.t 10) (.t 11)⟩ ::
   ⟨none, .pick 13 (.t 8) (.t 12) (.c (.v (.bool false)))⟩ ::
   ⟨none, .mv 14 (.t 13)⟩ ::
   ⟨some (14, true), .fa 15 1 (.t 3)⟩ ::
   ⟨some (14, true), .ld1 16 (.t 15)⟩ ::
   ⟨some (14, true), .bin 17 .geq .num (.t 16) (.c (.v (.int .i64 0)))⟩ ::
   ⟨none, .pick 18 (.t 14) (.t 17) (.c (.v (.bool false)))⟩ ::
   ⟨none, .mv 19 (.t 18)⟩ ::
   ⟨some (19, true), .fa 20 1 (.t 3)⟩ ::
   ⟨some (19, true), .ld1 21 (.t 20)⟩ ::
   ⟨some (19, true), .mv 22 (.t 0)⟩ ::
   ⟨some (19, true), .bin 23 .lss .num (.t 21) (.t 22)⟩ ::
   ⟨none, .pick 24 (.t 19) (.t 23) (.c (.v (.bool false)))⟩ ::
   ⟨none, .mv 25 (.t 24)⟩ ::
   ⟨some (25, true), .fa 26 0 (.t 3)⟩ ::
   ⟨some (25, true), .ld1 27 (.t 26)⟩ ::
   ⟨some (25, true), .fa 28 1 (.t 3)⟩ ::
   ⟨some (25, true), .ld1 29 (.t 28)⟩ ::
   ⟨some (25, true), .bin 30 .neq .num (.t 27) (.t 29)⟩ ::
   ⟨none, .pick 31 (.t 25) (.t 30) (.c (.v (.bool false)))⟩ ::
   ⟨none, .mv 32 (.t 31)⟩ ::
   ⟨some (32, true), .fa 33 2 (.t 3)⟩ ::
   ⟨some (32, true), .ld1 34 (.t 33)⟩ ::
   ⟨some (32, true), .call (some 35) 44 [(.t 34), (.c (.v (.int .i64 1000000)))]⟩ ::
   ⟨none, .pick 36 (.t 32) (.t 35) (.c (.v (.bool false)))⟩ ::
   ⟨none, .asg 4 (.t 36)⟩ :: []))
 (.seq (.scr r37) .ret))),
  37, [4]⟩

/-- slices.ContainsFunc[[]coinage/api.Bound,coinage/api.Bound] -/
abbrev K38 : Nat := 5
def hints38 : List (List Bool) := [bits 9 [4]]
@[simp] def r38 : List Bool := bits 9 [4]
@[simp] def R38 (s4 : V) : St := tab 9 5 (fu dd 4 s4) dd
def c38 : MF := ⟨(.seq (.ops [⟨none, .asg 4 (.c (.v (.bool false)))⟩])
 (.seq (.ops [⟨none, .mv 5 (.t 0)⟩,
   ⟨none, .mv 6 (.t 1)⟩,
   ⟨none, .call (some 7) 49 [(.t 5), (.t 6)]⟩,
   ⟨none, .bin 8 .geq .num (.t 7) (.c (.v (.int .i64 0)))⟩,
   ⟨none, .asg 4 (.t 8)⟩])
 (.seq (.scr r38) .ret))),
  9, [4]⟩

/-- coinage/difference.cycle -/
abbrev K39 : Nat := 17
def hints39 : List (List Bool) := [bits 124 [8], bits 124 [11], bits 124 [1, 2, 3, 10, 11, 12, 13], bits 124 [11], bits 124 [1, 2, 3, 10, 11, 12, 13], bits 124 [1, 2, 3, 10, 11, 12, 13], bits 124 [1, 2, 3, 10, 11, 12, 13, 15, 16], bits 124 [1, 2, 3, 10, 11, 12, 13], bits 124 [1, 2, 3, 10, 11, 12, 13, 15, 16], bits 124 [1, 2, 3, 10, 11, 12, 13], bits 124 [8]]
@[simp] def r39 : List Bool := bits 124 [8]
@[simp] def R39 (s8 : V) : St := tab 124 17 (fu dd 8 s8) dd
@[simp] def x39_0 : List Bool := bits 124 [11]
@[simp] def X39_0 (s11 : V) : St := tab 124 17 (fu dd 11 s11) dd
@[simp] def h39_0 : List Bool := bits 124 [1, 2, 3, 10, 11, 12, 13]
@[simp] def L39_0 (s1 s2 s3 s10 s11 s12 s13 : V) : St := tab 124 17 (fu (fu (fu (fu (fu (fu (fu dd 13 s13) 12 s12) 11 s11) 10 s10) 3 s3) 2 s2) 1 s1) dd
@[simp] def x39_1 : List Bool := bits 124 [1, 2, 3, 10, 11, 12, 13]
@[simp] def X39_1 (s1 s2 s3 s10 s11 s12 s13 : V) : St := tab 124 17 (fu (fu (fu (fu (fu (fu (fu dd 13 s13) 12 s12) 11 s11) 10 s10) 3 s3) 2 s2) 1 s1) dd
@[simp] def x39_2 : List Bool := bits 124 [1, 2, 3, 10, 11, 12, 13]
@[simp] def X39_2 (s1 s2 s3 s10 s11 s12 s13 : V) : St := tab 124 17 (fu (fu (fu (fu (fu (fu (fu dd 13 s13) 12 s12) 11 s11) 10 s10) 3 s3) 2 s2) 1 s1) dd
@[simp] def h39_1 : List Bool := bits 124 [1, 2, 3, 10, 11, 12, 13, 15, 16]
@[simp] def L39_1 (s1 s2 s3 s10 s11 s12 s13 s15 s16 : V) : St := tab 124 17 (fu (fu (fu (fu (fu (fu (fu (fu (fu dd 16 s16) 15 s15) 13 s13) 12 s12) 11 s11) 10 s10) 3 s3) 2 s2) 1 s1) dd
@[simp] def x39_3 : List Bool := bits 124 [1, 2, 3, 10, 11, 12, 13, 15, 16]
@[simp] def X39_3 (s1 s2 s3 s10 s11 s12 s13 s15 s16 : V) : St := tab 124 17 (fu (fu (fu (fu (fu (fu (fu (fu (fu dd 16 s16) 15 s15) 13 s13) 12 s12) 11 s11) 10 s10) 3 s3) 2 s2) 1 s1) dd
def b39_1 : MC := .seq (.scr h39_1)
 (.seq (.seq (.ops [⟨none, .mv 66 (.t 16)⟩,
    ⟨none, .mv 67 (.t 1)⟩,
    ⟨none, .len 68 false (.t 67)⟩,
    ⟨none, .bin 69 .lss .num (.t 66) (.t 68)⟩])
  (.cnd (.t 69)
   .skip
   (.seq (.scr x39_2) (.ex 2))))
 (.seq (.seq (.blk 3 (.seq (.drw [⟨none, .mv 72 (.t 10)⟩,
     ⟨none, .mv 73 (.t 15)⟩,
     ⟨none, .ixs 74 1 (.t 72) (.t 73)⟩,
     ⟨none, .ld1 75 (.t 74)⟩,
     ⟨none, .mv 76 (.t 1)⟩,
     ⟨none, .mv 77 (.t 16)⟩,
     ⟨none, .ixs 78 3 (.t 76) (.t 77)⟩,
     ⟨none, .fa 79 1 (.t 78)⟩,
     ⟨none, .ld1 80 (.t 79)⟩,
     ⟨none, .ixs 81 2 (.t 75) (.t 80)⟩,
     ⟨none, .ldn 82 2 (.t 81)⟩,
     ⟨none, .alc 17 [(.v (.int .i64 0)), (.v (.bool false))]⟩] [⟨none, .stn none 2 (.t 17) (.t 82)⟩])
   (.seq (.drw (⟨none, .mv 83 (.t 1)⟩ ::
     ⟨none, .mv 84 (.t 16)⟩ ::
     ⟨none, .ixs 85 3 (.t 83) (.t 84)⟩ ::
     ⟨none, .fa 86 0 (.t 85)⟩ ::
     ⟨none, .ld1 87 (.t 86)⟩ ::
     ⟨none, .mv 88 (.t 13)⟩ ::
     ⟨none, .bin 89 .eql .num (.t 87) (.t 88)⟩ ::
     ⟨none, .mv 90 (.t 89)⟩ ::
     ⟨some (90, true), .fa 91 1 (.t 17)⟩ ::
     ⟨some (90, true), .ld1 92 (.t 91)⟩ ::
     ⟨none, .pick 93 (.t 90) (.t 92) (.c (.v (.bool false)))⟩ ::
     ⟨none, .mv 94 (.t 93)⟩ ::
     ⟨some (94, true), .mv 95 (.t 12)⟩ ::
     ⟨some (94, true), .mv 96 (.t 1)⟩ ::
     ⟨some (94, true), .mv 97 (.t 16)⟩ ::
     ⟨some (94, true), .ixs 98 3 (.t 96) (.t 97)⟩ ::
     ⟨some (94, true), .fa 99 2 (.t 98)⟩ ::
     ⟨some (94, true), .ld1 100 (.t 99)⟩ ::
     ⟨some (94, true), .bin 101 .add .num (.t 95) (.t 100)⟩ ::
     ⟨some (94, true), .fa 102 0 (.t 17)⟩ ::
     ⟨some (94, true), .ld1 103 (.t 102)⟩ :: []) [⟨some (94, true), .bin 104 .add .num (.t 101) (.t 103)⟩,
     ⟨some (94, true), .bin 105 .lss .num (.t 104) (.c (.v (.int .i64 0)))⟩,
     ⟨none, .pick 106 (.t 94) (.t 105) (.c (.v (.bool false)))⟩])
   (.cnd (.t 106)
    (.seq (.ops [⟨none, .mv 107 (.t 11)⟩,
      ⟨none, .mv 108 (.t 16)⟩,
      ⟨none, .bs 109 1 1 [(.v (.int .i64 0))] [(0, 1, (.t 108))]⟩,
      ⟨none, .app 110 1 (.t 107) (.t 109)⟩,
      ⟨none, .asg 11 (.t 110)⟩])
    (.seq (.ops [⟨none, .mv 111 (.t 12)⟩,
      ⟨none, .mv 112 (.t 1)⟩,
      ⟨none, .mv 113 (.t 16)⟩,
      ⟨none, .ixs 114 3 (.t 112) (.t 113)⟩,
      ⟨none, .fa 115 2 (.t 114)⟩,
      ⟨none, .ld1 116 (.t 115)⟩,
      ⟨none, .bin 117 .add .num (.t 111) (.t 116)⟩,
      ⟨none, .asg 12 (.t 117)⟩])
    (.seq (.ops [⟨none, .mv 118 (.t 1)⟩,
      ⟨none, .mv 119 (.t 16)⟩,
      ⟨none, .ixs 120 3 (.t 118) (.t 119)⟩,
      ⟨none, .fa 121 1 (.t 120)⟩,
      ⟨none, .ld1 122 (.t 121)⟩,
      ⟨none, .asg 13 (.t 122)⟩])
    (.seq (.scr x39_2) (.ex 2)))))
    .skip)))) (.scr x39_3))
 (.ops [⟨none, .mv 70 (.t 16)⟩,
  ⟨none, .bin 71 .add .num (.t 70) (.c (.v (.int .i64 1)))⟩,
  ⟨none, .asg 16 (.t 71)⟩])))
def b39_0 : MC := .seq (.scr h39_0)
 (.seq (.seq (.ops [⟨none, .mv 55 (.t 11)⟩,
    ⟨none, .len 56 false (.t 55)⟩,
    ⟨none, .mv 57 (.t 3)⟩,
    ⟨none, .bin 58 .lss .num (.t 56) (.t 57)⟩])
  (.cnd (.t 58)
   .skip
   (.seq (.scr x39_0) (.ex 0))))
 (.seq (.blk 1 (.seq (.ops [⟨none, .mv 59 (.t 3)⟩,
    ⟨none, .mv 60 (.t 11)⟩,
    ⟨none, .len 61 false (.t 60)⟩,
    ⟨none, .bin 62 .sub .num (.t 59) (.t 61)⟩,
    ⟨none, .bin 63 .sub .num (.t 62) (.c (.v (.int .i64 1)))⟩,
    ⟨none, .asg 15 (.t 63)⟩])
  (.seq (.ops [⟨none, .mv 64 (.t 2)⟩,
    ⟨none, .bin 65 .add .num (.t 64) (.c (.v (.int .i64 1)))⟩,
    ⟨none, .asg 16 (.t 65)⟩])
  (.seq (.blk 2 (.lop b39_1)) (.scr x39_2))))) (.scr x39_1)))
def c39 : MF := ⟨(.seq (.ops [⟨none, .asg 8 (.c (.nd (.sl true 1 0) []))⟩])
 (.seq (.ops [⟨none, .mv 18 (.t 1)⟩,
   ⟨none, .mv 19 (.t 2)⟩,
   ⟨none, .ixs 20 3 (.t 18) (.t 19)⟩,
   ⟨none, .ldn 21 3 (.t 20)⟩,
   ⟨none, .alc 9 [(.v (.int .i64 0)), (.v (.int .i64 0)), (.v (.int .i64 0))]⟩,
   ⟨none, .stn none 3 (.t 9) (.t 21)⟩])
 (.seq (.ops [⟨none, .mv 22 (.t 0)⟩,
   ⟨none, .mv 23 (.t 1)⟩,
   ⟨none, .mv 24 (.t 2)⟩,
   ⟨none, .bin 25 .add .num (.t 24) (.c (.v (.int .i64 1)))⟩,
   ⟨none, .fa 26 0 (.t 9)⟩,
   ⟨none, .ld1 27 (.t 26)⟩,
   ⟨none, .mv 28 (.t 3)⟩,
   ⟨none, .bin 29 .sub .num (.t 28) (.c (.v (.int .i64 1)))⟩,
   ⟨none, .call (some 30) 50 [(.t 22), (.t 23), (.t 25), (.t 27), (.t 29)]⟩,
   ⟨none, .asg 10 (.t 30)⟩])
 (.seq (.drw [⟨none, .mv 31 (.t 2)⟩,
   ⟨none, .bs 32 1 1 [(.v (.int .i64 0))] [(0, 1, (.t 31))]⟩,
   ⟨none, .fa 33 2 (.t 9)⟩,
   ⟨none, .ld1 34 (.t 33)⟩,
   ⟨none, .fa 35 1 (.t 9)⟩,
   ⟨none, .ld1 36 (.t 35)⟩,
   ⟨none, .mv 11 (.t 32)⟩,
   ⟨none, .mv 12 (.t 34)⟩] [⟨none, .asg 13 (.t 36)⟩,
   ⟨none, .asg 11 (.t 11)⟩,
   ⟨none, .asg 12 (.t 12)⟩])
 (.seq (.seq (.ops [⟨none, .mv 37 (.t 10)⟩,
    ⟨none, .mv 38 (.t 3)⟩,
    ⟨none, .bin 39 .sub .num (.t 38) (.c (.v (.int .i64 1)))⟩,
    ⟨none, .ixs 40 1 (.t 37) (.t 39)⟩,
    ⟨none, .ld1 41 (.t 40)⟩,
    ⟨none, .mv 42 (.t 13)⟩,
    ⟨none, .ixs 43 2 (.t 41) (.t 42)⟩,
    ⟨none, .ldn 44 2 (.t 43)⟩,
    ⟨none, .alc 14 [(.v (.int .i64 0)), (.v (.bool false))]⟩,
    ⟨none, .stn none 2 (.t 14) (.t 44)⟩])
  (.seq (.ops [⟨none, .fa 45 1 (.t 14)⟩,
    ⟨none, .ld1 46 (.t 45)⟩,
    ⟨none, .un 47 .not (.t 46)⟩,
    ⟨none, .mv 48 (.t 47)⟩,
    ⟨some (48, false), .mv 49 (.t 12)⟩,
    ⟨some (48, false), .fa 50 0 (.t 14)⟩,
    ⟨some (48, false), .ld1 51 (.t 50)⟩,
    ⟨some (48, false), .bin 52 .add .num (.t 49) (.t 51)⟩,
    ⟨some (48, false), .bin 53 .geq .num (.t 52) (.c (.v (.int .i64 0)))⟩,
    ⟨none, .pick 54 (.t 48) (.c (.v (.bool true))) (.t 53)⟩])
  (.cnd (.t 54)
   (.seq (.ops [⟨none, .asg 8 (.c (.nd (.sl true 1 0) []))⟩])
   (.seq (.scr r39) .ret))
   .skip)))
 (.seq (.seq (.blk 0 (.lop b39_0)) (.scr x39_0))
 (.seq (.ops [⟨none, .mv 123 (.t 11)⟩,
   ⟨none, .asg 8 (.t 123)⟩])
 (.seq (.scr r39) .ret)))))))),
  124, [8]⟩

/-- coinage/coinageref33.walks -/
abbrev K40 : Nat := 16
def hints40 : List (List Bool) := [bits 110 [0, 1, 2, 3, 9], bits 110 [0, 1, 2, 3, 9, 10], bits 110 [0, 1, 2, 3, 9], bits 110 [0, 1, 2, 3, 9, 10], bits 110 [11], bits 110 [0, 1, 2, 3, 11, 12], bits 110 [11], bits 110 [0, 1, 2, 3, 11, 12], bits 110 [0, 1, 2, 3, 11, 12, 13], bits 110 [0, 1, 2, 3, 11, 12, 13, 14], bits 110 [0, 1, 2, 3, 11, 12, 13], bits 110 [0, 1, 2, 3, 11, 12, 13, 14], bits 110 [0, 1, 2, 3, 11, 12, 13], bits 110 [0, 1, 2, 3, 11, 12, 13, 15], bits 110 [0, 1, 2, 3, 11, 12, 13], bits 110 [0, 1, 2, 3, 11, 12, 13, 15], bits 110 [8]]
@[simp] def r40 : List Bool := bits 110 [8]
@[simp] def R40 (s8 : V) : St := tab 110 16 (fu dd 8 s8) dd
@[simp] def x40_0 : List Bool := bits 110 [0, 1, 2, 3, 9]
@[simp] def X40_0 (s0 s1 s2 s3 s9 : V) : St := tab 110 16 (fu (fu (fu (fu (fu dd 9 s9) 3 s3) 2 s2) 1 s1) 0 s0) dd
@[simp] def h40_0 : List Bool := bits 110 [0, 1, 2, 3, 9, 10]
@[simp] def L40_0 (s0 s1 s2 s3 s9 s10 : V) : St := tab 110 16 (fu (fu (fu (fu (fu (fu dd 10 s10) 9 s9) 3 s3) 2 s2) 1 s1) 0 s0) dd
@[simp] def x40_1 : List Bool := bits 110 [0, 1, 2, 3, 9, 10]
@[simp] def X40_1 (s0 s1 s2 s3 s9 s10 : V) : St := tab 110 16 (fu (fu (fu (fu (fu (fu dd 10 s10) 9 s9) 3 s3) 2 s2) 1 s1) 0 s0) dd
def b40_0 : MC := .seq (.scr h40_0)
 (.seq (.seq (.ops [⟨none, .mv 18 (.t 10)⟩,
    ⟨none, .mv 19 (.t 0)⟩,
    ⟨none, .bin 20 .lss .num (.t 18) (.t 19)⟩])
  (.cnd (.t 20)
   .skip
   (.seq (.scr x40_0) (.ex 0))))
 (.seq (.seq (.blk 1 (.ops [⟨none, .mv 23 (.t 9)⟩,
    ⟨none, .mv 24 (.t 10)⟩,
    ⟨none, .ixs 25 1 (.t 23) (.t 24)⟩,
    ⟨none, .stn none 1 (.t 25) (.c (.v (.int .i64 1099511627776)))⟩])) (.scr x40_1))
 (.ops [⟨none, .mv 21 (.t 10)⟩,
  ⟨none, .bin 22 .add .num (.t 21) (.c (.v (.int .i64 1)))⟩,
  ⟨none, .asg 10 (.t 22)⟩])))
@[simp] def x40_2 : List Bool := bits 110 [11]
@[simp] def X40_2 (s11 : V) : St := tab 110 16 (fu dd 11 s11) dd
@[simp] def h40_1 : List Bool := bits 110 [0, 1, 2, 3, 11, 12]
@[simp] def L40_1 (s0 s1 s2 s3 s11 s12 : V) : St := tab 110 16 (fu (fu (fu (fu (fu (fu dd 12 s12) 11 s11) 3 s3) 2 s2) 1 s1) 0 s0) dd
@[simp] def x40_3 : List Bool := bits 110 [0, 1, 2, 3, 11, 12]
@[simp] def X40_3 (s0 s1 s2 s3 s11 s12 : V) : St := tab 110 16 (fu (fu (fu (fu (fu (fu dd 12 s12) 11 s11) 3 s3) 2 s2) 1 s1) 0 s0) dd
@[simp] def x40_4 : List Bool := bits 110 [0, 1, 2, 3, 11, 12, 13]
@[simp] def X40_4 (s0 s1 s2 s3 s11 s12 s13 : V) : St := tab 110 16 (fu (fu (fu (fu (fu (fu (fu dd 13 s13) 12 s12) 11 s11) 3 s3) 2 s2) 1 s1) 0 s0) dd
@[simp] def h40_2 : List Bool := bits 110 [0, 1, 2, 3, 11, 12, 13, 14]
@[simp] def L40_2 (s0 s1 s2 s3 s11 s12 s13 s14 : V) : St := tab 110 16 (fu (fu (fu (fu (fu (fu (fu (fu dd 14 s14) 13 s13) 12 s12) 11 s11) 3 s3) 2 s2) 1 s1) 0 s0) dd
@[simp] def x40_5 : List Bool := bits 110 [0, 1, 2, 3, 11, 12, 13, 14]
@[simp] def X40_5 (s0 s1 s2 s3 s11 s12 s13 s14 : V) : St := tab 110 16 (fu (fu (fu (fu (fu (fu (fu (fu dd 14 s14) 13 s13) 12 s12) 11 s11) 3 s3) 2 s2) 1 s1) 0 s0) dd
def b40_2 : MC := .seq (.scr h40_2)
 (.seq (.seq (.ops [⟨none, .mv 42 (.t 14)⟩,
    ⟨none, .mv 43 (.t 0)⟩,
    ⟨none, .bin 44 .lss .num (.t 42) (.t 43)⟩])
  (.cnd (.t 44)
   .skip
   (.seq (.scr x40_4) (.ex 4))))
 (.seq (.seq (.blk 5 (.ops [⟨none, .mv 47 (.t 13)⟩,
    ⟨none, .mv 48 (.t 14)⟩,
    ⟨none, .ixs 49 1 (.t 47) (.t 48)⟩,
    ⟨none, .stn none 1 (.t 49) (.c (.v (.int .i64 1099511627776)))⟩])) (.scr x40_5))
 (.ops [⟨none, .mv 45 (.t 14)⟩,
  ⟨none, .bin 46 .add .num (.t 45) (.c (.v (.int .i64 1)))⟩,
  ⟨none, .asg 14 (.t 46)⟩])))
@[simp] def x40_6 : List Bool := bits 110 [0, 1, 2, 3, 11, 12, 13]
@[simp] def X40_6 (s0 s1 s2 s3 s11 s12 s13 : V) : St := tab 110 16 (fu (fu (fu (fu (fu (fu (fu dd 13 s13) 12 s12) 11 s11) 3 s3) 2 s2) 1 s1) 0 s0) dd
@[simp] def h40_3 : List Bool := bits 110 [0, 1, 2, 3, 11, 12, 13, 15]
@[simp] def L40_3 (s0 s1 s2 s3 s11 s12 s13 s15 : V) : St := tab 110 16 (fu (fu (fu (fu (fu (fu (fu (fu dd 15 s15) 13 s13) 12 s12) 11 s11) 3 s3) 2 s2) 1 s1) 0 s0) dd
@[simp] def x40_7 : List Bool := bits 110 [0, 1, 2, 3, 11, 12, 13, 15]
@[simp] def X40_7 (s0 s1 s2 s3 s11 s12 s13 s15 : V) : St := tab 110 16 (fu (fu (fu (fu (fu (fu (fu (fu dd 15 s15) 13 s13) 12 s12) 11 s11) 3 s3) 2 s2) 1 s1) 0 s0) dd
def b40_3 : MC := .seq (.scr h40_3)
 (.seq (.seq (.ops [⟨none, .mv 52 (.t 15)⟩,
    ⟨none, .mv 53 (.t 1)⟩,
    ⟨none, .len 54 false (.t 53)⟩,
    ⟨none, .bin 55 .lss .num (.t 52) (.t 54)⟩])
  (.cnd (.t 55)
   .skip
   (.seq (.scr x40_6) (.ex 6))))
 (.seq (.seq (.blk 7 (.seq (.drw [⟨none, .mv 58 (.t 11)⟩,
     ⟨none, .mv 59 (.t 12)⟩,
     ⟨none, .bin 60 .sub .num (.t 59) (.c (.v (.int .i64 1)))⟩,
     ⟨none, .ixs 61 1 (.t 58) (.t 60)⟩,
     ⟨none, .ld1 62 (.t 61)⟩,
     ⟨none, .mv 63 (.t 1)⟩,
     ⟨none, .mv 64 (.t 15)⟩,
     ⟨none, .ixs 65 3 (.t 63) (.t 64)⟩,
     ⟨none, .fa 66 1 (.t 65)⟩,
     ⟨none, .ld1 67 (.t 66)⟩] [⟨none, .ixs 68 1 (.t 62) (.t 67)⟩,
     ⟨none, .ld1 69 (.t 68)⟩,
     ⟨none, .bin 70 .neq .num (.t 69) (.c (.v (.int .i64 1099511627776)))⟩])
   (.cnd (.t 70)
    (.drw (⟨none, .mv 71 (.t 13)⟩ ::
     ⟨none, .mv 72 (.t 1)⟩ ::
     ⟨none, .mv 73 (.t 15)⟩ ::
     ⟨none, .ixs 74 3 (.t 72) (.t 73)⟩ ::
     ⟨none, .fa 75 0 (.t 74)⟩ ::
     ⟨none, .ld1 76 (.t 75)⟩ ::
     ⟨none, .mv 77 (.t 13)⟩ ::
     ⟨none, .mv 78 (.t 1)⟩ ::
     ⟨none, .mv 79 (.t 15)⟩ ::
     ⟨none, .ixs 80 3 (.t 78) (.t 79)⟩ ::
     ⟨none, .fa 81 0 (.t 80)⟩ ::
     ⟨none, .ld1 82 (.t 81)⟩ ::
     ⟨none, .ixs 83 1 (.t 77) (.t 82)⟩ ::
     ⟨none, .ld1 84 (.t 83)⟩ ::
     ⟨none, .mv 85 (.t 1)⟩ ::
     ⟨none, .mv 86 (.t 15)⟩ ::
     ⟨none, .ixs 87 3 (.t 85) (.t 86)⟩ ::
     ⟨none, .fa 88 2 (.t 87)⟩ ::
     ⟨none, .ld1 89 (.t 88)⟩ ::
     ⟨none, .mv 90 (.t 11)⟩ ::
     ⟨none, .mv 91 (.t 12)⟩ ::
     ⟨none, .bin 92 .sub .num (.t 91) (.c (.v (.int .i64 1)))⟩ ::
     ⟨none, .ixs 93 1 (.t 90) (.t 92)⟩ ::
     ⟨none, .ld1 94 (.t 93)⟩ ::
     ⟨none, .mv 95 (.t 1)⟩ ::
     ⟨none, .mv 96 (.t 15)⟩ ::
     ⟨none, .ixs 97 3 (.t 95) (.t 96)⟩ ::
     ⟨none, .fa 98 1 (.t 97)⟩ ::
     ⟨none, .ld1 99 (.t 98)⟩ ::
     ⟨none, .ixs 100 1 (.t 94) (.t 99)⟩ ::
     ⟨none, .ld1 101 (.t 100)⟩ ::
     ⟨none, .bin 102 .add .num (.t 89) (.t 101)⟩ ::
     ⟨none, .mm 103 false (.t 84) (.t 102)⟩ :: []) [⟨none, .ixs 104 1 (.t 71) (.t 76)⟩,
     ⟨none, .stn none 1 (.t 104) (.t 103)⟩])
    .skip))) (.scr x40_7))
 (.ops [⟨none, .mv 56 (.t 15)⟩,
  ⟨none, .bin 57 .add .num (.t 56) (.c (.v (.int .i64 1)))⟩,
  ⟨none, .asg 15 (.t 57)⟩])))
def b40_1 : MC := .seq (.scr h40_1)
 (.seq (.seq (.ops [⟨none, .mv 35 (.t 12)⟩,
    ⟨none, .mv 36 (.t 3)⟩,
    ⟨none, .bin 37 .leq .num (.t 35) (.t 36)⟩])
  (.cnd (.t 37)
   .skip
   (.seq (.scr x40_2) (.ex 2))))
 (.seq (.seq (.blk 3 (.seq (.ops [⟨none, .mv 40 (.t 0)⟩,
     ⟨none, .mks 41 1 [(.v (.int .i64 0))] (.t 40) (.t 40)⟩,
     ⟨none, .asg 13 (.t 41)⟩])
   (.seq (.seq (.ops [⟨none, .asg 14 (.c (.v (.int .i64 0)))⟩])
    (.seq (.blk 4 (.lop b40_2)) (.scr x40_4)))
   (.seq (.seq (.ops [⟨none, .mv 50 (.t 2)⟩,
      ⟨none, .bin 51 .add .num (.t 50) (.c (.v (.int .i64 1)))⟩,
      ⟨none, .asg 15 (.t 51)⟩])
    (.seq (.blk 6 (.lop b40_3)) (.scr x40_6)))
   (.ops [⟨none, .mv 105 (.t 11)⟩,
    ⟨none, .mv 106 (.t 13)⟩,
    ⟨none, .bs 107 1 1 [(.nd (.sl true 1 0) [])] [(0, 1, (.t 106))]⟩,
    ⟨none, .app 108 1 (.t 105) (.t 107)⟩,
    ⟨none, .asg 11 (.t 108)⟩]))))) (.scr x40_3))
 (.ops [⟨none, .mv 38 (.t 12)⟩,
  ⟨none, .bin 39 .add .num (.t 38) (.c (.v (.int .i64 1)))⟩,
  ⟨none, .asg 12 (.t 39)⟩])))
def c40 : MF := ⟨(.seq (.ops [⟨none, .asg 8 (.c (.nd (.sl true 1 0) []))⟩])
 (.seq (.ops [⟨none, .mv 16 (.t 0)⟩,
   ⟨none, .mks 17 1 [(.v (.int .i64 0))] (.t 16) (.t 16)⟩,
   ⟨none, .asg 9 (.t 17)⟩])
 (.seq (.seq (.ops [⟨none, .asg 10 (.c (.v (.int .i64 0)))⟩])
  (.seq (.blk 0 (.lop b40_0)) (.scr x40_0)))
 (.seq (.ops [⟨none, .mv 26 (.t 9)⟩,
   ⟨none, .mv 27 (.t 1)⟩,
   ⟨none, .mv 28 (.t 2)⟩,
   ⟨none, .ixs 29 3 (.t 27) (.t 28)⟩,
   ⟨none, .fa 30 0 (.t 29)⟩,
   ⟨none, .ld1 31 (.t 30)⟩,
   ⟨none, .ixs 32 1 (.t 26) (.t 31)⟩,
   ⟨none, .stn none 1 (.t 32) (.c (.v (.int .i64 0)))⟩])
 (.seq (.ops [⟨none, .mv 33 (.t 9)⟩,
   ⟨none, .bs 34 1 1 [(.nd (.sl true 1 0) [])] [(0, 1, (.t 33))]⟩,
   ⟨none, .asg 11 (.t 34)⟩])
 (.seq (.seq (.ops [⟨none, .asg 12 (.c (.v (.int .i64 1)))⟩])
  (.seq (.blk 2 (.lop b40_1)) (.scr x40_2)))
 (.seq (.ops [⟨none, .mv 109 (.t 11)⟩,
   ⟨none, .asg 8 (.t 109)⟩])
 (.seq (.scr r40) .ret)))))))),
  110, [8]⟩

/-- coinage/coinagebase.Size -/
abbrev K41 : Nat := 5
def hints41 : List (List Bool) := [bits 14 [4]]
@[simp] def r41 : List Bool := bits 14 [4]
@[simp] def R41 (s4 : V) : St := tab 14 5 (fu dd 4 s4) dd
def c41 : MF := ⟨(.seq (.ops [⟨none, .asg 4 (.c (.v (.bool false)))⟩])
 (.seq (.ops [⟨none, .mv 5 (.t 0)⟩,
   ⟨none, .mv 6 (.t 1)⟩,
   ⟨none, .un 7 .neg (.t 6)⟩,
   ⟨none, .bin 8 .geq .num (.t 5) (.t 7)⟩,
   ⟨none, .mv 9 (.t 8)⟩,
   ⟨some (9, true), .mv 10 (.t 0)⟩,
   ⟨some (9, true), .mv 11 (.t 1)⟩,
   ⟨some (9, true), .bin 12 .leq .num (.t 10) (.t 11)⟩,
   ⟨none, .pick 13 (.t 9) (.t 12) (.c (.v (.bool false)))⟩,
   ⟨none, .asg 4 (.t 13)⟩])
 (.seq (.scr r41) .ret))),
  14, [4]⟩

/-- slices.ContainsFunc[[]int,int] -/
abbrev K42 : Nat := 5
def hints42 : List (List Bool) := [bits 9 [4]]
@[simp] def r42 : List Bool := bits 9 [4]
@[simp] def R42 (s4 : V) : St := tab 9 5 (fu dd 4 s4) dd
def c42 : MF := ⟨(.seq (.ops [⟨none, .asg 4 (.c (.v (.bool false)))⟩])
 (.seq (.ops [⟨none, .mv 5 (.t 0)⟩,
   ⟨none, .mv 6 (.t 1)⟩,
   ⟨none, .call (some 7) 51 [(.t 5), (.t 6)]⟩,
   ⟨none, .bin 8 .geq .num (.t 7) (.c (.v (.int .i64 0)))⟩,
   ⟨none, .asg 4 (.t 8)⟩])
 (.seq (.scr r42) .ret))),
  9, [4]⟩

/-- coinage/difference.Holds$1 -/
abbrev K43 : Nat := 3
def hints43 : List (List Bool) := [bits 6 [2]]
@[simp] def r43 : List Bool := bits 6 [2]
@[simp] def R43 (s2 : V) : St := tab 6 3 (fu dd 2 s2) dd
def c43 : MF := ⟨(.seq (.ops [⟨none, .asg 2 (.c (.v (.bool false)))⟩])
 (.seq (.ops [⟨none, .mv 3 (.t 0)⟩,
   ⟨none, .call (some 4) 44 [(.t 3), (.c (.v (.int .i64 1000000000)))]⟩,
   ⟨none, .un 5 .not (.t 4)⟩,
   ⟨none, .asg 2 (.t 5)⟩])
 (.seq (.scr r43) .ret))),
  6, [2]⟩

/-- coinage/difference.within -/
abbrev K44 : Nat := 5
def hints44 : List (List Bool) := [bits 14 [4]]
@[simp] def r44 : List Bool := bits 14 [4]
@[simp] def R44 (s4 : V) : St := tab 14 5 (fu dd 4 s4) dd
def c44 : MF := ⟨(.seq (.ops [⟨none, .asg 4 (.c (.v (.bool false)))⟩])
 (.seq (.ops [⟨none, .mv 5 (.t 0)⟩,
   ⟨none, .mv 6 (.t 1)⟩,
   ⟨none, .un 7 .neg (.t 6)⟩,
   ⟨none, .bin 8 .geq .num (.t 5) (.t 7)⟩,
   ⟨none, .mv 9 (.t 8)⟩,
   ⟨some (9, true), .mv 10 (.t 0)⟩,
   ⟨some (9, true), .mv 11 (.t 1)⟩,
   ⟨some (9, true), .bin 12 .leq .num (.t 10) (.t 11)⟩,
   ⟨none, .pick 13 (.t 9) (.t 12) (.c (.v (.bool false)))⟩,
   ⟨none, .asg 4 (.t 13)⟩])
 (.seq (.scr r44) .ret))),
  14, [4]⟩

/-- coinage/difference.Holds$2 -/
abbrev K45 : Nat := 4
def hints45 : List (List Bool) := [bits 18 [3]]
@[simp] def r45 : List Bool := bits 18 [3]
@[simp] def R45 (s3 : V) : St := tab 18 4 (fu dd 3 s3) dd
def c45 : MF := ⟨(.seq (.ops [⟨none, .box 2 (.t 0)⟩,
   ⟨none, .asg 3 (.c (.v (.bool false)))⟩])
 (.seq (.drw [⟨none, .ld1 4 (.t 1)⟩,
   ⟨none, .fa 5 1 (.t 2)⟩,
   ⟨none, .ld1 6 (.t 5)⟩,
   ⟨none, .ixs 7 1 (.t 4) (.t 6)⟩,
   ⟨none, .ld1 8 (.t 7)⟩,
   ⟨none, .ld1 9 (.t 1)⟩,
   ⟨none, .fa 10 0 (.t 2)⟩,
   ⟨none, .ld1 11 (.t 10)⟩,
   ⟨none, .ixs 12 1 (.t 9) (.t 11)⟩,
   ⟨none, .ld1 13 (.t 12)⟩,
   ⟨none, .bin 14 .sub .num (.t 8) (.t 13)⟩,
   ⟨none, .fa 15 2 (.t 2)⟩,
   ⟨none, .ld1 16 (.t 15)⟩] [⟨none, .bin 17 .gtr .num (.t 14) (.t 16)⟩,
   ⟨none, .asg 3 (.t 17)⟩])
 (.seq (.scr r45) .ret))),
  18, [3]⟩

/-- coinage/difference.IsCycle$1 -/
abbrev K46 : Nat := 4
def hints46 : List (List Bool) := [bits 12 [3]]
@[simp] def r46 : List Bool := bits 12 [3]
@[simp] def R46 (s3 : V) : St := tab 12 4 (fu dd 3 s3) dd
def c46 : MF := ⟨(.seq (.ops [⟨none, .asg 3 (.c (.v (.bool false)))⟩])
 (.seq (.ops [⟨none, .mv 4 (.t 0)⟩,
   ⟨none, .bin 5 .lss .num (.t 4) (.c (.v (.int .i64 0)))⟩,
   ⟨none, .mv 6 (.t 5)⟩,
   ⟨some (6, false), .mv 7 (.t 0)⟩,
   ⟨some (6, false), .ld1 8 (.t 1)⟩,
   ⟨some (6, false), .len 9 false (.t 8)⟩,
   ⟨some (6, false), .bin 10 .geq .num (.t 7) (.t 9)⟩,
   ⟨none, .pick 11 (.t 6) (.c (.v (.bool true))) (.t 10)⟩,
   ⟨none, .asg 3 (.t 11)⟩])
 (.seq (.scr r46) .ret))),
  12, [3]⟩

/-- (coinage/difference.limit).less -/
abbrev K47 : Nat := 21
def hints47 : List (List Bool) := [bits 21 [2, 4], bits 21 [2, 4]]
@[simp] def r47 : List Bool := bits 21 [2, 4]
@[simp] def R47 (s2 s4 : V) : St := tab 21 21 (fu (fu dd 4 s4) 2 s2) dd
def c47 : MF := ⟨(.seq (.ops [⟨none, .box 2 (.t 0)⟩,
   ⟨none, .box 3 (.t 1)⟩,
   ⟨none, .alc 4 [(.v (.int .i64 0)), (.v (.bool false))]⟩])
 (.seq (.seq (.ops [⟨none, .fa 5 1 (.t 2)⟩,
    ⟨none, .ld1 6 (.t 5)⟩,
    ⟨none, .un 7 .not (.t 6)⟩,
    ⟨none, .mv 8 (.t 7)⟩,
    ⟨some (8, false), .fa 9 1 (.t 3)⟩,
    ⟨some (8, false), .ld1 10 (.t 9)⟩,
    ⟨some (8, false), .mv 11 (.t 10)⟩,
    ⟨some (11, true), .fa 12 0 (.t 3)⟩,
    ⟨some (11, true), .ld1 13 (.t 12)⟩,
    ⟨some (11, true), .fa 14 0 (.t 2)⟩,
    ⟨some (11, true), .ld1 15 (.t 14)⟩,
    ⟨some (11, true), .bin 16 .lss .num (.t 13) (.t 15)⟩,
    ⟨some (8, false), .pick 17 (.t 11) (.t 16) (.c (.v (.bool false)))⟩,
    ⟨none, .pick 18 (.t 8) (.c (.v (.bool true))) (.t 17)⟩])
  (.cnd (.t 18)
   (.seq (.ops [⟨none, .ldn 19 2 (.t 3)⟩,
     ⟨none, .stn none 2 (.t 4) (.t 19)⟩])
   (.seq (.scr r47) .ret))
   .skip))
 (.seq (.ops [⟨none, .ldn 20 2 (.t 2)⟩,
   ⟨none, .stn none 2 (.t 4) (.t 20)⟩])
 (.seq (.scr r47) .ret)))),
  21, [4, 2, 1000000]⟩

/-- (coinage/difference.limit).plus -/
abbrev K48 : Nat := 20
def hints48 : List (List Bool) := [bits 20 [2, 4], bits 20 [2, 4]]
@[simp] def r48 : List Bool := bits 20 [2, 4]
@[simp] def R48 (s2 s4 : V) : St := tab 20 20 (fu (fu dd 4 s4) 2 s2) dd
def c48 : MF := ⟨(.seq (.ops [⟨none, .box 2 (.t 0)⟩,
   ⟨none, .box 3 (.t 1)⟩,
   ⟨none, .alc 4 [(.v (.int .i64 0)), (.v (.bool false))]⟩])
 (.seq (.seq (.ops [⟨none, .fa 5 1 (.t 2)⟩,
    ⟨none, .ld1 6 (.t 5)⟩,
    ⟨none, .un 7 .not (.t 6)⟩,
    ⟨none, .mv 8 (.t 7)⟩,
    ⟨some (8, false), .fa 9 1 (.t 3)⟩,
    ⟨some (8, false), .ld1 10 (.t 9)⟩,
    ⟨some (8, false), .un 11 .not (.t 10)⟩,
    ⟨none, .pick 12 (.t 8) (.c (.v (.bool true))) (.t 11)⟩])
  (.cnd (.t 12)
   (.seq (.ops [⟨none, .bld 13 [(.v (.int .i64 0)), (.v (.bool false))] []⟩,
     ⟨none, .stn none 2 (.t 4) (.t 13)⟩])
   (.seq (.scr r48) .ret))
   .skip))
 (.seq (.ops [⟨none, .fa 14 0 (.t 2)⟩,
   ⟨none, .ld1 15 (.t 14)⟩,
   ⟨none, .fa 16 0 (.t 3)⟩,
   ⟨none, .ld1 17 (.t 16)⟩,
   ⟨none, .bin 18 .add .num (.t 15) (.t 17)⟩,
   ⟨none, .bld 19 [(.v (.int .i64 0)), (.v (.bool false))] [(0, 1, (.t 18)), (1, 1, (.c (.v (.bool true))))]⟩,
   ⟨none, .stn none 2 (.t 4) (.t 19)⟩])
 (.seq (.scr r48) .ret)))),
  20, [4, 2, 1000000]⟩

/-- slices.IndexFunc[[]coinage/api.Bound,coinage/api.Bound] -/
abbrev K49 : Nat := 9
def hints49 : List (List Bool) := [bits 19 [], bits 19 [0, 1, 7, 8], bits 19 [], bits 19 [0, 1, 7, 8], bits 19 [4], bits 19 [4]]
@[simp] def r49 : List Bool := bits 19 [4]
@[simp] def R49 (s4 : V) : St := tab 19 9 (fu dd 4 s4) dd
@[simp] def x49_0 : List Bool := bits 19 []
@[simp] def X49_0 : St := tab 19 9 dd dd
@[simp] def h49_0 : List Bool := bits 19 [0, 1, 7, 8]
@[simp] def L49_0 (s0 s1 s7 s8 : V) : St := tab 19 9 (fu (fu (fu (fu dd 8 s8) 7 s7) 1 s1) 0 s0) dd
@[simp] def x49_1 : List Bool := bits 19 [0, 1, 7, 8]
@[simp] def X49_1 (s0 s1 s7 s8 : V) : St := tab 19 9 (fu (fu (fu (fu dd 8 s8) 7 s7) 1 s1) 0 s0) dd
def b49_0 : MC := .seq (.scr h49_0)
 (.seq (.ops [⟨none, .bin 9 .lss .num (.t 8) (.t 7)⟩])
 (.seq (.cnd (.t 9)
   .skip
   (.seq (.scr x49_0) (.ex 0)))
 (.seq (.seq (.blk 1 (.seq (.ops [⟨none, .mv 10 (.t 8)⟩,
     ⟨none, .asg 5 (.t 10)⟩])
   (.seq (.ops [⟨none, .mv 11 (.t 1)⟩,
     ⟨none, .mv 12 (.t 0)⟩,
     ⟨none, .mv 13 (.t 5)⟩,
     ⟨none, .ixs 14 3 (.t 12) (.t 13)⟩,
     ⟨none, .ldn 15 3 (.t 14)⟩,
     ⟨none, .calv (some 16) (.t 11) [(.t 15)]⟩])
   (.cnd (.t 16)
    (.seq (.ops [⟨none, .mv 17 (.t 5)⟩,
      ⟨none, .asg 4 (.t 17)⟩])
    (.seq (.scr r49) .ret))
    .skip)))) (.scr x49_1))
 (.ops [⟨none, .bin 18 .add .num (.t 8) (.c (.v (.int .i64 1)))⟩,
  ⟨none, .mv 8 (.t 18)⟩]))))
def c49 : MF := ⟨(.seq (.ops [⟨none, .asg 4 (.c (.v (.int .i64 0)))⟩])
 (.seq (.seq (.ops [⟨none, .mv 6 (.t 0)⟩,
    ⟨none, .len 7 false (.t 6)⟩,
    ⟨none, .mv 8 (.c (.v (.int .i64 0)))⟩])
  (.seq (.blk 0 (.lop b49_0)) (.scr x49_0)))
 (.seq (.ops [⟨none, .asg 4 (.c (.v (.int .i64 (-1))))⟩])
 (.seq (.scr r49) .ret)))),
  19, [4]⟩

/-- coinage/difference.walks -/
abbrev K50 : Nat := 41
def hints50 : List (List Bool) := [bits 70 [11], bits 70 [0, 1, 2, 11, 25, 26], bits 70 [11], bits 70 [0, 1, 2, 11, 25, 26], bits 70 [0, 1, 2, 11, 12, 25, 26], bits 70 [0, 1, 2, 11, 12, 13, 25, 26, 30, 34, 35, 36, 38, 39, 40], bits 70 [0, 1, 2, 11, 12, 25, 26], bits 70 [0, 1, 2, 11, 12, 13, 25, 26, 30, 34, 35, 36, 38, 39, 40], bits 70 [10]]
@[simp] def r50 : List Bool := bits 70 [10]
@[simp] def R50 (s10 : V) : St := tab 70 41 (fu dd 10 s10) dd
@[simp] def x50_0 : List Bool := bits 70 [11]
@[simp] def X50_0 (s11 : V) : St := tab 70 41 (fu dd 11 s11) dd
@[simp] def h50_0 : List Bool := bits 70 [0, 1, 2, 11, 25, 26]
@[simp] def L50_0 (s0 s1 s2 s11 s25 s26 : V) : St := tab 70 41 (fu (fu (fu (fu (fu (fu dd 26 s26) 25 s25) 11 s11) 2 s2) 1 s1) 0 s0) dd
@[simp] def x50_1 : List Bool := bits 70 [0, 1, 2, 11, 25, 26]
@[simp] def X50_1 (s0 s1 s2 s11 s25 s26 : V) : St := tab 70 41 (fu (fu (fu (fu (fu (fu dd 26 s26) 25 s25) 11 s11) 2 s2) 1 s1) 0 s0) dd
@[simp] def x50_2 : List Bool := bits 70 [0, 1, 2, 11, 12, 25, 26]
@[simp] def X50_2 (s0 s1 s2 s11 s12 s25 s26 : V) : St := tab 70 41 (fu (fu (fu (fu (fu (fu (fu dd 26 s26) 25 s25) 12 s12) 11 s11) 2 s2) 1 s1) 0 s0) dd
@[simp] def h50_1 : List Bool := bits 70 [0, 1, 2, 11, 12, 13, 25, 26, 30, 34, 35, 36, 38, 39, 40]
@[simp] def L50_1 (s0 s1 s2 s11 s12 s13 s25 s26 s30 s34 s35 s36 s38 s39 s40 : V) : St := tab 70 41 (fu (fu (fu (fu (fu (fu (fu (fu (fu (fu (fu (fu (fu (fu (fu dd 40 s40) 39 s39) 38 s38) 36 s36) 35 s35) 34 s34) 30 s30) 26 s26) 25 s25) 13 s13) 12 s12) 11 s11) 2 s2) 1 s1) 0 s0) dd
@[simp] def x50_3 : List Bool := bits 70 [0, 1, 2, 11, 12, 13, 25, 26, 30, 34, 35, 36, 38, 39, 40]
@[simp] def X50_3 (s0 s1 s2 s11 s12 s13 s25 s26 s30 s34 s35 s36 s38 s39 s40 : V) : St := tab 70 41 (fu (fu (fu (fu (fu (fu (fu (fu (fu (fu (fu (fu (fu (fu (fu dd 40 s40) 39 s39) 38 s38) 36 s36) 35 s35) 34 s34) 30 s30) 26 s26) 25 s25) 13 s13) 12 s12) 11 s11) 2 s2) 1 s1) 0 s0) dd
def b50_1 : MC := .seq (.scr h50_1)
 (.seq (.ops [⟨none, .bin 41 .lss .num (.t 40) (.t 39)⟩])
 (.seq (.cnd (.t 41)
   .skip
   (.seq (.scr x50_2) (.ex 2)))
 (.seq (.seq (.blk 3 (.seq (.ops [⟨none, .ixs 42 3 (.t 38) (.t 40)⟩,
     ⟨none, .ldn 43 3 (.t 42)⟩,
     ⟨none, .alc 15 [(.v (.int .i64 0)), (.v (.int .i64 0)), (.v (.int .i64 0))]⟩,
     ⟨none, .stn none 3 (.t 15) (.t 43)⟩])
   (.drw (⟨none, .mv 44 (.t 12)⟩ ::
    ⟨none, .fa 45 0 (.t 15)⟩ ::
    ⟨none, .ld1 46 (.t 45)⟩ ::
    ⟨none, .mv 47 (.t 12)⟩ ::
    ⟨none, .fa 48 0 (.t 15)⟩ ::
    ⟨none, .ld1 49 (.t 48)⟩ ::
    ⟨none, .ixs 50 2 (.t 47) (.t 49)⟩ ::
    ⟨none, .ldn 51 2 (.t 50)⟩ ::
    ⟨none, .fa 52 2 (.t 15)⟩ ::
    ⟨none, .ld1 53 (.t 52)⟩ ::
    ⟨none, .bld 54 [(.v (.int .i64 0)), (.v (.bool false))] [(0, 1, (.t 53)), (1, 1, (.c (.v (.bool true))))]⟩ ::
    ⟨none, .mv 55 (.t 13)⟩ ::
    ⟨none, .fa 56 1 (.t 15)⟩ ::
    ⟨none, .ld1 57 (.t 56)⟩ ::
    ⟨none, .ixs 58 2 (.t 55) (.t 57)⟩ ::
    ⟨none, .ldn 59 2 (.t 58)⟩ ::
    ⟨none, .call (some 60) 48 [(.t 54), (.t 59)]⟩ ::
    ⟨none, .call (some 61) 47 [(.t 51), (.t 60)]⟩ :: []) [⟨none, .ixs 62 2 (.t 44) (.t 46)⟩,
    ⟨none, .stn none 2 (.t 62) (.t 61)⟩]))) (.scr x50_3))
 (.ops [⟨none, .bin 63 .add .num (.t 40) (.c (.v (.int .i64 1)))⟩,
  ⟨none, .mv 40 (.t 63)⟩]))))
def b50_0 : MC := .seq (.scr h50_0)
 (.seq (.ops [⟨none, .bin 27 .lss .num (.t 26) (.t 25)⟩])
 (.seq (.cnd (.t 27)
   .skip
   (.seq (.scr x50_0) (.ex 0)))
 (.seq (.seq (.blk 1 (.seq (.ops [⟨none, .mv 28 (.t 0)⟩,
     ⟨none, .mks 29 2 [(.v (.int .i64 0)), (.v (.bool false))] (.t 28) (.t 28)⟩,
     ⟨none, .asg 12 (.t 29)⟩])
   (.seq (.ops [⟨none, .mv 30 (.t 11)⟩,
     ⟨none, .mv 31 (.t 11)⟩,
     ⟨none, .len 32 false (.t 31)⟩,
     ⟨none, .bin 33 .sub .num (.t 32) (.c (.v (.int .i64 1)))⟩,
     ⟨none, .ixs 34 1 (.t 30) (.t 33)⟩,
     ⟨none, .ld1 35 (.t 34)⟩,
     ⟨none, .asg 13 (.t 35)⟩])
   (.seq (.seq (.ops [⟨none, .mv 36 (.t 1)⟩,
      ⟨none, .mv 37 (.t 2)⟩,
      ⟨none, .sl 38 3 (.t 36) (some (.t 37)) none⟩,
      ⟨none, .len 39 false (.t 38)⟩,
      ⟨none, .mv 40 (.c (.v (.int .i64 0)))⟩])
    (.seq (.blk 2 (.lop b50_1)) (.scr x50_2)))
   (.ops [⟨none, .mv 64 (.t 11)⟩,
    ⟨none, .mv 65 (.t 12)⟩,
    ⟨none, .bs 66 1 1 [(.nd (.sl true 2 0) [])] [(0, 1, (.t 65))]⟩,
    ⟨none, .app 67 1 (.t 64) (.t 66)⟩,
    ⟨none, .asg 11 (.t 67)⟩]))))) (.scr x50_1))
 (.ops [⟨none, .bin 68 .add .num (.t 26) (.c (.v (.int .i64 1)))⟩,
  ⟨none, .mv 26 (.t 68)⟩]))))
def c50 : MF := ⟨(.seq (.ops [⟨none, .asg 10 (.c (.nd (.sl true 1 0) []))⟩])
 (.seq (.ops [⟨none, .mv 16 (.t 0)⟩,
   ⟨none, .mks 17 2 [(.v (.int .i64 0)), (.v (.bool false))] (.t 16) (.t 16)⟩,
   ⟨none, .bs 18 1 1 [(.nd (.sl true 2 0) [])] [(0, 1, (.t 17))]⟩,
   ⟨none, .asg 11 (.t 18)⟩])
 (.seq (.ops [⟨none, .mv 19 (.t 11)⟩,
   ⟨none, .ixs 20 1 (.t 19) (.c (.v (.int .i64 0)))⟩,
   ⟨none, .ld1 21 (.t 20)⟩,
   ⟨none, .mv 22 (.t 3)⟩,
   ⟨none, .bld 23 [(.v (.int .i64 0)), (.v (.bool false))] [(0, 1, (.c (.v (.int .i64 0)))), (1, 1, (.c (.v (.bool true))))]⟩,
   ⟨none, .ixs 24 2 (.t 21) (.t 22)⟩,
   ⟨none, .stn none 2 (.t 24) (.t 23)⟩])
 (.seq (.seq (.ops [⟨none, .mv 25 (.t 4)⟩,
    ⟨none, .mv 26 (.c (.v (.int .i64 0)))⟩])
  (.seq (.blk 0 (.lop b50_0)) (.scr x50_0)))
 (.seq (.ops [⟨none, .mv 69 (.t 11)⟩,
   ⟨none, .asg 10 (.t 69)⟩])
 (.seq (.scr r50) .ret)))))),
  70, [10]⟩

/-- slices.IndexFunc[[]int,int] -/
abbrev K51 : Nat := 9
def hints51 : List (List Bool) := [bits 19 [], bits 19 [0, 1, 7, 8], bits 19 [], bits 19 [0, 1, 7, 8], bits 19 [4], bits 19 [4]]
@[simp] def r51 : List Bool := bits 19 [4]
@[simp] def R51 (s4 : V) : St := tab 19 9 (fu dd 4 s4) dd
@[simp] def x51_0 : List Bool := bits 19 []
@[simp] def X51_0 : St := tab 19 9 dd dd
@[simp] def h51_0 : List Bool := bits 19 [0, 1, 7, 8]
@[simp] def L51_0 (s0 s1 s7 s8 : V) : St := tab 19 9 (fu (fu (fu (fu dd 8 s8) 7 s7) 1 s1) 0 s0) dd
@[simp] def x51_1 : List Bool := bits 19 [0, 1, 7, 8]
@[simp] def X51_1 (s0 s1 s7 s8 : V) : St := tab 19 9 (fu (fu (fu (fu dd 8 s8) 7 s7) 1 s1) 0 s0) dd
def b51_0 : MC := .seq (.scr h51_0)
 (.seq (.ops [⟨none, .bin 9 .lss .num (.t 8) (.t 7)⟩])
 (.seq (.cnd (.t 9)
   .skip
   (.seq (.scr x51_0) (.ex 0)))
 (.seq (.seq (.blk 1 (.seq (.ops [⟨none, .mv 10 (.t 8)⟩,
     ⟨none, .asg 5 (.t 10)⟩])
   (.seq (.ops [⟨none, .mv 11 (.t 1)⟩,
     ⟨none, .mv 12 (.t 0)⟩,
     ⟨none, .mv 13 (.t 5)⟩,
     ⟨none, .ixs 14 1 (.t 12) (.t 13)⟩,
     ⟨none, .ld1 15 (.t 14)⟩,
     ⟨none, .calv (some 16) (.t 11) [(.t 15)]⟩])
   (.cnd (.t 16)
    (.seq (.ops [⟨none, .mv 17 (.t 5)⟩,
      ⟨none, .asg 4 (.t 17)⟩])
    (.seq (.scr r51) .ret))
    .skip)))) (.scr x51_1))
 (.ops [⟨none, .bin 18 .add .num (.t 8) (.c (.v (.int .i64 1)))⟩,
  ⟨none, .mv 8 (.t 18)⟩]))))
def c51 : MF := ⟨(.seq (.ops [⟨none, .asg 4 (.c (.v (.int .i64 0)))⟩])
 (.seq (.seq (.ops [⟨none, .mv 6 (.t 0)⟩,
    ⟨none, .len 7 false (.t 6)⟩,
    ⟨none, .mv 8 (.c (.v (.int .i64 0)))⟩])
  (.seq (.blk 0 (.lop b51_0)) (.scr x51_0)))
 (.seq (.ops [⟨none, .asg 4 (.c (.v (.int .i64 (-1))))⟩])
 (.seq (.scr r51) .ret)))),
  19, [4]⟩


theorem comp3 : compF Go.Proofs.Try.prog hints3 3 = some c3 := by kernel_rfl
theorem comp4 : compF Go.Proofs.Try.prog hints4 4 = some c4 := by kernel_rfl
theorem comp5 : compF Go.Proofs.Try.prog hints5 5 = some c5 := by kernel_rfl
theorem comp6 : compF Go.Proofs.Try.prog hints6 6 = some c6 := by kernel_rfl
theorem comp7 : compF Go.Proofs.Try.prog hints7 7 = some c7 := by kernel_rfl
theorem comp8 : compF Go.Proofs.Try.prog hints8 8 = some c8 := by kernel_rfl
theorem comp9 : compF Go.Proofs.Try.prog hints9 9 = some c9 := by kernel_rfl
theorem comp10 : compF Go.Proofs.Try.prog hints10 10 = some c10 := by kernel_rfl
theorem comp11 : compF Go.Proofs.Try.prog hints11 11 = some c11 := by kernel_rfl
theorem comp12 : compF Go.Proofs.Try.prog hints12 12 = some c12 := by kernel_rfl
theorem comp13 : compF Go.Proofs.Try.prog hints13 13 = some c13 := by kernel_rfl
theorem comp14 : compF Go.Proofs.Try.prog hints14 14 = some c14 := by kernel_rfl
theorem comp15 : compF Go.Proofs.Try.prog hints15 15 = some c15 := by kernel_rfl
theorem comp16 : compF Go.Proofs.Try.prog hints16 16 = some c16 := by kernel_rfl
theorem comp17 : compF Go.Proofs.Try.prog hints17 17 = some c17 := by kernel_rfl
theorem comp18 : compF Go.Proofs.Try.prog hints18 18 = some c18 := by kernel_rfl
theorem comp19 : compF Go.Proofs.Try.prog hints19 19 = some c19 := by kernel_rfl
theorem comp20 : compF Go.Proofs.Try.prog hints20 20 = some c20 := by kernel_rfl
theorem comp21 : compF Go.Proofs.Try.prog hints21 21 = some c21 := by kernel_rfl
theorem comp22 : compF Go.Proofs.Try.prog hints22 22 = some c22 := by kernel_rfl
theorem comp23 : compF Go.Proofs.Try.prog hints23 23 = some c23 := by kernel_rfl
theorem comp24 : compF Go.Proofs.Try.prog hints24 24 = some c24 := by kernel_rfl
theorem comp25 : compF Go.Proofs.Try.prog hints25 25 = some c25 := by kernel_rfl
theorem comp26 : compF Go.Proofs.Try.prog hints26 26 = some c26 := by kernel_rfl
theorem comp27 : compF Go.Proofs.Try.prog hints27 27 = some c27 := by kernel_rfl
theorem comp28 : compF Go.Proofs.Try.prog hints28 28 = some c28 := by kernel_rfl
theorem comp29 : compF Go.Proofs.Try.prog hints29 29 = some c29 := by kernel_rfl
theorem comp30 : compF Go.Proofs.Try.prog hints30 30 = some c30 := by kernel_rfl
theorem comp31 : compF Go.Proofs.Try.prog hints31 31 = some c31 := by kernel_rfl
theorem comp32 : compF Go.Proofs.Try.prog hints32 32 = some c32 := by kernel_rfl
theorem comp33 : compF Go.Proofs.Try.prog hints33 33 = some c33 := by kernel_rfl
theorem comp34 : compF Go.Proofs.Try.prog hints34 34 = some c34 := by kernel_rfl
theorem comp35 : compF Go.Proofs.Try.prog hints35 35 = some c35 := by kernel_rfl
theorem comp36 : compF Go.Proofs.Try.prog hints36 36 = some c36 := by kernel_rfl
theorem comp37 : compF Go.Proofs.Try.prog hints37 37 = some c37 := by kernel_rfl
theorem comp38 : compF Go.Proofs.Try.prog hints38 38 = some c38 := by kernel_rfl
theorem comp39 : compF Go.Proofs.Try.prog hints39 39 = some c39 := by kernel_rfl
theorem comp40 : compF Go.Proofs.Try.prog hints40 40 = some c40 := by kernel_rfl
theorem comp41 : compF Go.Proofs.Try.prog hints41 41 = some c41 := by kernel_rfl
theorem comp42 : compF Go.Proofs.Try.prog hints42 42 = some c42 := by kernel_rfl
theorem comp43 : compF Go.Proofs.Try.prog hints43 43 = some c43 := by kernel_rfl
theorem comp44 : compF Go.Proofs.Try.prog hints44 44 = some c44 := by kernel_rfl
theorem comp45 : compF Go.Proofs.Try.prog hints45 45 = some c45 := by kernel_rfl
theorem comp46 : compF Go.Proofs.Try.prog hints46 46 = some c46 := by kernel_rfl
theorem comp47 : compF Go.Proofs.Try.prog hints47 47 = some c47 := by kernel_rfl
theorem comp48 : compF Go.Proofs.Try.prog hints48 48 = some c48 := by kernel_rfl
theorem comp49 : compF Go.Proofs.Try.prog hints49 49 = some c49 := by kernel_rfl
theorem comp50 : compF Go.Proofs.Try.prog hints50 50 = some c50 := by kernel_rfl
theorem comp51 : compF Go.Proofs.Try.prog hints51 51 = some c51 := by kernel_rfl

def tbl : FuncId → Option MF
  | 3 => some c3
  | 4 => some c4
  | 5 => some c5
  | 6 => some c6
  | 7 => some c7
  | 8 => some c8
  | 9 => some c9
  | 10 => some c10
  | 11 => some c11
  | 12 => some c12
  | 13 => some c13
  | 14 => some c14
  | 15 => some c15
  | 16 => some c16
  | 17 => some c17
  | 18 => some c18
  | 19 => some c19
  | 20 => some c20
  | 21 => some c21
  | 22 => some c22
  | 23 => some c23
  | 24 => some c24
  | 25 => some c25
  | 26 => some c26
  | 27 => some c27
  | 28 => some c28
  | 29 => some c29
  | 30 => some c30
  | 31 => some c31
  | 32 => some c32
  | 33 => some c33
  | 34 => some c34
  | 35 => some c35
  | 36 => some c36
  | 37 => some c37
  | 38 => some c38
  | 39 => some c39
  | 40 => some c40
  | 41 => some c41
  | 42 => some c42
  | 43 => some c43
  | 44 => some c44
  | 45 => some c45
  | 46 => some c46
  | 47 => some c47
  | 48 => some c48
  | 49 => some c49
  | 50 => some c50
  | 51 => some c51
  | _ => none

theorem tbl_ok (f : FuncId) (mf : MF) (h : tbl f = some mf) : ∃ hints, compF Go.Proofs.Try.prog hints f = some mf := by
  unfold tbl at h
  split at h
  · cases h; exact ⟨_, comp3⟩
  · cases h; exact ⟨_, comp4⟩
  · cases h; exact ⟨_, comp5⟩
  · cases h; exact ⟨_, comp6⟩
  · cases h; exact ⟨_, comp7⟩
  · cases h; exact ⟨_, comp8⟩
  · cases h; exact ⟨_, comp9⟩
  · cases h; exact ⟨_, comp10⟩
  · cases h; exact ⟨_, comp11⟩
  · cases h; exact ⟨_, comp12⟩
  · cases h; exact ⟨_, comp13⟩
  · cases h; exact ⟨_, comp14⟩
  · cases h; exact ⟨_, comp15⟩
  · cases h; exact ⟨_, comp16⟩
  · cases h; exact ⟨_, comp17⟩
  · cases h; exact ⟨_, comp18⟩
  · cases h; exact ⟨_, comp19⟩
  · cases h; exact ⟨_, comp20⟩
  · cases h; exact ⟨_, comp21⟩
  · cases h; exact ⟨_, comp22⟩
  · cases h; exact ⟨_, comp23⟩
  · cases h; exact ⟨_, comp24⟩
  · cases h; exact ⟨_, comp25⟩
  · cases h; exact ⟨_, comp26⟩
  · cases h; exact ⟨_, comp27⟩
  · cases h; exact ⟨_, comp28⟩
  · cases h; exact ⟨_, comp29⟩
  · cases h; exact ⟨_, comp30⟩
  · cases h; exact ⟨_, comp31⟩
  · cases h; exact ⟨_, comp32⟩
  · cases h; exact ⟨_, comp33⟩
  · cases h; exact ⟨_, comp34⟩
  · cases h; exact ⟨_, comp35⟩
  · cases h; exact ⟨_, comp36⟩
  · cases h; exact ⟨_, comp37⟩
  · cases h; exact ⟨_, comp38⟩
  · cases h; exact ⟨_, comp39⟩
  · cases h; exact ⟨_, comp40⟩
  · cases h; exact ⟨_, comp41⟩
  · cases h; exact ⟨_, comp42⟩
  · cases h; exact ⟨_, comp43⟩
  · cases h; exact ⟨_, comp44⟩
  · cases h; exact ⟨_, comp45⟩
  · cases h; exact ⟨_, comp46⟩
  · cases h; exact ⟨_, comp47⟩
  · cases h; exact ⟨_, comp48⟩
  · cases h; exact ⟨_, comp49⟩
  · cases h; exact ⟨_, comp50⟩
  · cases h; exact ⟨_, comp51⟩
  · cases h

end Go.Mx
