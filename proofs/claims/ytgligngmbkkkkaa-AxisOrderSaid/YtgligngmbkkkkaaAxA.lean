import Derived.Test.YtgligngmbkkkkaaMxR
import Derived.KernelRfl
import Derived.Test.YtgligngmbkkkkaaChecked
/-
  The functions of this chapter in the machine's code, and that the given program's code is this one. Printed by a program of this repo (gencodes.py).
-/
namespace Go.Mx
set_option linter.unusedVariables false
set_option linter.unusedSimpArgs false
set_option linter.unusedSectionVars false
open Go

/-- coinage/coinagelaw10.AxisDistances -/
def hints3 : List (List Bool) := [[false, false, false, false, false, false, true, false, false, false, false, false, false, false, false, false, false, false, false, false, false, false, false, false, false, false, false, false, false, false, false, false, false, false, false, false, false, false, false, false, false, false, false, false, false, false, false, false, false, false, false, false, false, false, false, false, false, false], [false, false, false, false, false, false, true, false, false, false, false, false, false, false, false, false, false, false, false, false, false, false, false, false, false, false, false, false, false, false, false, false, false, false, false, false, false, false, false, false, false, false, false, false, false, false, false, false, false, false, false, false, false, false, false, false, false, false], [false, false, false, false, false, false, true, false, false, false, false, false, false, false, false, false, false, false, false, false, false, false, false, false, false, false, false, false, false, false, false, false, false, false, false, false, false, false, false, false, false, false, false, false, false, false, false, false, false, false, false, false, false, false, false, false, false, false]]
@[simp] def r3 : List Bool := [false, false, false, false, false, false, true, false, false, false, false, false, false, false, false, false, false, false, false, false, false, false, false, false, false, false, false, false, false, false, false, false, false, false, false, false, false, false, false, false, false, false, false, false, false, false, false, false, false, false, false, false, false, false, false, false, false, false]
@[simp] def R3 (s6 : V) : St := [.dead, .dead, .dead, .dead, .dead, .dead, s6, .dead, .dead, .dead, .dead, .dead, .dead, .dead, .dead, .dead, .dead, .dead, .dead, .dead, .dead, .dead, .dead, .dead, .dead, .dead, .dead, .dead, .dead, .dead, .dead, .dead, .dead, .dead, .dead, .dead, .dead, .dead, .dead, .dead, .dead, .dead, .dead, .dead, .dead, .dead, .dead, .dead, .dead, .dead, .dead, .dead, .dead, .dead, .dead, .dead, .dead, .dead]
def c3 : MF := ⟨(.seq (.ops [⟨none, .asg 6 (.c (.v (.bool false)))⟩])
 (.seq (.seq (.ops [⟨none, .call (some 7) 12 []⟩,
    ⟨none, .un 8 .not (.t 7)⟩])
  (.cnd (.t 8)
   (.seq (.ops [⟨none, .asg 6 (.c (.v (.bool false)))⟩])
   (.seq (.scr r3) .ret))
   .skip))
 (.seq (.seq (.ops [⟨none, .mv 9 (.t 0)⟩,
    ⟨none, .mv 10 (.t 1)⟩,
    ⟨none, .call (some 11) 13 [(.t 9), (.t 10)]⟩,
    ⟨none, .mv 12 (.t 0)⟩,
    ⟨none, .mv 13 (.t 1)⟩,
    ⟨none, .call (some 14) 14 [(.t 12), (.t 13)]⟩,
    ⟨none, .bin 15 .neq .num (.t 11) (.t 14)⟩,
    ⟨none, .mv 16 (.t 15)⟩,
    ⟨some (16, false), .mv 17 (.t 0)⟩,
    ⟨some (16, false), .mv 18 (.t 1)⟩,
    ⟨some (16, false), .call (some 19) 13 [(.t 17), (.t 18)]⟩,
    ⟨some (16, false), .mv 20 (.t 1)⟩,
    ⟨some (16, false), .mv 21 (.t 0)⟩,
    ⟨some (16, false), .call (some 22) 13 [(.t 20), (.t 21)]⟩,
    ⟨some (16, false), .bin 23 .neq .num (.t 19) (.t 22)⟩,
    ⟨none, .pick 24 (.t 16) (.c (.v (.bool true))) (.t 23)⟩])
  (.cnd (.t 24)
   (.seq (.ops [⟨none, .asg 6 (.c (.v (.bool false)))⟩])
   (.seq (.scr r3) .ret))
   .skip))
 (.seq (.ops [⟨none, .mv 25 (.t 0)⟩,
   ⟨none, .call (some 26) 15 [(.t 25), (.c (.v (.int .i64 12)))]⟩,
   ⟨none, .mv 27 (.t 1)⟩,
   ⟨none, .call (some 28) 15 [(.t 27), (.c (.v (.int .i64 12)))]⟩,
   ⟨none, .mv 29 (.t 2)⟩,
   ⟨none, .call (some 30) 15 [(.t 29), (.c (.v (.int .i64 12)))]⟩,
   ⟨none, .asg 0 (.t 26)⟩,
   ⟨none, .asg 1 (.t 28)⟩,
   ⟨none, .asg 2 (.t 30)⟩])
 (.seq (.ops [⟨none, .mv 31 (.t 0)⟩,
   ⟨none, .mv 32 (.t 2)⟩,
   ⟨none, .call (some 33) 13 [(.t 31), (.t 32)]⟩,
   ⟨none, .mv 34 (.t 0)⟩,
   ⟨none, .mv 35 (.t 1)⟩,
   ⟨none, .call (some 36) 13 [(.t 34), (.t 35)]⟩,
   ⟨none, .mv 37 (.t 1)⟩,
   ⟨none, .mv 38 (.t 2)⟩,
   ⟨none, .call (some 39) 13 [(.t 37), (.t 38)]⟩,
   ⟨none, .bin 40 .add .num (.t 36) (.t 39)⟩,
   ⟨none, .bin 41 .leq .num (.t 33) (.t 40)⟩,
   ⟨none, .mv 42 (.t 41)⟩,
   ⟨some (42, true), .mv 43 (.t 0)⟩,
   ⟨some (42, true), .mv 44 (.t 1)⟩,
   ⟨some (42, true), .call (some 45) 13 [(.t 43), (.t 44)]⟩,
   ⟨some (42, true), .bin 46 .eql .num (.t 45) (.c (.v (.int .i64 0)))⟩,
   ⟨some (42, true), .mv 47 (.t 0)⟩,
   ⟨some (42, true), .mv 48 (.t 1)⟩,
   ⟨some (42, true), .bin 49 .eql .num (.t 47) (.t 48)⟩,
   ⟨some (42, true), .bin 50 .eql .bool (.t 46) (.t 49)⟩,
   ⟨none, .pick 51 (.t 42) (.t 50) (.c (.v (.bool false)))⟩,
   ⟨none, .mv 52 (.t 51)⟩,
   ⟨some (52, true), .mv 53 (.t 0)⟩,
   ⟨some (52, true), .mv 54 (.t 1)⟩,
   ⟨some (52, true), .call (some 55) 13 [(.t 53), (.t 54)]⟩,
   ⟨some (52, true), .bin 56 .leq .num (.t 55) (.c (.v (.int .i64 6)))⟩,
   ⟨none, .pick 57 (.t 52) (.t 56) (.c (.v (.bool false)))⟩,
   ⟨none, .asg 6 (.t 57)⟩])
 (.seq (.scr r3) .ret)))))),
  58, [6]⟩

/-- coinage/coinagelaw10.AxisArcs -/
def hints4 : List (List Bool) := [[false, false, true, false, false, false, false, false, false, false, false, false, false, false, false, false, false, false, false, false, false, false, false, false, false, false, false, false, false, false, false, false, false, false, false, false, false, false, false, false, false, false, false, false, false, false, false, false, false, false, false, false, false, false, false, false, false, false, false, false, false, false, false, false, false, false, false, false, false, false, false, false, false, false, false], [false, false, true, false, false, false, false, false, false, false, false, false, false, false, false, false, false, false, false, false, false, false, false, false, false, false, false, false, false, false, false, false, false, false, false, false, false, false, false, false, false, false, false, false, false, false, false, false, false, false, false, false, false, false, false, false, false, false, false, false, false, false, false, false, false, false, false, false, false, false, false, false, false, false, false]]
@[simp] def r4 : List Bool := [false, false, true, false, false, false, false, false, false, false, false, false, false, false, false, false, false, false, false, false, false, false, false, false, false, false, false, false, false, false, false, false, false, false, false, false, false, false, false, false, false, false, false, false, false, false, false, false, false, false, false, false, false, false, false, false, false, false, false, false, false, false, false, false, false, false, false, false, false, false, false, false, false, false, false]
@[simp] def R4 (s2 : V) : St := [.dead, .dead, s2, .dead, .dead, .dead, .dead, .dead, .dead, .dead, .dead, .dead, .dead, .dead, .dead, .dead, .dead, .dead, .dead, .dead, .dead, .dead, .dead, .dead, .dead, .dead, .dead, .dead, .dead, .dead, .dead, .dead, .dead, .dead, .dead, .dead, .dead, .dead, .dead, .dead, .dead, .dead, .dead, .dead, .dead, .dead, .dead, .dead, .dead, .dead, .dead, .dead, .dead, .dead, .dead, .dead, .dead, .dead, .dead, .dead, .dead, .dead, .dead, .dead, .dead, .dead, .dead, .dead, .dead, .dead, .dead, .dead, .dead, .dead, .dead]
def c4 : MF := ⟨(.seq (.ops [⟨none, .asg 2 (.c (.v (.bool false)))⟩])
 (.seq (.seq (.ops [⟨none, .call (some 15) 12 []⟩,
    ⟨none, .un 16 .not (.t 15)⟩,
    ⟨none, .mv 17 (.t 16)⟩,
    ⟨some (17, false), .mv 18 (.t 0)⟩,
    ⟨some (17, false), .call (some 19) 16 [(.t 18)]⟩,
    ⟨some (17, false), .un 20 .not (.t 19)⟩,
    ⟨none, .pick 21 (.t 17) (.c (.v (.bool true))) (.t 20)⟩])
  (.cnd (.t 21)
   (.seq (.ops [⟨none, .call (some 22) 12 []⟩,
     ⟨none, .asg 2 (.t 22)⟩])
   (.seq (.scr r4) .ret))
   .skip))
 (.seq (.ops [⟨none, .mv 24 (.t 0)⟩,
   ⟨none, .call (some 25) 17 [(.t 24)]⟩,
   ⟨none, .mv 23 (.t 25)⟩,
   ⟨none, .ext 26 (.t 23) 0⟩,
   ⟨none, .ext 27 (.t 23) 1⟩,
   ⟨none, .ext 28 (.t 23) 2⟩,
   ⟨none, .asg 3 (.t 26)⟩,
   ⟨none, .asg 4 (.t 27)⟩,
   ⟨none, .asg 5 (.t 28)⟩])
 (.seq (.ops [⟨none, .mv 30 (.t 0)⟩,
   ⟨none, .call (some 31) 18 [(.t 30)]⟩,
   ⟨none, .mv 29 (.t 31)⟩,
   ⟨none, .ext 32 (.t 29) 0⟩,
   ⟨none, .ext 33 (.t 29) 1⟩,
   ⟨none, .ext 34 (.t 29) 2⟩,
   ⟨none, .asg 6 (.t 32)⟩,
   ⟨none, .asg 7 (.t 33)⟩,
   ⟨none, .asg 8 (.t 34)⟩])
 (.seq (.ops [⟨none, .mv 36 (.t 0)⟩,
   ⟨none, .call (some 37) 19 [(.t 36)]⟩,
   ⟨none, .mv 35 (.t 37)⟩,
   ⟨none, .ext 38 (.t 35) 0⟩,
   ⟨none, .ext 39 (.t 35) 1⟩,
   ⟨none, .ext 40 (.t 35) 2⟩,
   ⟨none, .asg 9 (.t 38)⟩,
   ⟨none, .asg 10 (.t 39)⟩,
   ⟨none, .asg 11 (.t 40)⟩])
 (.seq (.ops [⟨none, .mv 42 (.t 0)⟩,
   ⟨none, .call (some 43) 20 [(.t 42)]⟩,
   ⟨none, .mv 41 (.t 43)⟩,
   ⟨none, .ext 44 (.t 41) 0⟩,
   ⟨none, .ext 45 (.t 41) 1⟩,
   ⟨none, .ext 46 (.t 41) 2⟩,
   ⟨none, .asg 12 (.t 44)⟩,
   ⟨none, .asg 13 (.t 45)⟩,
   ⟨none, .asg 14 (.t 46)⟩])
 (.seq (.ops [⟨none, .mv 47 (.t 3)⟩,
   ⟨none, .mv 48 (.t 6)⟩,
   ⟨none, .bin 49 .eql .num (.t 47) (.t 48)⟩,
   ⟨none, .mv 50 (.t 49)⟩,
   ⟨some (50, true), .mv 51 (.t 4)⟩,
   ⟨some (50, true), .mv 52 (.t 7)⟩,
   ⟨some (50, true), .bin 53 .eql .num (.t 51) (.t 52)⟩,
   ⟨none, .pick 54 (.t 50) (.t 53) (.c (.v (.bool false)))⟩,
   ⟨none, .mv 55 (.t 54)⟩,
   ⟨some (55, true), .mv 56 (.t 5)⟩,
   ⟨some (55, true), .mv 57 (.t 8)⟩,
   ⟨some (55, true), .bin 58 .eql .num (.t 56) (.t 57)⟩,
   ⟨none, .pick 59 (.t 55) (.t 58) (.c (.v (.bool false)))⟩,
   ⟨none, .mv 60 (.t 59)⟩,
   ⟨some (60, true), .mv 61 (.t 9)⟩,
   ⟨some (60, true), .mv 62 (.t 12)⟩,
   ⟨some (60, true), .bin 63 .eql .num (.t 61) (.t 62)⟩,
   ⟨none, .pick 64 (.t 60) (.t 63) (.c (.v (.bool false)))⟩,
   ⟨none, .mv 65 (.t 64)⟩,
   ⟨some (65, true), .mv 66 (.t 10)⟩,
   ⟨some (65, true), .mv 67 (.t 13)⟩,
   ⟨some (65, true), .bin 68 .eql .num (.t 66) (.t 67)⟩,
   ⟨none, .pick 69 (.t 65) (.t 68) (.c (.v (.bool false)))⟩,
   ⟨none, .mv 70 (.t 69)⟩,
   ⟨some (70, true), .mv 71 (.t 11)⟩,
   ⟨some (70, true), .mv 72 (.t 14)⟩,
   ⟨some (70, true), .bin 73 .eql .num (.t 71) (.t 72)⟩,
   ⟨none, .pick 74 (.t 70) (.t 73) (.c (.v (.bool false)))⟩,
   ⟨none, .asg 2 (.t 74)⟩])
 (.seq (.scr r4) .ret)))))))),
  75, [2]⟩

/-- coinage/coinagelaw10.AxisMedian -/
def hints5 : List (List Bool) := [[false, false, true, false, false, false, false, false, false, false, false, false, false, false, false, false, false, false, false, false, false, false, false, false, false, false, false, false, false, false, false, false, false, false, false, false, false, false, false, false, false, false, false, false, false, false, false, false, false, false, false, false, false, false, false, false, false, false, false, false, false, false, false, false, false, false, false, false, false, false, false, false, false, false], [false, false, true, false, false, false, false, false, false, false, false, false, false, false, false, false, false, false, false, false, false, false, false, false, false, false, false, false, false, false, false, false, false, false, false, false, false, false, false, false, false, false, false, false, false, false, false, false, false, false, false, false, false, false, false, false, false, false, false, false, false, false, false, false, false, false, false, false, false, false, false, false, false, false], [false, false, false, true, false, false, false, false, false, false, false, false, false, false, false, false, false, false, false, false, false, false, false, false, false, false, false, false, false, false, false, false, false, false, false, false, false, false, false, false, false, false, false, false, false, false, false, false, false, false, false, false, false, false, false, false, false, false, false, false, false, false, false, false, false, false, false, false, false, false, false, false, false, false], [true, false, false, true, true, false, true, false, false, false, false, false, false, false, false, false, false, false, false, false, false, false, false, false, false, false, false, false, false, false, false, false, false, false, false, false, false, false, false, false, false, false, false, false, false, false, false, false, false, false, false, false, false, false, false, false, false, false, false, false, false, false, false, false, false, false, false, false, false, false, false, false, false, false], [false, false, false, true, false, false, false, false, false, false, false, false, false, false, false, false, false, false, false, false, false, false, false, false, false, false, false, false, false, false, false, false, false, false, false, false, false, false, false, false, false, false, false, false, false, false, false, false, false, false, false, false, false, false, false, false, false, false, false, false, false, false, false, false, false, false, false, false, false, false, false, false, false, false], [true, false, false, true, true, false, true, false, false, false, false, false, false, false, false, false, false, false, false, false, false, false, false, false, false, false, false, false, false, false, false, false, false, false, false, false, false, false, false, false, false, false, false, false, false, false, false, false, false, false, false, false, false, false, false, false, false, false, false, false, false, false, false, false, false, false, false, false, false, false, false, false, false, false], [true, false, false, true, true, false, true, true, false, false, false, false, false, false, false, false, false, false, false, false, false, false, false, false, false, false, false, false, false, false, false, false, false, false, false, false, false, false, false, false, false, false, false, false, false, false, false, false, false, false, false, false, false, false, false, false, false, false, false, false, false, false, false, false, false, false, false, false, false, false, false, false, false, false], [true, false, false, true, true, false, true, true, true, false, false, false, false, false, false, false, false, false, false, false, false, false, false, false, false, false, false, false, false, false, false, false, false, false, false, false, false, false, false, false, false, false, false, false, false, false, false, false, false, false, false, false, false, false, false, false, false, false, false, false, false, false, false, false, false, false, false, false, false, false, false, false, false, false], [true, false, false, true, true, false, true, true, false, false, false, false, false, false, false, false, false, false, false, false, false, false, false, false, false, false, false, false, false, false, false, false, false, false, false, false, false, false, false, false, false, false, false, false, false, false, false, false, false, false, false, false, false, false, false, false, false, false, false, false, false, false, false, false, false, false, false, false, false, false, false, false, false, false], [true, false, false, true, true, false, true, true, true, false, false, false, false, false, false, false, false, false, false, false, false, false, false, false, false, false, false, false, false, false, false, false, false, false, false, false, false, false, false, false, false, false, false, false, false, false, false, false, false, false, false, false, false, false, false, false, false, false, false, false, false, false, false, false, false, false, false, false, false, false, false, false, false, false], [false, false, true, false, false, false, false, false, false, false, false, false, false, false, false, false, false, false, false, false, false, false, false, false, false, false, false, false, false, false, false, false, false, false, false, false, false, false, false, false, false, false, false, false, false, false, false, false, false, false, false, false, false, false, false, false, false, false, false, false, false, false, false, false, false, false, false, false, false, false, false, false, false, false], [false, false, true, false, false, false, false, false, false, false, false, false, false, false, false, false, false, false, false, false, false, false, false, false, false, false, false, false, false, false, false, false, false, false, false, false, false, false, false, false, false, false, false, false, false, false, false, false, false, false, false, false, false, false, false, false, false, false, false, false, false, false, false, false, false, false, false, false, false, false, false, false, false, false]]
@[simp] def r5 : List Bool := [false, false, true, false, false, false, false, false, false, false, false, false, false, false, false, false, false, false, false, false, false, false, false, false, false, false, false, false, false, false, false, false, false, false, false, false, false, false, false, false, false, false, false, false, false, false, false, false, false, false, false, false, false, false, false, false, false, false, false, false, false, false, false, false, false, false, false, false, false, false, false, false, false, false]
@[simp] def R5 (s2 : V) : St := [.dead, .dead, s2, .dead, .dead, .dead, .dead, .dead, .dead, .dead, .dead, .dead, .dead, .dead, .dead, .dead, .dead, .dead, .dead, .dead, .dead, .dead, .dead, .dead, .dead, .dead, .dead, .dead, .dead, .dead, .dead, .dead, .dead, .dead, .dead, .dead, .dead, .dead, .dead, .dead, .dead, .dead, .dead, .dead, .dead, .dead, .dead, .dead, .dead, .dead, .dead, .dead, .dead, .dead, .dead, .dead, .dead, .dead, .dead, .dead, .dead, .dead, .dead, .dead, .dead, .dead, .dead, .dead, .dead, .dead, .dead, .dead, .dead, .dead]
@[simp] def x5_0 : List Bool := [false, false, false, true, false, false, false, false, false, false, false, false, false, false, false, false, false, false, false, false, false, false, false, false, false, false, false, false, false, false, false, false, false, false, false, false, false, false, false, false, false, false, false, false, false, false, false, false, false, false, false, false, false, false, false, false, false, false, false, false, false, false, false, false, false, false, false, false, false, false, false, false, false, false]
@[simp] def X5_0 (s3 : V) : St := [.dead, .dead, .dead, s3, .dead, .dead, .dead, .dead, .dead, .dead, .dead, .dead, .dead, .dead, .dead, .dead, .dead, .dead, .dead, .dead, .dead, .dead, .dead, .dead, .dead, .dead, .dead, .dead, .dead, .dead, .dead, .dead, .dead, .dead, .dead, .dead, .dead, .dead, .dead, .dead, .dead, .dead, .dead, .dead, .dead, .dead, .dead, .dead, .dead, .dead, .dead, .dead, .dead, .dead, .dead, .dead, .dead, .dead, .dead, .dead, .dead, .dead, .dead, .dead, .dead, .dead, .dead, .dead, .dead, .dead, .dead, .dead, .dead, .dead]
@[simp] def h5_0 : List Bool := [true, false, false, true, true, false, true, false, false, false, false, false, false, false, false, false, false, false, false, false, false, false, false, false, false, false, false, false, false, false, false, false, false, false, false, false, false, false, false, false, false, false, false, false, false, false, false, false, false, false, false, false, false, false, false, false, false, false, false, false, false, false, false, false, false, false, false, false, false, false, false, false, false, false]
@[simp] def L5_0 (s0 s3 s4 s6 : V) : St := [s0, .dead, .dead, s3, s4, .dead, s6, .dead, .dead, .dead, .dead, .dead, .dead, .dead, .dead, .dead, .dead, .dead, .dead, .dead, .dead, .dead, .dead, .dead, .dead, .dead, .dead, .dead, .dead, .dead, .dead, .dead, .dead, .dead, .dead, .dead, .dead, .dead, .dead, .dead, .dead, .dead, .dead, .dead, .dead, .dead, .dead, .dead, .dead, .dead, .dead, .dead, .dead, .dead, .dead, .dead, .dead, .dead, .dead, .dead, .dead, .dead, .dead, .dead, .dead, .dead, .dead, .dead, .dead, .dead, .dead, .dead, .dead, .dead]
@[simp] def x5_1 : List Bool := [true, false, false, true, true, false, true, false, false, false, false, false, false, false, false, false, false, false, false, false, false, false, false, false, false, false, false, false, false, false, false, false, false, false, false, false, false, false, false, false, false, false, false, false, false, false, false, false, false, false, false, false, false, false, false, false, false, false, false, false, false, false, false, false, false, false, false, false, false, false, false, false, false, false]
@[simp] def X5_1 (s0 s3 s4 s6 : V) : St := [s0, .dead, .dead, s3, s4, .dead, s6, .dead, .dead, .dead, .dead, .dead, .dead, .dead, .dead, .dead, .dead, .dead, .dead, .dead, .dead, .dead, .dead, .dead, .dead, .dead, .dead, .dead, .dead, .dead, .dead, .dead, .dead, .dead, .dead, .dead, .dead, .dead, .dead, .dead, .dead, .dead, .dead, .dead, .dead, .dead, .dead, .dead, .dead, .dead, .dead, .dead, .dead, .dead, .dead, .dead, .dead, .dead, .dead, .dead, .dead, .dead, .dead, .dead, .dead, .dead, .dead, .dead, .dead, .dead, .dead, .dead, .dead, .dead]
@[simp] def x5_2 : List Bool := [true, false, false, true, true, false, true, true, false, false, false, false, false, false, false, false, false, false, false, false, false, false, false, false, false, false, false, false, false, false, false, false, false, false, false, false, false, false, false, false, false, false, false, false, false, false, false, false, false, false, false, false, false, false, false, false, false, false, false, false, false, false, false, false, false, false, false, false, false, false, false, false, false, false]
@[simp] def X5_2 (s0 s3 s4 s6 s7 : V) : St := [s0, .dead, .dead, s3, s4, .dead, s6, s7, .dead, .dead, .dead, .dead, .dead, .dead, .dead, .dead, .dead, .dead, .dead, .dead, .dead, .dead, .dead, .dead, .dead, .dead, .dead, .dead, .dead, .dead, .dead, .dead, .dead, .dead, .dead, .dead, .dead, .dead, .dead, .dead, .dead, .dead, .dead, .dead, .dead, .dead, .dead, .dead, .dead, .dead, .dead, .dead, .dead, .dead, .dead, .dead, .dead, .dead, .dead, .dead, .dead, .dead, .dead, .dead, .dead, .dead, .dead, .dead, .dead, .dead, .dead, .dead, .dead, .dead]
@[simp] def h5_1 : List Bool := [true, false, false, true, true, false, true, true, true, false, false, false, false, false, false, false, false, false, false, false, false, false, false, false, false, false, false, false, false, false, false, false, false, false, false, false, false, false, false, false, false, false, false, false, false, false, false, false, false, false, false, false, false, false, false, false, false, false, false, false, false, false, false, false, false, false, false, false, false, false, false, false, false, false]
@[simp] def L5_1 (s0 s3 s4 s6 s7 s8 : V) : St := [s0, .dead, .dead, s3, s4, .dead, s6, s7, s8, .dead, .dead, .dead, .dead, .dead, .dead, .dead, .dead, .dead, .dead, .dead, .dead, .dead, .dead, .dead, .dead, .dead, .dead, .dead, .dead, .dead, .dead, .dead, .dead, .dead, .dead, .dead, .dead, .dead, .dead, .dead, .dead, .dead, .dead, .dead, .dead, .dead, .dead, .dead, .dead, .dead, .dead, .dead, .dead, .dead, .dead, .dead, .dead, .dead, .dead, .dead, .dead, .dead, .dead, .dead, .dead, .dead, .dead, .dead, .dead, .dead, .dead, .dead, .dead, .dead]
@[simp] def x5_3 : List Bool := [true, false, false, true, true, false, true, true, true, false, false, false, false, false, false, false, false, false, false, false, false, false, false, false, false, false, false, false, false, false, false, false, false, false, false, false, false, false, false, false, false, false, false, false, false, false, false, false, false, false, false, false, false, false, false, false, false, false, false, false, false, false, false, false, false, false, false, false, false, false, false, false, false, false]
@[simp] def X5_3 (s0 s3 s4 s6 s7 s8 : V) : St := [s0, .dead, .dead, s3, s4, .dead, s6, s7, s8, .dead, .dead, .dead, .dead, .dead, .dead, .dead, .dead, .dead, .dead, .dead, .dead, .dead, .dead, .dead, .dead, .dead, .dead, .dead, .dead, .dead, .dead, .dead, .dead, .dead, .dead, .dead, .dead, .dead, .dead, .dead, .dead, .dead, .dead, .dead, .dead, .dead, .dead, .dead, .dead, .dead, .dead, .dead, .dead, .dead, .dead, .dead, .dead, .dead, .dead, .dead, .dead, .dead, .dead, .dead, .dead, .dead, .dead, .dead, .dead, .dead, .dead, .dead, .dead, .dead]
def b5_1 : MC := .seq (.scr h5_1)
 (.seq (.seq (.ops [⟨none, .mv 35 (.t 8)⟩,
    ⟨none, .mv 36 (.t 0)⟩,
    ⟨none, .len 37 false (.t 36)⟩,
    ⟨none, .bin 38 .lss .num (.t 35) (.t 37)⟩])
  (.cnd (.t 38)
   .skip
   (.seq (.scr x5_2) (.ex 2))))
 (.seq (.seq (.blk 3 (.ops [⟨none, .mv 41 (.t 7)⟩,
    ⟨none, .mv 42 (.t 6)⟩,
    ⟨none, .mv 43 (.t 0)⟩,
    ⟨none, .mv 44 (.t 8)⟩,
    ⟨none, .ixs 45 1 (.t 43) (.t 44)⟩,
    ⟨none, .ld1 46 (.t 45)⟩,
    ⟨none, .call (some 47) 13 [(.t 42), (.t 46)]⟩,
    ⟨none, .bin 48 .add .num (.t 41) (.t 47)⟩,
    ⟨none, .asg 7 (.t 48)⟩])) (.scr x5_3))
 (.ops [⟨none, .mv 39 (.t 8)⟩,
  ⟨none, .bin 40 .add .num (.t 39) (.c (.v (.int .i64 1)))⟩,
  ⟨none, .asg 8 (.t 40)⟩])))
def b5_0 : MC := .seq (.scr h5_0)
 (.seq (.seq (.ops [⟨none, .mv 31 (.t 6)⟩,
    ⟨none, .bin 32 .lss .num (.t 31) (.c (.v (.int .i64 12)))⟩])
  (.cnd (.t 32)
   .skip
   (.seq (.scr x5_0) (.ex 0))))
 (.seq (.seq (.blk 1 (.seq (.ops [⟨none, .asg 7 (.c (.v (.int .i64 0)))⟩])
   (.seq (.seq (.ops [⟨none, .asg 8 (.c (.v (.int .i64 0)))⟩])
    (.seq (.blk 2 (.lop b5_1)) (.scr x5_2)))
   (.seq (.ops [⟨none, .mv 49 (.t 7)⟩,
     ⟨none, .mv 50 (.t 4)⟩,
     ⟨none, .bin 51 .lss .num (.t 49) (.t 50)⟩,
     ⟨none, .mv 52 (.t 51)⟩,
     ⟨some (52, false), .mv 53 (.t 6)⟩,
     ⟨some (52, false), .mv 54 (.t 3)⟩,
     ⟨some (52, false), .bin 55 .lss .num (.t 53) (.t 54)⟩,
     ⟨some (52, false), .mv 56 (.t 55)⟩,
     ⟨some (56, true), .mv 57 (.t 7)⟩,
     ⟨some (56, true), .mv 58 (.t 4)⟩,
     ⟨some (56, true), .bin 59 .eql .num (.t 57) (.t 58)⟩,
     ⟨some (52, false), .pick 60 (.t 56) (.t 59) (.c (.v (.bool false)))⟩,
     ⟨none, .pick 61 (.t 52) (.c (.v (.bool true))) (.t 60)⟩,
     ⟨none, .mv 62 (.t 61)⟩,
     ⟨some (62, false), .mv 63 (.t 6)⟩,
     ⟨some (62, false), .mv 64 (.t 3)⟩,
     ⟨some (62, false), .bin 65 .eql .num (.t 63) (.t 64)⟩,
     ⟨some (62, false), .mv 66 (.t 65)⟩,
     ⟨some (66, true), .mv 67 (.t 7)⟩,
     ⟨some (66, true), .mv 68 (.t 4)⟩,
     ⟨some (66, true), .bin 69 .neq .num (.t 67) (.t 68)⟩,
     ⟨some (62, false), .pick 70 (.t 66) (.t 69) (.c (.v (.bool false)))⟩,
     ⟨none, .pick 71 (.t 62) (.c (.v (.bool true))) (.t 70)⟩])
   (.cnd (.t 71)
    (.seq (.ops [⟨none, .asg 2 (.c (.v (.bool false)))⟩])
    (.seq (.scr r5) .ret))
    .skip))))) (.scr x5_1))
 (.ops [⟨none, .mv 33 (.t 6)⟩,
  ⟨none, .bin 34 .add .num (.t 33) (.c (.v (.int .i64 1)))⟩,
  ⟨none, .asg 6 (.t 34)⟩])))
def c5 : MF := ⟨(.seq (.ops [⟨none, .asg 2 (.c (.v (.bool false)))⟩])
 (.seq (.seq (.ops [⟨none, .call (some 9) 12 []⟩,
    ⟨none, .un 10 .not (.t 9)⟩,
    ⟨none, .mv 11 (.t 10)⟩,
    ⟨some (11, false), .mv 12 (.t 0)⟩,
    ⟨some (11, false), .call (some 13) 16 [(.t 12)]⟩,
    ⟨some (11, false), .un 14 .not (.t 13)⟩,
    ⟨none, .pick 15 (.t 11) (.c (.v (.bool true))) (.t 14)⟩])
  (.cnd (.t 15)
   (.seq (.ops [⟨none, .call (some 16) 12 []⟩,
     ⟨none, .asg 2 (.t 16)⟩])
   (.seq (.scr r5) .ret))
   .skip))
 (.seq (.ops [⟨none, .mv 18 (.t 0)⟩,
   ⟨none, .call (some 19) 19 [(.t 18)]⟩,
   ⟨none, .mv 17 (.t 19)⟩,
   ⟨none, .ext 20 (.t 17) 0⟩,
   ⟨none, .ext 21 (.t 17) 1⟩,
   ⟨none, .ext 22 (.t 17) 2⟩,
   ⟨none, .asg 3 (.t 20)⟩,
   ⟨none, .asg 4 (.t 21)⟩,
   ⟨none, .asg 5 (.t 22)⟩])
 (.seq (.seq (.ops [⟨none, .mv 23 (.t 5)⟩,
    ⟨none, .bin 24 .neq .num (.t 23) (.c (.v (.int .i64 0)))⟩])
  (.cnd (.t 24)
   (.seq (.ops [⟨none, .mv 25 (.t 3)⟩,
     ⟨none, .bin 26 .eql .num (.t 25) (.c (.v (.int .i64 0)))⟩,
     ⟨none, .mv 27 (.t 26)⟩,
     ⟨some (27, true), .mv 28 (.t 4)⟩,
     ⟨some (27, true), .bin 29 .eql .num (.t 28) (.c (.v (.int .i64 0)))⟩,
     ⟨none, .pick 30 (.t 27) (.t 29) (.c (.v (.bool false)))⟩,
     ⟨none, .asg 2 (.t 30)⟩])
   (.seq (.scr r5) .ret))
   .skip))
 (.seq (.seq (.ops [⟨none, .asg 6 (.c (.v (.int .i64 0)))⟩])
  (.seq (.blk 0 (.lop b5_0)) (.scr x5_0)))
 (.seq (.ops [⟨none, .mv 72 (.t 3)⟩,
   ⟨none, .call (some 73) 21 [(.t 72), (.c (.v (.int .i64 0))), (.c (.v (.int .i64 11)))]⟩,
   ⟨none, .asg 2 (.t 73)⟩])
 (.seq (.scr r5) .ret))))))),
  74, [2]⟩

/-- coinage/coinagelaw10.AxisFixed -/
def hints6 : List (List Bool) := [[false, false, false, false, true, false, false, false, false, false, false, false, false, false, false, false, false, false, false, false, false, false, false, false, false, false, false, false, false, false, false, false, false, false, false, false, false, false, false], [false, false, false, false, true, false, false, false, false, false, false, false, false, false, false, false, false, false, false, false, false, false, false, false, false, false, false, false, false, false, false, false, false, false, false, false, false, false, false], [false, false, false, false, true, false, false, false, false, false, false, false, false, false, false, false, false, false, false, false, false, false, false, false, false, false, false, false, false, false, false, false, false, false, false, false, false, false, false]]
@[simp] def r6 : List Bool := [false, false, false, false, true, false, false, false, false, false, false, false, false, false, false, false, false, false, false, false, false, false, false, false, false, false, false, false, false, false, false, false, false, false, false, false, false, false, false]
@[simp] def R6 (s4 : V) : St := [.dead, .dead, .dead, .dead, s4, .dead, .dead, .dead, .dead, .dead, .dead, .dead, .dead, .dead, .dead, .dead, .dead, .dead, .dead, .dead, .dead, .dead, .dead, .dead, .dead, .dead, .dead, .dead, .dead, .dead, .dead, .dead, .dead, .dead, .dead, .dead, .dead, .dead, .dead]
def c6 : MF := ⟨(.seq (.ops [⟨none, .asg 4 (.c (.v (.bool false)))⟩])
 (.seq (.seq (.ops [⟨none, .call (some 8) 12 []⟩,
    ⟨none, .un 9 .not (.t 8)⟩,
    ⟨none, .mv 10 (.t 9)⟩,
    ⟨some (10, false), .mv 11 (.t 0)⟩,
    ⟨some (10, false), .call (some 12) 16 [(.t 11)]⟩,
    ⟨some (10, false), .un 13 .not (.t 12)⟩,
    ⟨none, .pick 14 (.t 10) (.c (.v (.bool true))) (.t 13)⟩])
  (.cnd (.t 14)
   (.seq (.ops [⟨none, .call (some 15) 12 []⟩,
     ⟨none, .asg 4 (.t 15)⟩])
   (.seq (.scr r6) .ret))
   .skip))
 (.seq (.ops [⟨none, .mv 16 (.t 1)⟩,
   ⟨none, .call (some 17) 15 [(.t 16), (.c (.v (.int .i64 7)))]⟩,
   ⟨none, .asg 1 (.t 17)⟩])
 (.seq (.ops [⟨none, .mv 19 (.t 0)⟩,
   ⟨none, .call (some 20) 17 [(.t 19)]⟩,
   ⟨none, .mv 18 (.t 20)⟩,
   ⟨none, .ext 21 (.t 18) 0⟩,
   ⟨none, .ext 22 (.t 18) 1⟩,
   ⟨none, .ext 23 (.t 18) 2⟩,
   ⟨none, .asg 5 (.t 21)⟩,
   ⟨none, .asg 6 (.t 22)⟩,
   ⟨none, .asg 7 (.t 23)⟩])
 (.seq (.seq (.ops [⟨none, .mv 24 (.t 7)⟩,
    ⟨none, .bin 25 .neq .num (.t 24) (.c (.v (.int .i64 0)))⟩])
  (.cnd (.t 25)
   (.seq (.ops [⟨none, .mv 26 (.t 0)⟩,
     ⟨none, .mv 27 (.t 1)⟩,
     ⟨none, .call (some 28) 22 [(.t 26), (.t 27)]⟩,
     ⟨none, .un 29 .not (.t 28)⟩,
     ⟨none, .asg 4 (.t 29)⟩])
   (.seq (.scr r6) .ret))
   .skip))
 (.seq (.ops [⟨none, .mv 30 (.t 0)⟩,
   ⟨none, .mv 31 (.t 1)⟩,
   ⟨none, .call (some 32) 22 [(.t 30), (.t 31)]⟩,
   ⟨none, .mv 33 (.t 6)⟩,
   ⟨none, .mv 34 (.t 1)⟩,
   ⟨none, .bin 35 .mul .num (.c (.v (.int .i64 2))) (.t 34)⟩,
   ⟨none, .bin 36 .add .num (.t 35) (.c (.v (.int .i64 1)))⟩,
   ⟨none, .bin 37 .leq .num (.t 33) (.t 36)⟩,
   ⟨none, .bin 38 .eql .bool (.t 32) (.t 37)⟩,
   ⟨none, .asg 4 (.t 38)⟩])
 (.seq (.scr r6) .ret))))))),
  39, [4]⟩

/-- coinage/coinagelaw10.AxisShortest -/
def hints7 : List (List Bool) := [[false, false, true, false, false, false, false, false, false, false, false, false, false, false, false, false, false, false, false, false, false, false, false, false, false, false, false, false, false, false, false, false, false, false, false, false, false, false, false, false, false, false, false, false, false, false, false, false, false, false, false, false, false, false, false, false, false, false, false, false, false, false, false, false, false, false, false, false, false, false, false, false, false, false, false, false, false, false, false, false, false, false, false, false, false, false, false, false, false, false, false, false, false, false, false, false, false, false, false, false, false, false, false, false, false, false], [false, false, true, false, false, false, false, false, false, false, false, false, false, false, false, false, false, false, false, false, false, false, false, false, false, false, false, false, false, false, false, false, false, false, false, false, false, false, false, false, false, false, false, false, false, false, false, false, false, false, false, false, false, false, false, false, false, false, false, false, false, false, false, false, false, false, false, false, false, false, false, false, false, false, false, false, false, false, false, false, false, false, false, false, false, false, false, false, false, false, false, false, false, false, false, false, false, false, false, false, false, false, false, false, false, false], [false, false, true, false, false, false, false, false, false, false, false, false, false, false, false, false, false, false, false, false, false, false, false, false, false, false, false, false, false, false, false, false, false, false, false, false, false, false, false, false, false, false, false, false, false, false, false, false, false, false, false, false, false, false, false, false, false, false, false, false, false, false, false, false, false, false, false, false, false, false, false, false, false, false, false, false, false, false, false, false, false, false, false, false, false, false, false, false, false, false, false, false, false, false, false, false, false, false, false, false, false, false, false, false, false, false], [false, false, true, false, false, false, false, false, false, false, false, false, false, false, false, false, false, false, false, false, false, false, false, false, false, false, false, false, false, false, false, false, false, false, false, false, false, false, false, false, false, false, false, false, false, false, false, false, false, false, false, false, false, false, false, false, false, false, false, false, false, false, false, false, false, false, false, false, false, false, false, false, false, false, false, false, false, false, false, false, false, false, false, false, false, false, false, false, false, false, false, false, false, false, false, false, false, false, false, false, false, false, false, false, false, false], [false, false, false, false, false, false, false, false, false, true, false, false, false, false, false, false, false, false, false, false, false, false, false, false, false, false, false, false, false, false, false, false, false, false, false, false, false, false, false, false, false, false, false, false, false, false, false, false, false, false, false, false, false, false, false, false, false, false, false, false, false, false, false, false, false, false, false, false, false, false, false, false, false, false, false, false, false, false, false, false, false, false, false, false, false, false, false, false, false, false, false, false, false, false, false, false, false, false, false, false, false, false, false, false, false, false], [true, false, false, true, true, false, false, false, false, true, false, false, true, false, false, false, false, false, false, false, false, false, false, false, false, false, false, false, false, false, false, false, false, false, false, false, false, false, false, false, false, false, false, false, false, false, false, false, false, false, false, false, false, false, false, false, false, false, false, false, false, false, false, false, false, false, false, false, false, false, false, false, false, false, false, false, false, false, false, false, false, false, false, false, false, false, false, false, false, false, false, false, false, false, false, false, false, false, false, false, false, false, false, false, false, false], [false, false, false, false, false, false, false, false, false, true, false, false, false, false, false, false, false, false, false, false, false, false, false, false, false, false, false, false, false, false, false, false, false, false, false, false, false, false, false, false, false, false, false, false, false, false, false, false, false, false, false, false, false, false, false, false, false, false, false, false, false, false, false, false, false, false, false, false, false, false, false, false, false, false, false, false, false, false, false, false, false, false, false, false, false, false, false, false, false, false, false, false, false, false, false, false, false, false, false, false, false, false, false, false, false, false], [true, false, false, true, true, false, false, false, false, true, false, false, true, false, false, false, false, false, false, false, false, false, false, false, false, false, false, false, false, false, false, false, false, false, false, false, false, false, false, false, false, false, false, false, false, false, false, false, false, false, false, false, false, false, false, false, false, false, false, false, false, false, false, false, false, false, false, false, false, false, false, false, false, false, false, false, false, false, false, false, false, false, false, false, false, false, false, false, false, false, false, false, false, false, false, false, false, false, false, false, false, false, false, false, false, false], [false, false, true, false, false, false, false, false, false, false, false, false, false, false, false, false, false, false, false, false, false, false, false, false, false, false, false, false, false, false, false, false, false, false, false, false, false, false, false, false, false, false, false, false, false, false, false, false, false, false, false, false, false, false, false, false, false, false, false, false, false, false, false, false, false, false, false, false, false, false, false, false, false, false, false, false, false, false, false, false, false, false, false, false, false, false, false, false, false, false, false, false, false, false, false, false, false, false, false, false, false, false, false, false, false, false], [false, false, true, false, false, false, false, false, false, false, false, false, false, false, false, false, false, false, false, false, false, false, false, false, false, false, false, false, false, false, false, false, false, false, false, false, false, false, false, false, false, false, false, false, false, false, false, false, false, false, false, false, false, false, false, false, false, false, false, false, false, false, false, false, false, false, false, false, false, false, false, false, false, false, false, false, false, false, false, false, false, false, false, false, false, false, false, false, false, false, false, false, false, false, false, false, false, false, false, false, false, false, false, false, false, false]]
@[simp] def r7 : List Bool := [false, false, true, false, false, false, false, false, false, false, false, false, false, false, false, false, false, false, false, false, false, false, false, false, false, false, false, false, false, false, false, false, false, false, false, false, false, false, false, false, false, false, false, false, false, false, false, false, false, false, false, false, false, false, false, false, false, false, false, false, false, false, false, false, false, false, false, false, false, false, false, false, false, false, false, false, false, false, false, false, false, false, false, false, false, false, false, false, false, false, false, false, false, false, false, false, false, false, false, false, false, false, false, false, false, false]
@[simp] def R7 (s2 : V) : St := [.dead, .dead, s2, .dead, .dead, .dead, .dead, .dead, .dead, .dead, .dead, .dead, .dead, .dead, .dead, .dead, .dead, .dead, .dead, .dead, .dead, .dead, .dead, .dead, .dead, .dead, .dead, .dead, .dead, .dead, .dead, .dead, .dead, .dead, .dead, .dead, .dead, .dead, .dead, .dead, .dead, .dead, .dead, .dead, .dead, .dead, .dead, .dead, .dead, .dead, .dead, .dead, .dead, .dead, .dead, .dead, .dead, .dead, .dead, .dead, .dead, .dead, .dead, .dead, .dead, .dead, .dead, .dead, .dead, .dead, .dead, .dead, .dead, .dead, .dead, .dead, .dead, .dead, .dead, .dead, .dead, .dead, .dead, .dead, .dead, .dead, .dead, .dead, .dead, .dead, .dead, .dead, .dead, .dead, .dead, .dead, .dead, .dead, .dead, .dead, .dead, .dead, .dead, .dead, .dead, .dead]
@[simp] def x7_0 : List Bool := [false, false, false, false, false, false, false, false, false, true, false, false, false, false, false, false, false, false, false, false, false, false, false, false, false, false, false, false, false, false, false, false, false, false, false, false, false, false, false, false, false, false, false, false, false, false, false, false, false, false, false, false, false, false, false, false, false, false, false, false, false, false, false, false, false, false, false, false, false, false, false, false, false, false, false, false, false, false, false, false, false, false, false, false, false, false, false, false, false, false, false, false, false, false, false, false, false, false, false, false, false, false, false, false, false, false]
@[simp] def X7_0 (s9 : V) : St := [.dead, .dead, .dead, .dead, .dead, .dead, .dead, .dead, .dead, s9, .dead, .dead, .dead, .dead, .dead, .dead, .dead, .dead, .dead, .dead, .dead, .dead, .dead, .dead, .dead, .dead, .dead, .dead, .dead, .dead, .dead, .dead, .dead, .dead, .dead, .dead, .dead, .dead, .dead, .dead, .dead, .dead, .dead, .dead, .dead, .dead, .dead, .dead, .dead, .dead, .dead, .dead, .dead, .dead, .dead, .dead, .dead, .dead, .dead, .dead, .dead, .dead, .dead, .dead, .dead, .dead, .dead, .dead, .dead, .dead, .dead, .dead, .dead, .dead, .dead, .dead, .dead, .dead, .dead, .dead, .dead, .dead, .dead, .dead, .dead, .dead, .dead, .dead, .dead, .dead, .dead, .dead, .dead, .dead, .dead, .dead, .dead, .dead, .dead, .dead, .dead, .dead, .dead, .dead, .dead, .dead]
@[simp] def h7_0 : List Bool := [true, false, false, true, true, false, false, false, false, true, false, false, true, false, false, false, false, false, false, false, false, false, false, false, false, false, false, false, false, false, false, false, false, false, false, false, false, false, false, false, false, false, false, false, false, false, false, false, false, false, false, false, false, false, false, false, false, false, false, false, false, false, false, false, false, false, false, false, false, false, false, false, false, false, false, false, false, false, false, false, false, false, false, false, false, false, false, false, false, false, false, false, false, false, false, false, false, false, false, false, false, false, false, false, false, false]
@[simp] def L7_0 (s0 s3 s4 s9 s12 : V) : St := [s0, .dead, .dead, s3, s4, .dead, .dead, .dead, .dead, s9, .dead, .dead, s12, .dead, .dead, .dead, .dead, .dead, .dead, .dead, .dead, .dead, .dead, .dead, .dead, .dead, .dead, .dead, .dead, .dead, .dead, .dead, .dead, .dead, .dead, .dead, .dead, .dead, .dead, .dead, .dead, .dead, .dead, .dead, .dead, .dead, .dead, .dead, .dead, .dead, .dead, .dead, .dead, .dead, .dead, .dead, .dead, .dead, .dead, .dead, .dead, .dead, .dead, .dead, .dead, .dead, .dead, .dead, .dead, .dead, .dead, .dead, .dead, .dead, .dead, .dead, .dead, .dead, .dead, .dead, .dead, .dead, .dead, .dead, .dead, .dead, .dead, .dead, .dead, .dead, .dead, .dead, .dead, .dead, .dead, .dead, .dead, .dead, .dead, .dead, .dead, .dead, .dead, .dead, .dead, .dead]
@[simp] def x7_1 : List Bool := [true, false, false, true, true, false, false, false, false, true, false, false, true, false, false, false, false, false, false, false, false, false, false, false, false, false, false, false, false, false, false, false, false, false, false, false, false, false, false, false, false, false, false, false, false, false, false, false, false, false, false, false, false, false, false, false, false, false, false, false, false, false, false, false, false, false, false, false, false, false, false, false, false, false, false, false, false, false, false, false, false, false, false, false, false, false, false, false, false, false, false, false, false, false, false, false, false, false, false, false, false, false, false, false, false, false]
@[simp] def X7_1 (s0 s3 s4 s9 s12 : V) : St := [s0, .dead, .dead, s3, s4, .dead, .dead, .dead, .dead, s9, .dead, .dead, s12, .dead, .dead, .dead, .dead, .dead, .dead, .dead, .dead, .dead, .dead, .dead, .dead, .dead, .dead, .dead, .dead, .dead, .dead, .dead, .dead, .dead, .dead, .dead, .dead, .dead, .dead, .dead, .dead, .dead, .dead, .dead, .dead, .dead, .dead, .dead, .dead, .dead, .dead, .dead, .dead, .dead, .dead, .dead, .dead, .dead, .dead, .dead, .dead, .dead, .dead, .dead, .dead, .dead, .dead, .dead, .dead, .dead, .dead, .dead, .dead, .dead, .dead, .dead, .dead, .dead, .dead, .dead, .dead, .dead, .dead, .dead, .dead, .dead, .dead, .dead, .dead, .dead, .dead, .dead, .dead, .dead, .dead, .dead, .dead, .dead, .dead, .dead, .dead, .dead, .dead, .dead, .dead, .dead]
def b7_0 : MC := .seq (.scr h7_0)
 (.seq (.seq (.ops [⟨none, .mv 89 (.t 12)⟩,
    ⟨none, .mv 90 (.t 0)⟩,
    ⟨none, .len 91 false (.t 90)⟩,
    ⟨none, .bin 92 .lss .num (.t 89) (.t 91)⟩])
  (.cnd (.t 92)
   .skip
   (.seq (.scr x7_0) (.ex 0))))
 (.seq (.seq (.blk 1 (.seq (.ops [⟨none, .mv 95 (.t 0)⟩,
     ⟨none, .mv 96 (.t 12)⟩,
     ⟨none, .ixs 97 1 (.t 95) (.t 96)⟩,
     ⟨none, .ld1 98 (.t 97)⟩,
     ⟨none, .mv 99 (.t 3)⟩,
     ⟨none, .bin 100 .sub .num (.t 98) (.t 99)⟩,
     ⟨none, .call (some 101) 15 [(.t 100), (.c (.v (.int .i64 12)))]⟩,
     ⟨none, .mv 102 (.t 4)⟩,
     ⟨none, .bin 103 .geq .num (.t 101) (.t 102)⟩])
   (.cnd (.t 103)
    (.seq (.ops [⟨none, .asg 2 (.c (.v (.bool false)))⟩])
    (.seq (.scr r7) .ret))
    .skip))) (.scr x7_1))
 (.ops [⟨none, .mv 93 (.t 12)⟩,
  ⟨none, .bin 94 .add .num (.t 93) (.c (.v (.int .i64 1)))⟩,
  ⟨none, .asg 12 (.t 94)⟩])))
def c7 : MF := ⟨(.seq (.ops [⟨none, .asg 2 (.c (.v (.bool false)))⟩])
 (.seq (.seq (.ops [⟨none, .call (some 13) 12 []⟩,
    ⟨none, .un 14 .not (.t 13)⟩,
    ⟨none, .mv 15 (.t 14)⟩,
    ⟨some (15, false), .mv 16 (.t 0)⟩,
    ⟨some (15, false), .call (some 17) 16 [(.t 16)]⟩,
    ⟨some (15, false), .un 18 .not (.t 17)⟩,
    ⟨none, .pick 19 (.t 15) (.c (.v (.bool true))) (.t 18)⟩])
  (.cnd (.t 19)
   (.seq (.ops [⟨none, .call (some 20) 12 []⟩,
     ⟨none, .asg 2 (.t 20)⟩])
   (.seq (.scr r7) .ret))
   .skip))
 (.seq (.ops [⟨none, .mv 22 (.t 0)⟩,
   ⟨none, .call (some 23) 17 [(.t 22)]⟩,
   ⟨none, .mv 21 (.t 23)⟩,
   ⟨none, .ext 24 (.t 21) 0⟩,
   ⟨none, .ext 25 (.t 21) 1⟩,
   ⟨none, .ext 26 (.t 21) 2⟩,
   ⟨none, .asg 3 (.t 24)⟩,
   ⟨none, .asg 4 (.t 25)⟩,
   ⟨none, .asg 5 (.t 26)⟩])
 (.seq (.seq (.ops [⟨none, .mv 27 (.t 5)⟩,
    ⟨none, .bin 28 .neq .num (.t 27) (.c (.v (.int .i64 0)))⟩])
  (.cnd (.t 28)
   (.seq (.ops [⟨none, .mv 29 (.t 3)⟩,
     ⟨none, .bin 30 .eql .num (.t 29) (.c (.v (.int .i64 0)))⟩,
     ⟨none, .mv 31 (.t 30)⟩,
     ⟨some (31, true), .mv 32 (.t 4)⟩,
     ⟨some (31, true), .bin 33 .eql .num (.t 32) (.c (.v (.int .i64 0)))⟩,
     ⟨none, .pick 34 (.t 31) (.t 33) (.c (.v (.bool false)))⟩,
     ⟨none, .asg 2 (.t 34)⟩])
   (.seq (.scr r7) .ret))
   .skip))
 (.seq (.seq (.ops [⟨none, .mv 35 (.t 3)⟩,
    ⟨none, .call (some 36) 21 [(.t 35), (.c (.v (.int .i64 0))), (.c (.v (.int .i64 11)))]⟩,
    ⟨none, .un 37 .not (.t 36)⟩,
    ⟨none, .mv 38 (.t 37)⟩,
    ⟨some (38, false), .mv 39 (.t 4)⟩,
    ⟨some (38, false), .call (some 40) 21 [(.t 39), (.c (.v (.int .i64 1))), (.c (.v (.int .i64 12)))]⟩,
    ⟨some (38, false), .un 41 .not (.t 40)⟩,
    ⟨none, .pick 42 (.t 38) (.c (.v (.bool true))) (.t 41)⟩,
    ⟨none, .mv 43 (.t 42)⟩,
    ⟨some (43, false), .mv 44 (.t 4)⟩,
    ⟨some (43, false), .bin 45 .eql .num (.t 44) (.c (.v (.int .i64 12)))⟩,
    ⟨some (43, false), .mv 46 (.t 45)⟩,
    ⟨some (46, true), .mv 47 (.t 3)⟩,
    ⟨some (46, true), .bin 48 .neq .num (.t 47) (.c (.v (.int .i64 0)))⟩,
    ⟨some (43, false), .pick 49 (.t 46) (.t 48) (.c (.v (.bool false)))⟩,
    ⟨none, .pick 50 (.t 43) (.c (.v (.bool true))) (.t 49)⟩])
  (.cnd (.t 50)
   (.seq (.ops [⟨none, .asg 2 (.c (.v (.bool false)))⟩])
   (.seq (.scr r7) .ret))
   .skip))
 (.seq (.ops [⟨none, .mv 52 (.t 0)⟩,
   ⟨none, .mv 53 (.t 4)⟩,
   ⟨none, .call (some 54) 23 [(.t 52), (.t 53)]⟩,
   ⟨none, .mv 51 (.t 54)⟩,
   ⟨none, .ext 55 (.t 51) 0⟩,
   ⟨none, .ext 56 (.t 51) 1⟩,
   ⟨none, .ext 57 (.t 51) 2⟩,
   ⟨none, .asg 6 (.t 55)⟩,
   ⟨none, .asg 7 (.t 56)⟩,
   ⟨none, .asg 8 (.t 57)⟩])
 (.seq (.ops [⟨none, .mv 59 (.t 0)⟩,
   ⟨none, .mv 60 (.t 4)⟩,
   ⟨none, .bin 61 .sub .num (.t 60) (.c (.v (.int .i64 1)))⟩,
   ⟨none, .mm 62 true (.t 61) (.c (.v (.int .i64 1)))⟩,
   ⟨none, .call (some 63) 23 [(.t 59), (.t 62)]⟩,
   ⟨none, .mv 58 (.t 63)⟩,
   ⟨none, .ext 64 (.t 58) 0⟩,
   ⟨none, .ext 65 (.t 58) 1⟩,
   ⟨none, .ext 66 (.t 58) 2⟩,
   ⟨none, .asg 9 (.t 64)⟩,
   ⟨none, .asg 10 (.t 65)⟩,
   ⟨none, .asg 11 (.t 66)⟩])
 (.seq (.seq (.ops [⟨none, .mv 67 (.t 8)⟩,
    ⟨none, .bin 68 .neq .num (.t 67) (.c (.v (.int .i64 0)))⟩,
    ⟨none, .mv 69 (.t 68)⟩,
    ⟨some (69, false), .mv 70 (.t 11)⟩,
    ⟨some (69, false), .bin 71 .neq .num (.t 70) (.c (.v (.int .i64 0)))⟩,
    ⟨none, .pick 72 (.t 69) (.c (.v (.bool true))) (.t 71)⟩,
    ⟨none, .mv 73 (.t 72)⟩,
    ⟨some (73, false), .mv 74 (.t 7)⟩,
    ⟨some (73, false), .mv 75 (.t 0)⟩,
    ⟨some (73, false), .len 76 false (.t 75)⟩,
    ⟨some (73, false), .bin 77 .neq .num (.t 74) (.t 76)⟩,
    ⟨none, .pick 78 (.t 73) (.c (.v (.bool true))) (.t 77)⟩,
    ⟨none, .mv 79 (.t 78)⟩,
    ⟨some (79, false), .mv 80 (.t 4)⟩,
    ⟨some (79, false), .bin 81 .gtr .num (.t 80) (.c (.v (.int .i64 1)))⟩,
    ⟨some (79, false), .mv 82 (.t 81)⟩,
    ⟨some (82, true), .mv 83 (.t 10)⟩,
    ⟨some (82, true), .mv 84 (.t 0)⟩,
    ⟨some (82, true), .len 85 false (.t 84)⟩,
    ⟨some (82, true), .bin 86 .eql .num (.t 83) (.t 85)⟩,
    ⟨some (79, false), .pick 87 (.t 82) (.t 86) (.c (.v (.bool false)))⟩,
    ⟨none, .pick 88 (.t 79) (.c (.v (.bool true))) (.t 87)⟩])
  (.cnd (.t 88)
   (.seq (.ops [⟨none, .asg 2 (.c (.v (.bool false)))⟩])
   (.seq (.scr r7) .ret))
   .skip))
 (.seq (.seq (.ops [⟨none, .asg 12 (.c (.v (.int .i64 0)))⟩])
  (.seq (.blk 0 (.lop b7_0)) (.scr x7_0)))
 (.seq (.ops [⟨none, .mv 104 (.t 9)⟩,
   ⟨none, .call (some 105) 21 [(.t 104), (.c (.v (.int .i64 0))), (.c (.v (.int .i64 11)))]⟩,
   ⟨none, .asg 2 (.t 105)⟩])
 (.seq (.scr r7) .ret))))))))))),
  106, [2]⟩

/-- coinage/coinagelaw10.AxisDensest -/
def hints8 : List (List Bool) := [[false, false, false, false, true, false, false, false, false, false, false, false, false, false, false, false, false, false, false, false, false, false, false, false, false, false, false, false, false, false, false, false, false, false, false, false, false, false, false, false, false, false, false, false, false, false, false, false, false, false, false, false, false, false, false], [false, false, false, false, true, false, false, false, false, false, false, false, false, false, false, false, false, false, false, false, false, false, false, false, false, false, false, false, false, false, false, false, false, false, false, false, false, false, false, false, false, false, false, false, false, false, false, false, false, false, false, false, false, false, false]]
@[simp] def r8 : List Bool := [false, false, false, false, true, false, false, false, false, false, false, false, false, false, false, false, false, false, false, false, false, false, false, false, false, false, false, false, false, false, false, false, false, false, false, false, false, false, false, false, false, false, false, false, false, false, false, false, false, false, false, false, false, false, false]
@[simp] def R8 (s4 : V) : St := [.dead, .dead, .dead, .dead, s4, .dead, .dead, .dead, .dead, .dead, .dead, .dead, .dead, .dead, .dead, .dead, .dead, .dead, .dead, .dead, .dead, .dead, .dead, .dead, .dead, .dead, .dead, .dead, .dead, .dead, .dead, .dead, .dead, .dead, .dead, .dead, .dead, .dead, .dead, .dead, .dead, .dead, .dead, .dead, .dead, .dead, .dead, .dead, .dead, .dead, .dead, .dead, .dead, .dead, .dead]
def c8 : MF := ⟨(.seq (.ops [⟨none, .asg 4 (.c (.v (.bool false)))⟩])
 (.seq (.seq (.ops [⟨none, .call (some 11) 12 []⟩,
    ⟨none, .un 12 .not (.t 11)⟩,
    ⟨none, .mv 13 (.t 12)⟩,
    ⟨some (13, false), .mv 14 (.t 0)⟩,
    ⟨some (13, false), .call (some 15) 16 [(.t 14)]⟩,
    ⟨some (13, false), .un 16 .not (.t 15)⟩,
    ⟨none, .pick 17 (.t 13) (.c (.v (.bool true))) (.t 16)⟩])
  (.cnd (.t 17)
   (.seq (.ops [⟨none, .call (some 18) 12 []⟩,
     ⟨none, .asg 4 (.t 18)⟩])
   (.seq (.scr r8) .ret))
   .skip))
 (.seq (.ops [⟨none, .mv 20 (.t 0)⟩,
   ⟨none, .mv 21 (.t 1)⟩,
   ⟨none, .call (some 22) 23 [(.t 20), (.t 21)]⟩,
   ⟨none, .mv 19 (.t 22)⟩,
   ⟨none, .ext 23 (.t 19) 0⟩,
   ⟨none, .ext 24 (.t 19) 1⟩,
   ⟨none, .ext 25 (.t 19) 2⟩,
   ⟨none, .asg 5 (.t 23)⟩,
   ⟨none, .asg 6 (.t 24)⟩,
   ⟨none, .asg 7 (.t 25)⟩])
 (.seq (.ops [⟨none, .mv 27 (.t 0)⟩,
   ⟨none, .mv 28 (.t 1)⟩,
   ⟨none, .call (some 29) 24 [(.t 27), (.t 28)]⟩,
   ⟨none, .mv 26 (.t 29)⟩,
   ⟨none, .ext 30 (.t 26) 0⟩,
   ⟨none, .ext 31 (.t 26) 1⟩,
   ⟨none, .ext 32 (.t 26) 2⟩,
   ⟨none, .asg 8 (.t 30)⟩,
   ⟨none, .asg 9 (.t 31)⟩,
   ⟨none, .asg 10 (.t 32)⟩])
 (.seq (.ops [⟨none, .mv 33 (.t 5)⟩,
   ⟨none, .mv 34 (.t 8)⟩,
   ⟨none, .bin 35 .eql .num (.t 33) (.t 34)⟩,
   ⟨none, .mv 36 (.t 35)⟩,
   ⟨some (36, true), .mv 37 (.t 6)⟩,
   ⟨some (36, true), .mv 38 (.t 9)⟩,
   ⟨some (36, true), .bin 39 .eql .num (.t 37) (.t 38)⟩,
   ⟨none, .pick 40 (.t 36) (.t 39) (.c (.v (.bool false)))⟩,
   ⟨none, .mv 41 (.t 40)⟩,
   ⟨some (41, true), .mv 42 (.t 7)⟩,
   ⟨some (41, true), .mv 43 (.t 10)⟩,
   ⟨some (41, true), .bin 44 .eql .num (.t 42) (.t 43)⟩,
   ⟨none, .pick 45 (.t 41) (.t 44) (.c (.v (.bool false)))⟩,
   ⟨none, .mv 46 (.t 45)⟩,
   ⟨some (46, true), .mv 47 (.t 0)⟩,
   ⟨some (46, true), .mv 48 (.t 1)⟩,
   ⟨some (46, true), .call (some 49) 22 [(.t 47), (.t 48)]⟩,
   ⟨some (46, true), .mv 50 (.t 0)⟩,
   ⟨some (46, true), .mv 51 (.t 1)⟩,
   ⟨some (46, true), .call (some 52) 25 [(.t 50), (.t 51)]⟩,
   ⟨some (46, true), .bin 53 .eql .bool (.t 49) (.t 52)⟩,
   ⟨none, .pick 54 (.t 46) (.t 53) (.c (.v (.bool false)))⟩,
   ⟨none, .asg 4 (.t 54)⟩])
 (.seq (.scr r8) .ret)))))),
  55, [4]⟩

/-- coinage/coinagelaw10.AxisOrder -/
def hints9 : List (List Bool) := [[true, true, true, true, true, true, true, true, true, true, true, true, true, true, true, true, true, true, true, true, true, true, true, true, true, true, true, true, true, true, true, true, true, true, true, true, true, true, true, true, true, true, true, true, true, true, true, true, true, true, true, true, true, true, true, true, true, true, true, true, true, true, true, true, true, true, true, true, true, true, true, true, true, true, true, true, true, true, true, true, true, true, true, true, true, true, true, true, true, true, true, true, true, true, true, true, true, true, true, true, true, true, true, true, true, true, true, true, true, true, true, true, true, true, true, true, true, true, true, true, true, true, true, true, true, true, true, true, true, true, true, true, true, true, true, true, true, true, true, true, true, true, true, true, true, true, true, true, true, true, true, true, true, true, true, true, true, true, true, true, true, true, true, true, true, true, true], [true, false, true, false, false, false, false, true, false, false, false, false, false, false, false, false, false, false, false, false, false, false, false, false, false, false, false, false, false, false, false, false, false, false, false, false, false, false, true, false, false, false, false, false, false, false, false, false, false, false, false, false, false, false, false, false, false, false, false, false, false, false, false, false, false, false, false, false, false, false, false, false, false, false, false, false, false, false, false, false, false, false, false, false, false, false, false, false, false, false, false, false, false, false, false, false, false, false, false, false, false, false, false, false, false, false, false, false, false, false, false, false, false, false, false, false, false, false, false, false, false, false, false, false, false, false, false, false, false, false, false, false, false, false, false, false, false, false, false, false, false, false, false, false, false, false, false, false, false, false, false, false, false, false, false, false, false, false, false, false, false, false, false, false, false, false, false], [true, true, true, false, false, false, false, true, true, false, false, false, false, false, false, false, false, false, false, false, false, false, false, false, false, false, false, false, false, false, false, false, false, false, false, false, false, false, true, false, false, false, false, false, false, false, false, false, false, false, false, false, false, false, false, false, false, false, false, false, false, false, false, false, false, false, false, false, false, false, false, false, false, false, false, false, false, false, false, false, false, false, false, false, false, false, false, false, false, false, false, false, false, false, false, false, false, false, false, false, false, false, false, false, false, false, false, false, false, false, false, false, false, false, false, false, false, false, false, false, false, false, false, false, false, false, false, false, false, false, false, false, false, false, false, false, false, false, false, false, false, false, false, false, false, false, false, false, false, false, false, false, false, false, false, false, false, false, false, false, false, false, false, false, false, false, false], [true, false, true, false, false, false, false, true, false, false, false, false, false, false, false, false, false, false, false, false, false, false, false, false, false, false, false, false, false, false, false, false, false, false, false, false, false, false, true, false, false, false, false, false, false, false, false, false, false, false, false, false, false, false, false, false, false, false, false, false, false, false, false, false, false, false, false, false, false, false, false, false, false, false, false, false, false, false, false, false, false, false, false, false, false, false, false, false, false, false, false, false, false, false, false, false, false, false, false, false, false, false, false, false, false, false, false, false, false, false, false, false, false, false, false, false, false, false, false, false, false, false, false, false, false, false, false, false, false, false, false, false, false, false, false, false, false, false, false, false, false, false, false, false, false, false, false, false, false, false, false, false, false, false, false, false, false, false, false, false, false, false, false, false, false, false, false], [true, true, true, false, false, false, false, true, true, false, false, false, false, false, false, false, false, false, false, false, false, false, false, false, false, false, false, false, false, false, false, false, false, false, false, false, false, false, true, false, false, false, false, false, false, false, false, false, false, false, false, false, false, false, false, false, false, false, false, false, false, false, false, false, false, false, false, false, false, false, false, false, false, false, false, false, false, false, false, false, false, false, false, false, false, false, false, false, false, false, false, false, false, false, false, false, false, false, false, false, false, false, false, false, false, false, false, false, false, false, false, false, false, false, false, false, false, false, false, false, false, false, false, false, false, false, false, false, false, false, false, false, false, false, false, false, false, false, false, false, false, false, false, false, false, false, false, false, false, false, false, false, false, false, false, false, false, false, false, false, false, false, false, false, false, false, false], [true, true, true, true, true, true, true, true, true, true, true, true, true, true, true, true, true, true, true, true, true, true, true, true, true, true, true, true, true, true, true, true, true, true, true, true, true, true, true, true, true, true, true, true, true, true, true, true, true, true, true, true, true, true, true, true, true, true, true, true, true, true, true, true, true, true, true, true, true, true, true, true, true, true, true, true, true, true, true, true, true, true, true, true, true, true, true, true, true, true, true, true, true, true, true, true, true, true, true, true, true, true, true, true, true, true, true, true, true, true, true, true, true, true, true, true, true, true, true, true, true, true, true, true, true, true, true, true, true, true, true, true, true, true, true, true, true, true, true, true, true, true, true, true, true, true, true, true, true, true, true, true, true, true, true, true, true, true, true, true, true, true, true, true, true, true, true]]
@[simp] def r9 : List Bool := [true, true, true, true, true, true, true, true, true, true, true, true, true, true, true, true, true, true, true, true, true, true, true, true, true, true, true, true, true, true, true, true, true, true, true, true, true, true, true, true, true, true, true, true, true, true, true, true, true, true, true, true, true, true, true, true, true, true, true, true, true, true, true, true, true, true, true, true, true, true, true, true, true, true, true, true, true, true, true, true, true, true, true, true, true, true, true, true, true, true, true, true, true, true, true, true, true, true, true, true, true, true, true, true, true, true, true, true, true, true, true, true, true, true, true, true, true, true, true, true, true, true, true, true, true, true, true, true, true, true, true, true, true, true, true, true, true, true, true, true, true, true, true, true, true, true, true, true, true, true, true, true, true, true, true, true, true, true, true, true, true, true, true, true, true, true, true]
@[simp] def R9 (s0 s1 s2 s3 s4 s5 s6 s7 s8 s9 s10 s11 s12 s13 s14 s15 s16 s17 s18 s19 s20 s21 s22 s23 s24 s25 s26 s27 s28 s29 s30 s31 s32 s33 s34 s35 s36 s37 s38 s39 s40 s41 s42 s43 s44 s45 s46 s47 s48 s49 s50 s51 s52 s53 s54 s55 s56 s57 s58 s59 s60 s61 s62 s63 s64 s65 s66 s67 s68 s69 s70 s71 s72 s73 s74 s75 s76 s77 s78 s79 s80 s81 s82 s83 s84 s85 s86 s87 s88 s89 s90 s91 s92 s93 s94 s95 s96 s97 s98 s99 s100 s101 s102 s103 s104 s105 s106 s107 s108 s109 s110 s111 s112 s113 s114 s115 s116 s117 s118 s119 s120 s121 s122 s123 s124 s125 s126 s127 s128 s129 s130 s131 s132 s133 s134 s135 s136 s137 s138 s139 s140 s141 s142 s143 s144 s145 s146 s147 s148 s149 s150 s151 s152 s153 s154 s155 s156 s157 s158 s159 s160 s161 s162 s163 s164 s165 s166 : V) : St := [s0, s1, s2, s3, s4, s5, s6, s7, s8, s9, s10, s11, s12, s13, s14, s15, s16, s17, s18, s19, s20, s21, s22, s23, s24, s25, s26, s27, s28, s29, s30, s31, s32, s33, s34, s35, s36, s37, s38, s39, s40, s41, s42, s43, s44, s45, s46, s47, s48, s49, s50, s51, s52, s53, s54, s55, s56, s57, s58, s59, s60, s61, s62, s63, s64, s65, s66, s67, s68, s69, s70, s71, s72, s73, s74, s75, s76, s77, s78, s79, s80, s81, s82, s83, s84, s85, s86, s87, s88, s89, s90, s91, s92, s93, s94, s95, s96, s97, s98, s99, s100, s101, s102, s103, s104, s105, s106, s107, s108, s109, s110, s111, s112, s113, s114, s115, s116, s117, s118, s119, s120, s121, s122, s123, s124, s125, s126, s127, s128, s129, s130, s131, s132, s133, s134, s135, s136, s137, s138, s139, s140, s141, s142, s143, s144, s145, s146, s147, s148, s149, s150, s151, s152, s153, s154, s155, s156, s157, s158, s159, s160, s161, s162, s163, s164, s165, s166]
@[simp] def x9_0 : List Bool := [true, false, true, false, false, false, false, true, false, false, false, false, false, false, false, false, false, false, false, false, false, false, false, false, false, false, false, false, false, false, false, false, false, false, false, false, false, false, true, false, false, false, false, false, false, false, false, false, false, false, false, false, false, false, false, false, false, false, false, false, false, false, false, false, false, false, false, false, false, false, false, false, false, false, false, false, false, false, false, false, false, false, false, false, false, false, false, false, false, false, false, false, false, false, false, false, false, false, false, false, false, false, false, false, false, false, false, false, false, false, false, false, false, false, false, false, false, false, false, false, false, false, false, false, false, false, false, false, false, false, false, false, false, false, false, false, false, false, false, false, false, false, false, false, false, false, false, false, false, false, false, false, false, false, false, false, false, false, false, false, false, false, false, false, false, false, false]
@[simp] def X9_0 (s0 s2 s7 s38 : V) : St := [s0, .dead, s2, .dead, .dead, .dead, .dead, s7, .dead, .dead, .dead, .dead, .dead, .dead, .dead, .dead, .dead, .dead, .dead, .dead, .dead, .dead, .dead, .dead, .dead, .dead, .dead, .dead, .dead, .dead, .dead, .dead, .dead, .dead, .dead, .dead, .dead, .dead, s38, .dead, .dead, .dead, .dead, .dead, .dead, .dead, .dead, .dead, .dead, .dead, .dead, .dead, .dead, .dead, .dead, .dead, .dead, .dead, .dead, .dead, .dead, .dead, .dead, .dead, .dead, .dead, .dead, .dead, .dead, .dead, .dead, .dead, .dead, .dead, .dead, .dead, .dead, .dead, .dead, .dead, .dead, .dead, .dead, .dead, .dead, .dead, .dead, .dead, .dead, .dead, .dead, .dead, .dead, .dead, .dead, .dead, .dead, .dead, .dead, .dead, .dead, .dead, .dead, .dead, .dead, .dead, .dead, .dead, .dead, .dead, .dead, .dead, .dead, .dead, .dead, .dead, .dead, .dead, .dead, .dead, .dead, .dead, .dead, .dead, .dead, .dead, .dead, .dead, .dead, .dead, .dead, .dead, .dead, .dead, .dead, .dead, .dead, .dead, .dead, .dead, .dead, .dead, .dead, .dead, .dead, .dead, .dead, .dead, .dead, .dead, .dead, .dead, .dead, .dead, .dead, .dead, .dead, .dead, .dead, .dead, .dead, .dead, .dead, .dead, .dead, .dead, .dead]
@[simp] def h9_0 : List Bool := [true, true, true, false, false, false, false, true, true, false, false, false, false, false, false, false, false, false, false, false, false, false, false, false, false, false, false, false, false, false, false, false, false, false, false, false, false, false, true, false, false, false, false, false, false, false, false, false, false, false, false, false, false, false, false, false, false, false, false, false, false, false, false, false, false, false, false, false, false, false, false, false, false, false, false, false, false, false, false, false, false, false, false, false, false, false, false, false, false, false, false, false, false, false, false, false, false, false, false, false, false, false, false, false, false, false, false, false, false, false, false, false, false, false, false, false, false, false, false, false, false, false, false, false, false, false, false, false, false, false, false, false, false, false, false, false, false, false, false, false, false, false, false, false, false, false, false, false, false, false, false, false, false, false, false, false, false, false, false, false, false, false, false, false, false, false, false]
@[simp] def L9_0 (s0 s1 s2 s7 s8 s38 : V) : St := [s0, s1, s2, .dead, .dead, .dead, .dead, s7, s8, .dead, .dead, .dead, .dead, .dead, .dead, .dead, .dead, .dead, .dead, .dead, .dead, .dead, .dead, .dead, .dead, .dead, .dead, .dead, .dead, .dead, .dead, .dead, .dead, .dead, .dead, .dead, .dead, .dead, s38, .dead, .dead, .dead, .dead, .dead, .dead, .dead, .dead, .dead, .dead, .dead, .dead, .dead, .dead, .dead, .dead, .dead, .dead, .dead, .dead, .dead, .dead, .dead, .dead, .dead, .dead, .dead, .dead, .dead, .dead, .dead, .dead, .dead, .dead, .dead, .dead, .dead, .dead, .dead, .dead, .dead, .dead, .dead, .dead, .dead, .dead, .dead, .dead, .dead, .dead, .dead, .dead, .dead, .dead, .dead, .dead, .dead, .dead, .dead, .dead, .dead, .dead, .dead, .dead, .dead, .dead, .dead, .dead, .dead, .dead, .dead, .dead, .dead, .dead, .dead, .dead, .dead, .dead, .dead, .dead, .dead, .dead, .dead, .dead, .dead, .dead, .dead, .dead, .dead, .dead, .dead, .dead, .dead, .dead, .dead, .dead, .dead, .dead, .dead, .dead, .dead, .dead, .dead, .dead, .dead, .dead, .dead, .dead, .dead, .dead, .dead, .dead, .dead, .dead, .dead, .dead, .dead, .dead, .dead, .dead, .dead, .dead, .dead, .dead, .dead, .dead, .dead, .dead]
@[simp] def x9_1 : List Bool := [true, true, true, false, false, false, false, true, true, false, false, false, false, false, false, false, false, false, false, false, false, false, false, false, false, false, false, false, false, false, false, false, false, false, false, false, false, false, true, false, false, false, false, false, false, false, false, false, false, false, false, false, false, false, false, false, false, false, false, false, false, false, false, false, false, false, false, false, false, false, false, false, false, false, false, false, false, false, false, false, false, false, false, false, false, false, false, false, false, false, false, false, false, false, false, false, false, false, false, false, false, false, false, false, false, false, false, false, false, false, false, false, false, false, false, false, false, false, false, false, false, false, false, false, false, false, false, false, false, false, false, false, false, false, false, false, false, false, false, false, false, false, false, false, false, false, false, false, false, false, false, false, false, false, false, false, false, false, false, false, false, false, false, false, false, false, false]
@[simp] def X9_1 (s0 s1 s2 s7 s8 s38 : V) : St := [s0, s1, s2, .dead, .dead, .dead, .dead, s7, s8, .dead, .dead, .dead, .dead, .dead, .dead, .dead, .dead, .dead, .dead, .dead, .dead, .dead, .dead, .dead, .dead, .dead, .dead, .dead, .dead, .dead, .dead, .dead, .dead, .dead, .dead, .dead, .dead, .dead, s38, .dead, .dead, .dead, .dead, .dead, .dead, .dead, .dead, .dead, .dead, .dead, .dead, .dead, .dead, .dead, .dead, .dead, .dead, .dead, .dead, .dead, .dead, .dead, .dead, .dead, .dead, .dead, .dead, .dead, .dead, .dead, .dead, .dead, .dead, .dead, .dead, .dead, .dead, .dead, .dead, .dead, .dead, .dead, .dead, .dead, .dead, .dead, .dead, .dead, .dead, .dead, .dead, .dead, .dead, .dead, .dead, .dead, .dead, .dead, .dead, .dead, .dead, .dead, .dead, .dead, .dead, .dead, .dead, .dead, .dead, .dead, .dead, .dead, .dead, .dead, .dead, .dead, .dead, .dead, .dead, .dead, .dead, .dead, .dead, .dead, .dead, .dead, .dead, .dead, .dead, .dead, .dead, .dead, .dead, .dead, .dead, .dead, .dead, .dead, .dead, .dead, .dead, .dead, .dead, .dead, .dead, .dead, .dead, .dead, .dead, .dead, .dead, .dead, .dead, .dead, .dead, .dead, .dead, .dead, .dead, .dead, .dead, .dead, .dead, .dead, .dead, .dead, .dead]
def b9_0 : MC := .seq (.scr h9_0)
 (.seq (.seq (.ops [⟨none, .mv 39 (.t 8)⟩,
    ⟨none, .mv 40 (.t 7)⟩,
    ⟨none, .len 41 false (.t 40)⟩,
    ⟨none, .bin 42 .lss .num (.t 39) (.t 41)⟩,
    ⟨none, .mv 43 (.t 42)⟩,
    ⟨some (43, true), .mv 44 (.t 8)⟩,
    ⟨some (43, true), .mv 45 (.t 1)⟩,
    ⟨some (43, true), .len 46 false (.t 45)⟩,
    ⟨some (43, true), .bin 47 .lss .num (.t 44) (.t 46)⟩,
    ⟨none, .pick 48 (.t 43) (.t 47) (.c (.v (.bool false)))⟩])
  (.cnd (.t 48)
   .skip
   (.seq (.scr x9_0) (.ex 0))))
 (.seq (.seq (.blk 1 (.seq (.ops [⟨none, .mv 51 (.t 8)⟩,
     ⟨none, .mv 52 (.t 1)⟩,
     ⟨none, .mv 53 (.t 8)⟩,
     ⟨none, .ixs 54 1 (.t 52) (.t 53)⟩,
     ⟨none, .ld1 55 (.t 54)⟩,
     ⟨none, .cvi 56 .i64 (.t 55)⟩,
     ⟨none, .mv 57 (.t 7)⟩,
     ⟨none, .len 58 false (.t 57)⟩,
     ⟨none, .mv 59 (.t 8)⟩,
     ⟨none, .bin 60 .sub .num (.t 58) (.t 59)⟩,
     ⟨none, .bin 61 .rem .num (.t 56) (.t 60)⟩,
     ⟨none, .bin 62 .add .num (.t 51) (.t 61)⟩,
     ⟨none, .asg 9 (.t 62)⟩])
   (.drw [⟨none, .mv 63 (.t 7)⟩,
    ⟨none, .mv 64 (.t 8)⟩,
    ⟨none, .mv 65 (.t 7)⟩,
    ⟨none, .mv 66 (.t 9)⟩,
    ⟨none, .mv 67 (.t 7)⟩,
    ⟨none, .mv 68 (.t 9)⟩,
    ⟨none, .mv 71 (.t 7)⟩,
    ⟨none, .mv 72 (.t 8)⟩,
    ⟨none, .ixs 69 1 (.t 67) (.t 68)⟩,
    ⟨none, .ld1 70 (.t 69)⟩,
    ⟨none, .ixs 73 1 (.t 71) (.t 72)⟩,
    ⟨none, .ld1 74 (.t 73)⟩] [⟨none, .ixs 75 1 (.t 63) (.t 64)⟩,
    ⟨none, .stn none 1 (.t 75) (.t 70)⟩,
    ⟨none, .ixs 76 1 (.t 65) (.t 66)⟩,
    ⟨none, .stn none 1 (.t 76) (.t 74)⟩]))) (.scr x9_1))
 (.ops [⟨none, .mv 49 (.t 8)⟩,
  ⟨none, .bin 50 .add .num (.t 49) (.c (.v (.int .i64 1)))⟩,
  ⟨none, .asg 8 (.t 50)⟩])))
def c9 : MF := ⟨(.seq (.ops [⟨none, .asg 6 (.c (.v (.bool false)))⟩])
 (.seq (.seq (.ops [⟨none, .call (some 28) 12 []⟩,
    ⟨none, .un 29 .not (.t 28)⟩,
    ⟨none, .mv 30 (.t 29)⟩,
    ⟨some (30, false), .mv 31 (.t 0)⟩,
    ⟨some (30, false), .call (some 32) 16 [(.t 31)]⟩,
    ⟨some (30, false), .un 33 .not (.t 32)⟩,
    ⟨none, .pick 34 (.t 30) (.c (.v (.bool true))) (.t 33)⟩])
  (.cnd (.t 34)
   (.seq (.ops [⟨none, .call (some 35) 12 []⟩,
     ⟨none, .asg 6 (.t 35)⟩])
   (.seq (.scr r9) .ret))
   .skip))
 (.seq (.ops [⟨none, .bs 36 1 0 [] []⟩,
   ⟨none, .mv 37 (.t 0)⟩,
   ⟨none, .app 38 1 (.t 36) (.t 37)⟩,
   ⟨none, .asg 7 (.t 38)⟩])
 (.seq (.seq (.ops [⟨none, .asg 8 (.c (.v (.int .i64 0)))⟩])
  (.seq (.blk 0 (.lop b9_0)) (.scr x9_0)))
 (.seq (.ops [⟨none, .mv 78 (.t 0)⟩,
   ⟨none, .call (some 79) 17 [(.t 78)]⟩,
   ⟨none, .mv 77 (.t 79)⟩,
   ⟨none, .ext 80 (.t 77) 0⟩,
   ⟨none, .ext 81 (.t 77) 1⟩,
   ⟨none, .ext 82 (.t 77) 2⟩,
   ⟨none, .asg 10 (.t 80)⟩,
   ⟨none, .asg 11 (.t 81)⟩,
   ⟨none, .asg 12 (.t 82)⟩])
 (.seq (.ops [⟨none, .mv 84 (.t 7)⟩,
   ⟨none, .call (some 85) 17 [(.t 84)]⟩,
   ⟨none, .mv 83 (.t 85)⟩,
   ⟨none, .ext 86 (.t 83) 0⟩,
   ⟨none, .ext 87 (.t 83) 1⟩,
   ⟨none, .ext 88 (.t 83) 2⟩,
   ⟨none, .asg 13 (.t 86)⟩,
   ⟨none, .asg 14 (.t 87)⟩,
   ⟨none, .asg 15 (.t 88)⟩])
 (.seq (.ops [⟨none, .mv 90 (.t 0)⟩,
   ⟨none, .call (some 91) 19 [(.t 90)]⟩,
   ⟨none, .mv 89 (.t 91)⟩,
   ⟨none, .ext 92 (.t 89) 0⟩,
   ⟨none, .ext 93 (.t 89) 1⟩,
   ⟨none, .ext 94 (.t 89) 2⟩,
   ⟨none, .asg 16 (.t 92)⟩,
   ⟨none, .asg 17 (.t 93)⟩,
   ⟨none, .asg 18 (.t 94)⟩])
 (.seq (.ops [⟨none, .mv 96 (.t 7)⟩,
   ⟨none, .call (some 97) 19 [(.t 96)]⟩,
   ⟨none, .mv 95 (.t 97)⟩,
   ⟨none, .ext 98 (.t 95) 0⟩,
   ⟨none, .ext 99 (.t 95) 1⟩,
   ⟨none, .ext 100 (.t 95) 2⟩,
   ⟨none, .asg 19 (.t 98)⟩,
   ⟨none, .asg 20 (.t 99)⟩,
   ⟨none, .asg 21 (.t 100)⟩])
 (.seq (.ops [⟨none, .mv 102 (.t 0)⟩,
   ⟨none, .mv 103 (.t 2)⟩,
   ⟨none, .call (some 104) 23 [(.t 102), (.t 103)]⟩,
   ⟨none, .mv 101 (.t 104)⟩,
   ⟨none, .ext 105 (.t 101) 0⟩,
   ⟨none, .ext 106 (.t 101) 1⟩,
   ⟨none, .ext 107 (.t 101) 2⟩,
   ⟨none, .asg 22 (.t 105)⟩,
   ⟨none, .asg 23 (.t 106)⟩,
   ⟨none, .asg 24 (.t 107)⟩])
 (.seq (.ops [⟨none, .mv 109 (.t 7)⟩,
   ⟨none, .mv 110 (.t 2)⟩,
   ⟨none, .call (some 111) 23 [(.t 109), (.t 110)]⟩,
   ⟨none, .mv 108 (.t 111)⟩,
   ⟨none, .ext 112 (.t 108) 0⟩,
   ⟨none, .ext 113 (.t 108) 1⟩,
   ⟨none, .ext 114 (.t 108) 2⟩,
   ⟨none, .asg 25 (.t 112)⟩,
   ⟨none, .asg 26 (.t 113)⟩,
   ⟨none, .asg 27 (.t 114)⟩])
 (.seq (.ops [⟨none, .mv 115 (.t 10)⟩,
   ⟨none, .mv 116 (.t 13)⟩,
   ⟨none, .bin 117 .eql .num (.t 115) (.t 116)⟩,
   ⟨none, .mv 118 (.t 117)⟩,
   ⟨some (118, true), .mv 119 (.t 11)⟩,
   ⟨some (118, true), .mv 120 (.t 14)⟩,
   ⟨some (118, true), .bin 121 .eql .num (.t 119) (.t 120)⟩,
   ⟨none, .pick 122 (.t 118) (.t 121) (.c (.v (.bool false)))⟩,
   ⟨none, .mv 123 (.t 122)⟩,
   ⟨some (123, true), .mv 124 (.t 12)⟩,
   ⟨some (123, true), .mv 125 (.t 15)⟩,
   ⟨some (123, true), .bin 126 .eql .num (.t 124) (.t 125)⟩,
   ⟨none, .pick 127 (.t 123) (.t 126) (.c (.v (.bool false)))⟩,
   ⟨none, .mv 128 (.t 127)⟩,
   ⟨some (128, true), .mv 129 (.t 16)⟩,
   ⟨some (128, true), .mv 130 (.t 19)⟩,
   ⟨some (128, true), .bin 131 .eql .num (.t 129) (.t 130)⟩,
   ⟨none, .pick 132 (.t 128) (.t 131) (.c (.v (.bool false)))⟩,
   ⟨none, .mv 133 (.t 132)⟩,
   ⟨some (133, true), .mv 134 (.t 17)⟩,
   ⟨some (133, true), .mv 135 (.t 20)⟩,
   ⟨some (133, true), .bin 136 .eql .num (.t 134) (.t 135)⟩,
   ⟨none, .pick 137 (.t 133) (.t 136) (.c (.v (.bool false)))⟩,
   ⟨none, .mv 138 (.t 137)⟩,
   ⟨some (138, true), .mv 139 (.t 18)⟩,
   ⟨some (138, true), .mv 140 (.t 21)⟩,
   ⟨some (138, true), .bin 141 .eql .num (.t 139) (.t 140)⟩,
   ⟨none, .pick 142 (.t 138) (.t 141) (.c (.v (.bool false)))⟩,
   ⟨none, .mv 143 (.t 142)⟩,
   ⟨some (143, true), .mv 144 (.t 22)⟩,
   ⟨some (143, true), .mv 145 (.t 25)⟩,
   ⟨some (143, true), .bin 146 .eql .num (.t 144) (.t 145)⟩,
   ⟨none, .pick 147 (.t 143) (.t 146) (.c (.v (.bool false)))⟩,
   ⟨none, .mv 148 (.t 147)⟩,
   ⟨some (148, true), .mv 149 (.t 23)⟩,
   ⟨some (148, true), .mv 150 (.t 26)⟩,
   ⟨some (148, true), .bin 151 .eql .num (.t 149) (.t 150)⟩,
   ⟨none, .pick 152 (.t 148) (.t 151) (.c (.v (.bool false)))⟩,
   ⟨none, .mv 153 (.t 152)⟩,
   ⟨some (153, true), .mv 154 (.t 24)⟩,
   ⟨some (153, true), .mv 155 (.t 27)⟩,
   ⟨some (153, true), .bin 156 .eql .num (.t 154) (.t 155)⟩,
   ⟨none, .pick 157 (.t 153) (.t 156) (.c (.v (.bool false)))⟩,
   ⟨none, .mv 158 (.t 157)⟩,
   ⟨some (158, true), .mv 159 (.t 0)⟩,
   ⟨some (158, true), .mv 160 (.t 2)⟩,
   ⟨some (158, true), .call (some 161) 22 [(.t 159), (.t 160)]⟩,
   ⟨some (158, true), .mv 162 (.t 7)⟩,
   ⟨some (158, true), .mv 163 (.t 2)⟩,
   ⟨some (158, true), .call (some 164) 22 [(.t 162), (.t 163)]⟩,
   ⟨some (158, true), .bin 165 .eql .bool (.t 161) (.t 164)⟩,
   ⟨none, .pick 166 (.t 158) (.t 165) (.c (.v (.bool false)))⟩,
   ⟨none, .asg 6 (.t 166)⟩])
 (.seq (.scr r9) .ret)))))))))))),
  167, [6]⟩

/-- coinage/coinagelaw10.AxisCounts -/
def hints10 : List (List Bool) := [[false, false, false, false, true, false, false, false, false, false, false, false, false, false, false, false, false, false, false, false, false, false, false, false, false, false, false, false, false, false, false, false, false, false, false, false, false, false, false, false, false, false, false, false, false, false, false, false, false, false, false, false, false, false, false, false, false, false, false, false, false], [false, false, false, false, true, false, false, false, false, false, false, false, false, false, false, false, false, false, false, false, false, false, false, false, false, false, false, false, false, false, false, false, false, false, false, false, false, false, false, false, false, false, false, false, false, false, false, false, false, false, false, false, false, false, false, false, false, false, false, false, false]]
@[simp] def r10 : List Bool := [false, false, false, false, true, false, false, false, false, false, false, false, false, false, false, false, false, false, false, false, false, false, false, false, false, false, false, false, false, false, false, false, false, false, false, false, false, false, false, false, false, false, false, false, false, false, false, false, false, false, false, false, false, false, false, false, false, false, false, false, false]
@[simp] def R10 (s4 : V) : St := [.dead, .dead, .dead, .dead, s4, .dead, .dead, .dead, .dead, .dead, .dead, .dead, .dead, .dead, .dead, .dead, .dead, .dead, .dead, .dead, .dead, .dead, .dead, .dead, .dead, .dead, .dead, .dead, .dead, .dead, .dead, .dead, .dead, .dead, .dead, .dead, .dead, .dead, .dead, .dead, .dead, .dead, .dead, .dead, .dead, .dead, .dead, .dead, .dead, .dead, .dead, .dead, .dead, .dead, .dead, .dead, .dead, .dead, .dead, .dead, .dead]
def c10 : MF := ⟨(.seq (.ops [⟨none, .asg 4 (.c (.v (.bool false)))⟩])
 (.seq (.seq (.ops [⟨none, .call (some 13) 12 []⟩,
    ⟨none, .un 14 .not (.t 13)⟩,
    ⟨none, .mv 15 (.t 14)⟩,
    ⟨some (15, false), .mv 16 (.t 0)⟩,
    ⟨some (15, false), .call (some 17) 16 [(.t 16)]⟩,
    ⟨some (15, false), .un 18 .not (.t 17)⟩,
    ⟨none, .pick 19 (.t 15) (.c (.v (.bool true))) (.t 18)⟩])
  (.cnd (.t 19)
   (.seq (.ops [⟨none, .call (some 20) 12 []⟩,
     ⟨none, .asg 4 (.t 20)⟩])
   (.seq (.scr r10) .ret))
   .skip))
 (.seq (.ops [⟨none, .mv 22 (.t 0)⟩,
   ⟨none, .call (some 23) 26 [(.t 22)]⟩,
   ⟨none, .mv 21 (.t 23)⟩,
   ⟨none, .ext 24 (.t 21) 0⟩,
   ⟨none, .ext 25 (.t 21) 1⟩,
   ⟨none, .asg 5 (.t 24)⟩,
   ⟨none, .asg 6 (.t 25)⟩])
 (.seq (.ops [⟨none, .mv 27 (.t 0)⟩,
   ⟨none, .call (some 28) 27 [(.t 27)]⟩,
   ⟨none, .mv 26 (.t 28)⟩,
   ⟨none, .ext 29 (.t 26) 0⟩,
   ⟨none, .ext 30 (.t 26) 1⟩,
   ⟨none, .asg 7 (.t 29)⟩,
   ⟨none, .asg 8 (.t 30)⟩])
 (.seq (.ops [⟨none, .mv 32 (.t 0)⟩,
   ⟨none, .mv 33 (.t 1)⟩,
   ⟨none, .call (some 34) 28 [(.t 32), (.t 33)]⟩,
   ⟨none, .mv 31 (.t 34)⟩,
   ⟨none, .ext 35 (.t 31) 0⟩,
   ⟨none, .ext 36 (.t 31) 1⟩,
   ⟨none, .asg 9 (.t 35)⟩,
   ⟨none, .asg 10 (.t 36)⟩])
 (.seq (.ops [⟨none, .mv 38 (.t 0)⟩,
   ⟨none, .mv 39 (.t 1)⟩,
   ⟨none, .call (some 40) 29 [(.t 38), (.t 39)]⟩,
   ⟨none, .mv 37 (.t 40)⟩,
   ⟨none, .ext 41 (.t 37) 0⟩,
   ⟨none, .ext 42 (.t 37) 1⟩,
   ⟨none, .asg 11 (.t 41)⟩,
   ⟨none, .asg 12 (.t 42)⟩])
 (.seq (.ops [⟨none, .mv 43 (.t 5)⟩,
   ⟨none, .mv 44 (.t 7)⟩,
   ⟨none, .call (some 45) 30 [(.t 43), (.t 44)]⟩,
   ⟨none, .mv 46 (.t 45)⟩,
   ⟨some (46, true), .mv 47 (.t 6)⟩,
   ⟨some (46, true), .mv 48 (.t 8)⟩,
   ⟨some (46, true), .bin 49 .eql .num (.t 47) (.t 48)⟩,
   ⟨none, .pick 50 (.t 46) (.t 49) (.c (.v (.bool false)))⟩,
   ⟨none, .mv 51 (.t 50)⟩,
   ⟨some (51, true), .mv 52 (.t 9)⟩,
   ⟨some (51, true), .mv 53 (.t 11)⟩,
   ⟨some (51, true), .call (some 54) 30 [(.t 52), (.t 53)]⟩,
   ⟨none, .pick 55 (.t 51) (.t 54) (.c (.v (.bool false)))⟩,
   ⟨none, .mv 56 (.t 55)⟩,
   ⟨some (56, true), .mv 57 (.t 10)⟩,
   ⟨some (56, true), .mv 58 (.t 12)⟩,
   ⟨some (56, true), .bin 59 .eql .num (.t 57) (.t 58)⟩,
   ⟨none, .pick 60 (.t 56) (.t 59) (.c (.v (.bool false)))⟩,
   ⟨none, .asg 4 (.t 60)⟩])
 (.seq (.scr r10) .ret)))))))),
  61, [4]⟩

/-- coinage/coinagelaw10.AxisTurns -/
def hints11 : List (List Bool) := [[false, false, false, false, false, false, true, false, false, false, false, false, false, false, false, false, false, false, false, false, false, false, false, false, false, false, false, false, false, false, false, false, false, false, false, false, false, false, false, false, false, false, false, false, false, false, false, false, false, false, false, false, false, false, false, false, false, false, false, false, false, false, false, false, false, false, false, false, false, false, false, false, false, false, false, false, false, false, false, false, false, false, false, false, false, false, false, false, false, false, false, false, false, false, false, false, false, false, false, false, false, false, false, false, false, false, false, false, false, false, false, false, false, false, false, false, false, false, false, false, false, false, false, false, false, false, false, false, false, false, false, false, false, false, false, false, false, false, false, false, false, false, false, false, false, false, false, false, false, false, false, false, false, false, false, false, false, false, false, false, false, false, false, false, false, false, false, false, false, false, false, false, false, false, false, false, false, false, false, false, false, false, false], [false, false, false, false, false, false, true, false, false, false, false, false, false, false, false, false, false, false, false, false, false, false, false, false, false, false, false, false, false, false, false, false, false, false, false, false, false, false, false, false, false, false, false, false, false, false, false, false, false, false, false, false, false, false, false, false, false, false, false, false, false, false, false, false, false, false, false, false, false, false, false, false, false, false, false, false, false, false, false, false, false, false, false, false, false, false, false, false, false, false, false, false, false, false, false, false, false, false, false, false, false, false, false, false, false, false, false, false, false, false, false, false, false, false, false, false, false, false, false, false, false, false, false, false, false, false, false, false, false, false, false, false, false, false, false, false, false, false, false, false, false, false, false, false, false, false, false, false, false, false, false, false, false, false, false, false, false, false, false, false, false, false, false, false, false, false, false, false, false, false, false, false, false, false, false, false, false, false, false, false, false, false, false], [false, false, false, false, false, false, true, false, false, false, false, false, false, false, false, false, false, false, false, false, false, false, false, false, false, false, false, false, false, false, false, false, false, false, false, false, false, false, false, false, false, false, false, false, false, false, false, false, false, false, false, false, false, false, false, false, false, false, false, false, false, false, false, false, false, false, false, false, false, false, false, false, false, false, false, false, false, false, false, false, false, false, false, false, false, false, false, false, false, false, false, false, false, false, false, false, false, false, false, false, false, false, false, false, false, false, false, false, false, false, false, false, false, false, false, false, false, false, false, false, false, false, false, false, false, false, false, false, false, false, false, false, false, false, false, false, false, false, false, false, false, false, false, false, false, false, false, false, false, false, false, false, false, false, false, false, false, false, false, false, false, false, false, false, false, false, false, false, false, false, false, false, false, false, false, false, false, false, false, false, false, false, false], [false, false, false, false, false, false, true, false, false, false, false, false, false, false, false, false, false, false, false, false, false, false, false, false, false, false, false, false, false, false, false, false, false, false, false, false, false, false, false, false, false, false, false, false, false, false, false, false, false, false, false, false, false, false, false, false, false, false, false, false, false, false, false, false, false, false, false, false, false, false, false, false, false, false, false, false, false, false, false, false, false, false, false, false, false, false, false, false, false, false, false, false, false, false, false, false, false, false, false, false, false, false, false, false, false, false, false, false, false, false, false, false, false, false, false, false, false, false, false, false, false, false, false, false, false, false, false, false, false, false, false, false, false, false, false, false, false, false, false, false, false, false, false, false, false, false, false, false, false, false, false, false, false, false, false, false, false, false, false, false, false, false, false, false, false, false, false, false, false, false, false, false, false, false, false, false, false, false, false, false, false, false, false], [true, true, false, false, false, false, false, true, false, false, false, false, false, false, false, false, false, false, false, false, false, false, false, false, false, false, false, false, false, false, false, false, false, false, false, false, false, false, false, false, false, false, true, false, false, true, true, false, false, false, false, false, false, false, false, false, false, false, false, false, false, false, false, false, false, false, false, false, false, false, false, false, false, false, false, false, false, false, false, false, false, false, false, false, false, false, false, false, false, false, false, false, false, false, false, false, false, false, false, false, false, false, false, false, false, false, false, false, false, false, false, false, false, false, false, false, false, false, false, false, false, false, false, false, false, false, false, false, false, false, false, false, false, false, false, false, false, false, false, false, false, false, false, false, false, false, false, false, false, false, false, false, false, false, false, false, false, false, false, false, false, false, false, false, false, false, false, false, false, false, false, false, false, false, false, false, false, false, false, false, false, false, false], [true, true, false, false, false, false, false, true, false, false, false, false, false, false, false, false, false, false, false, false, false, false, false, false, false, false, false, true, false, true, false, true, false, false, false, false, false, false, false, false, false, false, true, false, false, true, true, false, false, false, false, false, false, false, false, false, false, false, false, false, false, false, false, false, false, false, false, false, false, false, false, false, false, false, false, false, false, false, false, false, false, false, false, false, false, false, false, false, false, false, false, false, false, false, false, false, false, false, false, false, false, false, false, false, false, false, false, false, false, false, false, false, false, false, false, false, false, false, false, false, false, false, false, false, false, false, false, false, false, false, false, false, false, true, false, true, true, false, true, false, true, true, false, false, false, false, false, false, false, false, false, false, false, false, false, false, false, false, false, false, false, false, false, false, false, false, false, false, false, false, false, false, false, false, false, false, false, false, false, false, false, false, false], [true, true, false, false, false, false, false, true, false, false, false, false, false, false, false, false, false, false, false, false, false, false, false, false, false, false, false, false, false, false, false, false, false, false, false, false, false, false, false, false, false, false, true, false, false, true, true, false, false, false, false, false, false, false, false, false, false, false, false, false, false, false, false, false, false, false, false, false, false, false, false, false, false, false, false, false, false, false, false, false, false, false, false, false, false, false, false, false, false, false, false, false, false, false, false, false, false, false, false, false, false, false, false, false, false, false, false, false, false, false, false, false, false, false, false, false, false, false, false, false, false, false, false, false, false, false, false, false, false, false, false, false, false, false, false, false, false, false, false, false, false, false, false, false, false, false, false, false, false, false, false, false, false, false, false, false, false, false, false, false, false, false, false, false, false, false, false, false, false, false, false, false, false, false, false, false, false, false, false, false, false, false, false], [true, true, false, false, false, false, false, true, false, false, false, false, false, false, false, false, false, false, false, false, false, false, false, false, false, false, false, true, false, true, false, true, false, false, false, false, false, false, false, false, false, false, true, false, false, true, true, false, false, false, false, false, false, false, false, false, false, false, false, false, false, false, false, false, false, false, false, false, false, false, false, false, false, false, false, false, false, false, false, false, false, false, false, false, false, false, false, false, false, false, false, false, false, false, false, false, false, false, false, false, false, false, false, false, false, false, false, false, false, false, false, false, false, false, false, false, false, false, false, false, false, false, false, false, false, false, false, false, false, false, false, false, false, true, false, true, true, false, true, false, true, true, false, false, false, false, false, false, false, false, false, false, false, false, false, false, false, false, false, false, false, false, false, false, false, false, false, false, false, false, false, false, false, false, false, false, false, false, false, false, false, false, false], [false, false, false, false, false, false, true, false, false, false, false, false, false, false, false, false, false, false, false, false, false, false, false, false, false, false, false, false, false, false, false, false, false, false, false, false, false, false, false, false, false, false, false, false, false, false, false, false, false, false, false, false, false, false, false, false, false, false, false, false, false, false, false, false, false, false, false, false, false, false, false, false, false, false, false, false, false, false, false, false, false, false, false, false, false, false, false, false, false, false, false, false, false, false, false, false, false, false, false, false, false, false, false, false, false, false, false, false, false, false, false, false, false, false, false, false, false, false, false, false, false, false, false, false, false, false, false, false, false, false, false, false, false, false, false, false, false, false, false, false, false, false, false, false, false, false, false, false, false, false, false, false, false, false, false, false, false, false, false, false, false, false, false, false, false, false, false, false, false, false, false, false, false, false, false, false, false, false, false, false, false, false, false], [false, false, false, false, false, false, true, false, false, false, false, false, false, false, false, false, false, false, false, false, false, false, false, false, false, false, false, false, false, false, false, false, false, false, false, false, false, false, false, false, false, false, false, false, false, false, false, false, false, false, false, false, false, false, false, false, false, false, false, false, false, false, false, false, false, false, false, false, false, false, false, false, false, false, false, false, false, false, false, false, false, false, false, false, false, false, false, false, false, false, false, false, false, false, false, false, false, false, false, false, false, false, false, false, false, false, false, false, false, false, false, false, false, false, false, false, false, false, false, false, false, false, false, false, false, false, false, false, false, false, false, false, false, false, false, false, false, false, false, false, false, false, false, false, false, false, false, false, false, false, false, false, false, false, false, false, false, false, false, false, false, false, false, false, false, false, false, false, false, false, false, false, false, false, false, false, false, false, false, false, false, false, false]]
@[simp] def r11 : List Bool := [false, false, false, false, false, false, true, false, false, false, false, false, false, false, false, false, false, false, false, false, false, false, false, false, false, false, false, false, false, false, false, false, false, false, false, false, false, false, false, false, false, false, false, false, false, false, false, false, false, false, false, false, false, false, false, false, false, false, false, false, false, false, false, false, false, false, false, false, false, false, false, false, false, false, false, false, false, false, false, false, false, false, false, false, false, false, false, false, false, false, false, false, false, false, false, false, false, false, false, false, false, false, false, false, false, false, false, false, false, false, false, false, false, false, false, false, false, false, false, false, false, false, false, false, false, false, false, false, false, false, false, false, false, false, false, false, false, false, false, false, false, false, false, false, false, false, false, false, false, false, false, false, false, false, false, false, false, false, false, false, false, false, false, false, false, false, false, false, false, false, false, false, false, false, false, false, false, false, false, false, false, false, false]
@[simp] def R11 (s6 : V) : St := [.dead, .dead, .dead, .dead, .dead, .dead, s6, .dead, .dead, .dead, .dead, .dead, .dead, .dead, .dead, .dead, .dead, .dead, .dead, .dead, .dead, .dead, .dead, .dead, .dead, .dead, .dead, .dead, .dead, .dead, .dead, .dead, .dead, .dead, .dead, .dead, .dead, .dead, .dead, .dead, .dead, .dead, .dead, .dead, .dead, .dead, .dead, .dead, .dead, .dead, .dead, .dead, .dead, .dead, .dead, .dead, .dead, .dead, .dead, .dead, .dead, .dead, .dead, .dead, .dead, .dead, .dead, .dead, .dead, .dead, .dead, .dead, .dead, .dead, .dead, .dead, .dead, .dead, .dead, .dead, .dead, .dead, .dead, .dead, .dead, .dead, .dead, .dead, .dead, .dead, .dead, .dead, .dead, .dead, .dead, .dead, .dead, .dead, .dead, .dead, .dead, .dead, .dead, .dead, .dead, .dead, .dead, .dead, .dead, .dead, .dead, .dead, .dead, .dead, .dead, .dead, .dead, .dead, .dead, .dead, .dead, .dead, .dead, .dead, .dead, .dead, .dead, .dead, .dead, .dead, .dead, .dead, .dead, .dead, .dead, .dead, .dead, .dead, .dead, .dead, .dead, .dead, .dead, .dead, .dead, .dead, .dead, .dead, .dead, .dead, .dead, .dead, .dead, .dead, .dead, .dead, .dead, .dead, .dead, .dead, .dead, .dead, .dead, .dead, .dead, .dead, .dead, .dead, .dead, .dead, .dead, .dead, .dead, .dead, .dead, .dead, .dead, .dead, .dead, .dead, .dead, .dead, .dead]
@[simp] def x11_0 : List Bool := [true, true, false, false, false, false, false, true, false, false, false, false, false, false, false, false, false, false, false, false, false, false, false, false, false, false, false, false, false, false, false, false, false, false, false, false, false, false, false, false, false, false, true, false, false, true, true, false, false, false, false, false, false, false, false, false, false, false, false, false, false, false, false, false, false, false, false, false, false, false, false, false, false, false, false, false, false, false, false, false, false, false, false, false, false, false, false, false, false, false, false, false, false, false, false, false, false, false, false, false, false, false, false, false, false, false, false, false, false, false, false, false, false, false, false, false, false, false, false, false, false, false, false, false, false, false, false, false, false, false, false, false, false, false, false, false, false, false, false, false, false, false, false, false, false, false, false, false, false, false, false, false, false, false, false, false, false, false, false, false, false, false, false, false, false, false, false, false, false, false, false, false, false, false, false, false, false, false, false, false, false, false, false]
@[simp] def X11_0 (s0 s1 s7 s42 s45 s46 : V) : St := [s0, s1, .dead, .dead, .dead, .dead, .dead, s7, .dead, .dead, .dead, .dead, .dead, .dead, .dead, .dead, .dead, .dead, .dead, .dead, .dead, .dead, .dead, .dead, .dead, .dead, .dead, .dead, .dead, .dead, .dead, .dead, .dead, .dead, .dead, .dead, .dead, .dead, .dead, .dead, .dead, .dead, s42, .dead, .dead, s45, s46, .dead, .dead, .dead, .dead, .dead, .dead, .dead, .dead, .dead, .dead, .dead, .dead, .dead, .dead, .dead, .dead, .dead, .dead, .dead, .dead, .dead, .dead, .dead, .dead, .dead, .dead, .dead, .dead, .dead, .dead, .dead, .dead, .dead, .dead, .dead, .dead, .dead, .dead, .dead, .dead, .dead, .dead, .dead, .dead, .dead, .dead, .dead, .dead, .dead, .dead, .dead, .dead, .dead, .dead, .dead, .dead, .dead, .dead, .dead, .dead, .dead, .dead, .dead, .dead, .dead, .dead, .dead, .dead, .dead, .dead, .dead, .dead, .dead, .dead, .dead, .dead, .dead, .dead, .dead, .dead, .dead, .dead, .dead, .dead, .dead, .dead, .dead, .dead, .dead, .dead, .dead, .dead, .dead, .dead, .dead, .dead, .dead, .dead, .dead, .dead, .dead, .dead, .dead, .dead, .dead, .dead, .dead, .dead, .dead, .dead, .dead, .dead, .dead, .dead, .dead, .dead, .dead, .dead, .dead, .dead, .dead, .dead, .dead, .dead, .dead, .dead, .dead, .dead, .dead, .dead, .dead, .dead, .dead, .dead, .dead, .dead]
@[simp] def h11_0 : List Bool := [true, true, false, false, false, false, false, true, false, false, false, false, false, false, false, false, false, false, false, false, false, false, false, false, false, false, false, true, false, true, false, true, false, false, false, false, false, false, false, false, false, false, true, false, false, true, true, false, false, false, false, false, false, false, false, false, false, false, false, false, false, false, false, false, false, false, false, false, false, false, false, false, false, false, false, false, false, false, false, false, false, false, false, false, false, false, false, false, false, false, false, false, false, false, false, false, false, false, false, false, false, false, false, false, false, false, false, false, false, false, false, false, false, false, false, false, false, false, false, false, false, false, false, false, false, false, false, false, false, false, false, false, false, true, false, true, true, false, true, false, true, true, false, false, false, false, false, false, false, false, false, false, false, false, false, false, false, false, false, false, false, false, false, false, false, false, false, false, false, false, false, false, false, false, false, false, false, false, false, false, false, false, false]
@[simp] def L11_0 (s0 s1 s7 s27 s29 s31 s42 s45 s46 s133 s135 s136 s138 s140 s141 : V) : St := [s0, s1, .dead, .dead, .dead, .dead, .dead, s7, .dead, .dead, .dead, .dead, .dead, .dead, .dead, .dead, .dead, .dead, .dead, .dead, .dead, .dead, .dead, .dead, .dead, .dead, .dead, s27, .dead, s29, .dead, s31, .dead, .dead, .dead, .dead, .dead, .dead, .dead, .dead, .dead, .dead, s42, .dead, .dead, s45, s46, .dead, .dead, .dead, .dead, .dead, .dead, .dead, .dead, .dead, .dead, .dead, .dead, .dead, .dead, .dead, .dead, .dead, .dead, .dead, .dead, .dead, .dead, .dead, .dead, .dead, .dead, .dead, .dead, .dead, .dead, .dead, .dead, .dead, .dead, .dead, .dead, .dead, .dead, .dead, .dead, .dead, .dead, .dead, .dead, .dead, .dead, .dead, .dead, .dead, .dead, .dead, .dead, .dead, .dead, .dead, .dead, .dead, .dead, .dead, .dead, .dead, .dead, .dead, .dead, .dead, .dead, .dead, .dead, .dead, .dead, .dead, .dead, .dead, .dead, .dead, .dead, .dead, .dead, .dead, .dead, .dead, .dead, .dead, .dead, .dead, .dead, s133, .dead, s135, s136, .dead, s138, .dead, s140, s141, .dead, .dead, .dead, .dead, .dead, .dead, .dead, .dead, .dead, .dead, .dead, .dead, .dead, .dead, .dead, .dead, .dead, .dead, .dead, .dead, .dead, .dead, .dead, .dead, .dead, .dead, .dead, .dead, .dead, .dead, .dead, .dead, .dead, .dead, .dead, .dead, .dead, .dead, .dead, .dead, .dead]
@[simp] def x11_1 : List Bool := [true, true, false, false, false, false, false, true, false, false, false, false, false, false, false, false, false, false, false, false, false, false, false, false, false, false, false, true, false, true, false, true, false, false, false, false, false, false, false, false, false, false, true, false, false, true, true, false, false, false, false, false, false, false, false, false, false, false, false, false, false, false, false, false, false, false, false, false, false, false, false, false, false, false, false, false, false, false, false, false, false, false, false, false, false, false, false, false, false, false, false, false, false, false, false, false, false, false, false, false, false, false, false, false, false, false, false, false, false, false, false, false, false, false, false, false, false, false, false, false, false, false, false, false, false, false, false, false, false, false, false, false, false, true, false, true, true, false, true, false, true, true, false, false, false, false, false, false, false, false, false, false, false, false, false, false, false, false, false, false, false, false, false, false, false, false, false, false, false, false, false, false, false, false, false, false, false, false, false, false, false, false, false]
@[simp] def X11_1 (s0 s1 s7 s27 s29 s31 s42 s45 s46 s133 s135 s136 s138 s140 s141 : V) : St := [s0, s1, .dead, .dead, .dead, .dead, .dead, s7, .dead, .dead, .dead, .dead, .dead, .dead, .dead, .dead, .dead, .dead, .dead, .dead, .dead, .dead, .dead, .dead, .dead, .dead, .dead, s27, .dead, s29, .dead, s31, .dead, .dead, .dead, .dead, .dead, .dead, .dead, .dead, .dead, .dead, s42, .dead, .dead, s45, s46, .dead, .dead, .dead, .dead, .dead, .dead, .dead, .dead, .dead, .dead, .dead, .dead, .dead, .dead, .dead, .dead, .dead, .dead, .dead, .dead, .dead, .dead, .dead, .dead, .dead, .dead, .dead, .dead, .dead, .dead, .dead, .dead, .dead, .dead, .dead, .dead, .dead, .dead, .dead, .dead, .dead, .dead, .dead, .dead, .dead, .dead, .dead, .dead, .dead, .dead, .dead, .dead, .dead, .dead, .dead, .dead, .dead, .dead, .dead, .dead, .dead, .dead, .dead, .dead, .dead, .dead, .dead, .dead, .dead, .dead, .dead, .dead, .dead, .dead, .dead, .dead, .dead, .dead, .dead, .dead, .dead, .dead, .dead, .dead, .dead, .dead, s133, .dead, s135, s136, .dead, s138, .dead, s140, s141, .dead, .dead, .dead, .dead, .dead, .dead, .dead, .dead, .dead, .dead, .dead, .dead, .dead, .dead, .dead, .dead, .dead, .dead, .dead, .dead, .dead, .dead, .dead, .dead, .dead, .dead, .dead, .dead, .dead, .dead, .dead, .dead, .dead, .dead, .dead, .dead, .dead, .dead, .dead, .dead, .dead]
def b11_0 : MC := .seq (.scr h11_0)
 (.seq (.seq (.ops [⟨none, .mv 151 (.t 31)⟩,
    ⟨none, .bin 152 .lss .num (.t 151) (.c (.v (.int .i64 12)))⟩])
  (.cnd (.t 152)
   .skip
   (.seq (.scr x11_0) (.ex 0))))
 (.seq (.seq (.blk 1 (.seq (.drw [⟨none, .mv 155 (.t 27)⟩,
     ⟨none, .mv 156 (.t 31)⟩,
     ⟨none, .ixs 157 1 (.t 155) (.t 156)⟩,
     ⟨none, .ld1 158 (.t 157)⟩,
     ⟨none, .mv 159 (.t 29)⟩,
     ⟨none, .mv 160 (.t 31)⟩,
     ⟨none, .mv 161 (.t 1)⟩,
     ⟨none, .call (some 162) 15 [(.t 161), (.c (.v (.int .i64 12)))]⟩,
     ⟨none, .bin 163 .add .num (.t 160) (.t 162)⟩,
     ⟨none, .call (some 164) 15 [(.t 163), (.c (.v (.int .i64 12)))]⟩,
     ⟨none, .ixs 165 1 (.t 159) (.t 164)⟩,
     ⟨none, .ld1 166 (.t 165)⟩] [⟨none, .bin 167 .neq .num (.t 158) (.t 166)⟩])
   (.cnd (.t 167)
    (.seq (.ops [⟨none, .asg 6 (.c (.v (.bool false)))⟩])
    (.seq (.scr r11) .ret))
    .skip))) (.scr x11_1))
 (.ops [⟨none, .mv 153 (.t 31)⟩,
  ⟨none, .bin 154 .add .num (.t 153) (.c (.v (.int .i64 1)))⟩,
  ⟨none, .asg 31 (.t 154)⟩])))
def c11 : MF := ⟨(.seq (.ops [⟨none, .asg 6 (.c (.v (.bool false)))⟩])
 (.seq (.seq (.ops [⟨none, .call (some 34) 12 []⟩,
    ⟨none, .un 35 .not (.t 34)⟩,
    ⟨none, .mv 36 (.t 35)⟩,
    ⟨some (36, false), .mv 37 (.t 0)⟩,
    ⟨some (36, false), .call (some 38) 16 [(.t 37)]⟩,
    ⟨some (36, false), .un 39 .not (.t 38)⟩,
    ⟨none, .pick 40 (.t 36) (.c (.v (.bool true))) (.t 39)⟩])
  (.cnd (.t 40)
   (.seq (.ops [⟨none, .call (some 41) 12 []⟩,
     ⟨none, .asg 6 (.t 41)⟩])
   (.seq (.scr r11) .ret))
   .skip))
 (.seq (.ops [⟨none, .mv 43 (.t 0)⟩,
   ⟨none, .mv 44 (.t 1)⟩,
   ⟨none, .call (some 45) 28 [(.t 43), (.t 44)]⟩,
   ⟨none, .mv 42 (.t 45)⟩,
   ⟨none, .ext 46 (.t 42) 0⟩,
   ⟨none, .ext 47 (.t 42) 1⟩,
   ⟨none, .asg 7 (.t 46)⟩,
   ⟨none, .asg 8 (.t 47)⟩])
 (.seq (.seq (.ops [⟨none, .mv 48 (.t 8)⟩,
    ⟨none, .bin 49 .neq .num (.t 48) (.c (.v (.int .i64 0)))⟩])
  (.cnd (.t 49)
   (.seq (.ops [⟨none, .mv 50 (.t 7)⟩,
     ⟨none, .len 51 false (.t 50)⟩,
     ⟨none, .bin 52 .eql .num (.t 51) (.c (.v (.int .i64 0)))⟩,
     ⟨none, .asg 6 (.t 52)⟩])
   (.seq (.scr r11) .ret))
   .skip))
 (.seq (.ops [⟨none, .mv 53 (.t 2)⟩,
   ⟨none, .call (some 54) 15 [(.t 53), (.c (.v (.int .i64 12)))]⟩,
   ⟨none, .bin 55 .add .num (.c (.v (.int .i64 1))) (.t 54)⟩,
   ⟨none, .asg 2 (.t 55)⟩])
 (.seq (.ops [⟨none, .mv 57 (.t 0)⟩,
   ⟨none, .call (some 58) 17 [(.t 57)]⟩,
   ⟨none, .mv 56 (.t 58)⟩,
   ⟨none, .ext 59 (.t 56) 0⟩,
   ⟨none, .ext 60 (.t 56) 1⟩,
   ⟨none, .ext 61 (.t 56) 2⟩,
   ⟨none, .asg 9 (.t 59)⟩,
   ⟨none, .asg 10 (.t 60)⟩,
   ⟨none, .asg 11 (.t 61)⟩])
 (.seq (.ops [⟨none, .mv 63 (.t 7)⟩,
   ⟨none, .call (some 64) 17 [(.t 63)]⟩,
   ⟨none, .mv 62 (.t 64)⟩,
   ⟨none, .ext 65 (.t 62) 0⟩,
   ⟨none, .ext 66 (.t 62) 1⟩,
   ⟨none, .ext 67 (.t 62) 2⟩,
   ⟨none, .asg 12 (.t 65)⟩,
   ⟨none, .asg 13 (.t 66)⟩,
   ⟨none, .asg 14 (.t 67)⟩])
 (.seq (.ops [⟨none, .mv 69 (.t 0)⟩,
   ⟨none, .call (some 70) 19 [(.t 69)]⟩,
   ⟨none, .mv 68 (.t 70)⟩,
   ⟨none, .ext 71 (.t 68) 0⟩,
   ⟨none, .ext 72 (.t 68) 1⟩,
   ⟨none, .ext 73 (.t 68) 2⟩,
   ⟨none, .asg 15 (.t 71)⟩,
   ⟨none, .asg 16 (.t 72)⟩,
   ⟨none, .asg 17 (.t 73)⟩])
 (.seq (.ops [⟨none, .mv 75 (.t 7)⟩,
   ⟨none, .call (some 76) 19 [(.t 75)]⟩,
   ⟨none, .mv 74 (.t 76)⟩,
   ⟨none, .ext 77 (.t 74) 0⟩,
   ⟨none, .ext 78 (.t 74) 1⟩,
   ⟨none, .ext 79 (.t 74) 2⟩,
   ⟨none, .asg 18 (.t 77)⟩,
   ⟨none, .asg 19 (.t 78)⟩,
   ⟨none, .asg 20 (.t 79)⟩])
 (.seq (.ops [⟨none, .mv 81 (.t 0)⟩,
   ⟨none, .mv 82 (.t 2)⟩,
   ⟨none, .call (some 83) 23 [(.t 81), (.t 82)]⟩,
   ⟨none, .mv 80 (.t 83)⟩,
   ⟨none, .ext 84 (.t 80) 0⟩,
   ⟨none, .ext 85 (.t 80) 1⟩,
   ⟨none, .ext 86 (.t 80) 2⟩,
   ⟨none, .asg 21 (.t 84)⟩,
   ⟨none, .asg 22 (.t 85)⟩,
   ⟨none, .asg 23 (.t 86)⟩])
 (.seq (.ops [⟨none, .mv 88 (.t 7)⟩,
   ⟨none, .mv 89 (.t 2)⟩,
   ⟨none, .call (some 90) 23 [(.t 88), (.t 89)]⟩,
   ⟨none, .mv 87 (.t 90)⟩,
   ⟨none, .ext 91 (.t 87) 0⟩,
   ⟨none, .ext 92 (.t 87) 1⟩,
   ⟨none, .ext 93 (.t 87) 2⟩,
   ⟨none, .asg 24 (.t 91)⟩,
   ⟨none, .asg 25 (.t 92)⟩,
   ⟨none, .asg 26 (.t 93)⟩])
 (.seq (.seq (.ops [⟨none, .mv 94 (.t 10)⟩,
    ⟨none, .mv 95 (.t 13)⟩,
    ⟨none, .bin 96 .neq .num (.t 94) (.t 95)⟩,
    ⟨none, .mv 97 (.t 96)⟩,
    ⟨some (97, false), .mv 98 (.t 11)⟩,
    ⟨some (97, false), .mv 99 (.t 14)⟩,
    ⟨some (97, false), .bin 100 .neq .num (.t 98) (.t 99)⟩,
    ⟨none, .pick 101 (.t 97) (.c (.v (.bool true))) (.t 100)⟩,
    ⟨none, .mv 102 (.t 101)⟩,
    ⟨some (102, false), .mv 103 (.t 16)⟩,
    ⟨some (102, false), .mv 104 (.t 19)⟩,
    ⟨some (102, false), .bin 105 .neq .num (.t 103) (.t 104)⟩,
    ⟨none, .pick 106 (.t 102) (.c (.v (.bool true))) (.t 105)⟩,
    ⟨none, .mv 107 (.t 106)⟩,
    ⟨some (107, false), .mv 108 (.t 17)⟩,
    ⟨some (107, false), .mv 109 (.t 20)⟩,
    ⟨some (107, false), .bin 110 .neq .num (.t 108) (.t 109)⟩,
    ⟨none, .pick 111 (.t 107) (.c (.v (.bool true))) (.t 110)⟩,
    ⟨none, .mv 112 (.t 111)⟩,
    ⟨some (112, false), .mv 113 (.t 22)⟩,
    ⟨some (112, false), .mv 114 (.t 25)⟩,
    ⟨some (112, false), .bin 115 .neq .num (.t 113) (.t 114)⟩,
    ⟨none, .pick 116 (.t 112) (.c (.v (.bool true))) (.t 115)⟩,
    ⟨none, .mv 117 (.t 116)⟩,
    ⟨some (117, false), .mv 118 (.t 23)⟩,
    ⟨some (117, false), .mv 119 (.t 26)⟩,
    ⟨some (117, false), .bin 120 .neq .num (.t 118) (.t 119)⟩,
    ⟨none, .pick 121 (.t 117) (.c (.v (.bool true))) (.t 120)⟩,
    ⟨none, .mv 122 (.t 121)⟩,
    ⟨some (122, false), .mv 123 (.t 0)⟩,
    ⟨some (122, false), .mv 124 (.t 2)⟩,
    ⟨some (122, false), .bin 125 .quo .num (.t 124) (.c (.v (.int .i64 2)))⟩,
    ⟨some (122, false), .call (some 126) 22 [(.t 123), (.t 125)]⟩,
    ⟨some (122, false), .mv 127 (.t 7)⟩,
    ⟨some (122, false), .mv 128 (.t 2)⟩,
    ⟨some (122, false), .bin 129 .quo .num (.t 128) (.c (.v (.int .i64 2)))⟩,
    ⟨some (122, false), .call (some 130) 22 [(.t 127), (.t 129)]⟩,
    ⟨some (122, false), .bin 131 .neq .bool (.t 126) (.t 130)⟩,
    ⟨none, .pick 132 (.t 122) (.c (.v (.bool true))) (.t 131)⟩])
  (.cnd (.t 132)
   (.seq (.ops [⟨none, .asg 6 (.c (.v (.bool false)))⟩])
   (.seq (.scr r11) .ret))
   .skip))
 (.seq (.ops [⟨none, .mv 134 (.t 0)⟩,
   ⟨none, .call (some 135) 26 [(.t 134)]⟩,
   ⟨none, .mv 133 (.t 135)⟩,
   ⟨none, .ext 136 (.t 133) 0⟩,
   ⟨none, .ext 137 (.t 133) 1⟩,
   ⟨none, .asg 27 (.t 136)⟩,
   ⟨none, .asg 28 (.t 137)⟩])
 (.seq (.ops [⟨none, .mv 139 (.t 7)⟩,
   ⟨none, .call (some 140) 26 [(.t 139)]⟩,
   ⟨none, .mv 138 (.t 140)⟩,
   ⟨none, .ext 141 (.t 138) 0⟩,
   ⟨none, .ext 142 (.t 138) 1⟩,
   ⟨none, .asg 29 (.t 141)⟩,
   ⟨none, .asg 30 (.t 142)⟩])
 (.seq (.seq (.ops [⟨none, .mv 143 (.t 27)⟩,
    ⟨none, .len 144 false (.t 143)⟩,
    ⟨none, .bin 145 .neq .num (.t 144) (.c (.v (.int .i64 12)))⟩,
    ⟨none, .mv 146 (.t 145)⟩,
    ⟨some (146, false), .mv 147 (.t 29)⟩,
    ⟨some (146, false), .len 148 false (.t 147)⟩,
    ⟨some (146, false), .bin 149 .neq .num (.t 148) (.c (.v (.int .i64 12)))⟩,
    ⟨none, .pick 150 (.t 146) (.c (.v (.bool true))) (.t 149)⟩])
  (.cnd (.t 150)
   (.seq (.ops [⟨none, .asg 6 (.c (.v (.bool false)))⟩])
   (.seq (.scr r11) .ret))
   .skip))
 (.seq (.seq (.ops [⟨none, .asg 31 (.c (.v (.int .i64 0)))⟩])
  (.seq (.blk 0 (.lop b11_0)) (.scr x11_0)))
 (.seq (.ops [⟨none, .mv 169 (.t 7)⟩,
   ⟨none, .mv 170 (.t 1)⟩,
   ⟨none, .call (some 171) 15 [(.t 170), (.c (.v (.int .i64 12)))]⟩,
   ⟨none, .un 172 .neg (.t 171)⟩,
   ⟨none, .call (some 173) 28 [(.t 169), (.t 172)]⟩,
   ⟨none, .mv 168 (.t 173)⟩,
   ⟨none, .ext 174 (.t 168) 0⟩,
   ⟨none, .ext 175 (.t 168) 1⟩,
   ⟨none, .asg 32 (.t 174)⟩,
   ⟨none, .asg 33 (.t 175)⟩])
 (.seq (.ops [⟨none, .mv 176 (.t 33)⟩,
   ⟨none, .bin 177 .eql .num (.t 176) (.c (.v (.int .i64 0)))⟩,
   ⟨none, .mv 178 (.t 177)⟩,
   ⟨some (178, true), .mv 179 (.t 32)⟩,
   ⟨some (178, true), .mv 180 (.t 0)⟩,
   ⟨some (178, true), .call (some 181) 30 [(.t 179), (.t 180)]⟩,
   ⟨none, .pick 182 (.t 178) (.t 181) (.c (.v (.bool false)))⟩,
   ⟨none, .asg 6 (.t 182)⟩])
 (.seq (.scr r11) .ret))))))))))))))))))),
  183, [6]⟩

/-- coinage/coinagelaw10.awake -/
def hints12 : List (List Bool) := [[true, false, false, false, false, false, false, false, false, false, false, false, false, false, false, false, false, false, false, false, false, false, false, false, false, false, false, false, false, false, false, false, false, false, false, false, false, false, false, false, false, false, false, false, false]]
@[simp] def r12 : List Bool := [true, false, false, false, false, false, false, false, false, false, false, false, false, false, false, false, false, false, false, false, false, false, false, false, false, false, false, false, false, false, false, false, false, false, false, false, false, false, false, false, false, false, false, false, false]
@[simp] def R12 (s0 : V) : St := [s0, .dead, .dead, .dead, .dead, .dead, .dead, .dead, .dead, .dead, .dead, .dead, .dead, .dead, .dead, .dead, .dead, .dead, .dead, .dead, .dead, .dead, .dead, .dead, .dead, .dead, .dead, .dead, .dead, .dead, .dead, .dead, .dead, .dead, .dead, .dead, .dead, .dead, .dead, .dead, .dead, .dead, .dead, .dead, .dead]
def c12 : MF := ⟨(.seq (.ops [⟨none, .asg 0 (.c (.v (.bool false)))⟩])
 (.seq (.ops [⟨none, .bs 8 1 3 [(.v (.int .i64 0))] [(0, 1, (.c (.v (.int .i64 11)))), (1, 1, (.c (.v (.int .i64 0)))), (2, 1, (.c (.v (.int .i64 2))))]⟩,
   ⟨none, .call (some 9) 17 [(.t 8)]⟩,
   ⟨none, .mv 7 (.t 9)⟩,
   ⟨none, .ext 10 (.t 7) 0⟩,
   ⟨none, .ext 11 (.t 7) 1⟩,
   ⟨none, .ext 12 (.t 7) 2⟩,
   ⟨none, .asg 1 (.t 10)⟩,
   ⟨none, .asg 2 (.t 11)⟩,
   ⟨none, .asg 3 (.t 12)⟩])
 (.seq (.ops [⟨none, .bs 14 1 3 [(.v (.int .i64 0))] [(0, 1, (.c (.v (.int .i64 11)))), (1, 1, (.c (.v (.int .i64 0)))), (2, 1, (.c (.v (.int .i64 2))))]⟩,
   ⟨none, .call (some 15) 19 [(.t 14)]⟩,
   ⟨none, .mv 13 (.t 15)⟩,
   ⟨none, .ext 16 (.t 13) 0⟩,
   ⟨none, .ext 17 (.t 13) 1⟩,
   ⟨none, .ext 18 (.t 13) 2⟩,
   ⟨none, .asg 4 (.t 16)⟩,
   ⟨none, .asg 5 (.t 17)⟩,
   ⟨none, .asg 6 (.t 18)⟩])
 (.seq (.ops [⟨none, .call (some 19) 13 [(.c (.v (.int .i64 11))), (.c (.v (.int .i64 1)))]⟩,
   ⟨none, .bin 20 .eql .num (.t 19) (.c (.v (.int .i64 2)))⟩,
   ⟨none, .mv 21 (.t 20)⟩,
   ⟨some (21, true), .mv 22 (.t 3)⟩,
   ⟨some (21, true), .bin 23 .eql .num (.t 22) (.c (.v (.int .i64 0)))⟩,
   ⟨none, .pick 24 (.t 21) (.t 23) (.c (.v (.bool false)))⟩,
   ⟨none, .mv 25 (.t 24)⟩,
   ⟨some (25, true), .mv 26 (.t 1)⟩,
   ⟨some (25, true), .bin 27 .eql .num (.t 26) (.c (.v (.int .i64 11)))⟩,
   ⟨none, .pick 28 (.t 25) (.t 27) (.c (.v (.bool false)))⟩,
   ⟨none, .mv 29 (.t 28)⟩,
   ⟨some (29, true), .mv 30 (.t 2)⟩,
   ⟨some (29, true), .bin 31 .eql .num (.t 30) (.c (.v (.int .i64 4)))⟩,
   ⟨none, .pick 32 (.t 29) (.t 31) (.c (.v (.bool false)))⟩,
   ⟨none, .mv 33 (.t 32)⟩,
   ⟨some (33, true), .mv 34 (.t 6)⟩,
   ⟨some (33, true), .bin 35 .eql .num (.t 34) (.c (.v (.int .i64 0)))⟩,
   ⟨none, .pick 36 (.t 33) (.t 35) (.c (.v (.bool false)))⟩,
   ⟨none, .mv 37 (.t 36)⟩,
   ⟨some (37, true), .mv 38 (.t 4)⟩,
   ⟨some (37, true), .bin 39 .eql .num (.t 38) (.c (.v (.int .i64 0)))⟩,
   ⟨none, .pick 40 (.t 37) (.t 39) (.c (.v (.bool false)))⟩,
   ⟨none, .mv 41 (.t 40)⟩,
   ⟨some (41, true), .mv 42 (.t 5)⟩,
   ⟨some (41, true), .bin 43 .eql .num (.t 42) (.c (.v (.int .i64 3)))⟩,
   ⟨none, .pick 44 (.t 41) (.t 43) (.c (.v (.bool false)))⟩,
   ⟨none, .asg 0 (.t 44)⟩])
 (.seq (.scr r12) .ret))))),
  45, [0]⟩

/-- coinage/axis.Distance -/
def hints13 : List (List Bool) := [[false, false, false, false, true, false, false, false, false, false, false, false, false, false, false, false], [false, false, false, false, true, false, false, false, false, false, false, false, false, false, false, false]]
@[simp] def r13 : List Bool := [false, false, false, false, true, false, false, false, false, false, false, false, false, false, false, false]
@[simp] def R13 (s4 : V) : St := [.dead, .dead, .dead, .dead, s4, .dead, .dead, .dead, .dead, .dead, .dead, .dead, .dead, .dead, .dead, .dead]
def c13 : MF := ⟨(.seq (.ops [⟨none, .asg 4 (.c (.v (.int .i64 0)))⟩])
 (.seq (.seq (.ops [⟨none, .mv 5 (.t 0)⟩,
    ⟨none, .call (some 6) 31 [(.t 5)]⟩,
    ⟨none, .un 7 .not (.t 6)⟩,
    ⟨none, .mv 8 (.t 7)⟩,
    ⟨some (8, false), .mv 9 (.t 1)⟩,
    ⟨some (8, false), .call (some 10) 31 [(.t 9)]⟩,
    ⟨some (8, false), .un 11 .not (.t 10)⟩,
    ⟨none, .pick 12 (.t 8) (.c (.v (.bool true))) (.t 11)⟩])
  (.cnd (.t 12)
   (.seq (.ops [⟨none, .asg 4 (.c (.v (.int .i64 (-1))))⟩])
   (.seq (.scr r13) .ret))
   .skip))
 (.seq (.ops [⟨none, .mv 13 (.t 0)⟩,
   ⟨none, .mv 14 (.t 1)⟩,
   ⟨none, .call (some 15) 32 [(.t 13), (.t 14)]⟩,
   ⟨none, .asg 4 (.t 15)⟩])
 (.seq (.scr r13) .ret)))),
  16, [4]⟩

/-- coinage/coinageref10.Distance -/
def hints14 : List (List Bool) := [[false, false, false, false, true, false, false, false, false, false, false, false, false, false, false, false, false, false, false, false, false, false], [false, false, false, false, true, false, false, false, false, false, false, false, false, false, false, false, false, false, false, false, false, false]]
@[simp] def r14 : List Bool := [false, false, false, false, true, false, false, false, false, false, false, false, false, false, false, false, false, false, false, false, false, false]
@[simp] def R14 (s4 : V) : St := [.dead, .dead, .dead, .dead, s4, .dead, .dead, .dead, .dead, .dead, .dead, .dead, .dead, .dead, .dead, .dead, .dead, .dead, .dead, .dead, .dead, .dead]
def c14 : MF := ⟨(.seq (.ops [⟨none, .asg 4 (.c (.v (.int .i64 0)))⟩])
 (.seq (.seq (.ops [⟨none, .mv 6 (.t 0)⟩,
    ⟨none, .call (some 7) 21 [(.t 6), (.c (.v (.int .i64 0))), (.c (.v (.int .i64 11)))]⟩,
    ⟨none, .un 8 .not (.t 7)⟩,
    ⟨none, .mv 9 (.t 8)⟩,
    ⟨some (9, false), .mv 10 (.t 1)⟩,
    ⟨some (9, false), .call (some 11) 21 [(.t 10), (.c (.v (.int .i64 0))), (.c (.v (.int .i64 11)))]⟩,
    ⟨some (9, false), .un 12 .not (.t 11)⟩,
    ⟨none, .pick 13 (.t 9) (.c (.v (.bool true))) (.t 12)⟩])
  (.cnd (.t 13)
   (.seq (.ops [⟨none, .asg 4 (.c (.v (.int .i64 (-1))))⟩])
   (.seq (.scr r14) .ret))
   .skip))
 (.seq (.ops [⟨none, .mv 14 (.t 0)⟩,
   ⟨none, .mv 15 (.t 1)⟩,
   ⟨none, .bin 16 .sub .num (.t 14) (.t 15)⟩,
   ⟨none, .call (some 17) 15 [(.t 16), (.c (.v (.int .i64 12)))]⟩,
   ⟨none, .asg 5 (.t 17)⟩])
 (.seq (.ops [⟨none, .mv 18 (.t 5)⟩,
   ⟨none, .mv 19 (.t 5)⟩,
   ⟨none, .bin 20 .sub .num (.c (.v (.int .i64 12))) (.t 19)⟩,
   ⟨none, .mm 21 false (.t 18) (.t 20)⟩,
   ⟨none, .asg 4 (.t 21)⟩])
 (.seq (.scr r14) .ret))))),
  22, [4]⟩

/-- coinage/coinagebase.Mod -/
def hints15 : List (List Bool) := [[false, false, false, false, true, false, false, false, false, false, false, false, false, false, false]]
@[simp] def r15 : List Bool := [false, false, false, false, true, false, false, false, false, false, false, false, false, false, false]
@[simp] def R15 (s4 : V) : St := [.dead, .dead, .dead, .dead, s4, .dead, .dead, .dead, .dead, .dead, .dead, .dead, .dead, .dead, .dead]
def c15 : MF := ⟨(.seq (.ops [⟨none, .asg 4 (.c (.v (.int .i64 0)))⟩])
 (.seq (.ops [⟨none, .mv 6 (.t 0)⟩,
   ⟨none, .mv 7 (.t 1)⟩,
   ⟨none, .bin 8 .rem .num (.t 6) (.t 7)⟩,
   ⟨none, .asg 5 (.t 8)⟩])
 (.seq (.seq (.ops [⟨none, .mv 9 (.t 5)⟩,
    ⟨none, .bin 10 .lss .num (.t 9) (.c (.v (.int .i64 0)))⟩])
  (.cnd (.t 10)
   (.ops [⟨none, .mv 11 (.t 5)⟩,
    ⟨none, .mv 12 (.t 1)⟩,
    ⟨none, .bin 13 .add .num (.t 11) (.t 12)⟩,
    ⟨none, .asg 5 (.t 13)⟩])
   .skip))
 (.seq (.ops [⟨none, .mv 14 (.t 5)⟩,
   ⟨none, .asg 4 (.t 14)⟩])
 (.seq (.scr r15) .ret))))),
  15, [4]⟩

/-- coinage/coinagelaw10.few -/
def hints16 : List (List Bool) := [[false, false, true, false, false, false]]
@[simp] def r16 : List Bool := [false, false, true, false, false, false]
@[simp] def R16 (s2 : V) : St := [.dead, .dead, s2, .dead, .dead, .dead]
def c16 : MF := ⟨(.seq (.ops [⟨none, .asg 2 (.c (.v (.bool false)))⟩])
 (.seq (.ops [⟨none, .mv 3 (.t 0)⟩,
   ⟨none, .len 4 false (.t 3)⟩,
   ⟨none, .bin 5 .leq .num (.t 4) (.c (.v (.int .i64 80)))⟩,
   ⟨none, .asg 2 (.t 5)⟩])
 (.seq (.scr r16) .ret))),
  6, [2]⟩

/-- coinage/axis.Arc -/
def hints17 : List (List Bool) := [[false, false, true, true, true, false, false, false, false, false, false, false, false, false, false, false, false, false, false, false, false, false, false, false, false, false, false, false, false, false], [false, false, false, false, false, false, false, false, false, false, false, false, false, false, false, false, false, false, false, false, false, false, false, false, false, false, false, false, false, false], [true, false, false, false, false, false, true, false, false, false, false, false, false, false, false, false, false, false, false, false, false, false, false, false, false, false, false, false, false, false], [false, false, false, false, false, false, false, false, false, false, false, false, false, false, false, false, false, false, false, false, false, false, false, false, false, false, false, false, false, false], [true, false, false, false, false, false, true, false, false, false, false, false, false, false, false, false, false, false, false, false, false, false, false, false, false, false, false, false, false, false], [true, false, false, false, false, false, true, false, false, false, false, false, false, false, false, false, false, false, false, false, false, false, false, false, false, false, false, false, false, false], [true, false, false, false, false, false, true, false, false, false, false, false, false, false, false, false, false, true, false, false, false, false, false, false, false, false, false, false, false, false], [true, false, false, false, false, false, true, false, false, false, false, false, false, false, false, false, false, false, false, false, false, false, false, false, false, false, false, false, false, false], [true, false, false, false, false, false, true, false, false, false, false, false, false, false, false, false, false, true, false, false, false, false, false, false, false, false, false, false, false, false], [false, false, true, true, true, false, false, false, false, false, false, false, false, false, false, false, false, false, false, false, false, false, false, false, false, false, false, false, false, false], [false, false, true, true, true, false, false, false, false, false, false, false, false, false, false, false, false, false, false, false, false, false, false, false, false, false, false, false, false, false]]
@[simp] def r17 : List Bool := [false, false, true, true, true, false, false, false, false, false, false, false, false, false, false, false, false, false, false, false, false, false, false, false, false, false, false, false, false, false]
@[simp] def R17 (s2 s3 s4 : V) : St := [.dead, .dead, s2, s3, s4, .dead, .dead, .dead, .dead, .dead, .dead, .dead, .dead, .dead, .dead, .dead, .dead, .dead, .dead, .dead, .dead, .dead, .dead, .dead, .dead, .dead, .dead, .dead, .dead, .dead]
@[simp] def x17_0 : List Bool := [false, false, false, false, false, false, false, false, false, false, false, false, false, false, false, false, false, false, false, false, false, false, false, false, false, false, false, false, false, false]
@[simp] def X17_0 : St := [.dead, .dead, .dead, .dead, .dead, .dead, .dead, .dead, .dead, .dead, .dead, .dead, .dead, .dead, .dead, .dead, .dead, .dead, .dead, .dead, .dead, .dead, .dead, .dead, .dead, .dead, .dead, .dead, .dead, .dead]
@[simp] def h17_0 : List Bool := [true, false, false, false, false, false, true, false, false, false, false, false, false, false, false, false, false, false, false, false, false, false, false, false, false, false, false, false, false, false]
@[simp] def L17_0 (s0 s6 : V) : St := [s0, .dead, .dead, .dead, .dead, .dead, s6, .dead, .dead, .dead, .dead, .dead, .dead, .dead, .dead, .dead, .dead, .dead, .dead, .dead, .dead, .dead, .dead, .dead, .dead, .dead, .dead, .dead, .dead, .dead]
@[simp] def x17_1 : List Bool := [true, false, false, false, false, false, true, false, false, false, false, false, false, false, false, false, false, false, false, false, false, false, false, false, false, false, false, false, false, false]
@[simp] def X17_1 (s0 s6 : V) : St := [s0, .dead, .dead, .dead, .dead, .dead, s6, .dead, .dead, .dead, .dead, .dead, .dead, .dead, .dead, .dead, .dead, .dead, .dead, .dead, .dead, .dead, .dead, .dead, .dead, .dead, .dead, .dead, .dead, .dead]
@[simp] def x17_2 : List Bool := [true, false, false, false, false, false, true, false, false, false, false, false, false, false, false, false, false, false, false, false, false, false, false, false, false, false, false, false, false, false]
@[simp] def X17_2 (s0 s6 : V) : St := [s0, .dead, .dead, .dead, .dead, .dead, s6, .dead, .dead, .dead, .dead, .dead, .dead, .dead, .dead, .dead, .dead, .dead, .dead, .dead, .dead, .dead, .dead, .dead, .dead, .dead, .dead, .dead, .dead, .dead]
@[simp] def h17_1 : List Bool := [true, false, false, false, false, false, true, false, false, false, false, false, false, false, false, false, false, true, false, false, false, false, false, false, false, false, false, false, false, false]
@[simp] def L17_1 (s0 s6 s17 : V) : St := [s0, .dead, .dead, .dead, .dead, .dead, s6, .dead, .dead, .dead, .dead, .dead, .dead, .dead, .dead, .dead, .dead, s17, .dead, .dead, .dead, .dead, .dead, .dead, .dead, .dead, .dead, .dead, .dead, .dead]
@[simp] def x17_3 : List Bool := [true, false, false, false, false, false, true, false, false, false, false, false, false, false, false, false, false, true, false, false, false, false, false, false, false, false, false, false, false, false]
@[simp] def X17_3 (s0 s6 s17 : V) : St := [s0, .dead, .dead, .dead, .dead, .dead, s6, .dead, .dead, .dead, .dead, .dead, .dead, .dead, .dead, .dead, .dead, s17, .dead, .dead, .dead, .dead, .dead, .dead, .dead, .dead, .dead, .dead, .dead, .dead]
def b17_1 : MC := .seq (.scr h17_1)
 (.seq (.ops [⟨none, .bin 18 .lss .num (.t 17) (.c (.v (.int .i64 12)))⟩])
 (.seq (.cnd (.t 18)
   .skip
   (.seq (.scr x17_2) (.ex 2)))
 (.seq (.seq (.blk 3 (.seq (.ops [⟨none, .mv 19 (.t 17)⟩,
     ⟨none, .asg 7 (.t 19)⟩])
   (.seq (.ops [⟨none, .mv 20 (.t 0)⟩,
     ⟨none, .mv 21 (.t 7)⟩,
     ⟨none, .mv 22 (.t 6)⟩,
     ⟨none, .call (some 23) 34 [(.t 20), (.t 21), (.t 22)]⟩,
     ⟨none, .mv 24 (.t 0)⟩,
     ⟨none, .len 25 false (.t 24)⟩,
     ⟨none, .bin 26 .eql .num (.t 23) (.t 25)⟩])
   (.cnd (.t 26)
    (.seq (.ops [⟨none, .mv 27 (.t 7)⟩,
      ⟨none, .mv 28 (.t 6)⟩,
      ⟨none, .asg 2 (.t 27)⟩,
      ⟨none, .asg 3 (.t 28)⟩,
      ⟨none, .asg 4 (.c (.v (.int .i64 0)))⟩])
    (.seq (.scr r17) .ret))
    .skip)))) (.scr x17_3))
 (.ops [⟨none, .bin 29 .add .num (.t 17) (.c (.v (.int .i64 1)))⟩,
  ⟨none, .mv 17 (.t 29)⟩]))))
def b17_0 : MC := .seq (.scr h17_0)
 (.seq (.seq (.ops [⟨none, .mv 13 (.t 6)⟩,
    ⟨none, .bin 14 .lss .num (.t 13) (.c (.v (.int .i64 12)))⟩])
  (.cnd (.t 14)
   .skip
   (.seq (.scr x17_0) (.ex 0))))
 (.seq (.seq (.blk 1 (.seq (.ops [⟨none, .mv 17 (.c (.v (.int .i64 0)))⟩])
   (.seq (.blk 2 (.lop b17_1)) (.scr x17_2)))) (.scr x17_1))
 (.ops [⟨none, .mv 15 (.t 6)⟩,
  ⟨none, .bin 16 .add .num (.t 15) (.c (.v (.int .i64 1)))⟩,
  ⟨none, .asg 6 (.t 16)⟩])))
def c17 : MF := ⟨(.seq (.ops [⟨none, .asg 2 (.c (.v (.int .i64 0)))⟩,
   ⟨none, .asg 3 (.c (.v (.int .i64 0)))⟩,
   ⟨none, .asg 4 (.c (.v (.int .i64 0)))⟩])
 (.seq (.seq (.ops [⟨none, .mv 8 (.t 0)⟩,
    ⟨none, .call (some 9) 33 [(.t 8)]⟩,
    ⟨none, .asg 5 (.t 9)⟩])
  (.seq (.ops [⟨none, .mv 10 (.t 5)⟩,
    ⟨none, .bin 11 .neq .num (.t 10) (.c (.v (.int .i64 0)))⟩])
  (.cnd (.t 11)
   (.seq (.ops [⟨none, .mv 12 (.t 5)⟩,
     ⟨none, .asg 2 (.c (.v (.int .i64 0)))⟩,
     ⟨none, .asg 3 (.c (.v (.int .i64 0)))⟩,
     ⟨none, .asg 4 (.t 12)⟩])
   (.seq (.scr r17) .ret))
   .skip)))
 (.seq (.seq (.ops [⟨none, .asg 6 (.c (.v (.int .i64 1)))⟩])
  (.seq (.blk 0 (.lop b17_0)) (.scr x17_0)))
 (.seq (.ops [⟨none, .asg 2 (.c (.v (.int .i64 0)))⟩,
   ⟨none, .asg 3 (.c (.v (.int .i64 12)))⟩,
   ⟨none, .asg 4 (.c (.v (.int .i64 0)))⟩])
 (.seq (.scr r17) .ret))))),
  30, [2, 3, 4]⟩

/-- coinage/coinageref10.Arc -/
def hints18 : List (List Bool) := [[false, false, true, true, true, false, false, false, false, false, false, false, false, false, false, false, false, false, false, false, false, false, false, false, false, false, false, false, false, false, false, false, false], [false, false, true, true, true, false, false, false, false, false, false, false, false, false, false, false, false, false, false, false, false, false, false, false, false, false, false, false, false, false, false, false, false], [false, false, false, false, false, false, false, false, false, false, false, false, false, false, false, false, false, false, false, false, false, false, false, false, false, false, false, false, false, false, false, false, false], [true, false, false, false, false, false, true, false, false, false, false, false, false, false, false, false, false, false, false, false, false, false, false, false, false, false, false, false, false, false, false, false, false], [false, false, false, false, false, false, false, false, false, false, false, false, false, false, false, false, false, false, false, false, false, false, false, false, false, false, false, false, false, false, false, false, false], [true, false, false, false, false, false, true, false, false, false, false, false, false, false, false, false, false, false, false, false, false, false, false, false, false, false, false, false, false, false, false, false, false], [true, false, false, false, false, false, true, false, false, false, false, false, false, false, false, false, false, false, false, false, false, false, false, false, false, false, false, false, false, false, false, false, false], [true, false, false, false, false, false, true, true, false, false, false, false, false, false, false, false, false, false, false, false, false, false, false, false, false, false, false, false, false, false, false, false, false], [true, false, false, false, false, false, true, false, false, false, false, false, false, false, false, false, false, false, false, false, false, false, false, false, false, false, false, false, false, false, false, false, false], [true, false, false, false, false, false, true, true, false, false, false, false, false, false, false, false, false, false, false, false, false, false, false, false, false, false, false, false, false, false, false, false, false], [false, false, true, true, true, false, false, false, false, false, false, false, false, false, false, false, false, false, false, false, false, false, false, false, false, false, false, false, false, false, false, false, false], [false, false, true, true, true, false, false, false, false, false, false, false, false, false, false, false, false, false, false, false, false, false, false, false, false, false, false, false, false, false, false, false, false]]
@[simp] def r18 : List Bool := [false, false, true, true, true, false, false, false, false, false, false, false, false, false, false, false, false, false, false, false, false, false, false, false, false, false, false, false, false, false, false, false, false]
@[simp] def R18 (s2 s3 s4 : V) : St := [.dead, .dead, s2, s3, s4, .dead, .dead, .dead, .dead, .dead, .dead, .dead, .dead, .dead, .dead, .dead, .dead, .dead, .dead, .dead, .dead, .dead, .dead, .dead, .dead, .dead, .dead, .dead, .dead, .dead, .dead, .dead, .dead]
@[simp] def x18_0 : List Bool := [false, false, false, false, false, false, false, false, false, false, false, false, false, false, false, false, false, false, false, false, false, false, false, false, false, false, false, false, false, false, false, false, false]
@[simp] def X18_0 : St := [.dead, .dead, .dead, .dead, .dead, .dead, .dead, .dead, .dead, .dead, .dead, .dead, .dead, .dead, .dead, .dead, .dead, .dead, .dead, .dead, .dead, .dead, .dead, .dead, .dead, .dead, .dead, .dead, .dead, .dead, .dead, .dead, .dead]
@[simp] def h18_0 : List Bool := [true, false, false, false, false, false, true, false, false, false, false, false, false, false, false, false, false, false, false, false, false, false, false, false, false, false, false, false, false, false, false, false, false]
@[simp] def L18_0 (s0 s6 : V) : St := [s0, .dead, .dead, .dead, .dead, .dead, s6, .dead, .dead, .dead, .dead, .dead, .dead, .dead, .dead, .dead, .dead, .dead, .dead, .dead, .dead, .dead, .dead, .dead, .dead, .dead, .dead, .dead, .dead, .dead, .dead, .dead, .dead]
@[simp] def x18_1 : List Bool := [true, false, false, false, false, false, true, false, false, false, false, false, false, false, false, false, false, false, false, false, false, false, false, false, false, false, false, false, false, false, false, false, false]
@[simp] def X18_1 (s0 s6 : V) : St := [s0, .dead, .dead, .dead, .dead, .dead, s6, .dead, .dead, .dead, .dead, .dead, .dead, .dead, .dead, .dead, .dead, .dead, .dead, .dead, .dead, .dead, .dead, .dead, .dead, .dead, .dead, .dead, .dead, .dead, .dead, .dead, .dead]
@[simp] def x18_2 : List Bool := [true, false, false, false, false, false, true, false, false, false, false, false, false, false, false, false, false, false, false, false, false, false, false, false, false, false, false, false, false, false, false, false, false]
@[simp] def X18_2 (s0 s6 : V) : St := [s0, .dead, .dead, .dead, .dead, .dead, s6, .dead, .dead, .dead, .dead, .dead, .dead, .dead, .dead, .dead, .dead, .dead, .dead, .dead, .dead, .dead, .dead, .dead, .dead, .dead, .dead, .dead, .dead, .dead, .dead, .dead, .dead]
@[simp] def h18_1 : List Bool := [true, false, false, false, false, false, true, true, false, false, false, false, false, false, false, false, false, false, false, false, false, false, false, false, false, false, false, false, false, false, false, false, false]
@[simp] def L18_1 (s0 s6 s7 : V) : St := [s0, .dead, .dead, .dead, .dead, .dead, s6, s7, .dead, .dead, .dead, .dead, .dead, .dead, .dead, .dead, .dead, .dead, .dead, .dead, .dead, .dead, .dead, .dead, .dead, .dead, .dead, .dead, .dead, .dead, .dead, .dead, .dead]
@[simp] def x18_3 : List Bool := [true, false, false, false, false, false, true, true, false, false, false, false, false, false, false, false, false, false, false, false, false, false, false, false, false, false, false, false, false, false, false, false, false]
@[simp] def X18_3 (s0 s6 s7 : V) : St := [s0, .dead, .dead, .dead, .dead, .dead, s6, s7, .dead, .dead, .dead, .dead, .dead, .dead, .dead, .dead, .dead, .dead, .dead, .dead, .dead, .dead, .dead, .dead, .dead, .dead, .dead, .dead, .dead, .dead, .dead, .dead, .dead]
def b18_1 : MC := .seq (.scr h18_1)
 (.seq (.seq (.ops [⟨none, .mv 20 (.t 7)⟩,
    ⟨none, .bin 21 .lss .num (.t 20) (.c (.v (.int .i64 12)))⟩])
  (.cnd (.t 21)
   .skip
   (.seq (.scr x18_2) (.ex 2))))
 (.seq (.seq (.blk 3 (.seq (.ops [⟨none, .mv 24 (.t 0)⟩,
     ⟨none, .mv 25 (.t 7)⟩,
     ⟨none, .mv 26 (.t 6)⟩,
     ⟨none, .call (some 27) 36 [(.t 24), (.t 25), (.t 26)]⟩,
     ⟨none, .mv 28 (.t 0)⟩,
     ⟨none, .len 29 false (.t 28)⟩,
     ⟨none, .bin 30 .eql .num (.t 27) (.t 29)⟩])
   (.cnd (.t 30)
    (.seq (.ops [⟨none, .mv 31 (.t 7)⟩,
      ⟨none, .mv 32 (.t 6)⟩,
      ⟨none, .asg 2 (.t 31)⟩,
      ⟨none, .asg 3 (.t 32)⟩,
      ⟨none, .asg 4 (.c (.v (.int .i64 0)))⟩])
    (.seq (.scr r18) .ret))
    .skip))) (.scr x18_3))
 (.ops [⟨none, .mv 22 (.t 7)⟩,
  ⟨none, .bin 23 .add .num (.t 22) (.c (.v (.int .i64 1)))⟩,
  ⟨none, .asg 7 (.t 23)⟩])))
def b18_0 : MC := .seq (.scr h18_0)
 (.seq (.seq (.ops [⟨none, .mv 16 (.t 6)⟩,
    ⟨none, .bin 17 .lss .num (.t 16) (.c (.v (.int .i64 12)))⟩])
  (.cnd (.t 17)
   .skip
   (.seq (.scr x18_0) (.ex 0))))
 (.seq (.seq (.blk 1 (.seq (.ops [⟨none, .asg 7 (.c (.v (.int .i64 0)))⟩])
   (.seq (.blk 2 (.lop b18_1)) (.scr x18_2)))) (.scr x18_1))
 (.ops [⟨none, .mv 18 (.t 6)⟩,
  ⟨none, .bin 19 .add .num (.t 18) (.c (.v (.int .i64 1)))⟩,
  ⟨none, .asg 6 (.t 19)⟩])))
def c18 : MF := ⟨(.seq (.ops [⟨none, .asg 2 (.c (.v (.int .i64 0)))⟩,
   ⟨none, .asg 3 (.c (.v (.int .i64 0)))⟩,
   ⟨none, .asg 4 (.c (.v (.int .i64 0)))⟩])
 (.seq (.seq (.ops [⟨none, .mv 8 (.t 0)⟩,
    ⟨none, .call (some 9) 35 [(.t 8)]⟩,
    ⟨none, .asg 5 (.t 9)⟩])
  (.seq (.ops [⟨none, .mv 10 (.t 5)⟩,
    ⟨none, .bin 11 .neq .num (.t 10) (.c (.v (.int .i64 0)))⟩])
  (.cnd (.t 11)
   (.seq (.ops [⟨none, .mv 12 (.t 5)⟩,
     ⟨none, .asg 2 (.c (.v (.int .i64 0)))⟩,
     ⟨none, .asg 3 (.c (.v (.int .i64 0)))⟩,
     ⟨none, .asg 4 (.t 12)⟩])
   (.seq (.scr r18) .ret))
   .skip)))
 (.seq (.seq (.ops [⟨none, .mv 13 (.t 0)⟩,
    ⟨none, .len 14 false (.t 13)⟩,
    ⟨none, .bin 15 .eql .num (.t 14) (.c (.v (.int .i64 0)))⟩])
  (.cnd (.t 15)
   (.seq (.ops [⟨none, .asg 2 (.c (.v (.int .i64 0)))⟩,
     ⟨none, .asg 3 (.c (.v (.int .i64 0)))⟩,
     ⟨none, .asg 4 (.c (.v (.int .i64 7)))⟩])
   (.seq (.scr r18) .ret))
   .skip))
 (.seq (.seq (.ops [⟨none, .asg 6 (.c (.v (.int .i64 1)))⟩])
  (.seq (.blk 0 (.lop b18_0)) (.scr x18_0)))
 (.seq (.ops [⟨none, .asg 2 (.c (.v (.int .i64 0)))⟩,
   ⟨none, .asg 3 (.c (.v (.int .i64 12)))⟩,
   ⟨none, .asg 4 (.c (.v (.int .i64 0)))⟩])
 (.seq (.scr r18) .ret)))))),
  33, [2, 3, 4]⟩

/-- coinage/axis.Median -/
def hints19 : List (List Bool) := [[false, false, true, true, true, false, false, false, false, false, false, false, false, false, false, false, false, false, false, false, false, false, false, false, false, false, false, false, false, false, false, false, false, false, false, false, false, false, false, false, false, false, false, false], [false, false, false, false, false, false, true, true, false, false, false, false, false, false, false, false, false, false, false, false, false, false, false, false, false, false, false, false, false, false, false, false, false, false, false, false, false, false, false, false, false, false, false, false], [true, false, false, false, false, false, true, true, false, false, false, false, false, false, false, false, false, true, false, false, false, false, false, false, false, false, false, false, false, false, false, false, false, false, false, false, false, false, false, false, false, false, false, false], [false, false, false, false, false, false, true, true, false, false, false, false, false, false, false, false, false, false, false, false, false, false, false, false, false, false, false, false, false, false, false, false, false, false, false, false, false, false, false, false, false, false, false, false], [true, false, false, false, false, false, true, true, false, false, false, false, false, false, false, false, false, true, false, false, false, false, false, false, false, false, false, false, false, false, false, false, false, false, false, false, false, false, false, false, false, false, false, false], [true, false, false, false, false, false, true, true, true, true, false, false, false, false, false, false, false, true, false, false, false, false, false, false, false, false, false, false, false, false, false, false, false, false, false, false, false, false, false, false, false, false, false, false], [true, false, false, false, false, false, true, true, true, true, false, false, false, false, false, false, false, true, false, false, true, true, true, false, false, false, false, false, false, false, false, false, false, false, false, false, false, false, false, false, false, false, false, false], [true, false, false, false, false, false, true, true, true, true, false, false, false, false, false, false, false, true, false, false, false, false, false, false, false, false, false, false, false, false, false, false, false, false, false, false, false, false, false, false, false, false, false, false], [true, false, false, false, false, false, true, true, true, true, false, false, false, false, false, false, false, true, false, false, true, true, true, false, false, false, false, false, false, false, false, false, false, false, false, false, false, false, false, false, false, false, false, false], [false, false, true, true, true, false, false, false, false, false, false, false, false, false, false, false, false, false, false, false, false, false, false, false, false, false, false, false, false, false, false, false, false, false, false, false, false, false, false, false, false, false, false, false]]
@[simp] def r19 : List Bool := [false, false, true, true, true, false, false, false, false, false, false, false, false, false, false, false, false, false, false, false, false, false, false, false, false, false, false, false, false, false, false, false, false, false, false, false, false, false, false, false, false, false, false, false]
@[simp] def R19 (s2 s3 s4 : V) : St := [.dead, .dead, s2, s3, s4, .dead, .dead, .dead, .dead, .dead, .dead, .dead, .dead, .dead, .dead, .dead, .dead, .dead, .dead, .dead, .dead, .dead, .dead, .dead, .dead, .dead, .dead, .dead, .dead, .dead, .dead, .dead, .dead, .dead, .dead, .dead, .dead, .dead, .dead, .dead, .dead, .dead, .dead, .dead]
@[simp] def x19_0 : List Bool := [false, false, false, false, false, false, true, true, false, false, false, false, false, false, false, false, false, false, false, false, false, false, false, false, false, false, false, false, false, false, false, false, false, false, false, false, false, false, false, false, false, false, false, false]
@[simp] def X19_0 (s6 s7 : V) : St := [.dead, .dead, .dead, .dead, .dead, .dead, s6, s7, .dead, .dead, .dead, .dead, .dead, .dead, .dead, .dead, .dead, .dead, .dead, .dead, .dead, .dead, .dead, .dead, .dead, .dead, .dead, .dead, .dead, .dead, .dead, .dead, .dead, .dead, .dead, .dead, .dead, .dead, .dead, .dead, .dead, .dead, .dead, .dead]
@[simp] def h19_0 : List Bool := [true, false, false, false, false, false, true, true, false, false, false, false, false, false, false, false, false, true, false, false, false, false, false, false, false, false, false, false, false, false, false, false, false, false, false, false, false, false, false, false, false, false, false, false]
@[simp] def L19_0 (s0 s6 s7 s17 : V) : St := [s0, .dead, .dead, .dead, .dead, .dead, s6, s7, .dead, .dead, .dead, .dead, .dead, .dead, .dead, .dead, .dead, s17, .dead, .dead, .dead, .dead, .dead, .dead, .dead, .dead, .dead, .dead, .dead, .dead, .dead, .dead, .dead, .dead, .dead, .dead, .dead, .dead, .dead, .dead, .dead, .dead, .dead, .dead]
@[simp] def x19_1 : List Bool := [true, false, false, false, false, false, true, true, false, false, false, false, false, false, false, false, false, true, false, false, false, false, false, false, false, false, false, false, false, false, false, false, false, false, false, false, false, false, false, false, false, false, false, false]
@[simp] def X19_1 (s0 s6 s7 s17 : V) : St := [s0, .dead, .dead, .dead, .dead, .dead, s6, s7, .dead, .dead, .dead, .dead, .dead, .dead, .dead, .dead, .dead, s17, .dead, .dead, .dead, .dead, .dead, .dead, .dead, .dead, .dead, .dead, .dead, .dead, .dead, .dead, .dead, .dead, .dead, .dead, .dead, .dead, .dead, .dead, .dead, .dead, .dead, .dead]
@[simp] def x19_2 : List Bool := [true, false, false, false, false, false, true, true, true, true, false, false, false, false, false, false, false, true, false, false, false, false, false, false, false, false, false, false, false, false, false, false, false, false, false, false, false, false, false, false, false, false, false, false]
@[simp] def X19_2 (s0 s6 s7 s8 s9 s17 : V) : St := [s0, .dead, .dead, .dead, .dead, .dead, s6, s7, s8, s9, .dead, .dead, .dead, .dead, .dead, .dead, .dead, s17, .dead, .dead, .dead, .dead, .dead, .dead, .dead, .dead, .dead, .dead, .dead, .dead, .dead, .dead, .dead, .dead, .dead, .dead, .dead, .dead, .dead, .dead, .dead, .dead, .dead, .dead]
@[simp] def h19_1 : List Bool := [true, false, false, false, false, false, true, true, true, true, false, false, false, false, false, false, false, true, false, false, true, true, true, false, false, false, false, false, false, false, false, false, false, false, false, false, false, false, false, false, false, false, false, false]
@[simp] def L19_1 (s0 s6 s7 s8 s9 s17 s20 s21 s22 : V) : St := [s0, .dead, .dead, .dead, .dead, .dead, s6, s7, s8, s9, .dead, .dead, .dead, .dead, .dead, .dead, .dead, s17, .dead, .dead, s20, s21, s22, .dead, .dead, .dead, .dead, .dead, .dead, .dead, .dead, .dead, .dead, .dead, .dead, .dead, .dead, .dead, .dead, .dead, .dead, .dead, .dead, .dead]
@[simp] def x19_3 : List Bool := [true, false, false, false, false, false, true, true, true, true, false, false, false, false, false, false, false, true, false, false, true, true, true, false, false, false, false, false, false, false, false, false, false, false, false, false, false, false, false, false, false, false, false, false]
@[simp] def X19_3 (s0 s6 s7 s8 s9 s17 s20 s21 s22 : V) : St := [s0, .dead, .dead, .dead, .dead, .dead, s6, s7, s8, s9, .dead, .dead, .dead, .dead, .dead, .dead, .dead, s17, .dead, .dead, s20, s21, s22, .dead, .dead, .dead, .dead, .dead, .dead, .dead, .dead, .dead, .dead, .dead, .dead, .dead, .dead, .dead, .dead, .dead, .dead, .dead, .dead, .dead]
def b19_1 : MC := .seq (.scr h19_1)
 (.seq (.ops [⟨none, .bin 23 .lss .num (.t 22) (.t 21)⟩])
 (.seq (.cnd (.t 23)
   .skip
   (.seq (.scr x19_2) (.ex 2)))
 (.seq (.seq (.blk 3 (.seq (.ops [⟨none, .ixs 24 1 (.t 20) (.t 22)⟩,
     ⟨none, .ld1 25 (.t 24)⟩,
     ⟨none, .asg 11 (.t 25)⟩])
   (.ops [⟨none, .mv 26 (.t 9)⟩,
    ⟨none, .mv 27 (.t 8)⟩,
    ⟨none, .mv 28 (.t 11)⟩,
    ⟨none, .call (some 29) 32 [(.t 27), (.t 28)]⟩,
    ⟨none, .bin 30 .add .num (.t 26) (.t 29)⟩,
    ⟨none, .asg 9 (.t 30)⟩]))) (.scr x19_3))
 (.ops [⟨none, .bin 31 .add .num (.t 22) (.c (.v (.int .i64 1)))⟩,
  ⟨none, .mv 22 (.t 31)⟩]))))
def b19_0 : MC := .seq (.scr h19_0)
 (.seq (.ops [⟨none, .bin 18 .lss .num (.t 17) (.c (.v (.int .i64 12)))⟩])
 (.seq (.cnd (.t 18)
   .skip
   (.seq (.scr x19_0) (.ex 0)))
 (.seq (.seq (.blk 1 (.seq (.ops [⟨none, .mv 19 (.t 17)⟩,
     ⟨none, .asg 8 (.t 19)⟩])
   (.seq (.ops [⟨none, .asg 9 (.c (.v (.int .i64 0)))⟩])
   (.seq (.seq (.ops [⟨none, .mv 20 (.t 0)⟩,
      ⟨none, .len 21 false (.t 20)⟩,
      ⟨none, .mv 22 (.c (.v (.int .i64 0)))⟩])
    (.seq (.blk 2 (.lop b19_1)) (.scr x19_2)))
   (.seq (.ops [⟨none, .mv 32 (.t 7)⟩,
     ⟨none, .bin 33 .lss .num (.t 32) (.c (.v (.int .i64 0)))⟩,
     ⟨none, .mv 34 (.t 33)⟩,
     ⟨some (34, false), .mv 35 (.t 9)⟩,
     ⟨some (34, false), .mv 36 (.t 7)⟩,
     ⟨some (34, false), .bin 37 .lss .num (.t 35) (.t 36)⟩,
     ⟨none, .pick 38 (.t 34) (.c (.v (.bool true))) (.t 37)⟩])
   (.cnd (.t 38)
    (.ops [⟨none, .mv 39 (.t 8)⟩,
     ⟨none, .mv 40 (.t 9)⟩,
     ⟨none, .asg 6 (.t 39)⟩,
     ⟨none, .asg 7 (.t 40)⟩])
    .skip)))))) (.scr x19_1))
 (.ops [⟨none, .bin 41 .add .num (.t 17) (.c (.v (.int .i64 1)))⟩,
  ⟨none, .mv 17 (.t 41)⟩]))))
def c19 : MF := ⟨(.seq (.ops [⟨none, .asg 2 (.c (.v (.int .i64 0)))⟩,
   ⟨none, .asg 3 (.c (.v (.int .i64 0)))⟩,
   ⟨none, .asg 4 (.c (.v (.int .i64 0)))⟩])
 (.seq (.seq (.ops [⟨none, .mv 12 (.t 0)⟩,
    ⟨none, .call (some 13) 33 [(.t 12)]⟩,
    ⟨none, .asg 5 (.t 13)⟩])
  (.seq (.ops [⟨none, .mv 14 (.t 5)⟩,
    ⟨none, .bin 15 .neq .num (.t 14) (.c (.v (.int .i64 0)))⟩])
  (.cnd (.t 15)
   (.seq (.ops [⟨none, .mv 16 (.t 5)⟩,
     ⟨none, .asg 2 (.c (.v (.int .i64 0)))⟩,
     ⟨none, .asg 3 (.c (.v (.int .i64 0)))⟩,
     ⟨none, .asg 4 (.t 16)⟩])
   (.seq (.scr r19) .ret))
   .skip)))
 (.seq (.ops [⟨none, .asg 6 (.c (.v (.int .i64 0)))⟩,
   ⟨none, .asg 7 (.c (.v (.int .i64 (-1))))⟩])
 (.seq (.seq (.ops [⟨none, .mv 17 (.c (.v (.int .i64 0)))⟩])
  (.seq (.blk 0 (.lop b19_0)) (.scr x19_0)))
 (.seq (.ops [⟨none, .mv 42 (.t 6)⟩,
   ⟨none, .mv 43 (.t 7)⟩,
   ⟨none, .asg 2 (.t 42)⟩,
   ⟨none, .asg 3 (.t 43)⟩,
   ⟨none, .asg 4 (.c (.v (.int .i64 0)))⟩])
 (.seq (.scr r19) .ret)))))),
  44, [2, 3, 4]⟩

/-- coinage/coinageref10.Median -/
def hints20 : List (List Bool) := [[false, false, true, true, true, false, false, false, false, false, false, false, false, false, false, false, false, false, false, false, false, false, false, false, false, false, false, false, false, false, false, false, false, false, false, false, false, false, false, false, false, false, false, false], [false, false, true, true, true, false, false, false, false, false, false, false, false, false, false, false, false, false, false, false, false, false, false, false, false, false, false, false, false, false, false, false, false, false, false, false, false, false, false, false, false, false, false, false], [false, false, false, false, false, false, true, true, false, false, false, false, false, false, false, false, false, false, false, false, false, false, false, false, false, false, false, false, false, false, false, false, false, false, false, false, false, false, false, false, false, false, false, false], [true, false, false, false, false, false, true, true, true, false, false, false, false, false, false, false, false, false, false, false, false, false, false, false, false, false, false, false, false, false, false, false, false, false, false, false, false, false, false, false, false, false, false, false], [false, false, false, false, false, false, true, true, false, false, false, false, false, false, false, false, false, false, false, false, false, false, false, false, false, false, false, false, false, false, false, false, false, false, false, false, false, false, false, false, false, false, false, false], [true, false, false, false, false, false, true, true, true, false, false, false, false, false, false, false, false, false, false, false, false, false, false, false, false, false, false, false, false, false, false, false, false, false, false, false, false, false, false, false, false, false, false, false], [true, false, false, false, false, false, true, true, true, true, false, false, false, false, false, false, false, false, false, false, false, false, false, false, false, false, false, false, false, false, false, false, false, false, false, false, false, false, false, false, false, false, false, false], [true, false, false, false, false, false, true, true, true, true, true, false, false, false, false, false, false, false, false, false, false, false, false, false, false, false, false, false, false, false, false, false, false, false, false, false, false, false, false, false, false, false, false, false], [true, false, false, false, false, false, true, true, true, true, false, false, false, false, false, false, false, false, false, false, false, false, false, false, false, false, false, false, false, false, false, false, false, false, false, false, false, false, false, false, false, false, false, false], [true, false, false, false, false, false, true, true, true, true, true, false, false, false, false, false, false, false, false, false, false, false, false, false, false, false, false, false, false, false, false, false, false, false, false, false, false, false, false, false, false, false, false, false], [false, false, true, true, true, false, false, false, false, false, false, false, false, false, false, false, false, false, false, false, false, false, false, false, false, false, false, false, false, false, false, false, false, false, false, false, false, false, false, false, false, false, false, false]]
@[simp] def r20 : List Bool := [false, false, true, true, true, false, false, false, false, false, false, false, false, false, false, false, false, false, false, false, false, false, false, false, false, false, false, false, false, false, false, false, false, false, false, false, false, false, false, false, false, false, false, false]
@[simp] def R20 (s2 s3 s4 : V) : St := [.dead, .dead, s2, s3, s4, .dead, .dead, .dead, .dead, .dead, .dead, .dead, .dead, .dead, .dead, .dead, .dead, .dead, .dead, .dead, .dead, .dead, .dead, .dead, .dead, .dead, .dead, .dead, .dead, .dead, .dead, .dead, .dead, .dead, .dead, .dead, .dead, .dead, .dead, .dead, .dead, .dead, .dead, .dead]
@[simp] def x20_0 : List Bool := [false, false, false, false, false, false, true, true, false, false, false, false, false, false, false, false, false, false, false, false, false, false, false, false, false, false, false, false, false, false, false, false, false, false, false, false, false, false, false, false, false, false, false, false]
@[simp] def X20_0 (s6 s7 : V) : St := [.dead, .dead, .dead, .dead, .dead, .dead, s6, s7, .dead, .dead, .dead, .dead, .dead, .dead, .dead, .dead, .dead, .dead, .dead, .dead, .dead, .dead, .dead, .dead, .dead, .dead, .dead, .dead, .dead, .dead, .dead, .dead, .dead, .dead, .dead, .dead, .dead, .dead, .dead, .dead, .dead, .dead, .dead, .dead]
@[simp] def h20_0 : List Bool := [true, false, false, false, false, false, true, true, true, false, false, false, false, false, false, false, false, false, false, false, false, false, false, false, false, false, false, false, false, false, false, false, false, false, false, false, false, false, false, false, false, false, false, false]
@[simp] def L20_0 (s0 s6 s7 s8 : V) : St := [s0, .dead, .dead, .dead, .dead, .dead, s6, s7, s8, .dead, .dead, .dead, .dead, .dead, .dead, .dead, .dead, .dead, .dead, .dead, .dead, .dead, .dead, .dead, .dead, .dead, .dead, .dead, .dead, .dead, .dead, .dead, .dead, .dead, .dead, .dead, .dead, .dead, .dead, .dead, .dead, .dead, .dead, .dead]
@[simp] def x20_1 : List Bool := [true, false, false, false, false, false, true, true, true, false, false, false, false, false, false, false, false, false, false, false, false, false, false, false, false, false, false, false, false, false, false, false, false, false, false, false, false, false, false, false, false, false, false, false]
@[simp] def X20_1 (s0 s6 s7 s8 : V) : St := [s0, .dead, .dead, .dead, .dead, .dead, s6, s7, s8, .dead, .dead, .dead, .dead, .dead, .dead, .dead, .dead, .dead, .dead, .dead, .dead, .dead, .dead, .dead, .dead, .dead, .dead, .dead, .dead, .dead, .dead, .dead, .dead, .dead, .dead, .dead, .dead, .dead, .dead, .dead, .dead, .dead, .dead, .dead]
@[simp] def x20_2 : List Bool := [true, false, false, false, false, false, true, true, true, true, false, false, false, false, false, false, false, false, false, false, false, false, false, false, false, false, false, false, false, false, false, false, false, false, false, false, false, false, false, false, false, false, false, false]
@[simp] def X20_2 (s0 s6 s7 s8 s9 : V) : St := [s0, .dead, .dead, .dead, .dead, .dead, s6, s7, s8, s9, .dead, .dead, .dead, .dead, .dead, .dead, .dead, .dead, .dead, .dead, .dead, .dead, .dead, .dead, .dead, .dead, .dead, .dead, .dead, .dead, .dead, .dead, .dead, .dead, .dead, .dead, .dead, .dead, .dead, .dead, .dead, .dead, .dead, .dead]
@[simp] def h20_1 : List Bool := [true, false, false, false, false, false, true, true, true, true, true, false, false, false, false, false, false, false, false, false, false, false, false, false, false, false, false, false, false, false, false, false, false, false, false, false, false, false, false, false, false, false, false, false]
@[simp] def L20_1 (s0 s6 s7 s8 s9 s10 : V) : St := [s0, .dead, .dead, .dead, .dead, .dead, s6, s7, s8, s9, s10, .dead, .dead, .dead, .dead, .dead, .dead, .dead, .dead, .dead, .dead, .dead, .dead, .dead, .dead, .dead, .dead, .dead, .dead, .dead, .dead, .dead, .dead, .dead, .dead, .dead, .dead, .dead, .dead, .dead, .dead, .dead, .dead, .dead]
@[simp] def x20_3 : List Bool := [true, false, false, false, false, false, true, true, true, true, true, false, false, false, false, false, false, false, false, false, false, false, false, false, false, false, false, false, false, false, false, false, false, false, false, false, false, false, false, false, false, false, false, false]
@[simp] def X20_3 (s0 s6 s7 s8 s9 s10 : V) : St := [s0, .dead, .dead, .dead, .dead, .dead, s6, s7, s8, s9, s10, .dead, .dead, .dead, .dead, .dead, .dead, .dead, .dead, .dead, .dead, .dead, .dead, .dead, .dead, .dead, .dead, .dead, .dead, .dead, .dead, .dead, .dead, .dead, .dead, .dead, .dead, .dead, .dead, .dead, .dead, .dead, .dead, .dead]
def b20_1 : MC := .seq (.scr h20_1)
 (.seq (.seq (.ops [⟨none, .mv 23 (.t 10)⟩,
    ⟨none, .mv 24 (.t 0)⟩,
    ⟨none, .len 25 false (.t 24)⟩,
    ⟨none, .bin 26 .lss .num (.t 23) (.t 25)⟩])
  (.cnd (.t 26)
   .skip
   (.seq (.scr x20_2) (.ex 2))))
 (.seq (.seq (.blk 3 (.ops [⟨none, .mv 29 (.t 9)⟩,
    ⟨none, .mv 30 (.t 8)⟩,
    ⟨none, .mv 31 (.t 0)⟩,
    ⟨none, .mv 32 (.t 10)⟩,
    ⟨none, .ixs 33 1 (.t 31) (.t 32)⟩,
    ⟨none, .ld1 34 (.t 33)⟩,
    ⟨none, .call (some 35) 14 [(.t 30), (.t 34)]⟩,
    ⟨none, .bin 36 .add .num (.t 29) (.t 35)⟩,
    ⟨none, .asg 9 (.t 36)⟩])) (.scr x20_3))
 (.ops [⟨none, .mv 27 (.t 10)⟩,
  ⟨none, .bin 28 .add .num (.t 27) (.c (.v (.int .i64 1)))⟩,
  ⟨none, .asg 10 (.t 28)⟩])))
def b20_0 : MC := .seq (.scr h20_0)
 (.seq (.seq (.ops [⟨none, .mv 19 (.t 8)⟩,
    ⟨none, .bin 20 .lss .num (.t 19) (.c (.v (.int .i64 12)))⟩])
  (.cnd (.t 20)
   .skip
   (.seq (.scr x20_0) (.ex 0))))
 (.seq (.seq (.blk 1 (.seq (.ops [⟨none, .asg 9 (.c (.v (.int .i64 0)))⟩])
   (.seq (.seq (.ops [⟨none, .asg 10 (.c (.v (.int .i64 0)))⟩])
    (.seq (.blk 2 (.lop b20_1)) (.scr x20_2)))
   (.seq (.ops [⟨none, .mv 37 (.t 9)⟩,
     ⟨none, .mv 38 (.t 7)⟩,
     ⟨none, .bin 39 .lss .num (.t 37) (.t 38)⟩])
   (.cnd (.t 39)
    (.ops [⟨none, .mv 40 (.t 8)⟩,
     ⟨none, .mv 41 (.t 9)⟩,
     ⟨none, .asg 6 (.t 40)⟩,
     ⟨none, .asg 7 (.t 41)⟩])
    .skip))))) (.scr x20_1))
 (.ops [⟨none, .mv 21 (.t 8)⟩,
  ⟨none, .bin 22 .add .num (.t 21) (.c (.v (.int .i64 1)))⟩,
  ⟨none, .asg 8 (.t 22)⟩])))
def c20 : MF := ⟨(.seq (.ops [⟨none, .asg 2 (.c (.v (.int .i64 0)))⟩,
   ⟨none, .asg 3 (.c (.v (.int .i64 0)))⟩,
   ⟨none, .asg 4 (.c (.v (.int .i64 0)))⟩])
 (.seq (.seq (.ops [⟨none, .mv 11 (.t 0)⟩,
    ⟨none, .call (some 12) 35 [(.t 11)]⟩,
    ⟨none, .asg 5 (.t 12)⟩])
  (.seq (.ops [⟨none, .mv 13 (.t 5)⟩,
    ⟨none, .bin 14 .neq .num (.t 13) (.c (.v (.int .i64 0)))⟩])
  (.cnd (.t 14)
   (.seq (.ops [⟨none, .mv 15 (.t 5)⟩,
     ⟨none, .asg 2 (.c (.v (.int .i64 0)))⟩,
     ⟨none, .asg 3 (.c (.v (.int .i64 0)))⟩,
     ⟨none, .asg 4 (.t 15)⟩])
   (.seq (.scr r20) .ret))
   .skip)))
 (.seq (.seq (.ops [⟨none, .mv 16 (.t 0)⟩,
    ⟨none, .len 17 false (.t 16)⟩,
    ⟨none, .bin 18 .eql .num (.t 17) (.c (.v (.int .i64 0)))⟩])
  (.cnd (.t 18)
   (.seq (.ops [⟨none, .asg 2 (.c (.v (.int .i64 0)))⟩,
     ⟨none, .asg 3 (.c (.v (.int .i64 0)))⟩,
     ⟨none, .asg 4 (.c (.v (.int .i64 7)))⟩])
   (.seq (.scr r20) .ret))
   .skip))
 (.seq (.ops [⟨none, .asg 6 (.c (.v (.int .i64 0)))⟩,
   ⟨none, .asg 7 (.c (.v (.int .i64 1000)))⟩])
 (.seq (.seq (.ops [⟨none, .asg 8 (.c (.v (.int .i64 0)))⟩])
  (.seq (.blk 0 (.lop b20_0)) (.scr x20_0)))
 (.seq (.ops [⟨none, .mv 42 (.t 6)⟩,
   ⟨none, .mv 43 (.t 7)⟩,
   ⟨none, .asg 2 (.t 42)⟩,
   ⟨none, .asg 3 (.t 43)⟩,
   ⟨none, .asg 4 (.c (.v (.int .i64 0)))⟩])
 (.seq (.scr r20) .ret))))))),
  44, [2, 3, 4]⟩

/-- coinage/coinagebase.In -/
def hints21 : List (List Bool) := [[false, false, false, false, false, false, true, false, false, false, false, false, false, false, false]]
@[simp] def r21 : List Bool := [false, false, false, false, false, false, true, false, false, false, false, false, false, false, false]
@[simp] def R21 (s6 : V) : St := [.dead, .dead, .dead, .dead, .dead, .dead, s6, .dead, .dead, .dead, .dead, .dead, .dead, .dead, .dead]
def c21 : MF := ⟨(.seq (.ops [⟨none, .asg 6 (.c (.v (.bool false)))⟩])
 (.seq (.ops [⟨none, .mv 7 (.t 0)⟩,
   ⟨none, .mv 8 (.t 1)⟩,
   ⟨none, .bin 9 .geq .num (.t 7) (.t 8)⟩,
   ⟨none, .mv 10 (.t 9)⟩,
   ⟨some (10, true), .mv 11 (.t 0)⟩,
   ⟨some (10, true), .mv 12 (.t 2)⟩,
   ⟨some (10, true), .bin 13 .leq .num (.t 11) (.t 12)⟩,
   ⟨none, .pick 14 (.t 10) (.t 13) (.c (.v (.bool false)))⟩,
   ⟨none, .asg 6 (.t 14)⟩])
 (.seq (.scr r21) .ret))),
  15, [6]⟩

/-- coinage/axis.Fixed -/
def hints22 : List (List Bool) := [[false, false, false, false, true, false, false, false, false, false, false, false, false, false, false, false, false, false, false, false, false, false, false, false, false], [false, false, false, false, false, false, false, false, false, false, false, false, false, false, false, false, false, false, false, false, false, false, false, false, false], [true, false, false, true, false, false, false, false, false, false, false, false, false, false, false, false, false, true, false, false, false, false, false, false, false], [false, false, false, false, false, false, false, false, false, false, false, false, false, false, false, false, false, false, false, false, false, false, false, false, false], [true, false, false, true, false, false, false, false, false, false, false, false, false, false, false, false, false, true, false, false, false, false, false, false, false], [false, false, false, false, true, false, false, false, false, false, false, false, false, false, false, false, false, false, false, false, false, false, false, false, false], [false, false, false, false, true, false, false, false, false, false, false, false, false, false, false, false, false, false, false, false, false, false, false, false, false]]
@[simp] def r22 : List Bool := [false, false, false, false, true, false, false, false, false, false, false, false, false, false, false, false, false, false, false, false, false, false, false, false, false]
@[simp] def R22 (s4 : V) : St := [.dead, .dead, .dead, .dead, s4, .dead, .dead, .dead, .dead, .dead, .dead, .dead, .dead, .dead, .dead, .dead, .dead, .dead, .dead, .dead, .dead, .dead, .dead, .dead, .dead]
@[simp] def x22_0 : List Bool := [false, false, false, false, false, false, false, false, false, false, false, false, false, false, false, false, false, false, false, false, false, false, false, false, false]
@[simp] def X22_0 : St := [.dead, .dead, .dead, .dead, .dead, .dead, .dead, .dead, .dead, .dead, .dead, .dead, .dead, .dead, .dead, .dead, .dead, .dead, .dead, .dead, .dead, .dead, .dead, .dead, .dead]
@[simp] def h22_0 : List Bool := [true, false, false, true, false, false, false, false, false, false, false, false, false, false, false, false, false, true, false, false, false, false, false, false, false]
@[simp] def L22_0 (s0 s3 s17 : V) : St := [s0, .dead, .dead, s3, .dead, .dead, .dead, .dead, .dead, .dead, .dead, .dead, .dead, .dead, .dead, .dead, .dead, s17, .dead, .dead, .dead, .dead, .dead, .dead, .dead]
@[simp] def x22_1 : List Bool := [true, false, false, true, false, false, false, false, false, false, false, false, false, false, false, false, false, true, false, false, false, false, false, false, false]
@[simp] def X22_1 (s0 s3 s17 : V) : St := [s0, .dead, .dead, s3, .dead, .dead, .dead, .dead, .dead, .dead, .dead, .dead, .dead, .dead, .dead, .dead, .dead, s17, .dead, .dead, .dead, .dead, .dead, .dead, .dead]
def b22_0 : MC := .seq (.scr h22_0)
 (.seq (.ops [⟨none, .bin 18 .lss .num (.t 17) (.c (.v (.int .i64 12)))⟩])
 (.seq (.cnd (.t 18)
   .skip
   (.seq (.scr x22_0) (.ex 0)))
 (.seq (.seq (.blk 1 (.seq (.ops [⟨none, .mv 19 (.t 17)⟩,
     ⟨none, .alc 5 [(.v (.int .i64 0))]⟩,
     ⟨none, .stn none 1 (.t 5) (.t 19)⟩])
   (.seq (.ops [⟨none, .mv 20 (.t 0)⟩,
     ⟨none, .mkf 21 38 [(.t 5), (.t 3)]⟩,
     ⟨none, .call (some 22) 37 [(.t 20), (.t 21)]⟩,
     ⟨none, .un 23 .not (.t 22)⟩])
   (.cnd (.t 23)
    (.seq (.ops [⟨none, .asg 4 (.c (.v (.bool true)))⟩])
    (.seq (.scr r22) .ret))
    .skip)))) (.scr x22_1))
 (.ops [⟨none, .bin 24 .add .num (.t 17) (.c (.v (.int .i64 1)))⟩,
  ⟨none, .mv 17 (.t 24)⟩]))))
def c22 : MF := ⟨(.seq (.ops [⟨none, .box 3 (.t 1)⟩,
   ⟨none, .asg 4 (.c (.v (.bool false)))⟩])
 (.seq (.seq (.ops [⟨none, .mv 6 (.t 0)⟩,
    ⟨none, .call (some 7) 33 [(.t 6)]⟩,
    ⟨none, .bin 8 .neq .num (.t 7) (.c (.v (.int .i64 0)))⟩,
    ⟨none, .mv 9 (.t 8)⟩,
    ⟨some (9, false), .ld1 10 (.t 3)⟩,
    ⟨some (9, false), .bin 11 .lss .num (.t 10) (.c (.v (.int .i64 0)))⟩,
    ⟨none, .pick 12 (.t 9) (.c (.v (.bool true))) (.t 11)⟩,
    ⟨none, .mv 13 (.t 12)⟩,
    ⟨some (13, false), .ld1 14 (.t 3)⟩,
    ⟨some (13, false), .bin 15 .gtr .num (.t 14) (.c (.v (.int .i64 6)))⟩,
    ⟨none, .pick 16 (.t 13) (.c (.v (.bool true))) (.t 15)⟩])
  (.cnd (.t 16)
   (.seq (.ops [⟨none, .asg 4 (.c (.v (.bool false)))⟩])
   (.seq (.scr r22) .ret))
   .skip))
 (.seq (.seq (.ops [⟨none, .mv 17 (.c (.v (.int .i64 0)))⟩])
  (.seq (.blk 0 (.lop b22_0)) (.scr x22_0)))
 (.seq (.ops [⟨none, .asg 4 (.c (.v (.bool false)))⟩])
 (.seq (.scr r22) .ret))))),
  25, [4]⟩

/-- coinage/axis.Densest -/
def hints23 : List (List Bool) := [[false, false, false, false, true, true, true, false, false, false, false, false, false, false, false, false, false, false, false, false, false, false, false, false, false, false, false, false, false, false, false, false, false, false, false, false, false, false], [false, false, false, false, true, true, true, false, false, false, false, false, false, false, false, false, false, false, false, false, false, false, false, false, false, false, false, false, false, false, false, false, false, false, false, false, false, false], [false, false, false, false, false, false, false, false, true, true, false, false, false, false, false, false, false, false, false, false, false, false, false, false, false, false, false, false, false, false, false, false, false, false, false, false, false, false], [true, true, false, false, false, false, false, false, true, true, false, false, false, false, false, false, false, false, false, false, false, false, false, true, false, false, false, false, false, false, false, false, false, false, false, false, false, false], [false, false, false, false, false, false, false, false, true, true, false, false, false, false, false, false, false, false, false, false, false, false, false, false, false, false, false, false, false, false, false, false, false, false, false, false, false, false], [true, true, false, false, false, false, false, false, true, true, false, false, false, false, false, false, false, false, false, false, false, false, false, true, false, false, false, false, false, false, false, false, false, false, false, false, false, false], [false, false, false, false, true, true, true, false, false, false, false, false, false, false, false, false, false, false, false, false, false, false, false, false, false, false, false, false, false, false, false, false, false, false, false, false, false, false]]
@[simp] def r23 : List Bool := [false, false, false, false, true, true, true, false, false, false, false, false, false, false, false, false, false, false, false, false, false, false, false, false, false, false, false, false, false, false, false, false, false, false, false, false, false, false]
@[simp] def R23 (s4 s5 s6 : V) : St := [.dead, .dead, .dead, .dead, s4, s5, s6, .dead, .dead, .dead, .dead, .dead, .dead, .dead, .dead, .dead, .dead, .dead, .dead, .dead, .dead, .dead, .dead, .dead, .dead, .dead, .dead, .dead, .dead, .dead, .dead, .dead, .dead, .dead, .dead, .dead, .dead, .dead]
@[simp] def x23_0 : List Bool := [false, false, false, false, false, false, false, false, true, true, false, false, false, false, false, false, false, false, false, false, false, false, false, false, false, false, false, false, false, false, false, false, false, false, false, false, false, false]
@[simp] def X23_0 (s8 s9 : V) : St := [.dead, .dead, .dead, .dead, .dead, .dead, .dead, .dead, s8, s9, .dead, .dead, .dead, .dead, .dead, .dead, .dead, .dead, .dead, .dead, .dead, .dead, .dead, .dead, .dead, .dead, .dead, .dead, .dead, .dead, .dead, .dead, .dead, .dead, .dead, .dead, .dead, .dead]
@[simp] def h23_0 : List Bool := [true, true, false, false, false, false, false, false, true, true, false, false, false, false, false, false, false, false, false, false, false, false, false, true, false, false, false, false, false, false, false, false, false, false, false, false, false, false]
@[simp] def L23_0 (s0 s1 s8 s9 s23 : V) : St := [s0, s1, .dead, .dead, .dead, .dead, .dead, .dead, s8, s9, .dead, .dead, .dead, .dead, .dead, .dead, .dead, .dead, .dead, .dead, .dead, .dead, .dead, s23, .dead, .dead, .dead, .dead, .dead, .dead, .dead, .dead, .dead, .dead, .dead, .dead, .dead, .dead]
@[simp] def x23_1 : List Bool := [true, true, false, false, false, false, false, false, true, true, false, false, false, false, false, false, false, false, false, false, false, false, false, true, false, false, false, false, false, false, false, false, false, false, false, false, false, false]
@[simp] def X23_1 (s0 s1 s8 s9 s23 : V) : St := [s0, s1, .dead, .dead, .dead, .dead, .dead, .dead, s8, s9, .dead, .dead, .dead, .dead, .dead, .dead, .dead, .dead, .dead, .dead, .dead, .dead, .dead, s23, .dead, .dead, .dead, .dead, .dead, .dead, .dead, .dead, .dead, .dead, .dead, .dead, .dead, .dead]
def b23_0 : MC := .seq (.scr h23_0)
 (.seq (.ops [⟨none, .bin 24 .lss .num (.t 23) (.c (.v (.int .i64 12)))⟩])
 (.seq (.cnd (.t 24)
   .skip
   (.seq (.scr x23_0) (.ex 0)))
 (.seq (.seq (.blk 1 (.seq (.ops [⟨none, .mv 25 (.t 23)⟩,
     ⟨none, .asg 10 (.t 25)⟩])
   (.seq (.ops [⟨none, .mv 26 (.t 0)⟩,
     ⟨none, .mv 27 (.t 10)⟩,
     ⟨none, .mv 28 (.t 1)⟩,
     ⟨none, .call (some 29) 34 [(.t 26), (.t 27), (.t 28)]⟩,
     ⟨none, .asg 11 (.t 29)⟩])
   (.seq (.ops [⟨none, .mv 30 (.t 11)⟩,
     ⟨none, .mv 31 (.t 9)⟩,
     ⟨none, .bin 32 .gtr .num (.t 30) (.t 31)⟩])
   (.cnd (.t 32)
    (.ops [⟨none, .mv 33 (.t 10)⟩,
     ⟨none, .mv 34 (.t 11)⟩,
     ⟨none, .asg 8 (.t 33)⟩,
     ⟨none, .asg 9 (.t 34)⟩])
    .skip))))) (.scr x23_1))
 (.ops [⟨none, .bin 35 .add .num (.t 23) (.c (.v (.int .i64 1)))⟩,
  ⟨none, .mv 23 (.t 35)⟩]))))
def c23 : MF := ⟨(.seq (.ops [⟨none, .asg 4 (.c (.v (.int .i64 0)))⟩,
   ⟨none, .asg 5 (.c (.v (.int .i64 0)))⟩,
   ⟨none, .asg 6 (.c (.v (.int .i64 0)))⟩])
 (.seq (.seq (.ops [⟨none, .mv 12 (.t 0)⟩,
    ⟨none, .call (some 13) 39 [(.t 12)]⟩,
    ⟨none, .asg 7 (.t 13)⟩])
  (.seq (.ops [⟨none, .mv 14 (.t 7)⟩,
    ⟨none, .bin 15 .neq .num (.t 14) (.c (.v (.int .i64 0)))⟩])
  (.cnd (.t 15)
   (.seq (.ops [⟨none, .mv 16 (.t 7)⟩,
     ⟨none, .asg 4 (.c (.v (.int .i64 0)))⟩,
     ⟨none, .asg 5 (.c (.v (.int .i64 0)))⟩,
     ⟨none, .asg 6 (.t 16)⟩])
   (.seq (.scr r23) .ret))
   .skip)))
 (.seq (.seq (.ops [⟨none, .mv 17 (.t 1)⟩,
    ⟨none, .bin 18 .lss .num (.t 17) (.c (.v (.int .i64 1)))⟩,
    ⟨none, .mv 19 (.t 18)⟩,
    ⟨some (19, false), .mv 20 (.t 1)⟩,
    ⟨some (19, false), .bin 21 .gtr .num (.t 20) (.c (.v (.int .i64 12)))⟩,
    ⟨none, .pick 22 (.t 19) (.c (.v (.bool true))) (.t 21)⟩])
  (.cnd (.t 22)
   (.seq (.ops [⟨none, .asg 4 (.c (.v (.int .i64 0)))⟩,
     ⟨none, .asg 5 (.c (.v (.int .i64 0)))⟩,
     ⟨none, .asg 6 (.c (.v (.int .i64 2)))⟩])
   (.seq (.scr r23) .ret))
   .skip))
 (.seq (.ops [⟨none, .asg 8 (.c (.v (.int .i64 0)))⟩,
   ⟨none, .asg 9 (.c (.v (.int .i64 0)))⟩])
 (.seq (.seq (.ops [⟨none, .mv 23 (.c (.v (.int .i64 0)))⟩])
  (.seq (.blk 0 (.lop b23_0)) (.scr x23_0)))
 (.seq (.ops [⟨none, .mv 36 (.t 8)⟩,
   ⟨none, .mv 37 (.t 9)⟩,
   ⟨none, .asg 4 (.t 36)⟩,
   ⟨none, .asg 5 (.t 37)⟩,
   ⟨none, .asg 6 (.c (.v (.int .i64 0)))⟩])
 (.seq (.scr r23) .ret))))))),
  38, [4, 5, 6]⟩

/-- coinage/coinageref10.Densest -/
def hints24 : List (List Bool) := [[false, false, false, false, true, true, true, false, false, false, false, false, false, false, false, false, false, false, false, false, false, false, false, false, false, false, false, false, false, false, false, false, false, false, false], [false, false, false, false, true, true, true, false, false, false, false, false, false, false, false, false, false, false, false, false, false, false, false, false, false, false, false, false, false, false, false, false, false, false, false], [false, false, false, false, false, false, false, false, true, true, false, false, false, false, false, false, false, false, false, false, false, false, false, false, false, false, false, false, false, false, false, false, false, false, false], [true, true, false, false, false, false, false, false, true, true, true, false, false, false, false, false, false, false, false, false, false, false, false, false, false, false, false, false, false, false, false, false, false, false, false], [false, false, false, false, false, false, false, false, true, true, false, false, false, false, false, false, false, false, false, false, false, false, false, false, false, false, false, false, false, false, false, false, false, false, false], [true, true, false, false, false, false, false, false, true, true, true, false, false, false, false, false, false, false, false, false, false, false, false, false, false, false, false, false, false, false, false, false, false, false, false], [false, false, false, false, true, true, true, false, false, false, false, false, false, false, false, false, false, false, false, false, false, false, false, false, false, false, false, false, false, false, false, false, false, false, false]]
@[simp] def r24 : List Bool := [false, false, false, false, true, true, true, false, false, false, false, false, false, false, false, false, false, false, false, false, false, false, false, false, false, false, false, false, false, false, false, false, false, false, false]
@[simp] def R24 (s4 s5 s6 : V) : St := [.dead, .dead, .dead, .dead, s4, s5, s6, .dead, .dead, .dead, .dead, .dead, .dead, .dead, .dead, .dead, .dead, .dead, .dead, .dead, .dead, .dead, .dead, .dead, .dead, .dead, .dead, .dead, .dead, .dead, .dead, .dead, .dead, .dead, .dead]
@[simp] def x24_0 : List Bool := [false, false, false, false, false, false, false, false, true, true, false, false, false, false, false, false, false, false, false, false, false, false, false, false, false, false, false, false, false, false, false, false, false, false, false]
@[simp] def X24_0 (s8 s9 : V) : St := [.dead, .dead, .dead, .dead, .dead, .dead, .dead, .dead, s8, s9, .dead, .dead, .dead, .dead, .dead, .dead, .dead, .dead, .dead, .dead, .dead, .dead, .dead, .dead, .dead, .dead, .dead, .dead, .dead, .dead, .dead, .dead, .dead, .dead, .dead]
@[simp] def h24_0 : List Bool := [true, true, false, false, false, false, false, false, true, true, true, false, false, false, false, false, false, false, false, false, false, false, false, false, false, false, false, false, false, false, false, false, false, false, false]
@[simp] def L24_0 (s0 s1 s8 s9 s10 : V) : St := [s0, s1, .dead, .dead, .dead, .dead, .dead, .dead, s8, s9, s10, .dead, .dead, .dead, .dead, .dead, .dead, .dead, .dead, .dead, .dead, .dead, .dead, .dead, .dead, .dead, .dead, .dead, .dead, .dead, .dead, .dead, .dead, .dead, .dead]
@[simp] def x24_1 : List Bool := [true, true, false, false, false, false, false, false, true, true, true, false, false, false, false, false, false, false, false, false, false, false, false, false, false, false, false, false, false, false, false, false, false, false, false]
@[simp] def X24_1 (s0 s1 s8 s9 s10 : V) : St := [s0, s1, .dead, .dead, .dead, .dead, .dead, .dead, s8, s9, s10, .dead, .dead, .dead, .dead, .dead, .dead, .dead, .dead, .dead, .dead, .dead, .dead, .dead, .dead, .dead, .dead, .dead, .dead, .dead, .dead, .dead, .dead, .dead, .dead]
def b24_0 : MC := .seq (.scr h24_0)
 (.seq (.seq (.ops [⟨none, .mv 20 (.t 10)⟩,
    ⟨none, .bin 21 .lss .num (.t 20) (.c (.v (.int .i64 12)))⟩])
  (.cnd (.t 21)
   .skip
   (.seq (.scr x24_0) (.ex 0))))
 (.seq (.seq (.blk 1 (.seq (.ops [⟨none, .mv 24 (.t 0)⟩,
     ⟨none, .mv 25 (.t 10)⟩,
     ⟨none, .mv 26 (.t 1)⟩,
     ⟨none, .call (some 27) 36 [(.t 24), (.t 25), (.t 26)]⟩,
     ⟨none, .asg 11 (.t 27)⟩])
   (.seq (.ops [⟨none, .mv 28 (.t 11)⟩,
     ⟨none, .mv 29 (.t 9)⟩,
     ⟨none, .bin 30 .gtr .num (.t 28) (.t 29)⟩])
   (.cnd (.t 30)
    (.ops [⟨none, .mv 31 (.t 10)⟩,
     ⟨none, .mv 32 (.t 11)⟩,
     ⟨none, .asg 8 (.t 31)⟩,
     ⟨none, .asg 9 (.t 32)⟩])
    .skip)))) (.scr x24_1))
 (.ops [⟨none, .mv 22 (.t 10)⟩,
  ⟨none, .bin 23 .add .num (.t 22) (.c (.v (.int .i64 1)))⟩,
  ⟨none, .asg 10 (.t 23)⟩])))
def c24 : MF := ⟨(.seq (.ops [⟨none, .asg 4 (.c (.v (.int .i64 0)))⟩,
   ⟨none, .asg 5 (.c (.v (.int .i64 0)))⟩,
   ⟨none, .asg 6 (.c (.v (.int .i64 0)))⟩])
 (.seq (.seq (.ops [⟨none, .mv 12 (.t 0)⟩,
    ⟨none, .call (some 13) 35 [(.t 12)]⟩,
    ⟨none, .asg 7 (.t 13)⟩])
  (.seq (.ops [⟨none, .mv 14 (.t 7)⟩,
    ⟨none, .bin 15 .neq .num (.t 14) (.c (.v (.int .i64 0)))⟩])
  (.cnd (.t 15)
   (.seq (.ops [⟨none, .mv 16 (.t 7)⟩,
     ⟨none, .asg 4 (.c (.v (.int .i64 0)))⟩,
     ⟨none, .asg 5 (.c (.v (.int .i64 0)))⟩,
     ⟨none, .asg 6 (.t 16)⟩])
   (.seq (.scr r24) .ret))
   .skip)))
 (.seq (.seq (.ops [⟨none, .mv 17 (.t 1)⟩,
    ⟨none, .call (some 18) 21 [(.t 17), (.c (.v (.int .i64 1))), (.c (.v (.int .i64 12)))]⟩,
    ⟨none, .un 19 .not (.t 18)⟩])
  (.cnd (.t 19)
   (.seq (.ops [⟨none, .asg 4 (.c (.v (.int .i64 0)))⟩,
     ⟨none, .asg 5 (.c (.v (.int .i64 0)))⟩,
     ⟨none, .asg 6 (.c (.v (.int .i64 2)))⟩])
   (.seq (.scr r24) .ret))
   .skip))
 (.seq (.ops [⟨none, .asg 8 (.c (.v (.int .i64 0)))⟩,
   ⟨none, .asg 9 (.c (.v (.int .i64 0)))⟩])
 (.seq (.seq (.ops [⟨none, .asg 10 (.c (.v (.int .i64 0)))⟩])
  (.seq (.blk 0 (.lop b24_0)) (.scr x24_0)))
 (.seq (.ops [⟨none, .mv 33 (.t 8)⟩,
   ⟨none, .mv 34 (.t 9)⟩,
   ⟨none, .asg 4 (.t 33)⟩,
   ⟨none, .asg 5 (.t 34)⟩,
   ⟨none, .asg 6 (.c (.v (.int .i64 0)))⟩])
 (.seq (.scr r24) .ret))))))),
  35, [4, 5, 6]⟩

/-- coinage/coinageref10.Fixed -/
def hints25 : List (List Bool) := [[false, false, false, false, true, false, false, false, false, false, false, false, false, false, false, false, false, false, false, false, false, false, false, false, false, false, false, false, false, false, false, false, false, false, false, false, false, false, false, false, false, false, false], [false, false, false, false, false, false, false, false, false, false, false, false, false, false, false, false, false, false, false, false, false, false, false, false, false, false, false, false, false, false, false, false, false, false, false, false, false, false, false, false, false, false, false], [true, true, false, false, false, true, false, false, false, false, false, false, false, false, false, false, false, false, false, false, false, false, false, false, false, false, false, false, false, false, false, false, false, false, false, false, false, false, false, false, false, false, false], [false, false, false, false, false, false, false, false, false, false, false, false, false, false, false, false, false, false, false, false, false, false, false, false, false, false, false, false, false, false, false, false, false, false, false, false, false, false, false, false, false, false, false], [true, true, false, false, false, true, false, false, false, false, false, false, false, false, false, false, false, false, false, false, false, false, false, false, false, false, false, false, false, false, false, false, false, false, false, false, false, false, false, false, false, false, false], [true, true, false, false, false, true, true, false, false, false, false, false, false, false, false, false, false, false, false, false, false, false, false, false, false, false, false, false, false, false, false, false, false, false, false, false, false, false, false, false, false, false, false], [true, true, false, false, false, true, true, true, false, false, false, false, false, false, false, false, false, false, false, false, false, false, false, false, false, false, false, false, false, false, false, false, false, false, false, false, false, false, false, false, false, false, false], [true, true, false, false, false, true, true, false, false, false, false, false, false, false, false, false, false, false, false, false, false, false, false, false, false, false, false, false, false, false, false, false, false, false, false, false, false, false, false, false, false, false, false], [true, true, false, false, false, true, true, true, false, false, false, false, false, false, false, false, false, false, false, false, false, false, false, false, false, false, false, false, false, false, false, false, false, false, false, false, false, false, false, false, false, false, false], [false, false, false, false, true, false, false, false, false, false, false, false, false, false, false, false, false, false, false, false, false, false, false, false, false, false, false, false, false, false, false, false, false, false, false, false, false, false, false, false, false, false, false], [false, false, false, false, true, false, false, false, false, false, false, false, false, false, false, false, false, false, false, false, false, false, false, false, false, false, false, false, false, false, false, false, false, false, false, false, false, false, false, false, false, false, false]]
@[simp] def r25 : List Bool := [false, false, false, false, true, false, false, false, false, false, false, false, false, false, false, false, false, false, false, false, false, false, false, false, false, false, false, false, false, false, false, false, false, false, false, false, false, false, false, false, false, false, false]
@[simp] def R25 (s4 : V) : St := [.dead, .dead, .dead, .dead, s4, .dead, .dead, .dead, .dead, .dead, .dead, .dead, .dead, .dead, .dead, .dead, .dead, .dead, .dead, .dead, .dead, .dead, .dead, .dead, .dead, .dead, .dead, .dead, .dead, .dead, .dead, .dead, .dead, .dead, .dead, .dead, .dead, .dead, .dead, .dead, .dead, .dead, .dead]
@[simp] def x25_0 : List Bool := [false, false, false, false, false, false, false, false, false, false, false, false, false, false, false, false, false, false, false, false, false, false, false, false, false, false, false, false, false, false, false, false, false, false, false, false, false, false, false, false, false, false, false]
@[simp] def X25_0 : St := [.dead, .dead, .dead, .dead, .dead, .dead, .dead, .dead, .dead, .dead, .dead, .dead, .dead, .dead, .dead, .dead, .dead, .dead, .dead, .dead, .dead, .dead, .dead, .dead, .dead, .dead, .dead, .dead, .dead, .dead, .dead, .dead, .dead, .dead, .dead, .dead, .dead, .dead, .dead, .dead, .dead, .dead, .dead]
@[simp] def h25_0 : List Bool := [true, true, false, false, false, true, false, false, false, false, false, false, false, false, false, false, false, false, false, false, false, false, false, false, false, false, false, false, false, false, false, false, false, false, false, false, false, false, false, false, false, false, false]
@[simp] def L25_0 (s0 s1 s5 : V) : St := [s0, s1, .dead, .dead, .dead, s5, .dead, .dead, .dead, .dead, .dead, .dead, .dead, .dead, .dead, .dead, .dead, .dead, .dead, .dead, .dead, .dead, .dead, .dead, .dead, .dead, .dead, .dead, .dead, .dead, .dead, .dead, .dead, .dead, .dead, .dead, .dead, .dead, .dead, .dead, .dead, .dead, .dead]
@[simp] def x25_1 : List Bool := [true, true, false, false, false, true, false, false, false, false, false, false, false, false, false, false, false, false, false, false, false, false, false, false, false, false, false, false, false, false, false, false, false, false, false, false, false, false, false, false, false, false, false]
@[simp] def X25_1 (s0 s1 s5 : V) : St := [s0, s1, .dead, .dead, .dead, s5, .dead, .dead, .dead, .dead, .dead, .dead, .dead, .dead, .dead, .dead, .dead, .dead, .dead, .dead, .dead, .dead, .dead, .dead, .dead, .dead, .dead, .dead, .dead, .dead, .dead, .dead, .dead, .dead, .dead, .dead, .dead, .dead, .dead, .dead, .dead, .dead, .dead]
@[simp] def x25_2 : List Bool := [true, true, false, false, false, true, true, false, false, false, false, false, false, false, false, false, false, false, false, false, false, false, false, false, false, false, false, false, false, false, false, false, false, false, false, false, false, false, false, false, false, false, false]
@[simp] def X25_2 (s0 s1 s5 s6 : V) : St := [s0, s1, .dead, .dead, .dead, s5, s6, .dead, .dead, .dead, .dead, .dead, .dead, .dead, .dead, .dead, .dead, .dead, .dead, .dead, .dead, .dead, .dead, .dead, .dead, .dead, .dead, .dead, .dead, .dead, .dead, .dead, .dead, .dead, .dead, .dead, .dead, .dead, .dead, .dead, .dead, .dead, .dead]
@[simp] def h25_1 : List Bool := [true, true, false, false, false, true, true, true, false, false, false, false, false, false, false, false, false, false, false, false, false, false, false, false, false, false, false, false, false, false, false, false, false, false, false, false, false, false, false, false, false, false, false]
@[simp] def L25_1 (s0 s1 s5 s6 s7 : V) : St := [s0, s1, .dead, .dead, .dead, s5, s6, s7, .dead, .dead, .dead, .dead, .dead, .dead, .dead, .dead, .dead, .dead, .dead, .dead, .dead, .dead, .dead, .dead, .dead, .dead, .dead, .dead, .dead, .dead, .dead, .dead, .dead, .dead, .dead, .dead, .dead, .dead, .dead, .dead, .dead, .dead, .dead]
@[simp] def x25_3 : List Bool := [true, true, false, false, false, true, true, true, false, false, false, false, false, false, false, false, false, false, false, false, false, false, false, false, false, false, false, false, false, false, false, false, false, false, false, false, false, false, false, false, false, false, false]
@[simp] def X25_3 (s0 s1 s5 s6 s7 : V) : St := [s0, s1, .dead, .dead, .dead, s5, s6, s7, .dead, .dead, .dead, .dead, .dead, .dead, .dead, .dead, .dead, .dead, .dead, .dead, .dead, .dead, .dead, .dead, .dead, .dead, .dead, .dead, .dead, .dead, .dead, .dead, .dead, .dead, .dead, .dead, .dead, .dead, .dead, .dead, .dead, .dead, .dead]
def b25_1 : MC := .seq (.scr h25_1)
 (.seq (.seq (.ops [⟨none, .mv 25 (.t 7)⟩,
    ⟨none, .mv 26 (.t 0)⟩,
    ⟨none, .len 27 false (.t 26)⟩,
    ⟨none, .bin 28 .lss .num (.t 25) (.t 27)⟩])
  (.cnd (.t 28)
   .skip
   (.seq (.scr x25_2) (.ex 2))))
 (.seq (.seq (.blk 3 (.ops [⟨none, .mv 31 (.t 6)⟩,
    ⟨none, .mv 32 (.t 31)⟩,
    ⟨some (32, true), .mv 33 (.t 5)⟩,
    ⟨some (32, true), .mv 34 (.t 0)⟩,
    ⟨some (32, true), .mv 35 (.t 7)⟩,
    ⟨some (32, true), .ixs 36 1 (.t 34) (.t 35)⟩,
    ⟨some (32, true), .ld1 37 (.t 36)⟩,
    ⟨some (32, true), .call (some 38) 14 [(.t 33), (.t 37)]⟩,
    ⟨some (32, true), .mv 39 (.t 1)⟩,
    ⟨some (32, true), .bin 40 .leq .num (.t 38) (.t 39)⟩,
    ⟨none, .pick 41 (.t 32) (.t 40) (.c (.v (.bool false)))⟩,
    ⟨none, .asg 6 (.t 41)⟩])) (.scr x25_3))
 (.ops [⟨none, .mv 29 (.t 7)⟩,
  ⟨none, .bin 30 .add .num (.t 29) (.c (.v (.int .i64 1)))⟩,
  ⟨none, .asg 7 (.t 30)⟩])))
def b25_0 : MC := .seq (.scr h25_0)
 (.seq (.seq (.ops [⟨none, .mv 21 (.t 5)⟩,
    ⟨none, .bin 22 .lss .num (.t 21) (.c (.v (.int .i64 12)))⟩])
  (.cnd (.t 22)
   .skip
   (.seq (.scr x25_0) (.ex 0))))
 (.seq (.seq (.blk 1 (.seq (.ops [⟨none, .asg 6 (.c (.v (.bool true)))⟩])
   (.seq (.seq (.ops [⟨none, .asg 7 (.c (.v (.int .i64 0)))⟩])
    (.seq (.blk 2 (.lop b25_1)) (.scr x25_2)))
   (.seq (.ops [⟨none, .mv 42 (.t 6)⟩])
   (.cnd (.t 42)
    (.seq (.ops [⟨none, .asg 4 (.c (.v (.bool true)))⟩])
    (.seq (.scr r25) .ret))
    .skip))))) (.scr x25_1))
 (.ops [⟨none, .mv 23 (.t 5)⟩,
  ⟨none, .bin 24 .add .num (.t 23) (.c (.v (.int .i64 1)))⟩,
  ⟨none, .asg 5 (.t 24)⟩])))
def c25 : MF := ⟨(.seq (.ops [⟨none, .asg 4 (.c (.v (.bool false)))⟩])
 (.seq (.seq (.ops [⟨none, .mv 8 (.t 0)⟩,
    ⟨none, .call (some 9) 35 [(.t 8)]⟩,
    ⟨none, .bin 10 .neq .num (.t 9) (.c (.v (.int .i64 0)))⟩,
    ⟨none, .mv 11 (.t 10)⟩,
    ⟨some (11, false), .mv 12 (.t 0)⟩,
    ⟨some (11, false), .len 13 false (.t 12)⟩,
    ⟨some (11, false), .bin 14 .eql .num (.t 13) (.c (.v (.int .i64 0)))⟩,
    ⟨none, .pick 15 (.t 11) (.c (.v (.bool true))) (.t 14)⟩,
    ⟨none, .mv 16 (.t 15)⟩,
    ⟨some (16, false), .mv 17 (.t 1)⟩,
    ⟨some (16, false), .call (some 18) 21 [(.t 17), (.c (.v (.int .i64 0))), (.c (.v (.int .i64 6)))]⟩,
    ⟨some (16, false), .un 19 .not (.t 18)⟩,
    ⟨none, .pick 20 (.t 16) (.c (.v (.bool true))) (.t 19)⟩])
  (.cnd (.t 20)
   (.seq (.ops [⟨none, .asg 4 (.c (.v (.bool false)))⟩])
   (.seq (.scr r25) .ret))
   .skip))
 (.seq (.seq (.ops [⟨none, .asg 5 (.c (.v (.int .i64 0)))⟩])
  (.seq (.blk 0 (.lop b25_0)) (.scr x25_0)))
 (.seq (.ops [⟨none, .asg 4 (.c (.v (.bool false)))⟩])
 (.seq (.scr r25) .ret))))),
  43, [4]⟩

/-- coinage/axis.Counts -/
def hints26 : List (List Bool) := [[false, false, true, true, false, false, false, false, false, false, false, false, false, false, false, false, false, false, false, false, false, false, false, false, false, false, false, false], [false, false, false, false, false, true, false, false, false, false, false, false, false, true, false, false, false, false, false, false, false, false, false, false, false, false, false, false], [true, false, false, false, false, true, false, false, false, false, false, false, false, true, true, true, true, false, false, false, false, false, false, false, false, false, false, false], [false, false, false, false, false, true, false, false, false, false, false, false, false, true, false, false, false, false, false, false, false, false, false, false, false, false, false, false], [true, false, false, false, false, true, false, false, false, false, false, false, false, true, true, true, true, false, false, false, false, false, false, false, false, false, false, false], [false, false, true, true, false, false, false, false, false, false, false, false, false, false, false, false, false, false, false, false, false, false, false, false, false, false, false, false]]
@[simp] def r26 : List Bool := [false, false, true, true, false, false, false, false, false, false, false, false, false, false, false, false, false, false, false, false, false, false, false, false, false, false, false, false]
@[simp] def R26 (s2 s3 : V) : St := [.dead, .dead, s2, s3, .dead, .dead, .dead, .dead, .dead, .dead, .dead, .dead, .dead, .dead, .dead, .dead, .dead, .dead, .dead, .dead, .dead, .dead, .dead, .dead, .dead, .dead, .dead, .dead]
@[simp] def x26_0 : List Bool := [false, false, false, false, false, true, false, false, false, false, false, false, false, true, false, false, false, false, false, false, false, false, false, false, false, false, false, false]
@[simp] def X26_0 (s5 s13 : V) : St := [.dead, .dead, .dead, .dead, .dead, s5, .dead, .dead, .dead, .dead, .dead, .dead, .dead, s13, .dead, .dead, .dead, .dead, .dead, .dead, .dead, .dead, .dead, .dead, .dead, .dead, .dead, .dead]
@[simp] def h26_0 : List Bool := [true, false, false, false, false, true, false, false, false, false, false, false, false, true, true, true, true, false, false, false, false, false, false, false, false, false, false, false]
@[simp] def L26_0 (s0 s5 s13 s14 s15 s16 : V) : St := [s0, .dead, .dead, .dead, .dead, s5, .dead, .dead, .dead, .dead, .dead, .dead, .dead, s13, s14, s15, s16, .dead, .dead, .dead, .dead, .dead, .dead, .dead, .dead, .dead, .dead, .dead]
@[simp] def x26_1 : List Bool := [true, false, false, false, false, true, false, false, false, false, false, false, false, true, true, true, true, false, false, false, false, false, false, false, false, false, false, false]
@[simp] def X26_1 (s0 s5 s13 s14 s15 s16 : V) : St := [s0, .dead, .dead, .dead, .dead, s5, .dead, .dead, .dead, .dead, .dead, .dead, .dead, s13, s14, s15, s16, .dead, .dead, .dead, .dead, .dead, .dead, .dead, .dead, .dead, .dead, .dead]
def b26_0 : MC := .seq (.scr h26_0)
 (.seq (.ops [⟨none, .bin 17 .lss .num (.t 16) (.t 15)⟩])
 (.seq (.cnd (.t 17)
   .skip
   (.seq (.scr x26_0) (.ex 0)))
 (.seq (.seq (.blk 1 (.seq (.ops [⟨none, .ixs 18 1 (.t 14) (.t 16)⟩,
     ⟨none, .ld1 19 (.t 18)⟩,
     ⟨none, .asg 7 (.t 19)⟩])
   (.ops [⟨none, .mv 20 (.t 5)⟩,
    ⟨none, .mv 21 (.t 7)⟩,
    ⟨none, .ixs 22 1 (.t 20) (.t 21)⟩,
    ⟨none, .ld1 23 (.t 22)⟩,
    ⟨none, .bin 24 .add .num (.t 23) (.c (.v (.int .i64 1)))⟩,
    ⟨none, .ixs 25 1 (.t 20) (.t 21)⟩,
    ⟨none, .stn none 1 (.t 25) (.t 24)⟩]))) (.scr x26_1))
 (.ops [⟨none, .bin 26 .add .num (.t 16) (.c (.v (.int .i64 1)))⟩,
  ⟨none, .mv 16 (.t 26)⟩]))))
def c26 : MF := ⟨(.seq (.ops [⟨none, .asg 2 (.c (.nd (.sl true 1 0) []))⟩,
   ⟨none, .asg 3 (.c (.v (.int .i64 0)))⟩])
 (.seq (.seq (.ops [⟨none, .mv 8 (.t 0)⟩,
    ⟨none, .call (some 9) 39 [(.t 8)]⟩,
    ⟨none, .asg 4 (.t 9)⟩])
  (.seq (.ops [⟨none, .mv 10 (.t 4)⟩,
    ⟨none, .bin 11 .neq .num (.t 10) (.c (.v (.int .i64 0)))⟩])
  (.cnd (.t 11)
   (.seq (.ops [⟨none, .mv 12 (.t 4)⟩,
     ⟨none, .asg 2 (.c (.nd (.sl true 1 0) []))⟩,
     ⟨none, .asg 3 (.t 12)⟩])
   (.seq (.scr r26) .ret))
   .skip)))
 (.seq (.ops [⟨none, .mks 13 1 [(.v (.int .i64 0))] (.c (.v (.int .i64 12))) (.c (.v (.int .i64 12)))⟩,
   ⟨none, .asg 5 (.t 13)⟩])
 (.seq (.seq (.ops [⟨none, .mv 14 (.t 0)⟩,
    ⟨none, .len 15 false (.t 14)⟩,
    ⟨none, .mv 16 (.c (.v (.int .i64 0)))⟩])
  (.seq (.blk 0 (.lop b26_0)) (.scr x26_0)))
 (.seq (.ops [⟨none, .mv 27 (.t 5)⟩,
   ⟨none, .asg 2 (.t 27)⟩,
   ⟨none, .asg 3 (.c (.v (.int .i64 0)))⟩])
 (.seq (.scr r26) .ret)))))),
  28, [2, 3]⟩

/-- coinage/coinageref10.Counts -/
def hints27 : List (List Bool) := [[false, false, true, true, false, false, false, false, false, false, false, false, false, false, false, false, false, false, false, false, false, false, false, false, false, false, false, false, false], [false, false, false, false, false, true, false, false, false, false, false, false, true, false, false, false, false, false, false, false, false, false, false, false, false, false, false, false, false], [true, false, false, false, false, true, true, false, false, false, false, false, true, false, false, false, false, false, false, false, false, false, false, false, false, false, false, false, false], [false, false, false, false, false, true, false, false, false, false, false, false, true, false, false, false, false, false, false, false, false, false, false, false, false, false, false, false, false], [true, false, false, false, false, true, true, false, false, false, false, false, true, false, false, false, false, false, false, false, false, false, false, false, false, false, false, false, false], [false, false, true, true, false, false, false, false, false, false, false, false, false, false, false, false, false, false, false, false, false, false, false, false, false, false, false, false, false]]
@[simp] def r27 : List Bool := [false, false, true, true, false, false, false, false, false, false, false, false, false, false, false, false, false, false, false, false, false, false, false, false, false, false, false, false, false]
@[simp] def R27 (s2 s3 : V) : St := [.dead, .dead, s2, s3, .dead, .dead, .dead, .dead, .dead, .dead, .dead, .dead, .dead, .dead, .dead, .dead, .dead, .dead, .dead, .dead, .dead, .dead, .dead, .dead, .dead, .dead, .dead, .dead, .dead]
@[simp] def x27_0 : List Bool := [false, false, false, false, false, true, false, false, false, false, false, false, true, false, false, false, false, false, false, false, false, false, false, false, false, false, false, false, false]
@[simp] def X27_0 (s5 s12 : V) : St := [.dead, .dead, .dead, .dead, .dead, s5, .dead, .dead, .dead, .dead, .dead, .dead, s12, .dead, .dead, .dead, .dead, .dead, .dead, .dead, .dead, .dead, .dead, .dead, .dead, .dead, .dead, .dead, .dead]
@[simp] def h27_0 : List Bool := [true, false, false, false, false, true, true, false, false, false, false, false, true, false, false, false, false, false, false, false, false, false, false, false, false, false, false, false, false]
@[simp] def L27_0 (s0 s5 s6 s12 : V) : St := [s0, .dead, .dead, .dead, .dead, s5, s6, .dead, .dead, .dead, .dead, .dead, s12, .dead, .dead, .dead, .dead, .dead, .dead, .dead, .dead, .dead, .dead, .dead, .dead, .dead, .dead, .dead, .dead]
@[simp] def x27_1 : List Bool := [true, false, false, false, false, true, true, false, false, false, false, false, true, false, false, false, false, false, false, false, false, false, false, false, false, false, false, false, false]
@[simp] def X27_1 (s0 s5 s6 s12 : V) : St := [s0, .dead, .dead, .dead, .dead, s5, s6, .dead, .dead, .dead, .dead, .dead, s12, .dead, .dead, .dead, .dead, .dead, .dead, .dead, .dead, .dead, .dead, .dead, .dead, .dead, .dead, .dead, .dead]
def b27_0 : MC := .seq (.scr h27_0)
 (.seq (.seq (.ops [⟨none, .mv 13 (.t 6)⟩,
    ⟨none, .mv 14 (.t 0)⟩,
    ⟨none, .len 15 false (.t 14)⟩,
    ⟨none, .bin 16 .lss .num (.t 13) (.t 15)⟩])
  (.cnd (.t 16)
   .skip
   (.seq (.scr x27_0) (.ex 0))))
 (.seq (.seq (.blk 1 (.ops [⟨none, .mv 19 (.t 5)⟩,
    ⟨none, .mv 20 (.t 0)⟩,
    ⟨none, .mv 21 (.t 6)⟩,
    ⟨none, .ixs 22 1 (.t 20) (.t 21)⟩,
    ⟨none, .ld1 23 (.t 22)⟩,
    ⟨none, .ixs 24 1 (.t 19) (.t 23)⟩,
    ⟨none, .ld1 25 (.t 24)⟩,
    ⟨none, .bin 26 .add .num (.t 25) (.c (.v (.int .i64 1)))⟩,
    ⟨none, .ixs 27 1 (.t 19) (.t 23)⟩,
    ⟨none, .stn none 1 (.t 27) (.t 26)⟩])) (.scr x27_1))
 (.ops [⟨none, .mv 17 (.t 6)⟩,
  ⟨none, .bin 18 .add .num (.t 17) (.c (.v (.int .i64 1)))⟩,
  ⟨none, .asg 6 (.t 18)⟩])))
def c27 : MF := ⟨(.seq (.ops [⟨none, .asg 2 (.c (.nd (.sl true 1 0) []))⟩,
   ⟨none, .asg 3 (.c (.v (.int .i64 0)))⟩])
 (.seq (.seq (.ops [⟨none, .mv 7 (.t 0)⟩,
    ⟨none, .call (some 8) 35 [(.t 7)]⟩,
    ⟨none, .asg 4 (.t 8)⟩])
  (.seq (.ops [⟨none, .mv 9 (.t 4)⟩,
    ⟨none, .bin 10 .neq .num (.t 9) (.c (.v (.int .i64 0)))⟩])
  (.cnd (.t 10)
   (.seq (.ops [⟨none, .mv 11 (.t 4)⟩,
     ⟨none, .asg 2 (.c (.nd (.sl true 1 0) []))⟩,
     ⟨none, .asg 3 (.t 11)⟩])
   (.seq (.scr r27) .ret))
   .skip)))
 (.seq (.ops [⟨none, .mks 12 1 [(.v (.int .i64 0))] (.c (.v (.int .i64 12))) (.c (.v (.int .i64 12)))⟩,
   ⟨none, .asg 5 (.t 12)⟩])
 (.seq (.seq (.ops [⟨none, .asg 6 (.c (.v (.int .i64 0)))⟩])
  (.seq (.blk 0 (.lop b27_0)) (.scr x27_0)))
 (.seq (.ops [⟨none, .mv 28 (.t 5)⟩,
   ⟨none, .asg 2 (.t 28)⟩,
   ⟨none, .asg 3 (.c (.v (.int .i64 0)))⟩])
 (.seq (.scr r27) .ret)))))),
  29, [2, 3]⟩

/-- coinage/axis.Turned -/
def hints28 : List (List Bool) := [[false, false, false, false, true, true, false, false, false, false, false, false, false, false, false, false, false, false, false, false, false, false, false, false, false, false, false, false, false, false, false, false], [false, false, false, false, false, false, false, true, false, false, false, false, false, false, false, true, false, false, false, false, false, false, false, false, false, false, false, false, false, false, false, false], [false, true, false, false, false, false, false, true, false, false, false, false, false, false, false, true, false, true, true, false, false, false, false, false, false, false, false, false, false, false, false, false], [false, false, false, false, false, false, false, true, false, false, false, false, false, false, false, true, false, false, false, false, false, false, false, false, false, false, false, false, false, false, false, false], [false, true, false, false, false, false, false, true, false, false, false, false, false, false, false, true, false, true, true, false, false, false, false, false, false, false, false, false, false, false, false, false], [false, false, false, false, true, true, false, false, false, false, false, false, false, false, false, false, false, false, false, false, false, false, false, false, false, false, false, false, false, false, false, false]]
@[simp] def r28 : List Bool := [false, false, false, false, true, true, false, false, false, false, false, false, false, false, false, false, false, false, false, false, false, false, false, false, false, false, false, false, false, false, false, false]
@[simp] def R28 (s4 s5 : V) : St := [.dead, .dead, .dead, .dead, s4, s5, .dead, .dead, .dead, .dead, .dead, .dead, .dead, .dead, .dead, .dead, .dead, .dead, .dead, .dead, .dead, .dead, .dead, .dead, .dead, .dead, .dead, .dead, .dead, .dead, .dead, .dead]
@[simp] def x28_0 : List Bool := [false, false, false, false, false, false, false, true, false, false, false, false, false, false, false, true, false, false, false, false, false, false, false, false, false, false, false, false, false, false, false, false]
@[simp] def X28_0 (s7 s15 : V) : St := [.dead, .dead, .dead, .dead, .dead, .dead, .dead, s7, .dead, .dead, .dead, .dead, .dead, .dead, .dead, s15, .dead, .dead, .dead, .dead, .dead, .dead, .dead, .dead, .dead, .dead, .dead, .dead, .dead, .dead, .dead, .dead]
@[simp] def h28_0 : List Bool := [false, true, false, false, false, false, false, true, false, false, false, false, false, false, false, true, false, true, true, false, false, false, false, false, false, false, false, false, false, false, false, false]
@[simp] def L28_0 (s1 s7 s15 s17 s18 : V) : St := [.dead, s1, .dead, .dead, .dead, .dead, .dead, s7, .dead, .dead, .dead, .dead, .dead, .dead, .dead, s15, .dead, s17, s18, .dead, .dead, .dead, .dead, .dead, .dead, .dead, .dead, .dead, .dead, .dead, .dead, .dead]
@[simp] def x28_1 : List Bool := [false, true, false, false, false, false, false, true, false, false, false, false, false, false, false, true, false, true, true, false, false, false, false, false, false, false, false, false, false, false, false, false]
@[simp] def X28_1 (s1 s7 s15 s17 s18 : V) : St := [.dead, s1, .dead, .dead, .dead, .dead, .dead, s7, .dead, .dead, .dead, .dead, .dead, .dead, .dead, s15, .dead, s17, s18, .dead, .dead, .dead, .dead, .dead, .dead, .dead, .dead, .dead, .dead, .dead, .dead, .dead]
def b28_0 : MC := .seq (.scr h28_0)
 (.seq (.ops [⟨none, .bin 19 .lss .num (.t 18) (.t 17)⟩])
 (.seq (.cnd (.t 19)
   .skip
   (.seq (.scr x28_0) (.ex 0)))
 (.seq (.seq (.blk 1 (.seq (.ops [⟨none, .mv 20 (.t 18)⟩,
     ⟨none, .asg 8 (.t 20)⟩])
   (.ops [⟨none, .mv 21 (.t 7)⟩,
    ⟨none, .mv 22 (.t 8)⟩,
    ⟨none, .mv 23 (.t 7)⟩,
    ⟨none, .mv 24 (.t 8)⟩,
    ⟨none, .ixs 25 1 (.t 23) (.t 24)⟩,
    ⟨none, .ld1 26 (.t 25)⟩,
    ⟨none, .mv 27 (.t 1)⟩,
    ⟨none, .call (some 28) 41 [(.t 26), (.t 27)]⟩,
    ⟨none, .ixs 29 1 (.t 21) (.t 22)⟩,
    ⟨none, .stn none 1 (.t 29) (.t 28)⟩]))) (.scr x28_1))
 (.ops [⟨none, .bin 30 .add .num (.t 18) (.c (.v (.int .i64 1)))⟩,
  ⟨none, .mv 18 (.t 30)⟩]))))
def c28 : MF := ⟨(.seq (.ops [⟨none, .asg 4 (.c (.nd (.sl true 1 0) []))⟩,
   ⟨none, .asg 5 (.c (.v (.int .i64 0)))⟩])
 (.seq (.seq (.ops [⟨none, .mv 9 (.t 0)⟩,
    ⟨none, .call (some 10) 39 [(.t 9)]⟩,
    ⟨none, .asg 6 (.t 10)⟩])
  (.seq (.ops [⟨none, .mv 11 (.t 6)⟩,
    ⟨none, .bin 12 .neq .num (.t 11) (.c (.v (.int .i64 0)))⟩])
  (.cnd (.t 12)
   (.seq (.ops [⟨none, .mv 13 (.t 6)⟩,
     ⟨none, .asg 4 (.c (.nd (.sl true 1 0) []))⟩,
     ⟨none, .asg 5 (.t 13)⟩])
   (.seq (.scr r28) .ret))
   .skip)))
 (.seq (.ops [⟨none, .mv 14 (.t 0)⟩,
   ⟨none, .call (some 15) 40 [(.t 14)]⟩,
   ⟨none, .asg 7 (.t 15)⟩])
 (.seq (.seq (.ops [⟨none, .mv 16 (.t 7)⟩,
    ⟨none, .len 17 false (.t 16)⟩,
    ⟨none, .mv 18 (.c (.v (.int .i64 0)))⟩])
  (.seq (.blk 0 (.lop b28_0)) (.scr x28_0)))
 (.seq (.ops [⟨none, .mv 31 (.t 7)⟩,
   ⟨none, .asg 4 (.t 31)⟩,
   ⟨none, .asg 5 (.c (.v (.int .i64 0)))⟩])
 (.seq (.scr r28) .ret)))))),
  32, [4, 5]⟩

/-- coinage/coinageref10.Turned -/
def hints29 : List (List Bool) := [[false, false, false, false, true, true, false, false, false, false, false, false, false, false, false, false, false, false, false, false, false, false, false, false, false, false, false, false, false, false, false, false], [false, false, false, false, false, false, false, true, false, false, false, false, false, false, false, false, false, false, false, false, false, false, false, false, false, false, false, false, false, false, true, false], [true, true, false, false, false, false, false, true, true, false, false, false, false, false, false, false, false, false, false, false, false, false, false, false, false, false, false, false, false, false, true, false], [false, false, false, false, false, false, false, true, false, false, false, false, false, false, false, false, false, false, false, false, false, false, false, false, false, false, false, false, false, false, true, false], [true, true, false, false, false, false, false, true, true, false, false, false, false, false, false, false, false, false, false, false, false, false, false, false, false, false, false, false, false, false, true, false], [false, false, false, false, true, true, false, false, false, false, false, false, false, false, false, false, false, false, false, false, false, false, false, false, false, false, false, false, false, false, false, false]]
@[simp] def r29 : List Bool := [false, false, false, false, true, true, false, false, false, false, false, false, false, false, false, false, false, false, false, false, false, false, false, false, false, false, false, false, false, false, false, false]
@[simp] def R29 (s4 s5 : V) : St := [.dead, .dead, .dead, .dead, s4, s5, .dead, .dead, .dead, .dead, .dead, .dead, .dead, .dead, .dead, .dead, .dead, .dead, .dead, .dead, .dead, .dead, .dead, .dead, .dead, .dead, .dead, .dead, .dead, .dead, .dead, .dead]
@[simp] def x29_0 : List Bool := [false, false, false, false, false, false, false, true, false, false, false, false, false, false, false, false, false, false, false, false, false, false, false, false, false, false, false, false, false, false, true, false]
@[simp] def X29_0 (s7 s30 : V) : St := [.dead, .dead, .dead, .dead, .dead, .dead, .dead, s7, .dead, .dead, .dead, .dead, .dead, .dead, .dead, .dead, .dead, .dead, .dead, .dead, .dead, .dead, .dead, .dead, .dead, .dead, .dead, .dead, .dead, .dead, s30, .dead]
@[simp] def h29_0 : List Bool := [true, true, false, false, false, false, false, true, true, false, false, false, false, false, false, false, false, false, false, false, false, false, false, false, false, false, false, false, false, false, true, false]
@[simp] def L29_0 (s0 s1 s7 s8 s30 : V) : St := [s0, s1, .dead, .dead, .dead, .dead, .dead, s7, s8, .dead, .dead, .dead, .dead, .dead, .dead, .dead, .dead, .dead, .dead, .dead, .dead, .dead, .dead, .dead, .dead, .dead, .dead, .dead, .dead, .dead, s30, .dead]
@[simp] def x29_1 : List Bool := [true, true, false, false, false, false, false, true, true, false, false, false, false, false, false, false, false, false, false, false, false, false, false, false, false, false, false, false, false, false, true, false]
@[simp] def X29_1 (s0 s1 s7 s8 s30 : V) : St := [s0, s1, .dead, .dead, .dead, .dead, .dead, s7, s8, .dead, .dead, .dead, .dead, .dead, .dead, .dead, .dead, .dead, .dead, .dead, .dead, .dead, .dead, .dead, .dead, .dead, .dead, .dead, .dead, .dead, s30, .dead]
def b29_0 : MC := .seq (.scr h29_0)
 (.seq (.seq (.ops [⟨none, .mv 14 (.t 8)⟩,
    ⟨none, .mv 15 (.t 0)⟩,
    ⟨none, .len 16 false (.t 15)⟩,
    ⟨none, .bin 17 .lss .num (.t 14) (.t 16)⟩])
  (.cnd (.t 17)
   .skip
   (.seq (.scr x29_0) (.ex 0))))
 (.seq (.seq (.blk 1 (.drw [⟨none, .mv 20 (.t 7)⟩,
    ⟨none, .mv 21 (.t 0)⟩,
    ⟨none, .mv 22 (.t 8)⟩,
    ⟨none, .ixs 23 1 (.t 21) (.t 22)⟩,
    ⟨none, .ld1 24 (.t 23)⟩,
    ⟨none, .mv 25 (.t 1)⟩,
    ⟨none, .call (some 26) 15 [(.t 25), (.c (.v (.int .i64 12)))]⟩,
    ⟨none, .bin 27 .add .num (.t 24) (.t 26)⟩,
    ⟨none, .call (some 28) 15 [(.t 27), (.c (.v (.int .i64 12)))]⟩,
    ⟨none, .bs 29 1 1 [(.v (.int .i64 0))] [(0, 1, (.t 28))]⟩] [⟨none, .app 30 1 (.t 20) (.t 29)⟩,
    ⟨none, .asg 7 (.t 30)⟩])) (.scr x29_1))
 (.ops [⟨none, .mv 18 (.t 8)⟩,
  ⟨none, .bin 19 .add .num (.t 18) (.c (.v (.int .i64 1)))⟩,
  ⟨none, .asg 8 (.t 19)⟩])))
def c29 : MF := ⟨(.seq (.ops [⟨none, .asg 4 (.c (.nd (.sl true 1 0) []))⟩,
   ⟨none, .asg 5 (.c (.v (.int .i64 0)))⟩])
 (.seq (.seq (.ops [⟨none, .mv 9 (.t 0)⟩,
    ⟨none, .call (some 10) 35 [(.t 9)]⟩,
    ⟨none, .asg 6 (.t 10)⟩])
  (.seq (.ops [⟨none, .mv 11 (.t 6)⟩,
    ⟨none, .bin 12 .neq .num (.t 11) (.c (.v (.int .i64 0)))⟩])
  (.cnd (.t 12)
   (.seq (.ops [⟨none, .mv 13 (.t 6)⟩,
     ⟨none, .asg 4 (.c (.nd (.sl true 1 0) []))⟩,
     ⟨none, .asg 5 (.t 13)⟩])
   (.seq (.scr r29) .ret))
   .skip)))
 (.seq (.ops [⟨none, .asg 7 (.c (.nd (.sl true 1 0) []))⟩])
 (.seq (.seq (.ops [⟨none, .asg 8 (.c (.v (.int .i64 0)))⟩])
  (.seq (.blk 0 (.lop b29_0)) (.scr x29_0)))
 (.seq (.ops [⟨none, .mv 31 (.t 7)⟩,
   ⟨none, .asg 4 (.t 31)⟩,
   ⟨none, .asg 5 (.c (.v (.int .i64 0)))⟩])
 (.seq (.scr r29) .ret)))))),
  32, [4, 5]⟩

/-- coinage/coinagebase.Ints -/
def hints30 : List (List Bool) := [[false, false, false, false, true, false, false, false, false, false, false, false, false, false, false, false, false, false, false, false, false, false, false, false, false, false], [false, false, false, false, false, false, false, false, false, false, false, false, false, false, false, false, false, false, false, false, false, false, false, false, false, false], [true, true, false, false, false, true, false, false, false, false, false, false, false, false, false, false, false, false, false, false, false, false, false, false, false, false], [false, false, false, false, false, false, false, false, false, false, false, false, false, false, false, false, false, false, false, false, false, false, false, false, false, false], [true, true, false, false, false, true, false, false, false, false, false, false, false, false, false, false, false, false, false, false, false, false, false, false, false, false], [false, false, false, false, true, false, false, false, false, false, false, false, false, false, false, false, false, false, false, false, false, false, false, false, false, false], [false, false, false, false, true, false, false, false, false, false, false, false, false, false, false, false, false, false, false, false, false, false, false, false, false, false]]
@[simp] def r30 : List Bool := [false, false, false, false, true, false, false, false, false, false, false, false, false, false, false, false, false, false, false, false, false, false, false, false, false, false]
@[simp] def R30 (s4 : V) : St := [.dead, .dead, .dead, .dead, s4, .dead, .dead, .dead, .dead, .dead, .dead, .dead, .dead, .dead, .dead, .dead, .dead, .dead, .dead, .dead, .dead, .dead, .dead, .dead, .dead, .dead]
@[simp] def x30_0 : List Bool := [false, false, false, false, false, false, false, false, false, false, false, false, false, false, false, false, false, false, false, false, false, false, false, false, false, false]
@[simp] def X30_0 : St := [.dead, .dead, .dead, .dead, .dead, .dead, .dead, .dead, .dead, .dead, .dead, .dead, .dead, .dead, .dead, .dead, .dead, .dead, .dead, .dead, .dead, .dead, .dead, .dead, .dead, .dead]
@[simp] def h30_0 : List Bool := [true, true, false, false, false, true, false, false, false, false, false, false, false, false, false, false, false, false, false, false, false, false, false, false, false, false]
@[simp] def L30_0 (s0 s1 s5 : V) : St := [s0, s1, .dead, .dead, .dead, s5, .dead, .dead, .dead, .dead, .dead, .dead, .dead, .dead, .dead, .dead, .dead, .dead, .dead, .dead, .dead, .dead, .dead, .dead, .dead, .dead]
@[simp] def x30_1 : List Bool := [true, true, false, false, false, true, false, false, false, false, false, false, false, false, false, false, false, false, false, false, false, false, false, false, false, false]
@[simp] def X30_1 (s0 s1 s5 : V) : St := [s0, s1, .dead, .dead, .dead, s5, .dead, .dead, .dead, .dead, .dead, .dead, .dead, .dead, .dead, .dead, .dead, .dead, .dead, .dead, .dead, .dead, .dead, .dead, .dead, .dead]
def b30_0 : MC := .seq (.scr h30_0)
 (.seq (.seq (.ops [⟨none, .mv 11 (.t 5)⟩,
    ⟨none, .mv 12 (.t 0)⟩,
    ⟨none, .len 13 false (.t 12)⟩,
    ⟨none, .bin 14 .lss .num (.t 11) (.t 13)⟩])
  (.cnd (.t 14)
   .skip
   (.seq (.scr x30_0) (.ex 0))))
 (.seq (.seq (.blk 1 (.seq (.drw [⟨none, .mv 17 (.t 0)⟩,
     ⟨none, .mv 18 (.t 5)⟩,
     ⟨none, .ixs 19 1 (.t 17) (.t 18)⟩,
     ⟨none, .ld1 20 (.t 19)⟩,
     ⟨none, .mv 21 (.t 1)⟩,
     ⟨none, .mv 22 (.t 5)⟩,
     ⟨none, .ixs 23 1 (.t 21) (.t 22)⟩,
     ⟨none, .ld1 24 (.t 23)⟩] [⟨none, .bin 25 .neq .num (.t 20) (.t 24)⟩])
   (.cnd (.t 25)
    (.seq (.ops [⟨none, .asg 4 (.c (.v (.bool false)))⟩])
    (.seq (.scr r30) .ret))
    .skip))) (.scr x30_1))
 (.ops [⟨none, .mv 15 (.t 5)⟩,
  ⟨none, .bin 16 .add .num (.t 15) (.c (.v (.int .i64 1)))⟩,
  ⟨none, .asg 5 (.t 16)⟩])))
def c30 : MF := ⟨(.seq (.ops [⟨none, .asg 4 (.c (.v (.bool false)))⟩])
 (.seq (.seq (.ops [⟨none, .mv 6 (.t 0)⟩,
    ⟨none, .len 7 false (.t 6)⟩,
    ⟨none, .mv 8 (.t 1)⟩,
    ⟨none, .len 9 false (.t 8)⟩,
    ⟨none, .bin 10 .neq .num (.t 7) (.t 9)⟩])
  (.cnd (.t 10)
   (.seq (.ops [⟨none, .asg 4 (.c (.v (.bool false)))⟩])
   (.seq (.scr r30) .ret))
   .skip))
 (.seq (.seq (.ops [⟨none, .asg 5 (.c (.v (.int .i64 0)))⟩])
  (.seq (.blk 0 (.lop b30_0)) (.scr x30_0)))
 (.seq (.ops [⟨none, .asg 4 (.c (.v (.bool true)))⟩])
 (.seq (.scr r30) .ret))))),
  26, [4]⟩

/-- coinage/axis.hour -/
def hints31 : List (List Bool) := [[false, false, true, false, false, false, false, false, false]]
@[simp] def r31 : List Bool := [false, false, true, false, false, false, false, false, false]
@[simp] def R31 (s2 : V) : St := [.dead, .dead, s2, .dead, .dead, .dead, .dead, .dead, .dead]
def c31 : MF := ⟨(.seq (.ops [⟨none, .asg 2 (.c (.v (.bool false)))⟩])
 (.seq (.ops [⟨none, .mv 3 (.t 0)⟩,
   ⟨none, .bin 4 .geq .num (.t 3) (.c (.v (.int .i64 0)))⟩,
   ⟨none, .mv 5 (.t 4)⟩,
   ⟨some (5, true), .mv 6 (.t 0)⟩,
   ⟨some (5, true), .bin 7 .lss .num (.t 6) (.c (.v (.int .i64 12)))⟩,
   ⟨none, .pick 8 (.t 5) (.t 7) (.c (.v (.bool false)))⟩,
   ⟨none, .asg 2 (.t 8)⟩])
 (.seq (.scr r31) .ret))),
  9, [2]⟩

/-- coinage/axis.distance -/
def hints32 : List (List Bool) := [[false, false, false, false, true, false, false, false, false, false, false, false, false, false]]
@[simp] def r32 : List Bool := [false, false, false, false, true, false, false, false, false, false, false, false, false, false]
@[simp] def R32 (s4 : V) : St := [.dead, .dead, .dead, .dead, s4, .dead, .dead, .dead, .dead, .dead, .dead, .dead, .dead, .dead]
def c32 : MF := ⟨(.seq (.ops [⟨none, .asg 4 (.c (.v (.int .i64 0)))⟩])
 (.seq (.ops [⟨none, .mv 6 (.t 1)⟩,
   ⟨none, .mv 7 (.t 0)⟩,
   ⟨none, .un 8 .neg (.t 7)⟩,
   ⟨none, .call (some 9) 41 [(.t 6), (.t 8)]⟩,
   ⟨none, .asg 5 (.t 9)⟩])
 (.seq (.ops [⟨none, .mv 10 (.t 5)⟩,
   ⟨none, .mv 11 (.t 5)⟩,
   ⟨none, .bin 12 .sub .num (.c (.v (.int .i64 12))) (.t 11)⟩,
   ⟨none, .mm 13 false (.t 10) (.t 12)⟩,
   ⟨none, .asg 4 (.t 13)⟩])
 (.seq (.scr r32) .ret)))),
  14, [4]⟩

/-- coinage/axis.filled -/
def hints33 : List (List Bool) := [[false, false, true, false, false, false, false, false, false, false, false, false, false, false], [false, false, true, false, false, false, false, false, false, false, false, false, false, false]]
@[simp] def r33 : List Bool := [false, false, true, false, false, false, false, false, false, false, false, false, false, false]
@[simp] def R33 (s2 : V) : St := [.dead, .dead, s2, .dead, .dead, .dead, .dead, .dead, .dead, .dead, .dead, .dead, .dead, .dead]
def c33 : MF := ⟨(.seq (.ops [⟨none, .asg 2 (.c (.v (.int .i64 0)))⟩])
 (.seq (.ops [⟨none, .mv 4 (.t 0)⟩,
   ⟨none, .call (some 5) 39 [(.t 4)]⟩,
   ⟨none, .asg 3 (.t 5)⟩])
 (.seq (.seq (.ops [⟨none, .mv 6 (.t 3)⟩,
    ⟨none, .bin 7 .eql .num (.t 6) (.c (.v (.int .i64 0)))⟩,
    ⟨none, .mv 8 (.t 7)⟩,
    ⟨some (8, true), .mv 9 (.t 0)⟩,
    ⟨some (8, true), .len 10 false (.t 9)⟩,
    ⟨some (8, true), .bin 11 .eql .num (.t 10) (.c (.v (.int .i64 0)))⟩,
    ⟨none, .pick 12 (.t 8) (.t 11) (.c (.v (.bool false)))⟩])
  (.cnd (.t 12)
   (.seq (.ops [⟨none, .asg 2 (.c (.v (.int .i64 7)))⟩])
   (.seq (.scr r33) .ret))
   .skip))
 (.seq (.ops [⟨none, .mv 13 (.t 3)⟩,
   ⟨none, .asg 2 (.t 13)⟩])
 (.seq (.scr r33) .ret))))),
  14, [2]⟩

/-- coinage/axis.within -/
def hints34 : List (List Bool) := [[false, false, false, false, false, false, false, true, false, false, false, false, false, false, false, false, false, false, false, false, false, false, false, false, false, false], [true, true, true, false, false, false, false, true, false, false, true, true, true, false, false, false, false, false, false, false, false, false, false, false, false, false], [false, false, false, false, false, false, false, true, false, false, false, false, false, false, false, false, false, false, false, false, false, false, false, false, false, false], [true, true, true, false, false, false, false, true, false, false, true, true, true, false, false, false, false, false, false, false, false, false, false, false, false, false], [false, false, false, false, false, false, true, false, false, false, false, false, false, false, false, false, false, false, false, false, false, false, false, false, false, false]]
@[simp] def r34 : List Bool := [false, false, false, false, false, false, true, false, false, false, false, false, false, false, false, false, false, false, false, false, false, false, false, false, false, false]
@[simp] def R34 (s6 : V) : St := [.dead, .dead, .dead, .dead, .dead, .dead, s6, .dead, .dead, .dead, .dead, .dead, .dead, .dead, .dead, .dead, .dead, .dead, .dead, .dead, .dead, .dead, .dead, .dead, .dead, .dead]
@[simp] def x34_0 : List Bool := [false, false, false, false, false, false, false, true, false, false, false, false, false, false, false, false, false, false, false, false, false, false, false, false, false, false]
@[simp] def X34_0 (s7 : V) : St := [.dead, .dead, .dead, .dead, .dead, .dead, .dead, s7, .dead, .dead, .dead, .dead, .dead, .dead, .dead, .dead, .dead, .dead, .dead, .dead, .dead, .dead, .dead, .dead, .dead, .dead]
@[simp] def h34_0 : List Bool := [true, true, true, false, false, false, false, true, false, false, true, true, true, false, false, false, false, false, false, false, false, false, false, false, false, false]
@[simp] def L34_0 (s0 s1 s2 s7 s10 s11 s12 : V) : St := [s0, s1, s2, .dead, .dead, .dead, .dead, s7, .dead, .dead, s10, s11, s12, .dead, .dead, .dead, .dead, .dead, .dead, .dead, .dead, .dead, .dead, .dead, .dead, .dead]
@[simp] def x34_1 : List Bool := [true, true, true, false, false, false, false, true, false, false, true, true, true, false, false, false, false, false, false, false, false, false, false, false, false, false]
@[simp] def X34_1 (s0 s1 s2 s7 s10 s11 s12 : V) : St := [s0, s1, s2, .dead, .dead, .dead, .dead, s7, .dead, .dead, s10, s11, s12, .dead, .dead, .dead, .dead, .dead, .dead, .dead, .dead, .dead, .dead, .dead, .dead, .dead]
def b34_0 : MC := .seq (.scr h34_0)
 (.seq (.ops [⟨none, .bin 13 .lss .num (.t 12) (.t 11)⟩])
 (.seq (.cnd (.t 13)
   .skip
   (.seq (.scr x34_0) (.ex 0)))
 (.seq (.seq (.blk 1 (.seq (.ops [⟨none, .ixs 14 1 (.t 10) (.t 12)⟩,
     ⟨none, .ld1 15 (.t 14)⟩,
     ⟨none, .asg 9 (.t 15)⟩])
   (.seq (.ops [⟨none, .mv 16 (.t 9)⟩,
     ⟨none, .mv 17 (.t 1)⟩,
     ⟨none, .un 18 .neg (.t 17)⟩,
     ⟨none, .call (some 19) 41 [(.t 16), (.t 18)]⟩,
     ⟨none, .mv 20 (.t 2)⟩,
     ⟨none, .bin 21 .lss .num (.t 19) (.t 20)⟩])
   (.cnd (.t 21)
    (.ops [⟨none, .mv 22 (.t 7)⟩,
     ⟨none, .bin 23 .add .num (.t 22) (.c (.v (.int .i64 1)))⟩,
     ⟨none, .asg 7 (.t 23)⟩])
    .skip)))) (.scr x34_1))
 (.ops [⟨none, .bin 24 .add .num (.t 12) (.c (.v (.int .i64 1)))⟩,
  ⟨none, .mv 12 (.t 24)⟩]))))
def c34 : MF := ⟨(.seq (.ops [⟨none, .asg 6 (.c (.v (.int .i64 0)))⟩])
 (.seq (.ops [⟨none, .asg 7 (.c (.v (.int .i64 0)))⟩])
 (.seq (.seq (.ops [⟨none, .mv 10 (.t 0)⟩,
    ⟨none, .len 11 false (.t 10)⟩,
    ⟨none, .mv 12 (.c (.v (.int .i64 0)))⟩])
  (.seq (.blk 0 (.lop b34_0)) (.scr x34_0)))
 (.seq (.ops [⟨none, .mv 25 (.t 7)⟩,
   ⟨none, .asg 6 (.t 25)⟩])
 (.seq (.scr r34) .ret))))),
  26, [6]⟩

/-- coinage/coinageref10.Check -/
def hints35 : List (List Bool) := [[false, false, true, false, false, false, false, false, false, false, false, false, false, false, false, false, false, false, false], [false, false, false, false, false, false, false, false, false, false, false, false, false, false, false, false, false, false, false], [true, false, false, true, false, false, false, false, false, false, false, false, false, false, false, false, false, false, false], [false, false, false, false, false, false, false, false, false, false, false, false, false, false, false, false, false, false, false], [true, false, false, true, false, false, false, false, false, false, false, false, false, false, false, false, false, false, false], [false, false, true, false, false, false, false, false, false, false, false, false, false, false, false, false, false, false, false], [false, false, true, false, false, false, false, false, false, false, false, false, false, false, false, false, false, false, false]]
@[simp] def r35 : List Bool := [false, false, true, false, false, false, false, false, false, false, false, false, false, false, false, false, false, false, false]
@[simp] def R35 (s2 : V) : St := [.dead, .dead, s2, .dead, .dead, .dead, .dead, .dead, .dead, .dead, .dead, .dead, .dead, .dead, .dead, .dead, .dead, .dead, .dead]
@[simp] def x35_0 : List Bool := [false, false, false, false, false, false, false, false, false, false, false, false, false, false, false, false, false, false, false]
@[simp] def X35_0 : St := [.dead, .dead, .dead, .dead, .dead, .dead, .dead, .dead, .dead, .dead, .dead, .dead, .dead, .dead, .dead, .dead, .dead, .dead, .dead]
@[simp] def h35_0 : List Bool := [true, false, false, true, false, false, false, false, false, false, false, false, false, false, false, false, false, false, false]
@[simp] def L35_0 (s0 s3 : V) : St := [s0, .dead, .dead, s3, .dead, .dead, .dead, .dead, .dead, .dead, .dead, .dead, .dead, .dead, .dead, .dead, .dead, .dead, .dead]
@[simp] def x35_1 : List Bool := [true, false, false, true, false, false, false, false, false, false, false, false, false, false, false, false, false, false, false]
@[simp] def X35_1 (s0 s3 : V) : St := [s0, .dead, .dead, s3, .dead, .dead, .dead, .dead, .dead, .dead, .dead, .dead, .dead, .dead, .dead, .dead, .dead, .dead, .dead]
def b35_0 : MC := .seq (.scr h35_0)
 (.seq (.seq (.ops [⟨none, .mv 7 (.t 3)⟩,
    ⟨none, .mv 8 (.t 0)⟩,
    ⟨none, .len 9 false (.t 8)⟩,
    ⟨none, .bin 10 .lss .num (.t 7) (.t 9)⟩])
  (.cnd (.t 10)
   .skip
   (.seq (.scr x35_0) (.ex 0))))
 (.seq (.seq (.blk 1 (.seq (.ops [⟨none, .mv 13 (.t 0)⟩,
     ⟨none, .mv 14 (.t 3)⟩,
     ⟨none, .ixs 15 1 (.t 13) (.t 14)⟩,
     ⟨none, .ld1 16 (.t 15)⟩,
     ⟨none, .call (some 17) 21 [(.t 16), (.c (.v (.int .i64 0))), (.c (.v (.int .i64 11)))]⟩,
     ⟨none, .un 18 .not (.t 17)⟩])
   (.cnd (.t 18)
    (.seq (.ops [⟨none, .asg 2 (.c (.v (.int .i64 1)))⟩])
    (.seq (.scr r35) .ret))
    .skip))) (.scr x35_1))
 (.ops [⟨none, .mv 11 (.t 3)⟩,
  ⟨none, .bin 12 .add .num (.t 11) (.c (.v (.int .i64 1)))⟩,
  ⟨none, .asg 3 (.t 12)⟩])))
def c35 : MF := ⟨(.seq (.ops [⟨none, .asg 2 (.c (.v (.int .i64 0)))⟩])
 (.seq (.seq (.ops [⟨none, .mv 4 (.t 0)⟩,
    ⟨none, .len 5 false (.t 4)⟩,
    ⟨none, .bin 6 .gtr .num (.t 5) (.c (.v (.int .i64 64)))⟩])
  (.cnd (.t 6)
   (.seq (.ops [⟨none, .asg 2 (.c (.v (.int .i64 6)))⟩])
   (.seq (.scr r35) .ret))
   .skip))
 (.seq (.seq (.ops [⟨none, .asg 3 (.c (.v (.int .i64 0)))⟩])
  (.seq (.blk 0 (.lop b35_0)) (.scr x35_0)))
 (.seq (.ops [⟨none, .asg 2 (.c (.v (.int .i64 0)))⟩])
 (.seq (.scr r35) .ret))))),
  19, [2]⟩

/-- coinage/coinageref10.In -/
def hints36 : List (List Bool) := [[false, false, false, false, false, false, false, true, false, false, false, false, false, false, false, false, false, false, false, false, false, false, false, false, false, false, false], [true, true, true, false, false, false, false, true, true, false, false, false, false, false, false, false, false, false, false, false, false, false, false, false, false, false, false], [false, false, false, false, false, false, false, true, false, false, false, false, false, false, false, false, false, false, false, false, false, false, false, false, false, false, false], [true, true, true, false, false, false, false, true, true, false, false, false, false, false, false, false, false, false, false, false, false, false, false, false, false, false, false], [false, false, false, false, false, false, true, false, false, false, false, false, false, false, false, false, false, false, false, false, false, false, false, false, false, false, false]]
@[simp] def r36 : List Bool := [false, false, false, false, false, false, true, false, false, false, false, false, false, false, false, false, false, false, false, false, false, false, false, false, false, false, false]
@[simp] def R36 (s6 : V) : St := [.dead, .dead, .dead, .dead, .dead, .dead, s6, .dead, .dead, .dead, .dead, .dead, .dead, .dead, .dead, .dead, .dead, .dead, .dead, .dead, .dead, .dead, .dead, .dead, .dead, .dead, .dead]
@[simp] def x36_0 : List Bool := [false, false, false, false, false, false, false, true, false, false, false, false, false, false, false, false, false, false, false, false, false, false, false, false, false, false, false]
@[simp] def X36_0 (s7 : V) : St := [.dead, .dead, .dead, .dead, .dead, .dead, .dead, s7, .dead, .dead, .dead, .dead, .dead, .dead, .dead, .dead, .dead, .dead, .dead, .dead, .dead, .dead, .dead, .dead, .dead, .dead, .dead]
@[simp] def h36_0 : List Bool := [true, true, true, false, false, false, false, true, true, false, false, false, false, false, false, false, false, false, false, false, false, false, false, false, false, false, false]
@[simp] def L36_0 (s0 s1 s2 s7 s8 : V) : St := [s0, s1, s2, .dead, .dead, .dead, .dead, s7, s8, .dead, .dead, .dead, .dead, .dead, .dead, .dead, .dead, .dead, .dead, .dead, .dead, .dead, .dead, .dead, .dead, .dead, .dead]
@[simp] def x36_1 : List Bool := [true, true, true, false, false, false, false, true, true, false, false, false, false, false, false, false, false, false, false, false, false, false, false, false, false, false, false]
@[simp] def X36_1 (s0 s1 s2 s7 s8 : V) : St := [s0, s1, s2, .dead, .dead, .dead, .dead, s7, s8, .dead, .dead, .dead, .dead, .dead, .dead, .dead, .dead, .dead, .dead, .dead, .dead, .dead, .dead, .dead, .dead, .dead, .dead]
def b36_0 : MC := .seq (.scr h36_0)
 (.seq (.seq (.ops [⟨none, .mv 9 (.t 8)⟩,
    ⟨none, .mv 10 (.t 0)⟩,
    ⟨none, .len 11 false (.t 10)⟩,
    ⟨none, .bin 12 .lss .num (.t 9) (.t 11)⟩])
  (.cnd (.t 12)
   .skip
   (.seq (.scr x36_0) (.ex 0))))
 (.seq (.seq (.blk 1 (.seq (.ops [⟨none, .mv 15 (.t 0)⟩,
     ⟨none, .mv 16 (.t 8)⟩,
     ⟨none, .ixs 17 1 (.t 15) (.t 16)⟩,
     ⟨none, .ld1 18 (.t 17)⟩,
     ⟨none, .mv 19 (.t 1)⟩,
     ⟨none, .bin 20 .sub .num (.t 18) (.t 19)⟩,
     ⟨none, .call (some 21) 15 [(.t 20), (.c (.v (.int .i64 12)))]⟩,
     ⟨none, .mv 22 (.t 2)⟩,
     ⟨none, .bin 23 .lss .num (.t 21) (.t 22)⟩])
   (.cnd (.t 23)
    (.ops [⟨none, .mv 24 (.t 7)⟩,
     ⟨none, .bin 25 .add .num (.t 24) (.c (.v (.int .i64 1)))⟩,
     ⟨none, .asg 7 (.t 25)⟩])
    .skip))) (.scr x36_1))
 (.ops [⟨none, .mv 13 (.t 8)⟩,
  ⟨none, .bin 14 .add .num (.t 13) (.c (.v (.int .i64 1)))⟩,
  ⟨none, .asg 8 (.t 14)⟩])))
def c36 : MF := ⟨(.seq (.ops [⟨none, .asg 6 (.c (.v (.int .i64 0)))⟩])
 (.seq (.ops [⟨none, .asg 7 (.c (.v (.int .i64 0)))⟩])
 (.seq (.seq (.ops [⟨none, .asg 8 (.c (.v (.int .i64 0)))⟩])
  (.seq (.blk 0 (.lop b36_0)) (.scr x36_0)))
 (.seq (.ops [⟨none, .mv 26 (.t 7)⟩,
   ⟨none, .asg 6 (.t 26)⟩])
 (.seq (.scr r36) .ret))))),
  27, [6]⟩

/-- slices.ContainsFunc[[]int,int] -/
def hints37 : List (List Bool) := [[false, false, false, false, true, false, false, false, false]]
@[simp] def r37 : List Bool := [false, false, false, false, true, false, false, false, false]
@[simp] def R37 (s4 : V) : St := [.dead, .dead, .dead, .dead, s4, .dead, .dead, .dead, .dead]
def c37 : MF := ⟨(.seq (.ops [⟨none, .asg 4 (.c (.v (.bool false)))⟩])
 (.seq (.ops [⟨none, .mv 5 (.t 0)⟩,
   ⟨none, .mv 6 (.t 1)⟩,
   ⟨none, .call (some 7) 42 [(.t 5), (.t 6)]⟩,
   ⟨none, .bin 8 .geq .num (.t 7) (.c (.v (.int .i64 0)))⟩,
   ⟨none, .asg 4 (.t 8)⟩])
 (.seq (.scr r37) .ret))),
  9, [4]⟩

/-- coinage/axis.Fixed$1 -/
def hints38 : List (List Bool) := [[false, false, false, false, true, false, false, false, false, false]]
@[simp] def r38 : List Bool := [false, false, false, false, true, false, false, false, false, false]
@[simp] def R38 (s4 : V) : St := [.dead, .dead, .dead, .dead, s4, .dead, .dead, .dead, .dead, .dead]
def c38 : MF := ⟨(.seq (.ops [⟨none, .asg 4 (.c (.v (.bool false)))⟩])
 (.seq (.drw [⟨none, .ld1 5 (.t 1)⟩,
   ⟨none, .mv 6 (.t 0)⟩,
   ⟨none, .call (some 7) 32 [(.t 5), (.t 6)]⟩,
   ⟨none, .ld1 8 (.t 2)⟩] [⟨none, .bin 9 .gtr .num (.t 7) (.t 8)⟩,
   ⟨none, .asg 4 (.t 9)⟩])
 (.seq (.scr r38) .ret))),
  10, [4]⟩

/-- coinage/axis.check -/
def hints39 : List (List Bool) := [[false, false, false, false, false, false, false, false, false, false], [false, false, true, false, false, false, false, false, false, false], [false, false, true, false, false, false, false, false, false, false], [false, false, true, false, false, false, false, false, false, false]]
@[simp] def r39 : List Bool := [false, false, true, false, false, false, false, false, false, false]
@[simp] def R39 (s2 : V) : St := [.dead, .dead, s2, .dead, .dead, .dead, .dead, .dead, .dead, .dead]
@[simp] def x39_0 : List Bool := [false, false, false, false, false, false, false, false, false, false]
@[simp] def X39_0 : St := [.dead, .dead, .dead, .dead, .dead, .dead, .dead, .dead, .dead, .dead]
def c39 : MF := ⟨(.seq (.ops [⟨none, .asg 2 (.c (.v (.int .i64 0)))⟩])
 (.seq (.seq (.blk 0 (.seq (.ops [⟨none, .mv 4 (.t 0)⟩,
     ⟨none, .len 5 false (.t 4)⟩,
     ⟨none, .bin 6 .gtr .num (.t 5) (.c (.v (.int .i64 64)))⟩,
     ⟨none, .asg 3 (.t 6)⟩])
   (.cnd (.t 3)
    (.seq (.ops [⟨none, .asg 2 (.c (.v (.int .i64 6)))⟩])
    (.seq (.scr r39) .ret))
    (.seq (.ops [⟨none, .mv 8 (.t 0)⟩,
      ⟨none, .call (some 9) 37 [(.t 8), (.c (.nd (.fn (.func 43) 0) []))]⟩,
      ⟨none, .asg 7 (.t 9)⟩])
    (.cnd (.t 7)
     (.seq (.ops [⟨none, .asg 2 (.c (.v (.int .i64 1)))⟩])
     (.seq (.scr r39) .ret))
     .skip))))) (.scr x39_0))
 (.seq (.ops [⟨none, .asg 2 (.c (.v (.int .i64 0)))⟩])
 (.seq (.scr r39) .ret)))),
  10, [2]⟩

/-- slices.Clone[[]int,int] -/
def hints40 : List (List Bool) := [[false, false, true, false, false, false, false, false], [false, false, true, false, false, false, false, false]]
@[simp] def r40 : List Bool := [false, false, true, false, false, false, false, false]
@[simp] def R40 (s2 : V) : St := [.dead, .dead, s2, .dead, .dead, .dead, .dead, .dead]
def c40 : MF := ⟨(.seq (.ops [⟨none, .asg 2 (.c (.nd (.sl true 1 0) []))⟩])
 (.seq (.seq (.ops [⟨none, .mv 3 (.t 0)⟩,
    ⟨none, .bin 4 .eql (.nilT false) (.t 3) (.c (.nd (.sl true 0 0) []))⟩])
  (.cnd (.t 4)
   (.seq (.ops [⟨none, .asg 2 (.c (.nd (.sl true 1 0) []))⟩])
   (.seq (.scr r40) .ret))
   .skip))
 (.seq (.ops [⟨none, .bs 5 1 0 [] []⟩,
   ⟨none, .mv 6 (.t 0)⟩,
   ⟨none, .app 7 1 (.t 5) (.t 6)⟩,
   ⟨none, .asg 2 (.t 7)⟩])
 (.seq (.scr r40) .ret)))),
  8, [2]⟩

/-- coinage/axis.turned -/
def hints41 : List (List Bool) := [[false, false, false, false, true, false, false, false, false, false, false, false]]
@[simp] def r41 : List Bool := [false, false, false, false, true, false, false, false, false, false, false, false]
@[simp] def R41 (s4 : V) : St := [.dead, .dead, .dead, .dead, s4, .dead, .dead, .dead, .dead, .dead, .dead, .dead]
def c41 : MF := ⟨(.seq (.ops [⟨none, .asg 4 (.c (.v (.int .i64 0)))⟩])
 (.seq (.ops [⟨none, .mv 5 (.t 0)⟩,
   ⟨none, .mv 6 (.t 1)⟩,
   ⟨none, .bin 7 .rem .num (.t 6) (.c (.v (.int .i64 12)))⟩,
   ⟨none, .bin 8 .add .num (.t 5) (.t 7)⟩,
   ⟨none, .bin 9 .rem .num (.t 8) (.c (.v (.int .i64 12)))⟩,
   ⟨none, .bin 10 .add .num (.t 9) (.c (.v (.int .i64 12)))⟩,
   ⟨none, .bin 11 .rem .num (.t 10) (.c (.v (.int .i64 12)))⟩,
   ⟨none, .asg 4 (.t 11)⟩])
 (.seq (.scr r41) .ret))),
  12, [4]⟩

/-- slices.IndexFunc[[]int,int] -/
def hints42 : List (List Bool) := [[false, false, false, false, false, false, false, false, false, false, false, false, false, false, false, false, false, false, false], [true, true, false, false, false, false, false, true, true, false, false, false, false, false, false, false, false, false, false], [false, false, false, false, false, false, false, false, false, false, false, false, false, false, false, false, false, false, false], [true, true, false, false, false, false, false, true, true, false, false, false, false, false, false, false, false, false, false], [false, false, false, false, true, false, false, false, false, false, false, false, false, false, false, false, false, false, false], [false, false, false, false, true, false, false, false, false, false, false, false, false, false, false, false, false, false, false]]
@[simp] def r42 : List Bool := [false, false, false, false, true, false, false, false, false, false, false, false, false, false, false, false, false, false, false]
@[simp] def R42 (s4 : V) : St := [.dead, .dead, .dead, .dead, s4, .dead, .dead, .dead, .dead, .dead, .dead, .dead, .dead, .dead, .dead, .dead, .dead, .dead, .dead]
@[simp] def x42_0 : List Bool := [false, false, false, false, false, false, false, false, false, false, false, false, false, false, false, false, false, false, false]
@[simp] def X42_0 : St := [.dead, .dead, .dead, .dead, .dead, .dead, .dead, .dead, .dead, .dead, .dead, .dead, .dead, .dead, .dead, .dead, .dead, .dead, .dead]
@[simp] def h42_0 : List Bool := [true, true, false, false, false, false, false, true, true, false, false, false, false, false, false, false, false, false, false]
@[simp] def L42_0 (s0 s1 s7 s8 : V) : St := [s0, s1, .dead, .dead, .dead, .dead, .dead, s7, s8, .dead, .dead, .dead, .dead, .dead, .dead, .dead, .dead, .dead, .dead]
@[simp] def x42_1 : List Bool := [true, true, false, false, false, false, false, true, true, false, false, false, false, false, false, false, false, false, false]
@[simp] def X42_1 (s0 s1 s7 s8 : V) : St := [s0, s1, .dead, .dead, .dead, .dead, .dead, s7, s8, .dead, .dead, .dead, .dead, .dead, .dead, .dead, .dead, .dead, .dead]
def b42_0 : MC := .seq (.scr h42_0)
 (.seq (.ops [⟨none, .bin 9 .lss .num (.t 8) (.t 7)⟩])
 (.seq (.cnd (.t 9)
   .skip
   (.seq (.scr x42_0) (.ex 0)))
 (.seq (.seq (.blk 1 (.seq (.ops [⟨none, .mv 10 (.t 8)⟩,
     ⟨none, .asg 5 (.t 10)⟩])
   (.seq (.ops [⟨none, .mv 11 (.t 1)⟩,
     ⟨none, .mv 12 (.t 0)⟩,
     ⟨none, .mv 13 (.t 5)⟩,
     ⟨none, .ixs 14 1 (.t 12) (.t 13)⟩,
     ⟨none, .ld1 15 (.t 14)⟩,
     ⟨none, .calv (some 16) (.t 11) [(.t 15)]⟩])
   (.cnd (.t 16)
    (.seq (.ops [⟨none, .mv 17 (.t 5)⟩,
      ⟨none, .asg 4 (.t 17)⟩])
    (.seq (.scr r42) .ret))
    .skip)))) (.scr x42_1))
 (.ops [⟨none, .bin 18 .add .num (.t 8) (.c (.v (.int .i64 1)))⟩,
  ⟨none, .mv 8 (.t 18)⟩]))))
def c42 : MF := ⟨(.seq (.ops [⟨none, .asg 4 (.c (.v (.int .i64 0)))⟩])
 (.seq (.seq (.ops [⟨none, .mv 6 (.t 0)⟩,
    ⟨none, .len 7 false (.t 6)⟩,
    ⟨none, .mv 8 (.c (.v (.int .i64 0)))⟩])
  (.seq (.blk 0 (.lop b42_0)) (.scr x42_0)))
 (.seq (.ops [⟨none, .asg 4 (.c (.v (.int .i64 (-1))))⟩])
 (.seq (.scr r42) .ret)))),
  19, [4]⟩

/-- coinage/axis.check$1 -/
def hints43 : List (List Bool) := [[false, false, true, false, false, false]]
@[simp] def r43 : List Bool := [false, false, true, false, false, false]
@[simp] def R43 (s2 : V) : St := [.dead, .dead, s2, .dead, .dead, .dead]
def c43 : MF := ⟨(.seq (.ops [⟨none, .asg 2 (.c (.v (.bool false)))⟩])
 (.seq (.ops [⟨none, .mv 3 (.t 0)⟩,
   ⟨none, .call (some 4) 31 [(.t 3)]⟩,
   ⟨none, .un 5 .not (.t 4)⟩,
   ⟨none, .asg 2 (.t 5)⟩])
 (.seq (.scr r43) .ret))),
  6, [2]⟩


def tbl : FuncId → Option MF
  | 3 => some c3
  | 4 => some c4
  | 5 => some c5
  | 6 => some c6
  | 7 => some c7
  | 8 => some c8
  | 9 => some c9
  | 10 => some c10
  | 11 => some c11
  | 12 => some c12
  | 13 => some c13
  | 14 => some c14
  | 15 => some c15
  | 16 => some c16
  | 17 => some c17
  | 18 => some c18
  | 19 => some c19
  | 20 => some c20
  | 21 => some c21
  | 22 => some c22
  | 23 => some c23
  | 24 => some c24
  | 25 => some c25
  | 26 => some c26
  | 27 => some c27
  | 28 => some c28
  | 29 => some c29
  | 30 => some c30
  | 31 => some c31
  | 32 => some c32
  | 33 => some c33
  | 34 => some c34
  | 35 => some c35
  | 36 => some c36
  | 37 => some c37
  | 38 => some c38
  | 39 => some c39
  | 40 => some c40
  | 41 => some c41
  | 42 => some c42
  | 43 => some c43
  | _ => none

theorem comp3 : compF Go.Proofs.Try.prog hints3 3 = some c3 := by kernel_rfl
theorem comp4 : compF Go.Proofs.Try.prog hints4 4 = some c4 := by kernel_rfl
theorem comp5 : compF Go.Proofs.Try.prog hints5 5 = some c5 := by kernel_rfl
theorem comp6 : compF Go.Proofs.Try.prog hints6 6 = some c6 := by kernel_rfl
theorem comp7 : compF Go.Proofs.Try.prog hints7 7 = some c7 := by kernel_rfl
theorem comp8 : compF Go.Proofs.Try.prog hints8 8 = some c8 := by kernel_rfl
theorem comp9 : compF Go.Proofs.Try.prog hints9 9 = some c9 := by kernel_rfl
theorem comp10 : compF Go.Proofs.Try.prog hints10 10 = some c10 := by kernel_rfl
theorem comp11 : compF Go.Proofs.Try.prog hints11 11 = some c11 := by kernel_rfl
theorem comp12 : compF Go.Proofs.Try.prog hints12 12 = some c12 := by kernel_rfl
theorem comp13 : compF Go.Proofs.Try.prog hints13 13 = some c13 := by kernel_rfl
theorem comp14 : compF Go.Proofs.Try.prog hints14 14 = some c14 := by kernel_rfl
theorem comp15 : compF Go.Proofs.Try.prog hints15 15 = some c15 := by kernel_rfl
theorem comp16 : compF Go.Proofs.Try.prog hints16 16 = some c16 := by kernel_rfl
theorem comp17 : compF Go.Proofs.Try.prog hints17 17 = some c17 := by kernel_rfl
theorem comp18 : compF Go.Proofs.Try.prog hints18 18 = some c18 := by kernel_rfl
theorem comp19 : compF Go.Proofs.Try.prog hints19 19 = some c19 := by kernel_rfl
theorem comp20 : compF Go.Proofs.Try.prog hints20 20 = some c20 := by kernel_rfl
theorem comp21 : compF Go.Proofs.Try.prog hints21 21 = some c21 := by kernel_rfl
theorem comp22 : compF Go.Proofs.Try.prog hints22 22 = some c22 := by kernel_rfl
theorem comp23 : compF Go.Proofs.Try.prog hints23 23 = some c23 := by kernel_rfl
theorem comp24 : compF Go.Proofs.Try.prog hints24 24 = some c24 := by kernel_rfl
theorem comp25 : compF Go.Proofs.Try.prog hints25 25 = some c25 := by kernel_rfl
theorem comp26 : compF Go.Proofs.Try.prog hints26 26 = some c26 := by kernel_rfl
theorem comp27 : compF Go.Proofs.Try.prog hints27 27 = some c27 := by kernel_rfl
theorem comp28 : compF Go.Proofs.Try.prog hints28 28 = some c28 := by kernel_rfl
theorem comp29 : compF Go.Proofs.Try.prog hints29 29 = some c29 := by kernel_rfl
theorem comp30 : compF Go.Proofs.Try.prog hints30 30 = some c30 := by kernel_rfl
theorem comp31 : compF Go.Proofs.Try.prog hints31 31 = some c31 := by kernel_rfl
theorem comp32 : compF Go.Proofs.Try.prog hints32 32 = some c32 := by kernel_rfl
theorem comp33 : compF Go.Proofs.Try.prog hints33 33 = some c33 := by kernel_rfl
theorem comp34 : compF Go.Proofs.Try.prog hints34 34 = some c34 := by kernel_rfl
theorem comp35 : compF Go.Proofs.Try.prog hints35 35 = some c35 := by kernel_rfl
theorem comp36 : compF Go.Proofs.Try.prog hints36 36 = some c36 := by kernel_rfl
theorem comp37 : compF Go.Proofs.Try.prog hints37 37 = some c37 := by kernel_rfl
theorem comp38 : compF Go.Proofs.Try.prog hints38 38 = some c38 := by kernel_rfl
theorem comp39 : compF Go.Proofs.Try.prog hints39 39 = some c39 := by kernel_rfl
theorem comp40 : compF Go.Proofs.Try.prog hints40 40 = some c40 := by kernel_rfl
theorem comp41 : compF Go.Proofs.Try.prog hints41 41 = some c41 := by kernel_rfl
theorem comp42 : compF Go.Proofs.Try.prog hints42 42 = some c42 := by kernel_rfl
theorem comp43 : compF Go.Proofs.Try.prog hints43 43 = some c43 := by kernel_rfl

theorem tbl_ok (f : FuncId) (mf : MF) (h : tbl f = some mf) : ∃ hints, compF Go.Proofs.Try.prog hints f = some mf := by
  unfold tbl at h
  split at h
  · cases h; exact ⟨_, comp3⟩
  · cases h; exact ⟨_, comp4⟩
  · cases h; exact ⟨_, comp5⟩
  · cases h; exact ⟨_, comp6⟩
  · cases h; exact ⟨_, comp7⟩
  · cases h; exact ⟨_, comp8⟩
  · cases h; exact ⟨_, comp9⟩
  · cases h; exact ⟨_, comp10⟩
  · cases h; exact ⟨_, comp11⟩
  · cases h; exact ⟨_, comp12⟩
  · cases h; exact ⟨_, comp13⟩
  · cases h; exact ⟨_, comp14⟩
  · cases h; exact ⟨_, comp15⟩
  · cases h; exact ⟨_, comp16⟩
  · cases h; exact ⟨_, comp17⟩
  · cases h; exact ⟨_, comp18⟩
  · cases h; exact ⟨_, comp19⟩
  · cases h; exact ⟨_, comp20⟩
  · cases h; exact ⟨_, comp21⟩
  · cases h; exact ⟨_, comp22⟩
  · cases h; exact ⟨_, comp23⟩
  · cases h; exact ⟨_, comp24⟩
  · cases h; exact ⟨_, comp25⟩
  · cases h; exact ⟨_, comp26⟩
  · cases h; exact ⟨_, comp27⟩
  · cases h; exact ⟨_, comp28⟩
  · cases h; exact ⟨_, comp29⟩
  · cases h; exact ⟨_, comp30⟩
  · cases h; exact ⟨_, comp31⟩
  · cases h; exact ⟨_, comp32⟩
  · cases h; exact ⟨_, comp33⟩
  · cases h; exact ⟨_, comp34⟩
  · cases h; exact ⟨_, comp35⟩
  · cases h; exact ⟨_, comp36⟩
  · cases h; exact ⟨_, comp37⟩
  · cases h; exact ⟨_, comp38⟩
  · cases h; exact ⟨_, comp39⟩
  · cases h; exact ⟨_, comp40⟩
  · cases h; exact ⟨_, comp41⟩
  · cases h; exact ⟨_, comp42⟩
  · cases h; exact ⟨_, comp43⟩
  · cases h

end Go.Mx
