import Derived.Test.YtohmmlgnjiolfaaMxRa
import Derived.KernelRfl
import Derived.Test.YtohmmlgnjiolfaaChecked
/-
  The functions of this chapter in the machine's code, and that the given program's code is this one. Printed by a program of this repo (gencodes.py).
-/
namespace Go.Mx
set_option linter.unusedVariables false
set_option linter.unusedSimpArgs false
set_option linter.unusedSectionVars false
open Go

/-- coinage/coinagelaw07.FrameSums -/
abbrev K3 : Nat := 3
def hints3 : List (List Bool) := [bits 16 [2], bits 16 [2]]
@[simp] def r3 : List Bool := bits 16 [2]
@[simp] def R3 (s2 : V) : St := tab 16 3 (fu dd 2 s2) dd
def c3 : MF := ⟨(.seq (.ops [⟨none, .asg 2 (.c (.v (.bool false)))⟩])
 (.seq (.seq (.ops [⟨none, .call (some 3) 10 []⟩,
    ⟨none, .un 4 .not (.t 3)⟩,
    ⟨none, .mv 5 (.t 4)⟩,
    ⟨some (5, false), .mv 6 (.t 0)⟩,
    ⟨some (5, false), .len 7 false (.t 6)⟩,
    ⟨some (5, false), .bin 8 .gtr .num (.t 7) (.c (.v (.int .i64 20000)))⟩,
    ⟨none, .pick 9 (.t 5) (.c (.v (.bool true))) (.t 8)⟩])
  (.cnd (.t 9)
   (.seq (.ops [⟨none, .call (some 10) 10 []⟩,
     ⟨none, .asg 2 (.t 10)⟩])
   (.seq (.scr r3) .ret))
   .skip))
 (.seq (.ops [⟨none, .mv 11 (.t 0)⟩,
   ⟨none, .call (some 12) 11 [(.t 11)]⟩,
   ⟨none, .mv 13 (.t 0)⟩,
   ⟨none, .call (some 14) 12 [(.t 13)]⟩,
   ⟨none, .bin 15 .eql .num (.t 12) (.t 14)⟩,
   ⟨none, .asg 2 (.t 15)⟩])
 (.seq (.scr r3) .ret)))),
  16, [2]⟩

/-- coinage/coinagelaw07.FrameSeals -/
abbrev K4 : Nat := 54
def hints4 : List (List Bool) := [bits 81 [6], bits 81 [6], bits 81 [6], bits 81 [6]]
@[simp] def r4 : List Bool := bits 81 [6]
@[simp] def R4 (s6 : V) : St := tab 81 54 (fu dd 6 s6) dd
def c4 : MF := ⟨(.seq (.ops [⟨none, .asg 6 (.c (.v (.bool false)))⟩])
 (.seq (.seq (.ops [⟨none, .call (some 15) 10 []⟩,
    ⟨none, .un 16 .not (.t 15)⟩,
    ⟨none, .mv 17 (.t 16)⟩,
    ⟨some (17, false), .mv 18 (.t 1)⟩,
    ⟨some (17, false), .len 19 false (.t 18)⟩,
    ⟨some (17, false), .bin 20 .gtr .num (.t 19) (.c (.v (.int .i64 9000)))⟩,
    ⟨none, .pick 21 (.t 17) (.c (.v (.bool true))) (.t 20)⟩,
    ⟨none, .mv 22 (.t 21)⟩,
    ⟨some (22, false), .mv 23 (.t 2)⟩,
    ⟨some (22, false), .len 24 false (.t 23)⟩,
    ⟨some (22, false), .bin 25 .gtr .num (.t 24) (.c (.v (.int .i64 100)))⟩,
    ⟨none, .pick 26 (.t 22) (.c (.v (.bool true))) (.t 25)⟩])
  (.cnd (.t 26)
   (.seq (.ops [⟨none, .call (some 27) 10 []⟩,
     ⟨none, .asg 6 (.t 27)⟩])
   (.seq (.scr r4) .ret))
   .skip))
 (.seq (.ops [⟨none, .mv 29 (.t 0)⟩,
   ⟨none, .mv 30 (.t 1)⟩,
   ⟨none, .call (some 31) 13 [(.t 29), (.t 30)]⟩,
   ⟨none, .mv 28 (.t 31)⟩,
   ⟨none, .ext 32 (.t 28) 0⟩,
   ⟨none, .ext 33 (.t 28) 1⟩,
   ⟨none, .asg 7 (.t 32)⟩,
   ⟨none, .asg 8 (.t 33)⟩])
 (.seq (.ops [⟨none, .mv 35 (.t 0)⟩,
   ⟨none, .mv 36 (.t 1)⟩,
   ⟨none, .call (some 37) 14 [(.t 35), (.t 36)]⟩,
   ⟨none, .mv 34 (.t 37)⟩,
   ⟨none, .ext 38 (.t 34) 0⟩,
   ⟨none, .ext 39 (.t 34) 1⟩,
   ⟨none, .asg 9 (.t 38)⟩,
   ⟨none, .asg 10 (.t 39)⟩])
 (.seq (.seq (.ops [⟨none, .mv 40 (.t 7)⟩,
    ⟨none, .mv 41 (.t 9)⟩,
    ⟨none, .call (some 42) 15 [(.t 40), (.t 41)]⟩,
    ⟨none, .un 43 .not (.t 42)⟩,
    ⟨none, .mv 44 (.t 43)⟩,
    ⟨some (44, false), .mv 45 (.t 8)⟩,
    ⟨some (44, false), .mv 46 (.t 10)⟩,
    ⟨some (44, false), .bin 47 .neq .num (.t 45) (.t 46)⟩,
    ⟨none, .pick 48 (.t 44) (.c (.v (.bool true))) (.t 47)⟩])
  (.cnd (.t 48)
   (.seq (.ops [⟨none, .asg 6 (.c (.v (.bool false)))⟩])
   (.seq (.scr r4) .ret))
   .skip))
 (.seq (.seq (.ops [⟨none, .mv 49 (.t 8)⟩,
    ⟨none, .bin 50 .neq .num (.t 49) (.c (.v (.int .i64 0)))⟩])
  (.cnd (.t 50)
   (.seq (.ops [⟨none, .mv 51 (.t 8)⟩,
     ⟨none, .bin 52 .eql .num (.t 51) (.c (.v (.int .i64 6)))⟩,
     ⟨none, .asg 6 (.t 52)⟩])
   (.seq (.scr r4) .ret))
   .skip))
 (.seq (.ops [⟨none, .mz 54 1⟩,
   ⟨none, .mv 55 (.t 7)⟩,
   ⟨none, .app 56 1 (.t 54) (.t 55)⟩,
   ⟨none, .mv 57 (.t 2)⟩,
   ⟨none, .app 58 1 (.t 56) (.t 57)⟩,
   ⟨none, .call (some 59) 16 [(.t 58)]⟩,
   ⟨none, .mv 53 (.t 59)⟩,
   ⟨none, .ext 60 (.t 53) 0⟩,
   ⟨none, .ext 61 (.t 53) 1⟩,
   ⟨none, .ext 62 (.t 53) 2⟩,
   ⟨none, .ext 63 (.t 53) 3⟩,
   ⟨none, .asg 11 (.t 60)⟩,
   ⟨none, .asg 12 (.t 61)⟩,
   ⟨none, .asg 13 (.t 62)⟩,
   ⟨none, .asg 14 (.t 63)⟩])
 (.seq (.ops (⟨none, .mv 64 (.t 11)⟩ ::
   ⟨none, .mv 65 (.t 0)⟩ ::
   ⟨none, .bin 66 .eql .num (.t 64) (.t 65)⟩ ::
   ⟨none, .mv 67 (.t 66)⟩ ::
   ⟨some (67, true), .mv 68 (.t 12)⟩ ::
   ⟨some (67, true), .mv 69 (.t 1)⟩ ::
   ⟨some (67, true), .call (some 70) 15 [(.t 68), (.t 69)]⟩ ::
   ⟨none, .pick 71 (.t 67) (.t 70) (.c (.v (.bool false)))⟩ ::
   ⟨none, .mv 72 (.t 71)⟩ ::
   ⟨some (72, true), .mv 73 (.t 13)⟩ ::
   ⟨some (72, true), .mv 74 (.t 2)⟩ ::
   ⟨some (72, true), .call (some 75) 15 [(.t 73), (.t 74)]⟩ ::
   ⟨none, .pick 76 (.t 72) (.t 75) (.c (.v (.bool false)))⟩ ::
   ⟨none, .mv 77 (.t 76)⟩ ::
   ⟨some (77, true), .mv 78 (.t 14)⟩ ::
   ⟨some (77, true), .bin 79 .eql .num (.t 78) (.c (.v (.int .i64 0)))⟩ ::
   ⟨none, .pick 80 (.t 77) (.t 79) (.c (.v (.bool false)))⟩ ::
   ⟨none, .asg 6 (.t 80)⟩ :: []))
 (.seq (.scr r4) .ret))))))))),
  81, [6]⟩

/-- coinage/coinagelaw07.FrameOpens -/
abbrev K5 : Nat := 56
def hints5 : List (List Bool) := [bits 70 [2], bits 70 [2], bits 70 [2]]
@[simp] def r5 : List Bool := bits 70 [2]
@[simp] def R5 (s2 : V) : St := tab 70 56 (fu dd 2 s2) dd
def c5 : MF := ⟨(.seq (.ops [⟨none, .asg 2 (.c (.v (.bool false)))⟩])
 (.seq (.seq (.ops [⟨none, .call (some 13) 10 []⟩,
    ⟨none, .un 14 .not (.t 13)⟩,
    ⟨none, .mv 15 (.t 14)⟩,
    ⟨some (15, false), .mv 16 (.t 0)⟩,
    ⟨some (15, false), .len 17 false (.t 16)⟩,
    ⟨some (15, false), .bin 18 .gtr .num (.t 17) (.c (.v (.int .i64 10000)))⟩,
    ⟨none, .pick 19 (.t 15) (.c (.v (.bool true))) (.t 18)⟩])
  (.cnd (.t 19)
   (.seq (.ops [⟨none, .call (some 20) 10 []⟩,
     ⟨none, .asg 2 (.t 20)⟩])
   (.seq (.scr r5) .ret))
   .skip))
 (.seq (.ops [⟨none, .mv 22 (.t 0)⟩,
   ⟨none, .call (some 23) 16 [(.t 22)]⟩,
   ⟨none, .mv 21 (.t 23)⟩,
   ⟨none, .ext 24 (.t 21) 0⟩,
   ⟨none, .ext 25 (.t 21) 1⟩,
   ⟨none, .ext 26 (.t 21) 2⟩,
   ⟨none, .ext 27 (.t 21) 3⟩,
   ⟨none, .asg 3 (.t 24)⟩,
   ⟨none, .asg 4 (.t 25)⟩,
   ⟨none, .asg 5 (.t 26)⟩,
   ⟨none, .asg 6 (.t 27)⟩])
 (.seq (.ops [⟨none, .mv 29 (.t 0)⟩,
   ⟨none, .call (some 30) 17 [(.t 29)]⟩,
   ⟨none, .mv 28 (.t 30)⟩,
   ⟨none, .ext 31 (.t 28) 0⟩,
   ⟨none, .ext 32 (.t 28) 1⟩,
   ⟨none, .ext 33 (.t 28) 2⟩,
   ⟨none, .ext 34 (.t 28) 3⟩,
   ⟨none, .asg 7 (.t 31)⟩,
   ⟨none, .asg 8 (.t 32)⟩,
   ⟨none, .asg 9 (.t 33)⟩,
   ⟨none, .asg 10 (.t 34)⟩])
 (.seq (.seq (.ops (⟨none, .mv 35 (.t 3)⟩ ::
    ⟨none, .mv 36 (.t 7)⟩ ::
    ⟨none, .bin 37 .neq .num (.t 35) (.t 36)⟩ ::
    ⟨none, .mv 38 (.t 37)⟩ ::
    ⟨some (38, false), .mv 39 (.t 4)⟩ ::
    ⟨some (38, false), .mv 40 (.t 8)⟩ ::
    ⟨some (38, false), .call (some 41) 15 [(.t 39), (.t 40)]⟩ ::
    ⟨some (38, false), .un 42 .not (.t 41)⟩ ::
    ⟨none, .pick 43 (.t 38) (.c (.v (.bool true))) (.t 42)⟩ ::
    ⟨none, .mv 44 (.t 43)⟩ ::
    ⟨some (44, false), .mv 45 (.t 5)⟩ ::
    ⟨some (44, false), .mv 46 (.t 9)⟩ ::
    ⟨some (44, false), .call (some 47) 15 [(.t 45), (.t 46)]⟩ ::
    ⟨some (44, false), .un 48 .not (.t 47)⟩ ::
    ⟨none, .pick 49 (.t 44) (.c (.v (.bool true))) (.t 48)⟩ ::
    ⟨none, .mv 50 (.t 49)⟩ ::
    ⟨some (50, false), .mv 51 (.t 6)⟩ ::
    ⟨some (50, false), .mv 52 (.t 10)⟩ ::
    ⟨some (50, false), .bin 53 .neq .num (.t 51) (.t 52)⟩ ::
    ⟨none, .pick 54 (.t 50) (.c (.v (.bool true))) (.t 53)⟩ :: []))
  (.cnd (.t 54)
   (.seq (.ops [⟨none, .asg 2 (.c (.v (.bool false)))⟩])
   (.seq (.scr r5) .ret))
   .skip))
 (.seq (.ops [⟨none, .mv 56 (.t 3)⟩,
   ⟨none, .mv 57 (.t 4)⟩,
   ⟨none, .call (some 58) 13 [(.t 56), (.t 57)]⟩,
   ⟨none, .mv 55 (.t 58)⟩,
   ⟨none, .ext 59 (.t 55) 0⟩,
   ⟨none, .ext 60 (.t 55) 1⟩,
   ⟨none, .asg 11 (.t 59)⟩,
   ⟨none, .asg 12 (.t 60)⟩])
 (.seq (.ops [⟨none, .mv 61 (.t 6)⟩,
   ⟨none, .bin 62 .neq .num (.t 61) (.c (.v (.int .i64 0)))⟩,
   ⟨none, .mv 63 (.t 62)⟩,
   ⟨some (63, false), .mv 64 (.t 11)⟩,
   ⟨some (63, false), .mv 65 (.t 5)⟩,
   ⟨some (63, false), .app 66 1 (.t 64) (.t 65)⟩,
   ⟨some (63, false), .mv 67 (.t 0)⟩,
   ⟨some (63, false), .call (some 68) 15 [(.t 66), (.t 67)]⟩,
   ⟨none, .pick 69 (.t 63) (.c (.v (.bool true))) (.t 68)⟩,
   ⟨none, .asg 2 (.t 69)⟩])
 (.seq (.scr r5) .ret)))))))),
  70, [2]⟩

/-- coinage/coinagelaw07.FrameTorn -/
abbrev K6 : Nat := 28
def hints6 : List (List Bool) := [bits 56 [6], bits 56 [6]]
@[simp] def r6 : List Bool := bits 56 [6]
@[simp] def R6 (s6 : V) : St := tab 56 28 (fu dd 6 s6) dd
def c6 : MF := ⟨(.seq (.ops [⟨none, .asg 6 (.c (.v (.bool false)))⟩])
 (.seq (.seq (.ops [⟨none, .call (some 13) 10 []⟩,
    ⟨none, .un 14 .not (.t 13)⟩,
    ⟨none, .mv 15 (.t 14)⟩,
    ⟨some (15, false), .mv 16 (.t 1)⟩,
    ⟨some (15, false), .len 17 false (.t 16)⟩,
    ⟨some (15, false), .bin 18 .gtr .num (.t 17) (.c (.v (.int .i64 8192)))⟩,
    ⟨none, .pick 19 (.t 15) (.c (.v (.bool true))) (.t 18)⟩])
  (.cnd (.t 19)
   (.seq (.ops [⟨none, .call (some 20) 10 []⟩,
     ⟨none, .asg 6 (.t 20)⟩])
   (.seq (.scr r6) .ret))
   .skip))
 (.seq (.ops [⟨none, .mv 22 (.t 0)⟩,
   ⟨none, .mv 23 (.t 1)⟩,
   ⟨none, .call (some 24) 14 [(.t 22), (.t 23)]⟩,
   ⟨none, .mv 21 (.t 24)⟩,
   ⟨none, .ext 25 (.t 21) 0⟩,
   ⟨none, .ext 26 (.t 21) 1⟩,
   ⟨none, .asg 7 (.t 25)⟩,
   ⟨none, .asg 8 (.t 26)⟩])
 (.seq (.ops (⟨none, .mv 28 (.t 7)⟩ ::
   ⟨none, .mv 29 (.t 2)⟩ ::
   ⟨none, .cvi 30 .i64 (.t 29)⟩ ::
   ⟨none, .mv 31 (.t 7)⟩ ::
   ⟨none, .len 32 false (.t 31)⟩ ::
   ⟨none, .bin 33 .rem .num (.t 30) (.t 32)⟩ ::
   ⟨none, .sl 34 1 (.t 28) none (some (.t 33))⟩ ::
   ⟨none, .call (some 35) 16 [(.t 34)]⟩ ::
   ⟨none, .mv 27 (.t 35)⟩ ::
   ⟨none, .ext 36 (.t 27) 0⟩ ::
   ⟨none, .ext 37 (.t 27) 1⟩ ::
   ⟨none, .ext 38 (.t 27) 2⟩ ::
   ⟨none, .ext 39 (.t 27) 3⟩ ::
   ⟨none, .asg 9 (.t 36)⟩ ::
   ⟨none, .asg 10 (.t 37)⟩ ::
   ⟨none, .asg 11 (.t 38)⟩ ::
   ⟨none, .asg 12 (.t 39)⟩ :: []))
 (.seq (.ops (⟨none, .mv 40 (.t 9)⟩ ::
   ⟨none, .bin 41 .eql .num (.t 40) (.c (.v (.int .u8 0)))⟩ ::
   ⟨none, .mv 42 (.t 41)⟩ ::
   ⟨some (42, true), .mv 43 (.t 10)⟩ ::
   ⟨some (42, true), .len 44 false (.t 43)⟩ ::
   ⟨some (42, true), .bin 45 .eql .num (.t 44) (.c (.v (.int .i64 0)))⟩ ::
   ⟨none, .pick 46 (.t 42) (.t 45) (.c (.v (.bool false)))⟩ ::
   ⟨none, .mv 47 (.t 46)⟩ ::
   ⟨some (47, true), .mv 48 (.t 11)⟩ ::
   ⟨some (47, true), .len 49 false (.t 48)⟩ ::
   ⟨some (47, true), .bin 50 .eql .num (.t 49) (.c (.v (.int .i64 0)))⟩ ::
   ⟨none, .pick 51 (.t 47) (.t 50) (.c (.v (.bool false)))⟩ ::
   ⟨none, .mv 52 (.t 51)⟩ ::
   ⟨some (52, true), .mv 53 (.t 12)⟩ ::
   ⟨some (52, true), .bin 54 .eql .num (.t 53) (.c (.v (.int .i64 4)))⟩ ::
   ⟨none, .pick 55 (.t 52) (.t 54) (.c (.v (.bool false)))⟩ ::
   ⟨none, .asg 6 (.t 55)⟩ :: []))
 (.seq (.scr r6) .ret)))))),
  56, [6]⟩

/-- coinage/coinagelaw07.FrameChanges -/
abbrev K7 : Nat := 56
def hints7 : List (List Bool) := [bits 68 [6], bits 68 [6], bits 68 [6]]
@[simp] def r7 : List Bool := bits 68 [6]
@[simp] def R7 (s6 : V) : St := tab 68 56 (fu dd 6 s6) dd
def c7 : MF := ⟨(.seq (.ops [⟨none, .asg 6 (.c (.v (.bool false)))⟩])
 (.seq (.seq (.ops [⟨none, .call (some 14) 10 []⟩,
    ⟨none, .un 15 .not (.t 14)⟩,
    ⟨none, .mv 16 (.t 15)⟩,
    ⟨some (16, false), .mv 17 (.t 1)⟩,
    ⟨some (16, false), .len 18 false (.t 17)⟩,
    ⟨some (16, false), .bin 19 .gtr .num (.t 18) (.c (.v (.int .i64 8192)))⟩,
    ⟨none, .pick 20 (.t 16) (.c (.v (.bool true))) (.t 19)⟩,
    ⟨none, .mv 21 (.t 20)⟩,
    ⟨some (21, false), .mv 22 (.t 2)⟩,
    ⟨some (21, false), .bin 23 .rem .num (.t 22) (.c (.v (.int .u32 256)))⟩,
    ⟨some (21, false), .bin 24 .eql .num (.t 23) (.c (.v (.int .u32 0)))⟩,
    ⟨none, .pick 25 (.t 21) (.c (.v (.bool true))) (.t 24)⟩])
  (.cnd (.t 25)
   (.seq (.ops [⟨none, .call (some 26) 10 []⟩,
     ⟨none, .asg 6 (.t 26)⟩])
   (.seq (.scr r7) .ret))
   .skip))
 (.seq (.ops [⟨none, .mv 28 (.t 0)⟩,
   ⟨none, .mv 29 (.t 1)⟩,
   ⟨none, .call (some 30) 14 [(.t 28), (.t 29)]⟩,
   ⟨none, .mv 27 (.t 30)⟩,
   ⟨none, .ext 31 (.t 27) 0⟩,
   ⟨none, .ext 32 (.t 27) 1⟩,
   ⟨none, .asg 7 (.t 31)⟩,
   ⟨none, .asg 8 (.t 32)⟩])
 (.seq (.ops [⟨none, .mv 33 (.t 2)⟩,
   ⟨none, .bin 34 .quo .num (.t 33) (.c (.v (.int .u32 256)))⟩,
   ⟨none, .cvi 35 .i64 (.t 34)⟩,
   ⟨none, .mv 36 (.t 7)⟩,
   ⟨none, .len 37 false (.t 36)⟩,
   ⟨none, .bin 38 .sub .num (.t 37) (.c (.v (.int .i64 3)))⟩,
   ⟨none, .bin 39 .rem .num (.t 35) (.t 38)⟩,
   ⟨none, .asg 9 (.t 39)⟩])
 (.seq (.seq (.ops [⟨none, .mv 40 (.t 9)⟩,
    ⟨none, .bin 41 .geq .num (.t 40) (.c (.v (.int .i64 2)))⟩])
  (.cnd (.t 41)
   (.ops [⟨none, .mv 42 (.t 9)⟩,
    ⟨none, .bin 43 .add .num (.t 42) (.c (.v (.int .i64 3)))⟩,
    ⟨none, .asg 9 (.t 43)⟩])
   .skip))
 (.seq (.ops [⟨none, .mv 44 (.t 7)⟩,
   ⟨none, .mv 45 (.t 9)⟩,
   ⟨none, .mv 46 (.t 7)⟩,
   ⟨none, .mv 47 (.t 9)⟩,
   ⟨none, .ixs 48 1 (.t 46) (.t 47)⟩,
   ⟨none, .ld1 49 (.t 48)⟩,
   ⟨none, .mv 50 (.t 2)⟩,
   ⟨none, .bin 51 .rem .num (.t 50) (.c (.v (.int .u32 256)))⟩,
   ⟨none, .cvi 52 .u8 (.t 51)⟩,
   ⟨none, .bin 53 .add .num (.t 49) (.t 52)⟩,
   ⟨none, .ixs 54 1 (.t 44) (.t 45)⟩,
   ⟨none, .stn none 1 (.t 54) (.t 53)⟩])
 (.seq (.ops [⟨none, .mv 56 (.t 7)⟩,
   ⟨none, .call (some 57) 16 [(.t 56)]⟩,
   ⟨none, .mv 55 (.t 57)⟩,
   ⟨none, .ext 58 (.t 55) 0⟩,
   ⟨none, .ext 59 (.t 55) 1⟩,
   ⟨none, .ext 60 (.t 55) 2⟩,
   ⟨none, .ext 61 (.t 55) 3⟩,
   ⟨none, .asg 10 (.t 58)⟩,
   ⟨none, .asg 11 (.t 59)⟩,
   ⟨none, .asg 12 (.t 60)⟩,
   ⟨none, .asg 13 (.t 61)⟩])
 (.seq (.seq (.ops [⟨none, .mv 62 (.t 9)⟩,
    ⟨none, .bin 63 .eql .num (.t 62) (.c (.v (.int .i64 0)))⟩])
  (.cnd (.t 63)
   (.seq (.ops [⟨none, .mv 64 (.t 13)⟩,
     ⟨none, .bin 65 .eql .num (.t 64) (.c (.v (.int .i64 3)))⟩,
     ⟨none, .asg 6 (.t 65)⟩])
   (.seq (.scr r7) .ret))
   .skip))
 (.seq (.ops [⟨none, .mv 66 (.t 13)⟩,
   ⟨none, .bin 67 .eql .num (.t 66) (.c (.v (.int .i64 5)))⟩,
   ⟨none, .asg 6 (.t 67)⟩])
 (.seq (.scr r7) .ret)))))))))),
  68, [6]⟩

/-- coinage/coinagelaw07.FrameIntegers -/
abbrev K8 : Nat := 42
def hints8 : List (List Bool) := [bits 80 [4], bits 80 [4]]
@[simp] def r8 : List Bool := bits 80 [4]
@[simp] def R8 (s4 : V) : St := tab 80 42 (fu dd 4 s4) dd
def c8 : MF := ⟨(.seq (.ops [⟨none, .asg 4 (.c (.v (.bool false)))⟩])
 (.seq (.seq (.ops [⟨none, .call (some 15) 10 []⟩,
    ⟨none, .un 16 .not (.t 15)⟩,
    ⟨none, .mv 17 (.t 16)⟩,
    ⟨some (17, false), .mv 18 (.t 1)⟩,
    ⟨some (17, false), .len 19 false (.t 18)⟩,
    ⟨some (17, false), .bin 20 .gtr .num (.t 19) (.c (.v (.int .i64 100)))⟩,
    ⟨none, .pick 21 (.t 17) (.c (.v (.bool true))) (.t 20)⟩])
  (.cnd (.t 21)
   (.seq (.ops [⟨none, .call (some 22) 10 []⟩,
     ⟨none, .asg 4 (.t 22)⟩])
   (.seq (.scr r8) .ret))
   .skip))
 (.seq (.ops [⟨none, .mv 23 (.t 0)⟩,
   ⟨none, .call (some 24) 18 [(.t 23)]⟩,
   ⟨none, .asg 5 (.t 24)⟩])
 (.seq (.ops [⟨none, .mz 26 1⟩,
   ⟨none, .mv 27 (.t 5)⟩,
   ⟨none, .app 28 1 (.t 26) (.t 27)⟩,
   ⟨none, .mv 29 (.t 1)⟩,
   ⟨none, .app 30 1 (.t 28) (.t 29)⟩,
   ⟨none, .call (some 31) 19 [(.t 30)]⟩,
   ⟨none, .mv 25 (.t 31)⟩,
   ⟨none, .ext 32 (.t 25) 0⟩,
   ⟨none, .ext 33 (.t 25) 1⟩,
   ⟨none, .ext 34 (.t 25) 2⟩,
   ⟨none, .asg 6 (.t 32)⟩,
   ⟨none, .asg 7 (.t 33)⟩,
   ⟨none, .asg 8 (.t 34)⟩])
 (.seq (.ops [⟨none, .mv 36 (.t 1)⟩,
   ⟨none, .call (some 37) 19 [(.t 36)]⟩,
   ⟨none, .mv 35 (.t 37)⟩,
   ⟨none, .ext 38 (.t 35) 0⟩,
   ⟨none, .ext 39 (.t 35) 1⟩,
   ⟨none, .ext 40 (.t 35) 2⟩,
   ⟨none, .asg 9 (.t 38)⟩,
   ⟨none, .asg 10 (.t 39)⟩,
   ⟨none, .asg 11 (.t 40)⟩])
 (.seq (.ops [⟨none, .mv 42 (.t 1)⟩,
   ⟨none, .call (some 43) 20 [(.t 42)]⟩,
   ⟨none, .mv 41 (.t 43)⟩,
   ⟨none, .ext 44 (.t 41) 0⟩,
   ⟨none, .ext 45 (.t 41) 1⟩,
   ⟨none, .ext 46 (.t 41) 2⟩,
   ⟨none, .asg 12 (.t 44)⟩,
   ⟨none, .asg 13 (.t 45)⟩,
   ⟨none, .asg 14 (.t 46)⟩])
 (.seq (.ops (⟨none, .mv 47 (.t 5)⟩ ::
   ⟨none, .mv 48 (.t 0)⟩ ::
   ⟨none, .call (some 49) 21 [(.t 48)]⟩ ::
   ⟨none, .call (some 50) 15 [(.t 47), (.t 49)]⟩ ::
   ⟨none, .mv 51 (.t 50)⟩ ::
   ⟨some (51, true), .mv 52 (.t 6)⟩ ::
   ⟨some (51, true), .mv 53 (.t 0)⟩ ::
   ⟨some (51, true), .bin 54 .eql .num (.t 52) (.t 53)⟩ ::
   ⟨none, .pick 55 (.t 51) (.t 54) (.c (.v (.bool false)))⟩ ::
   ⟨none, .mv 56 (.t 55)⟩ ::
   ⟨some (56, true), .mv 57 (.t 7)⟩ ::
   ⟨some (56, true), .mv 58 (.t 1)⟩ ::
   ⟨some (56, true), .call (some 59) 15 [(.t 57), (.t 58)]⟩ ::
   ⟨none, .pick 60 (.t 56) (.t 59) (.c (.v (.bool false)))⟩ ::
   ⟨none, .mv 61 (.t 60)⟩ ::
   ⟨some (61, true), .mv 62 (.t 8)⟩ ::
   ⟨some (61, true), .bin 63 .eql .num (.t 62) (.c (.v (.int .i64 0)))⟩ ::
   ⟨none, .pick 64 (.t 61) (.t 63) (.c (.v (.bool false)))⟩ ::
   ⟨none, .mv 65 (.t 64)⟩ ::
   ⟨some (65, true), .mv 66 (.t 9)⟩ ::
   ⟨some (65, true), .mv 67 (.t 12)⟩ ::
   ⟨some (65, true), .bin 68 .eql .num (.t 66) (.t 67)⟩ ::
   ⟨none, .pick 69 (.t 65) (.t 68) (.c (.v (.bool false)))⟩ ::
   ⟨none, .mv 70 (.t 69)⟩ ::
   ⟨some (70, true), .mv 71 (.t 10)⟩ ::
   ⟨some (70, true), .mv 72 (.t 13)⟩ ::
   ⟨some (70, true), .call (some 73) 15 [(.t 71), (.t 72)]⟩ ::
   ⟨none, .pick 74 (.t 70) (.t 73) (.c (.v (.bool false)))⟩ ::
   ⟨none, .mv 75 (.t 74)⟩ ::
   ⟨some (75, true), .mv 76 (.t 11)⟩ ::
   ⟨some (75, true), .mv 77 (.t 14)⟩ ::
   ⟨some (75, true), .bin 78 .eql .num (.t 76) (.t 77)⟩ ::
   ⟨none, .pick 79 (.t 75) (.t 78) (.c (.v (.bool false)))⟩ ::
   ⟨none, .asg 4 (.t 79)⟩ :: []))
 (.seq (.scr r8) .ret)))))))),
  80, [4]⟩

/-- coinage/coinagelaw07.FrameStrings -/
abbrev K9 : Nat := 80
def hints9 : List (List Bool) := [bits 105 [4], bits 105 [4], bits 105 [4]]
@[simp] def r9 : List Bool := bits 105 [4]
@[simp] def R9 (s4 : V) : St := tab 105 80 (fu dd 4 s4) dd
def c9 : MF := ⟨(.seq (.ops [⟨none, .asg 4 (.c (.v (.bool false)))⟩])
 (.seq (.seq (.ops [⟨none, .call (some 18) 10 []⟩,
    ⟨none, .un 19 .not (.t 18)⟩,
    ⟨none, .mv 20 (.t 19)⟩,
    ⟨some (20, false), .mv 21 (.t 0)⟩,
    ⟨some (20, false), .len 22 false (.t 21)⟩,
    ⟨some (20, false), .bin 23 .gtr .num (.t 22) (.c (.v (.int .i64 5000)))⟩,
    ⟨none, .pick 24 (.t 20) (.c (.v (.bool true))) (.t 23)⟩,
    ⟨none, .mv 25 (.t 24)⟩,
    ⟨some (25, false), .mv 26 (.t 1)⟩,
    ⟨some (25, false), .len 27 false (.t 26)⟩,
    ⟨some (25, false), .bin 28 .gtr .num (.t 27) (.c (.v (.int .i64 5000)))⟩,
    ⟨none, .pick 29 (.t 25) (.c (.v (.bool true))) (.t 28)⟩])
  (.cnd (.t 29)
   (.seq (.ops [⟨none, .call (some 30) 10 []⟩,
     ⟨none, .asg 4 (.t 30)⟩])
   (.seq (.scr r9) .ret))
   .skip))
 (.seq (.ops [⟨none, .mv 32 (.t 0)⟩,
   ⟨none, .call (some 33) 22 [(.t 32)]⟩,
   ⟨none, .mv 31 (.t 33)⟩,
   ⟨none, .ext 34 (.t 31) 0⟩,
   ⟨none, .ext 35 (.t 31) 1⟩,
   ⟨none, .asg 5 (.t 34)⟩,
   ⟨none, .asg 6 (.t 35)⟩])
 (.seq (.ops [⟨none, .mv 37 (.t 0)⟩,
   ⟨none, .call (some 38) 23 [(.t 37)]⟩,
   ⟨none, .mv 36 (.t 38)⟩,
   ⟨none, .ext 39 (.t 36) 0⟩,
   ⟨none, .ext 40 (.t 36) 1⟩,
   ⟨none, .asg 7 (.t 39)⟩,
   ⟨none, .asg 8 (.t 40)⟩])
 (.seq (.ops [⟨none, .mv 42 (.t 1)⟩,
   ⟨none, .call (some 43) 24 [(.t 42)]⟩,
   ⟨none, .mv 41 (.t 43)⟩,
   ⟨none, .ext 44 (.t 41) 0⟩,
   ⟨none, .ext 45 (.t 41) 1⟩,
   ⟨none, .ext 46 (.t 41) 2⟩,
   ⟨none, .asg 9 (.t 44)⟩,
   ⟨none, .asg 10 (.t 45)⟩,
   ⟨none, .asg 11 (.t 46)⟩])
 (.seq (.ops [⟨none, .mv 48 (.t 1)⟩,
   ⟨none, .call (some 49) 25 [(.t 48)]⟩,
   ⟨none, .mv 47 (.t 49)⟩,
   ⟨none, .ext 50 (.t 47) 0⟩,
   ⟨none, .ext 51 (.t 47) 1⟩,
   ⟨none, .ext 52 (.t 47) 2⟩,
   ⟨none, .asg 12 (.t 50)⟩,
   ⟨none, .asg 13 (.t 51)⟩,
   ⟨none, .asg 14 (.t 52)⟩])
 (.seq (.seq (.ops (⟨none, .mv 53 (.t 5)⟩ ::
    ⟨none, .mv 54 (.t 7)⟩ ::
    ⟨none, .call (some 55) 15 [(.t 53), (.t 54)]⟩ ::
    ⟨none, .un 56 .not (.t 55)⟩ ::
    ⟨none, .mv 57 (.t 56)⟩ ::
    ⟨some (57, false), .mv 58 (.t 6)⟩ ::
    ⟨some (57, false), .mv 59 (.t 8)⟩ ::
    ⟨some (57, false), .bin 60 .neq .num (.t 58) (.t 59)⟩ ::
    ⟨none, .pick 61 (.t 57) (.c (.v (.bool true))) (.t 60)⟩ ::
    ⟨none, .mv 62 (.t 61)⟩ ::
    ⟨some (62, false), .mv 63 (.t 9)⟩ ::
    ⟨some (62, false), .mv 64 (.t 12)⟩ ::
    ⟨some (62, false), .call (some 65) 15 [(.t 63), (.t 64)]⟩ ::
    ⟨some (62, false), .un 66 .not (.t 65)⟩ ::
    ⟨none, .pick 67 (.t 62) (.c (.v (.bool true))) (.t 66)⟩ ::
    ⟨none, .mv 68 (.t 67)⟩ ::
    ⟨some (68, false), .mv 69 (.t 10)⟩ ::
    ⟨some (68, false), .mv 70 (.t 13)⟩ ::
    ⟨some (68, false), .call (some 71) 15 [(.t 69), (.t 70)]⟩ ::
    ⟨some (68, false), .un 72 .not (.t 71)⟩ ::
    ⟨none, .pick 73 (.t 68) (.c (.v (.bool true))) (.t 72)⟩ ::
    ⟨none, .mv 74 (.t 73)⟩ ::
    ⟨some (74, false), .mv 75 (.t 11)⟩ ::
    ⟨some (74, false), .mv 76 (.t 14)⟩ ::
    ⟨some (74, false), .bin 77 .neq .num (.t 75) (.t 76)⟩ ::
    ⟨none, .pick 78 (.t 74) (.c (.v (.bool true))) (.t 77)⟩ :: []))
  (.cnd (.t 78)
   (.seq (.ops [⟨none, .asg 4 (.c (.v (.bool false)))⟩])
   (.seq (.scr r9) .ret))
   .skip))
 (.seq (.ops [⟨none, .mz 80 1⟩,
   ⟨none, .mv 81 (.t 5)⟩,
   ⟨none, .app 82 1 (.t 80) (.t 81)⟩,
   ⟨none, .mv 83 (.t 1)⟩,
   ⟨none, .app 84 1 (.t 82) (.t 83)⟩,
   ⟨none, .call (some 85) 24 [(.t 84)]⟩,
   ⟨none, .mv 79 (.t 85)⟩,
   ⟨none, .ext 86 (.t 79) 0⟩,
   ⟨none, .ext 87 (.t 79) 1⟩,
   ⟨none, .ext 88 (.t 79) 2⟩,
   ⟨none, .asg 15 (.t 86)⟩,
   ⟨none, .asg 16 (.t 87)⟩,
   ⟨none, .asg 17 (.t 88)⟩])
 (.seq (.ops (⟨none, .mv 89 (.t 6)⟩ ::
   ⟨none, .bin 90 .neq .num (.t 89) (.c (.v (.int .i64 0)))⟩ ::
   ⟨none, .mv 91 (.t 90)⟩ ::
   ⟨some (91, false), .mv 92 (.t 15)⟩ ::
   ⟨some (91, false), .mv 93 (.t 0)⟩ ::
   ⟨some (91, false), .call (some 94) 15 [(.t 92), (.t 93)]⟩ ::
   ⟨some (91, false), .mv 95 (.t 94)⟩ ::
   ⟨some (95, true), .mv 96 (.t 16)⟩ ::
   ⟨some (95, true), .mv 97 (.t 1)⟩ ::
   ⟨some (95, true), .call (some 98) 15 [(.t 96), (.t 97)]⟩ ::
   ⟨some (91, false), .pick 99 (.t 95) (.t 98) (.c (.v (.bool false)))⟩ ::
   ⟨some (91, false), .mv 100 (.t 99)⟩ ::
   ⟨some (100, true), .mv 101 (.t 17)⟩ ::
   ⟨some (100, true), .bin 102 .eql .num (.t 101) (.c (.v (.int .i64 0)))⟩ ::
   ⟨some (91, false), .pick 103 (.t 100) (.t 102) (.c (.v (.bool false)))⟩ ::
   ⟨none, .pick 104 (.t 91) (.c (.v (.bool true))) (.t 103)⟩ ::
   ⟨none, .asg 4 (.t 104)⟩ :: []))
 (.seq (.scr r9) .ret)))))))))),
  105, [4]⟩

/-- coinage/coinagelaw07.awake -/
abbrev K10 : Nat := 39
def hints10 : List (List Bool) := [bits 110 [0]]
@[simp] def r10 : List Bool := bits 110 [0]
@[simp] def R10 (s0 : V) : St := tab 110 39 (fu dd 0 s0) dd
def c10 : MF := ⟨(.seq (.ops [⟨none, .asg 0 (.c (.v (.bool false)))⟩])
 (.seq (.ops [⟨none, .bs 16 1 1 [(.v (.int .u8 0))] [(0, 1, (.c (.v (.int .u8 7))))]⟩,
   ⟨none, .call (some 17) 13 [(.c (.v (.int .u8 3))), (.t 16)]⟩,
   ⟨none, .mv 15 (.t 17)⟩,
   ⟨none, .ext 18 (.t 15) 0⟩,
   ⟨none, .ext 19 (.t 15) 1⟩,
   ⟨none, .asg 1 (.t 18)⟩,
   ⟨none, .asg 2 (.t 19)⟩])
 (.seq (.ops [⟨none, .mv 21 (.t 1)⟩,
   ⟨none, .call (some 22) 16 [(.t 21)]⟩,
   ⟨none, .mv 20 (.t 22)⟩,
   ⟨none, .ext 23 (.t 20) 0⟩,
   ⟨none, .ext 24 (.t 20) 1⟩,
   ⟨none, .ext 25 (.t 20) 2⟩,
   ⟨none, .ext 26 (.t 20) 3⟩,
   ⟨none, .asg 3 (.t 23)⟩,
   ⟨none, .asg 4 (.t 24)⟩,
   ⟨none, .asg 5 (.t 25)⟩,
   ⟨none, .asg 6 (.t 26)⟩])
 (.seq (.ops [⟨none, .bs 28 1 2 [(.v (.int .u8 0))] [(0, 1, (.c (.v (.int .u8 8)))), (1, 1, (.c (.v (.int .u8 9))))]⟩,
   ⟨none, .call (some 29) 22 [(.t 28)]⟩,
   ⟨none, .mv 27 (.t 29)⟩,
   ⟨none, .ext 30 (.t 27) 0⟩,
   ⟨none, .ext 31 (.t 27) 1⟩,
   ⟨none, .asg 7 (.t 30)⟩,
   ⟨none, .asg 8 (.t 31)⟩])
 (.seq (.ops [⟨none, .bs 33 1 4 [(.v (.int .u8 0))] [(0, 1, (.c (.v (.int .u8 0)))), (1, 1, (.c (.v (.int .u8 1)))), (2, 1, (.c (.v (.int .u8 5)))), (3, 1, (.c (.v (.int .u8 6))))]⟩,
   ⟨none, .call (some 34) 24 [(.t 33)]⟩,
   ⟨none, .mv 32 (.t 34)⟩,
   ⟨none, .ext 35 (.t 32) 0⟩,
   ⟨none, .ext 36 (.t 32) 1⟩,
   ⟨none, .ext 37 (.t 32) 2⟩,
   ⟨none, .asg 9 (.t 35)⟩,
   ⟨none, .asg 10 (.t 36)⟩,
   ⟨none, .asg 11 (.t 37)⟩])
 (.seq (.ops [⟨none, .call (some 39) 18 [(.c (.v (.int .i64 (-2))))]⟩,
   ⟨none, .call (some 40) 19 [(.t 39)]⟩,
   ⟨none, .mv 38 (.t 40)⟩,
   ⟨none, .ext 41 (.t 38) 0⟩,
   ⟨none, .ext 42 (.t 38) 1⟩,
   ⟨none, .ext 43 (.t 38) 2⟩,
   ⟨none, .asg 12 (.t 41)⟩,
   ⟨none, .asg 13 (.t 42)⟩,
   ⟨none, .asg 14 (.t 43)⟩])
 (.seq (.ops (⟨none, .bs 44 1 3 [(.v (.int .u8 0))] [(0, 1, (.c (.v (.int .u8 97)))), (1, 1, (.c (.v (.int .u8 98)))), (2, 1, (.c (.v (.int .u8 99))))]⟩ ::
   ⟨none, .cvm 45 (.t 44)⟩ ::
   ⟨none, .call (some 46) 11 [(.t 45)]⟩ ::
   ⟨none, .bin 47 .eql .num (.t 46) (.c (.v (.int .u32 38600999)))⟩ ::
   ⟨none, .mv 48 (.t 47)⟩ ::
   ⟨some (48, true), .call (some 49) 11 [(.c (.nd (.sl true 1 0) []))]⟩ ::
   ⟨some (48, true), .bin 50 .eql .num (.t 49) (.c (.v (.int .u32 1)))⟩ ::
   ⟨none, .pick 51 (.t 48) (.t 50) (.c (.v (.bool false)))⟩ ::
   ⟨none, .mv 52 (.t 51)⟩ ::
   ⟨some (52, true), .mv 53 (.t 1)⟩ ::
   ⟨some (52, true), .len 54 false (.t 53)⟩ ::
   ⟨some (52, true), .bin 55 .eql .num (.t 54) (.c (.v (.int .i64 10)))⟩ ::
   ⟨none, .pick 56 (.t 52) (.t 55) (.c (.v (.bool false)))⟩ ::
   ⟨none, .mv 57 (.t 56)⟩ ::
   ⟨some (57, true), .mv 58 (.t 2)⟩ ::
   ⟨some (57, true), .bin 59 .eql .num (.t 58) (.c (.v (.int .i64 0)))⟩ ::
   ⟨none, .pick 60 (.t 57) (.t 59) (.c (.v (.bool false)))⟩ ::
   ⟨none, .mv 61 (.t 60)⟩ ::
   ⟨some (61, true), .mv 62 (.t 3)⟩ ::
   ⟨some (61, true), .bin 63 .eql .num (.t 62) (.c (.v (.int .u8 3)))⟩ ::
   ⟨none, .pick 64 (.t 61) (.t 63) (.c (.v (.bool false)))⟩ ::
   ⟨none, .mv 65 (.t 64)⟩ ::
   ⟨some (65, true), .mv 66 (.t 4)⟩ ::
   ⟨some (65, true), .bs 67 1 1 [(.v (.int .u8 0))] [(0, 1, (.c (.v (.int .u8 7))))]⟩ ::
   ⟨some (65, true), .call (some 68) 15 [(.t 66), (.t 67)]⟩ ::
   ⟨none, .pick 69 (.t 65) (.t 68) (.c (.v (.bool false)))⟩ ::
   ⟨none, .mv 70 (.t 69)⟩ ::
   ⟨some (70, true), .mv 71 (.t 5)⟩ ::
   ⟨some (70, true), .len 72 false (.t 71)⟩ ::
   ⟨some (70, true), .bin 73 .eql .num (.t 72) (.c (.v (.int .i64 0)))⟩ ::
   ⟨none, .pick 74 (.t 70) (.t 73) (.c (.v (.bool false)))⟩ ::
   ⟨none, .mv 75 (.t 74)⟩ ::
   ⟨some (75, true), .mv 76 (.t 6)⟩ ::
   ⟨some (75, true), .bin 77 .eql .num (.t 76) (.c (.v (.int .i64 0)))⟩ ::
   ⟨none, .pick 78 (.t 75) (.t 77) (.c (.v (.bool false)))⟩ ::
   ⟨none, .mv 79 (.t 78)⟩ ::
   ⟨some (79, true), .mv 80 (.t 7)⟩ ::
   ⟨some (79, true), .bs 81 1 4 [(.v (.int .u8 0))] [(0, 1, (.c (.v (.int .u8 0)))), (1, 1, (.c (.v (.int .u8 2)))), (2, 1, (.c (.v (.int .u8 8)))), (3, 1, (.c (.v (.int .u8 9))))]⟩ ::
   ⟨some (79, true), .call (some 82) 15 [(.t 80), (.t 81)]⟩ ::
   ⟨none, .pick 83 (.t 79) (.t 82) (.c (.v (.bool false)))⟩ ::
   ⟨none, .mv 84 (.t 83)⟩ ::
   ⟨some (84, true), .mv 85 (.t 8)⟩ ::
   ⟨some (84, true), .bin 86 .eql .num (.t 85) (.c (.v (.int .i64 0)))⟩ ::
   ⟨none, .pick 87 (.t 84) (.t 86) (.c (.v (.bool false)))⟩ ::
   ⟨none, .mv 88 (.t 87)⟩ ::
   ⟨some (88, true), .mv 89 (.t 9)⟩ ::
   ⟨some (88, true), .bs 90 1 1 [(.v (.int .u8 0))] [(0, 1, (.c (.v (.int .u8 5))))]⟩ ::
   ⟨some (88, true), .call (some 91) 15 [(.t 89), (.t 90)]⟩ ::
   ⟨none, .pick 92 (.t 88) (.t 91) (.c (.v (.bool false)))⟩ ::
   ⟨none, .mv 93 (.t 92)⟩ ::
   ⟨some (93, true), .mv 94 (.t 10)⟩ ::
   ⟨some (93, true), .bs 95 1 1 [(.v (.int .u8 0))] [(0, 1, (.c (.v (.int .u8 6))))]⟩ ::
   ⟨some (93, true), .call (some 96) 15 [(.t 94), (.t 95)]⟩ ::
   ⟨none, .pick 97 (.t 93) (.t 96) (.c (.v (.bool false)))⟩ ::
   ⟨none, .mv 98 (.t 97)⟩ ::
   ⟨some (98, true), .mv 99 (.t 11)⟩ ::
   ⟨some (98, true), .bin 100 .eql .num (.t 99) (.c (.v (.int .i64 0)))⟩ ::
   ⟨none, .pick 101 (.t 98) (.t 100) (.c (.v (.bool false)))⟩ ::
   ⟨none, .mv 102 (.t 101)⟩ ::
   ⟨some (102, true), .mv 103 (.t 12)⟩ ::
   ⟨some (102, true), .bin 104 .eql .num (.t 103) (.c (.v (.int .i64 (-2))))⟩ ::
   ⟨none, .pick 105 (.t 102) (.t 104) (.c (.v (.bool false)))⟩ ::
   ⟨none, .mv 106 (.t 105)⟩ ::
   ⟨some (106, true), .mv 107 (.t 14)⟩ ::
   ⟨some (106, true), .bin 108 .eql .num (.t 107) (.c (.v (.int .i64 0)))⟩ ::
   ⟨none, .pick 109 (.t 106) (.t 108) (.c (.v (.bool false)))⟩ ::
   ⟨none, .asg 0 (.t 109)⟩ :: []))
 (.seq (.scr r10) .ret)))))))),
  110, [0]⟩

/-- coinage/frame.Adler -/
abbrev K11 : Nat := 10
def hints11 : List (List Bool) := [bits 27 [3, 4], bits 27 [0, 3, 4, 7, 8, 9], bits 27 [3, 4], bits 27 [0, 3, 4, 7, 8, 9], bits 27 [2]]
@[simp] def r11 : List Bool := bits 27 [2]
@[simp] def R11 (s2 : V) : St := tab 27 10 (fu dd 2 s2) dd
@[simp] def x11_0 : List Bool := bits 27 [3, 4]
@[simp] def X11_0 (s3 s4 : V) : St := tab 27 10 (fu (fu dd 4 s4) 3 s3) dd
@[simp] def h11_0 : List Bool := bits 27 [0, 3, 4, 7, 8, 9]
@[simp] def L11_0 (s0 s3 s4 s7 s8 s9 : V) : St := tab 27 10 (fu (fu (fu (fu (fu (fu dd 9 s9) 8 s8) 7 s7) 4 s4) 3 s3) 0 s0) dd
@[simp] def x11_1 : List Bool := bits 27 [0, 3, 4, 7, 8, 9]
@[simp] def X11_1 (s0 s3 s4 s7 s8 s9 : V) : St := tab 27 10 (fu (fu (fu (fu (fu (fu dd 9 s9) 8 s8) 7 s7) 4 s4) 3 s3) 0 s0) dd
def b11_0 : MC := .seq (.scr h11_0)
 (.seq (.ops [⟨none, .bin 10 .lss .num (.t 9) (.t 8)⟩])
 (.seq (.cnd (.t 10)
   .skip
   (.seq (.scr x11_0) (.ex 0)))
 (.seq (.seq (.blk 1 (.seq (.ops [⟨none, .ixs 11 1 (.t 7) (.t 9)⟩,
     ⟨none, .ld1 12 (.t 11)⟩,
     ⟨none, .asg 6 (.t 12)⟩])
   (.seq (.ops [⟨none, .mv 13 (.t 3)⟩,
     ⟨none, .mv 14 (.t 6)⟩,
     ⟨none, .cvi 15 .u32 (.t 14)⟩,
     ⟨none, .bin 16 .add .num (.t 13) (.t 15)⟩,
     ⟨none, .bin 17 .rem .num (.t 16) (.c (.v (.int .u32 65521)))⟩,
     ⟨none, .asg 3 (.t 17)⟩])
   (.ops [⟨none, .mv 18 (.t 4)⟩,
    ⟨none, .mv 19 (.t 3)⟩,
    ⟨none, .bin 20 .add .num (.t 18) (.t 19)⟩,
    ⟨none, .bin 21 .rem .num (.t 20) (.c (.v (.int .u32 65521)))⟩,
    ⟨none, .asg 4 (.t 21)⟩])))) (.scr x11_1))
 (.ops [⟨none, .bin 22 .add .num (.t 9) (.c (.v (.int .i64 1)))⟩,
  ⟨none, .mv 9 (.t 22)⟩]))))
def c11 : MF := ⟨(.seq (.ops [⟨none, .asg 2 (.c (.v (.int .u32 0)))⟩])
 (.seq (.ops [⟨none, .asg 3 (.c (.v (.int .u32 1)))⟩,
   ⟨none, .asg 4 (.c (.v (.int .u32 0)))⟩])
 (.seq (.seq (.ops [⟨none, .mv 7 (.t 0)⟩,
    ⟨none, .len 8 false (.t 7)⟩,
    ⟨none, .mv 9 (.c (.v (.int .i64 0)))⟩])
  (.seq (.blk 0 (.lop b11_0)) (.scr x11_0)))
 (.seq (.ops [⟨none, .mv 23 (.t 4)⟩,
   ⟨none, .bin 24 .shl .num (.t 23) (.c (.v (.int .u64 16)))⟩,
   ⟨none, .mv 25 (.t 3)⟩,
   ⟨none, .bin 26 .or .num (.t 24) (.t 25)⟩,
   ⟨none, .asg 2 (.t 26)⟩])
 (.seq (.scr r11) .ret))))),
  27, [2]⟩

/-- coinage/coinageref07.Adler -/
abbrev K12 : Nat := 6
def hints12 : List (List Bool) := [bits 29 [3, 4], bits 29 [0, 3, 4, 5], bits 29 [3, 4], bits 29 [0, 3, 4, 5], bits 29 [2]]
@[simp] def r12 : List Bool := bits 29 [2]
@[simp] def R12 (s2 : V) : St := tab 29 6 (fu dd 2 s2) dd
@[simp] def x12_0 : List Bool := bits 29 [3, 4]
@[simp] def X12_0 (s3 s4 : V) : St := tab 29 6 (fu (fu dd 4 s4) 3 s3) dd
@[simp] def h12_0 : List Bool := bits 29 [0, 3, 4, 5]
@[simp] def L12_0 (s0 s3 s4 s5 : V) : St := tab 29 6 (fu (fu (fu (fu dd 5 s5) 4 s4) 3 s3) 0 s0) dd
@[simp] def x12_1 : List Bool := bits 29 [0, 3, 4, 5]
@[simp] def X12_1 (s0 s3 s4 s5 : V) : St := tab 29 6 (fu (fu (fu (fu dd 5 s5) 4 s4) 3 s3) 0 s0) dd
def b12_0 : MC := .seq (.scr h12_0)
 (.seq (.seq (.ops [⟨none, .mv 6 (.t 5)⟩,
    ⟨none, .mv 7 (.t 0)⟩,
    ⟨none, .len 8 false (.t 7)⟩,
    ⟨none, .bin 9 .lss .num (.t 6) (.t 8)⟩])
  (.cnd (.t 9)
   .skip
   (.seq (.scr x12_0) (.ex 0))))
 (.seq (.seq (.blk 1 (.seq (.ops [⟨none, .mv 12 (.t 3)⟩,
     ⟨none, .mv 13 (.t 0)⟩,
     ⟨none, .mv 14 (.t 5)⟩,
     ⟨none, .ixs 15 1 (.t 13) (.t 14)⟩,
     ⟨none, .ld1 16 (.t 15)⟩,
     ⟨none, .cvi 17 .i64 (.t 16)⟩,
     ⟨none, .bin 18 .add .num (.t 12) (.t 17)⟩,
     ⟨none, .bin 19 .rem .num (.t 18) (.c (.v (.int .i64 65521)))⟩,
     ⟨none, .asg 3 (.t 19)⟩])
   (.ops [⟨none, .mv 20 (.t 4)⟩,
    ⟨none, .mv 21 (.t 3)⟩,
    ⟨none, .bin 22 .add .num (.t 20) (.t 21)⟩,
    ⟨none, .bin 23 .rem .num (.t 22) (.c (.v (.int .i64 65521)))⟩,
    ⟨none, .asg 4 (.t 23)⟩]))) (.scr x12_1))
 (.ops [⟨none, .mv 10 (.t 5)⟩,
  ⟨none, .bin 11 .add .num (.t 10) (.c (.v (.int .i64 1)))⟩,
  ⟨none, .asg 5 (.t 11)⟩])))
def c12 : MF := ⟨(.seq (.ops [⟨none, .asg 2 (.c (.v (.int .u32 0)))⟩])
 (.seq (.ops [⟨none, .asg 3 (.c (.v (.int .i64 1)))⟩])
 (.seq (.ops [⟨none, .asg 4 (.c (.v (.int .i64 0)))⟩])
 (.seq (.seq (.ops [⟨none, .asg 5 (.c (.v (.int .i64 0)))⟩])
  (.seq (.blk 0 (.lop b12_0)) (.scr x12_0)))
 (.seq (.ops [⟨none, .mv 24 (.t 4)⟩,
   ⟨none, .bin 25 .mul .num (.t 24) (.c (.v (.int .i64 65536)))⟩,
   ⟨none, .mv 26 (.t 3)⟩,
   ⟨none, .bin 27 .add .num (.t 25) (.t 26)⟩,
   ⟨none, .cvi 28 .u32 (.t 27)⟩,
   ⟨none, .asg 2 (.t 28)⟩])
 (.seq (.scr r12) .ret)))))),
  29, [2]⟩

/-- coinage/frame.Seal -/
abbrev K13 : Nat := 8
def hints13 : List (List Bool) := [bits 30 [4, 5], bits 30 [4, 5]]
@[simp] def r13 : List Bool := bits 30 [4, 5]
@[simp] def R13 (s4 s5 : V) : St := tab 30 8 (fu (fu dd 5 s5) 4 s4) dd
def c13 : MF := ⟨(.seq (.ops [⟨none, .asg 4 (.c (.nd (.sl true 1 0) []))⟩,
   ⟨none, .asg 5 (.c (.v (.int .i64 0)))⟩])
 (.seq (.ops [⟨none, .mv 8 (.t 1)⟩,
   ⟨none, .len 9 false (.t 8)⟩,
   ⟨none, .asg 6 (.t 9)⟩])
 (.seq (.seq (.ops [⟨none, .mv 10 (.t 6)⟩,
    ⟨none, .bin 11 .gtr .num (.t 10) (.c (.v (.int .i64 8192)))⟩])
  (.cnd (.t 11)
   (.seq (.ops [⟨none, .asg 4 (.c (.nd (.sl true 1 0) []))⟩,
     ⟨none, .asg 5 (.c (.v (.int .i64 6)))⟩])
   (.seq (.scr r13) .ret))
   .skip))
 (.seq (.ops [⟨none, .mv 12 (.t 0)⟩,
   ⟨none, .mv 13 (.t 6)⟩,
   ⟨none, .bin 14 .shr .num (.t 13) (.c (.v (.int .u64 16)))⟩,
   ⟨none, .cvi 15 .u8 (.t 14)⟩,
   ⟨none, .mv 16 (.t 6)⟩,
   ⟨none, .bin 17 .shr .num (.t 16) (.c (.v (.int .u64 8)))⟩,
   ⟨none, .cvi 18 .u8 (.t 17)⟩,
   ⟨none, .mv 19 (.t 6)⟩,
   ⟨none, .cvi 20 .u8 (.t 19)⟩,
   ⟨none, .bs 21 1 5 [(.v (.int .u8 0))] [(0, 1, (.c (.v (.int .u8 209)))), (1, 1, (.t 12)), (2, 1, (.t 15)), (3, 1, (.t 18)), (4, 1, (.t 20))]⟩,
   ⟨none, .mv 22 (.t 1)⟩,
   ⟨none, .app 23 1 (.t 21) (.t 22)⟩,
   ⟨none, .asg 7 (.t 23)⟩])
 (.seq (.ops [⟨none, .mv 24 (.t 7)⟩,
   ⟨none, .mv 25 (.t 7)⟩,
   ⟨none, .call (some 26) 11 [(.t 25)]⟩,
   ⟨none, .cvi 27 .u64 (.t 26)⟩,
   ⟨none, .call (some 28) 26 [(.t 27), (.c (.v (.int .i64 4)))]⟩,
   ⟨none, .app 29 1 (.t 24) (.t 28)⟩,
   ⟨none, .asg 4 (.t 29)⟩,
   ⟨none, .asg 5 (.c (.v (.int .i64 0)))⟩])
 (.seq (.scr r13) .ret)))))),
  30, [4, 5]⟩

/-- coinage/coinageref07.Seal -/
abbrev K14 : Nat := 7
def hints14 : List (List Bool) := [bits 26 [4, 5], bits 26 [4, 5]]
@[simp] def r14 : List Bool := bits 26 [4, 5]
@[simp] def R14 (s4 s5 : V) : St := tab 26 7 (fu (fu dd 5 s5) 4 s4) dd
def c14 : MF := ⟨(.seq (.ops [⟨none, .asg 4 (.c (.nd (.sl true 1 0) []))⟩,
   ⟨none, .asg 5 (.c (.v (.int .i64 0)))⟩])
 (.seq (.seq (.ops [⟨none, .mv 7 (.t 1)⟩,
    ⟨none, .len 8 false (.t 7)⟩,
    ⟨none, .bin 9 .gtr .num (.t 8) (.c (.v (.int .i64 8192)))⟩])
  (.cnd (.t 9)
   (.seq (.ops [⟨none, .asg 4 (.c (.nd (.sl true 1 0) []))⟩,
     ⟨none, .asg 5 (.c (.v (.int .i64 6)))⟩])
   (.seq (.scr r14) .ret))
   .skip))
 (.seq (.ops [⟨none, .mv 10 (.t 0)⟩,
   ⟨none, .bs 11 1 2 [(.v (.int .u8 0))] [(0, 1, (.c (.v (.int .u8 209)))), (1, 1, (.t 10))]⟩,
   ⟨none, .mv 12 (.t 1)⟩,
   ⟨none, .len 13 false (.t 12)⟩,
   ⟨none, .cvi 14 .u64 (.t 13)⟩,
   ⟨none, .call (some 15) 27 [(.t 14), (.c (.v (.int .i64 3)))]⟩,
   ⟨none, .app 16 1 (.t 11) (.t 15)⟩,
   ⟨none, .asg 6 (.t 16)⟩])
 (.seq (.ops [⟨none, .mv 17 (.t 6)⟩,
   ⟨none, .mv 18 (.t 1)⟩,
   ⟨none, .app 19 1 (.t 17) (.t 18)⟩,
   ⟨none, .asg 6 (.t 19)⟩])
 (.seq (.ops [⟨none, .mv 20 (.t 6)⟩,
   ⟨none, .mv 21 (.t 6)⟩,
   ⟨none, .call (some 22) 12 [(.t 21)]⟩,
   ⟨none, .cvi 23 .u64 (.t 22)⟩,
   ⟨none, .call (some 24) 27 [(.t 23), (.c (.v (.int .i64 4)))]⟩,
   ⟨none, .app 25 1 (.t 20) (.t 24)⟩,
   ⟨none, .asg 4 (.t 25)⟩,
   ⟨none, .asg 5 (.c (.v (.int .i64 0)))⟩])
 (.seq (.scr r14) .ret)))))),
  26, [4, 5]⟩

/-- coinage/coinagelaw07.same -/
abbrev K15 : Nat := 5
def hints15 : List (List Bool) := [bits 8 [4]]
@[simp] def r15 : List Bool := bits 8 [4]
@[simp] def R15 (s4 : V) : St := tab 8 5 (fu dd 4 s4) dd
def c15 : MF := ⟨(.seq (.ops [⟨none, .asg 4 (.c (.v (.bool false)))⟩])
 (.seq (.ops [⟨none, .mv 5 (.t 0)⟩,
   ⟨none, .mv 6 (.t 1)⟩,
   ⟨none, .call (some 7) 28 [(.t 5), (.t 6)]⟩,
   ⟨none, .asg 4 (.t 7)⟩])
 (.seq (.scr r15) .ret))),
  8, [4]⟩

/-- coinage/frame.Open -/
abbrev K16 : Nat := 47
def hints16 : List (List Bool) := [bits 76 [0], bits 76 [2, 3, 4, 5], bits 76 [2, 3, 4, 5], bits 76 [2, 3, 4, 5], bits 76 [0, 6], bits 76 [2, 3, 4, 5], bits 76 [2, 3, 4, 5], bits 76 [2, 3, 4, 5], bits 76 [2, 3, 4, 5]]
@[simp] def r16 : List Bool := bits 76 [2, 3, 4, 5]
@[simp] def R16 (s2 s3 s4 s5 : V) : St := tab 76 47 (fu (fu (fu (fu dd 5 s5) 4 s4) 3 s3) 2 s2) dd
@[simp] def x16_0 : List Bool := bits 76 [0]
@[simp] def X16_0 (s0 : V) : St := tab 76 47 (fu dd 0 s0) dd
@[simp] def x16_1 : List Bool := bits 76 [0, 6]
@[simp] def X16_1 (s0 s6 : V) : St := tab 76 47 (fu (fu dd 6 s6) 0 s0) dd
def c16 : MF := ⟨(.seq (.ops [⟨none, .asg 2 (.c (.v (.int .u8 0)))⟩,
   ⟨none, .asg 3 (.c (.nd (.sl true 1 0) []))⟩,
   ⟨none, .asg 4 (.c (.nd (.sl true 1 0) []))⟩,
   ⟨none, .asg 5 (.c (.v (.int .i64 0)))⟩])
 (.seq (.seq (.blk 0 (.seq (.ops [⟨none, .mv 8 (.t 0)⟩,
     ⟨none, .len 9 false (.t 8)⟩,
     ⟨none, .bin 10 .eql .num (.t 9) (.c (.v (.int .i64 0)))⟩,
     ⟨none, .asg 7 (.t 10)⟩])
   (.cnd (.t 7)
    (.seq (.ops [⟨none, .asg 2 (.c (.v (.int .u8 0)))⟩,
      ⟨none, .asg 3 (.c (.nd (.sl true 1 0) []))⟩,
      ⟨none, .asg 4 (.c (.nd (.sl true 1 0) []))⟩,
      ⟨none, .asg 5 (.c (.v (.int .i64 4)))⟩])
    (.seq (.scr r16) .ret))
    (.seq (.ops [⟨none, .mv 12 (.t 0)⟩,
      ⟨none, .ixs 13 1 (.t 12) (.c (.v (.int .i64 0)))⟩,
      ⟨none, .ld1 14 (.t 13)⟩,
      ⟨none, .bin 15 .neq .num (.t 14) (.c (.v (.int .u8 209)))⟩,
      ⟨none, .asg 11 (.t 15)⟩])
    (.cnd (.t 11)
     (.seq (.ops [⟨none, .asg 2 (.c (.v (.int .u8 0)))⟩,
       ⟨none, .asg 3 (.c (.nd (.sl true 1 0) []))⟩,
       ⟨none, .asg 4 (.c (.nd (.sl true 1 0) []))⟩,
       ⟨none, .asg 5 (.c (.v (.int .i64 3)))⟩])
     (.seq (.scr r16) .ret))
     (.seq (.ops [⟨none, .mv 17 (.t 0)⟩,
       ⟨none, .len 18 false (.t 17)⟩,
       ⟨none, .bin 19 .lss .num (.t 18) (.c (.v (.int .i64 5)))⟩,
       ⟨none, .asg 16 (.t 19)⟩])
     (.cnd (.t 16)
      (.seq (.ops [⟨none, .asg 2 (.c (.v (.int .u8 0)))⟩,
        ⟨none, .asg 3 (.c (.nd (.sl true 1 0) []))⟩,
        ⟨none, .asg 4 (.c (.nd (.sl true 1 0) []))⟩,
        ⟨none, .asg 5 (.c (.v (.int .i64 4)))⟩])
      (.seq (.scr r16) .ret))
      .skip))))))) (.scr x16_0))
 (.seq (.drw [⟨none, .mv 20 (.t 0)⟩,
   ⟨none, .ixs 21 1 (.t 20) (.c (.v (.int .i64 2)))⟩,
   ⟨none, .ld1 22 (.t 21)⟩,
   ⟨none, .cvi 23 .i64 (.t 22)⟩,
   ⟨none, .bin 24 .shl .num (.t 23) (.c (.v (.int .u64 16)))⟩,
   ⟨none, .mv 25 (.t 0)⟩,
   ⟨none, .ixs 26 1 (.t 25) (.c (.v (.int .i64 3)))⟩,
   ⟨none, .ld1 27 (.t 26)⟩,
   ⟨none, .cvi 28 .i64 (.t 27)⟩,
   ⟨none, .bin 29 .shl .num (.t 28) (.c (.v (.int .u64 8)))⟩,
   ⟨none, .bin 30 .or .num (.t 24) (.t 29)⟩,
   ⟨none, .mv 31 (.t 0)⟩,
   ⟨none, .ixs 32 1 (.t 31) (.c (.v (.int .i64 4)))⟩,
   ⟨none, .ld1 33 (.t 32)⟩,
   ⟨none, .cvi 34 .i64 (.t 33)⟩] [⟨none, .bin 35 .or .num (.t 30) (.t 34)⟩,
   ⟨none, .asg 6 (.t 35)⟩])
 (.seq (.seq (.blk 1 (.seq (.ops [⟨none, .mv 37 (.t 6)⟩,
     ⟨none, .bin 38 .gtr .num (.t 37) (.c (.v (.int .i64 8192)))⟩,
     ⟨none, .asg 36 (.t 38)⟩])
   (.cnd (.t 36)
    (.seq (.ops [⟨none, .asg 2 (.c (.v (.int .u8 0)))⟩,
      ⟨none, .asg 3 (.c (.nd (.sl true 1 0) []))⟩,
      ⟨none, .asg 4 (.c (.nd (.sl true 1 0) []))⟩,
      ⟨none, .asg 5 (.c (.v (.int .i64 6)))⟩])
    (.seq (.scr r16) .ret))
    (.seq (.ops [⟨none, .mv 40 (.t 0)⟩,
      ⟨none, .len 41 false (.t 40)⟩,
      ⟨none, .mv 42 (.t 6)⟩,
      ⟨none, .bin 43 .add .num (.c (.v (.int .i64 5))) (.t 42)⟩,
      ⟨none, .bin 44 .add .num (.t 43) (.c (.v (.int .i64 4)))⟩,
      ⟨none, .bin 45 .lss .num (.t 41) (.t 44)⟩,
      ⟨none, .asg 39 (.t 45)⟩])
    (.cnd (.t 39)
     (.seq (.ops [⟨none, .asg 2 (.c (.v (.int .u8 0)))⟩,
       ⟨none, .asg 3 (.c (.nd (.sl true 1 0) []))⟩,
       ⟨none, .asg 4 (.c (.nd (.sl true 1 0) []))⟩,
       ⟨none, .asg 5 (.c (.v (.int .i64 4)))⟩])
     (.seq (.scr r16) .ret))
     (.seq (.drw [⟨none, .mv 47 (.t 0)⟩,
       ⟨none, .mv 48 (.t 6)⟩,
       ⟨none, .bin 49 .add .num (.c (.v (.int .i64 5))) (.t 48)⟩,
       ⟨none, .mv 50 (.t 6)⟩,
       ⟨none, .bin 51 .add .num (.c (.v (.int .i64 5))) (.t 50)⟩,
       ⟨none, .bin 52 .add .num (.t 51) (.c (.v (.int .i64 4)))⟩,
       ⟨none, .sl 53 1 (.t 47) (some (.t 49)) (some (.t 52))⟩,
       ⟨none, .call (some 54) 29 [(.t 53)]⟩,
       ⟨none, .mv 55 (.t 0)⟩,
       ⟨none, .mv 56 (.t 6)⟩,
       ⟨none, .bin 57 .add .num (.c (.v (.int .i64 5))) (.t 56)⟩,
       ⟨none, .sl 58 1 (.t 55) none (some (.t 57))⟩] [⟨none, .call (some 59) 11 [(.t 58)]⟩,
       ⟨none, .cvi 60 .u64 (.t 59)⟩,
       ⟨none, .bin 61 .neq .num (.t 54) (.t 60)⟩,
       ⟨none, .asg 46 (.t 61)⟩])
     (.cnd (.t 46)
      (.seq (.ops [⟨none, .asg 2 (.c (.v (.int .u8 0)))⟩,
        ⟨none, .asg 3 (.c (.nd (.sl true 1 0) []))⟩,
        ⟨none, .asg 4 (.c (.nd (.sl true 1 0) []))⟩,
        ⟨none, .asg 5 (.c (.v (.int .i64 5)))⟩])
      (.seq (.scr r16) .ret))
      .skip))))))) (.scr x16_1))
 (.seq (.drw [⟨none, .mv 62 (.t 0)⟩,
   ⟨none, .ixs 63 1 (.t 62) (.c (.v (.int .i64 1)))⟩,
   ⟨none, .ld1 64 (.t 63)⟩,
   ⟨none, .mv 65 (.t 0)⟩,
   ⟨none, .mv 66 (.t 6)⟩,
   ⟨none, .bin 67 .add .num (.c (.v (.int .i64 5))) (.t 66)⟩,
   ⟨none, .sl 68 1 (.t 65) (some (.c (.v (.int .i64 5)))) (some (.t 67))⟩,
   ⟨none, .call (some 69) 30 [(.t 68)]⟩,
   ⟨none, .mv 70 (.t 0)⟩,
   ⟨none, .mv 71 (.t 6)⟩,
   ⟨none, .bin 72 .add .num (.c (.v (.int .i64 5))) (.t 71)⟩,
   ⟨none, .bin 73 .add .num (.t 72) (.c (.v (.int .i64 4)))⟩,
   ⟨none, .sl 74 1 (.t 70) (some (.t 73)) none⟩,
   ⟨none, .call (some 75) 30 [(.t 74)]⟩] [⟨none, .asg 2 (.t 64)⟩,
   ⟨none, .asg 3 (.t 69)⟩,
   ⟨none, .asg 4 (.t 75)⟩,
   ⟨none, .asg 5 (.c (.v (.int .i64 0)))⟩])
 (.seq (.scr r16) .ret)))))),
  76, [2, 3, 4, 5]⟩

/-- coinage/coinageref07.Open -/
abbrev K17 : Nat := 7
def hints17 : List (List Bool) := [bits 57 [2, 3, 4, 5], bits 57 [2, 3, 4, 5], bits 57 [2, 3, 4, 5], bits 57 [2, 3, 4, 5], bits 57 [2, 3, 4, 5], bits 57 [2, 3, 4, 5], bits 57 [2, 3, 4, 5]]
@[simp] def r17 : List Bool := bits 57 [2, 3, 4, 5]
@[simp] def R17 (s2 s3 s4 s5 : V) : St := tab 57 7 (fu (fu (fu (fu dd 5 s5) 4 s4) 3 s3) 2 s2) dd
def c17 : MF := ⟨(.seq (.ops [⟨none, .asg 2 (.c (.v (.int .u8 0)))⟩,
   ⟨none, .asg 3 (.c (.nd (.sl true 1 0) []))⟩,
   ⟨none, .asg 4 (.c (.nd (.sl true 1 0) []))⟩,
   ⟨none, .asg 5 (.c (.v (.int .i64 0)))⟩])
 (.seq (.seq (.ops [⟨none, .mv 7 (.t 0)⟩,
    ⟨none, .len 8 false (.t 7)⟩,
    ⟨none, .bin 9 .eql .num (.t 8) (.c (.v (.int .i64 0)))⟩])
  (.cnd (.t 9)
   (.seq (.ops [⟨none, .asg 2 (.c (.v (.int .u8 0)))⟩,
     ⟨none, .asg 3 (.c (.nd (.sl true 1 0) []))⟩,
     ⟨none, .asg 4 (.c (.nd (.sl true 1 0) []))⟩,
     ⟨none, .asg 5 (.c (.v (.int .i64 4)))⟩])
   (.seq (.scr r17) .ret))
   .skip))
 (.seq (.seq (.ops [⟨none, .mv 10 (.t 0)⟩,
    ⟨none, .ixs 11 1 (.t 10) (.c (.v (.int .i64 0)))⟩,
    ⟨none, .ld1 12 (.t 11)⟩,
    ⟨none, .bin 13 .neq .num (.t 12) (.c (.v (.int .u8 209)))⟩])
  (.cnd (.t 13)
   (.seq (.ops [⟨none, .asg 2 (.c (.v (.int .u8 0)))⟩,
     ⟨none, .asg 3 (.c (.nd (.sl true 1 0) []))⟩,
     ⟨none, .asg 4 (.c (.nd (.sl true 1 0) []))⟩,
     ⟨none, .asg 5 (.c (.v (.int .i64 3)))⟩])
   (.seq (.scr r17) .ret))
   .skip))
 (.seq (.seq (.ops [⟨none, .mv 14 (.t 0)⟩,
    ⟨none, .len 15 false (.t 14)⟩,
    ⟨none, .bin 16 .lss .num (.t 15) (.c (.v (.int .i64 5)))⟩])
  (.cnd (.t 16)
   (.seq (.ops [⟨none, .asg 2 (.c (.v (.int .u8 0)))⟩,
     ⟨none, .asg 3 (.c (.nd (.sl true 1 0) []))⟩,
     ⟨none, .asg 4 (.c (.nd (.sl true 1 0) []))⟩,
     ⟨none, .asg 5 (.c (.v (.int .i64 4)))⟩])
   (.seq (.scr r17) .ret))
   .skip))
 (.seq (.ops [⟨none, .mv 17 (.t 0)⟩,
   ⟨none, .sl 18 1 (.t 17) (some (.c (.v (.int .i64 2)))) (some (.c (.v (.int .i64 5))))⟩,
   ⟨none, .call (some 19) 31 [(.t 18)]⟩,
   ⟨none, .cvi 20 .i64 (.t 19)⟩,
   ⟨none, .asg 6 (.t 20)⟩])
 (.seq (.seq (.ops [⟨none, .mv 21 (.t 6)⟩,
    ⟨none, .bin 22 .gtr .num (.t 21) (.c (.v (.int .i64 8192)))⟩])
  (.cnd (.t 22)
   (.seq (.ops [⟨none, .asg 2 (.c (.v (.int .u8 0)))⟩,
     ⟨none, .asg 3 (.c (.nd (.sl true 1 0) []))⟩,
     ⟨none, .asg 4 (.c (.nd (.sl true 1 0) []))⟩,
     ⟨none, .asg 5 (.c (.v (.int .i64 6)))⟩])
   (.seq (.scr r17) .ret))
   .skip))
 (.seq (.seq (.ops [⟨none, .mv 23 (.t 0)⟩,
    ⟨none, .len 24 false (.t 23)⟩,
    ⟨none, .mv 25 (.t 6)⟩,
    ⟨none, .bin 26 .add .num (.t 25) (.c (.v (.int .i64 9)))⟩,
    ⟨none, .bin 27 .lss .num (.t 24) (.t 26)⟩])
  (.cnd (.t 27)
   (.seq (.ops [⟨none, .asg 2 (.c (.v (.int .u8 0)))⟩,
     ⟨none, .asg 3 (.c (.nd (.sl true 1 0) []))⟩,
     ⟨none, .asg 4 (.c (.nd (.sl true 1 0) []))⟩,
     ⟨none, .asg 5 (.c (.v (.int .i64 4)))⟩])
   (.seq (.scr r17) .ret))
   .skip))
 (.seq (.seq (.drw [⟨none, .mv 28 (.t 0)⟩,
    ⟨none, .mv 29 (.t 6)⟩,
    ⟨none, .bin 30 .add .num (.t 29) (.c (.v (.int .i64 5)))⟩,
    ⟨none, .mv 31 (.t 6)⟩,
    ⟨none, .bin 32 .add .num (.t 31) (.c (.v (.int .i64 9)))⟩,
    ⟨none, .sl 33 1 (.t 28) (some (.t 30)) (some (.t 32))⟩,
    ⟨none, .call (some 34) 31 [(.t 33)]⟩,
    ⟨none, .mv 35 (.t 0)⟩,
    ⟨none, .mv 36 (.t 6)⟩,
    ⟨none, .bin 37 .add .num (.t 36) (.c (.v (.int .i64 5)))⟩,
    ⟨none, .sl 38 1 (.t 35) none (some (.t 37))⟩] [⟨none, .call (some 39) 12 [(.t 38)]⟩,
    ⟨none, .cvi 40 .u64 (.t 39)⟩,
    ⟨none, .bin 41 .neq .num (.t 34) (.t 40)⟩])
  (.cnd (.t 41)
   (.seq (.ops [⟨none, .asg 2 (.c (.v (.int .u8 0)))⟩,
     ⟨none, .asg 3 (.c (.nd (.sl true 1 0) []))⟩,
     ⟨none, .asg 4 (.c (.nd (.sl true 1 0) []))⟩,
     ⟨none, .asg 5 (.c (.v (.int .i64 5)))⟩])
   (.seq (.scr r17) .ret))
   .skip))
 (.seq (.drw [⟨none, .mv 42 (.t 0)⟩,
   ⟨none, .ixs 43 1 (.t 42) (.c (.v (.int .i64 1)))⟩,
   ⟨none, .ld1 44 (.t 43)⟩,
   ⟨none, .mz 45 1⟩,
   ⟨none, .mv 46 (.t 0)⟩,
   ⟨none, .mv 47 (.t 6)⟩,
   ⟨none, .bin 48 .add .num (.t 47) (.c (.v (.int .i64 5)))⟩,
   ⟨none, .sl 49 1 (.t 46) (some (.c (.v (.int .i64 5)))) (some (.t 48))⟩,
   ⟨none, .app 50 1 (.t 45) (.t 49)⟩,
   ⟨none, .mz 51 1⟩,
   ⟨none, .mv 52 (.t 0)⟩,
   ⟨none, .mv 53 (.t 6)⟩,
   ⟨none, .bin 54 .add .num (.t 53) (.c (.v (.int .i64 9)))⟩,
   ⟨none, .sl 55 1 (.t 52) (some (.t 54)) none⟩,
   ⟨none, .app 56 1 (.t 51) (.t 55)⟩] [⟨none, .asg 2 (.t 44)⟩,
   ⟨none, .asg 3 (.t 50)⟩,
   ⟨none, .asg 4 (.t 56)⟩,
   ⟨none, .asg 5 (.c (.v (.int .i64 0)))⟩])
 (.seq (.scr r17) .ret)))))))))),
  57, [2, 3, 4, 5]⟩

/-- coinage/frame.Int -/
abbrev K18 : Nat := 3
def hints18 : List (List Bool) := [bits 6 [2]]
@[simp] def r18 : List Bool := bits 6 [2]
@[simp] def R18 (s2 : V) : St := tab 6 3 (fu dd 2 s2) dd
def c18 : MF := ⟨(.seq (.ops [⟨none, .asg 2 (.c (.nd (.sl true 1 0) []))⟩])
 (.seq (.ops [⟨none, .mv 3 (.t 0)⟩,
   ⟨none, .cvi 4 .u64 (.t 3)⟩,
   ⟨none, .call (some 5) 26 [(.t 4), (.c (.v (.int .i64 8)))]⟩,
   ⟨none, .asg 2 (.t 5)⟩])
 (.seq (.scr r18) .ret))),
  6, [2]⟩

/-- coinage/frame.ReadInt -/
abbrev K19 : Nat := 5
def hints19 : List (List Bool) := [bits 15 [2, 3, 4], bits 15 [2, 3, 4]]
@[simp] def r19 : List Bool := bits 15 [2, 3, 4]
@[simp] def R19 (s2 s3 s4 : V) : St := tab 15 5 (fu (fu (fu dd 4 s4) 3 s3) 2 s2) dd
def c19 : MF := ⟨(.seq (.ops [⟨none, .asg 2 (.c (.v (.int .i64 0)))⟩,
   ⟨none, .asg 3 (.c (.nd (.sl true 1 0) []))⟩,
   ⟨none, .asg 4 (.c (.v (.int .i64 0)))⟩])
 (.seq (.seq (.ops [⟨none, .mv 5 (.t 0)⟩,
    ⟨none, .len 6 false (.t 5)⟩,
    ⟨none, .bin 7 .lss .num (.t 6) (.c (.v (.int .i64 8)))⟩])
  (.cnd (.t 7)
   (.seq (.ops [⟨none, .asg 2 (.c (.v (.int .i64 0)))⟩,
     ⟨none, .asg 3 (.c (.nd (.sl true 1 0) []))⟩,
     ⟨none, .asg 4 (.c (.v (.int .i64 4)))⟩])
   (.seq (.scr r19) .ret))
   .skip))
 (.seq (.drw [⟨none, .mv 8 (.t 0)⟩,
   ⟨none, .sl 9 1 (.t 8) none (some (.c (.v (.int .i64 8))))⟩,
   ⟨none, .call (some 10) 29 [(.t 9)]⟩,
   ⟨none, .cvi 11 .i64 (.t 10)⟩,
   ⟨none, .mv 12 (.t 0)⟩,
   ⟨none, .sl 13 1 (.t 12) (some (.c (.v (.int .i64 8)))) none⟩,
   ⟨none, .call (some 14) 30 [(.t 13)]⟩] [⟨none, .asg 2 (.t 11)⟩,
   ⟨none, .asg 3 (.t 14)⟩,
   ⟨none, .asg 4 (.c (.v (.int .i64 0)))⟩])
 (.seq (.scr r19) .ret)))),
  15, [2, 3, 4]⟩

/-- coinage/coinageref07.ReadInt -/
abbrev K20 : Nat := 5
def hints20 : List (List Bool) := [bits 16 [2, 3, 4], bits 16 [2, 3, 4]]
@[simp] def r20 : List Bool := bits 16 [2, 3, 4]
@[simp] def R20 (s2 s3 s4 : V) : St := tab 16 5 (fu (fu (fu dd 4 s4) 3 s3) 2 s2) dd
def c20 : MF := ⟨(.seq (.ops [⟨none, .asg 2 (.c (.v (.int .i64 0)))⟩,
   ⟨none, .asg 3 (.c (.nd (.sl true 1 0) []))⟩,
   ⟨none, .asg 4 (.c (.v (.int .i64 0)))⟩])
 (.seq (.seq (.ops [⟨none, .mv 5 (.t 0)⟩,
    ⟨none, .len 6 false (.t 5)⟩,
    ⟨none, .bin 7 .lss .num (.t 6) (.c (.v (.int .i64 8)))⟩])
  (.cnd (.t 7)
   (.seq (.ops [⟨none, .asg 2 (.c (.v (.int .i64 0)))⟩,
     ⟨none, .asg 3 (.c (.nd (.sl true 1 0) []))⟩,
     ⟨none, .asg 4 (.c (.v (.int .i64 4)))⟩])
   (.seq (.scr r20) .ret))
   .skip))
 (.seq (.drw [⟨none, .mv 8 (.t 0)⟩,
   ⟨none, .sl 9 1 (.t 8) none (some (.c (.v (.int .i64 8))))⟩,
   ⟨none, .call (some 10) 31 [(.t 9)]⟩,
   ⟨none, .cvi 11 .i64 (.t 10)⟩,
   ⟨none, .mz 12 1⟩,
   ⟨none, .mv 13 (.t 0)⟩,
   ⟨none, .sl 14 1 (.t 13) (some (.c (.v (.int .i64 8)))) none⟩,
   ⟨none, .app 15 1 (.t 12) (.t 14)⟩] [⟨none, .asg 2 (.t 11)⟩,
   ⟨none, .asg 3 (.t 15)⟩,
   ⟨none, .asg 4 (.c (.v (.int .i64 0)))⟩])
 (.seq (.scr r20) .ret)))),
  16, [2, 3, 4]⟩

/-- coinage/coinageref07.Int -/
abbrev K21 : Nat := 3
def hints21 : List (List Bool) := [bits 6 [2]]
@[simp] def r21 : List Bool := bits 6 [2]
@[simp] def R21 (s2 : V) : St := tab 6 3 (fu dd 2 s2) dd
def c21 : MF := ⟨(.seq (.ops [⟨none, .asg 2 (.c (.nd (.sl true 1 0) []))⟩])
 (.seq (.ops [⟨none, .mv 3 (.t 0)⟩,
   ⟨none, .cvi 4 .u64 (.t 3)⟩,
   ⟨none, .call (some 5) 27 [(.t 4), (.c (.v (.int .i64 8)))]⟩,
   ⟨none, .asg 2 (.t 5)⟩])
 (.seq (.scr r21) .ret))),
  6, [2]⟩

/-- coinage/frame.Bytes -/
abbrev K22 : Nat := 4
def hints22 : List (List Bool) := [bits 17 [2, 3], bits 17 [2, 3]]
@[simp] def r22 : List Bool := bits 17 [2, 3]
@[simp] def R22 (s2 s3 : V) : St := tab 17 4 (fu (fu dd 3 s3) 2 s2) dd
def c22 : MF := ⟨(.seq (.ops [⟨none, .asg 2 (.c (.nd (.sl true 1 0) []))⟩,
   ⟨none, .asg 3 (.c (.v (.int .i64 0)))⟩])
 (.seq (.seq (.ops [⟨none, .mv 4 (.t 0)⟩,
    ⟨none, .len 5 false (.t 4)⟩,
    ⟨none, .bin 6 .gtr .num (.t 5) (.c (.v (.int .i64 4096)))⟩])
  (.cnd (.t 6)
   (.seq (.ops [⟨none, .asg 2 (.c (.nd (.sl true 1 0) []))⟩,
     ⟨none, .asg 3 (.c (.v (.int .i64 6)))⟩])
   (.seq (.scr r22) .ret))
   .skip))
 (.seq (.ops [⟨none, .mv 7 (.t 0)⟩,
   ⟨none, .len 8 false (.t 7)⟩,
   ⟨none, .bin 9 .shr .num (.t 8) (.c (.v (.int .u64 8)))⟩,
   ⟨none, .cvi 10 .u8 (.t 9)⟩,
   ⟨none, .mv 11 (.t 0)⟩,
   ⟨none, .len 12 false (.t 11)⟩,
   ⟨none, .cvi 13 .u8 (.t 12)⟩,
   ⟨none, .bs 14 1 2 [(.v (.int .u8 0))] [(0, 1, (.t 10)), (1, 1, (.t 13))]⟩,
   ⟨none, .mv 15 (.t 0)⟩,
   ⟨none, .app 16 1 (.t 14) (.t 15)⟩,
   ⟨none, .asg 2 (.t 16)⟩,
   ⟨none, .asg 3 (.c (.v (.int .i64 0)))⟩])
 (.seq (.scr r22) .ret)))),
  17, [2, 3]⟩

/-- coinage/coinageref07.Bytes -/
abbrev K23 : Nat := 4
def hints23 : List (List Bool) := [bits 13 [2, 3], bits 13 [2, 3]]
@[simp] def r23 : List Bool := bits 13 [2, 3]
@[simp] def R23 (s2 s3 : V) : St := tab 13 4 (fu (fu dd 3 s3) 2 s2) dd
def c23 : MF := ⟨(.seq (.ops [⟨none, .asg 2 (.c (.nd (.sl true 1 0) []))⟩,
   ⟨none, .asg 3 (.c (.v (.int .i64 0)))⟩])
 (.seq (.seq (.ops [⟨none, .mv 4 (.t 0)⟩,
    ⟨none, .len 5 false (.t 4)⟩,
    ⟨none, .bin 6 .gtr .num (.t 5) (.c (.v (.int .i64 4096)))⟩])
  (.cnd (.t 6)
   (.seq (.ops [⟨none, .asg 2 (.c (.nd (.sl true 1 0) []))⟩,
     ⟨none, .asg 3 (.c (.v (.int .i64 6)))⟩])
   (.seq (.scr r23) .ret))
   .skip))
 (.seq (.ops [⟨none, .mv 7 (.t 0)⟩,
   ⟨none, .len 8 false (.t 7)⟩,
   ⟨none, .cvi 9 .u64 (.t 8)⟩,
   ⟨none, .call (some 10) 27 [(.t 9), (.c (.v (.int .i64 2)))]⟩,
   ⟨none, .mv 11 (.t 0)⟩,
   ⟨none, .app 12 1 (.t 10) (.t 11)⟩,
   ⟨none, .asg 2 (.t 12)⟩,
   ⟨none, .asg 3 (.c (.v (.int .i64 0)))⟩])
 (.seq (.scr r23) .ret)))),
  13, [2, 3]⟩

/-- coinage/frame.ReadBytes -/
abbrev K24 : Nat := 23
def hints24 : List (List Bool) := [bits 38 [2, 3, 4], bits 38 [0, 5], bits 38 [2, 3, 4], bits 38 [2, 3, 4], bits 38 [2, 3, 4]]
@[simp] def r24 : List Bool := bits 38 [2, 3, 4]
@[simp] def R24 (s2 s3 s4 : V) : St := tab 38 23 (fu (fu (fu dd 4 s4) 3 s3) 2 s2) dd
@[simp] def x24_0 : List Bool := bits 38 [0, 5]
@[simp] def X24_0 (s0 s5 : V) : St := tab 38 23 (fu (fu dd 5 s5) 0 s0) dd
def c24 : MF := ⟨(.seq (.ops [⟨none, .asg 2 (.c (.nd (.sl true 1 0) []))⟩,
   ⟨none, .asg 3 (.c (.nd (.sl true 1 0) []))⟩,
   ⟨none, .asg 4 (.c (.v (.int .i64 0)))⟩])
 (.seq (.seq (.ops [⟨none, .mv 6 (.t 0)⟩,
    ⟨none, .len 7 false (.t 6)⟩,
    ⟨none, .bin 8 .lss .num (.t 7) (.c (.v (.int .i64 2)))⟩])
  (.cnd (.t 8)
   (.seq (.ops [⟨none, .asg 2 (.c (.nd (.sl true 1 0) []))⟩,
     ⟨none, .asg 3 (.c (.nd (.sl true 1 0) []))⟩,
     ⟨none, .asg 4 (.c (.v (.int .i64 4)))⟩])
   (.seq (.scr r24) .ret))
   .skip))
 (.seq (.drw [⟨none, .mv 9 (.t 0)⟩,
   ⟨none, .ixs 10 1 (.t 9) (.c (.v (.int .i64 0)))⟩,
   ⟨none, .ld1 11 (.t 10)⟩,
   ⟨none, .cvi 12 .i64 (.t 11)⟩,
   ⟨none, .bin 13 .shl .num (.t 12) (.c (.v (.int .u64 8)))⟩,
   ⟨none, .mv 14 (.t 0)⟩,
   ⟨none, .ixs 15 1 (.t 14) (.c (.v (.int .i64 1)))⟩,
   ⟨none, .ld1 16 (.t 15)⟩,
   ⟨none, .cvi 17 .i64 (.t 16)⟩] [⟨none, .bin 18 .or .num (.t 13) (.t 17)⟩,
   ⟨none, .asg 5 (.t 18)⟩])
 (.seq (.seq (.blk 0 (.seq (.ops [⟨none, .mv 20 (.t 5)⟩,
     ⟨none, .bin 21 .gtr .num (.t 20) (.c (.v (.int .i64 4096)))⟩,
     ⟨none, .asg 19 (.t 21)⟩])
   (.cnd (.t 19)
    (.seq (.ops [⟨none, .asg 2 (.c (.nd (.sl true 1 0) []))⟩,
      ⟨none, .asg 3 (.c (.nd (.sl true 1 0) []))⟩,
      ⟨none, .asg 4 (.c (.v (.int .i64 6)))⟩])
    (.seq (.scr r24) .ret))
    (.seq (.ops [⟨none, .mv 23 (.t 0)⟩,
      ⟨none, .len 24 false (.t 23)⟩,
      ⟨none, .mv 25 (.t 5)⟩,
      ⟨none, .bin 26 .add .num (.c (.v (.int .i64 2))) (.t 25)⟩,
      ⟨none, .bin 27 .lss .num (.t 24) (.t 26)⟩,
      ⟨none, .asg 22 (.t 27)⟩])
    (.cnd (.t 22)
     (.seq (.ops [⟨none, .asg 2 (.c (.nd (.sl true 1 0) []))⟩,
       ⟨none, .asg 3 (.c (.nd (.sl true 1 0) []))⟩,
       ⟨none, .asg 4 (.c (.v (.int .i64 4)))⟩])
     (.seq (.scr r24) .ret))
     .skip))))) (.scr x24_0))
 (.seq (.drw [⟨none, .mv 28 (.t 0)⟩,
   ⟨none, .mv 29 (.t 5)⟩,
   ⟨none, .bin 30 .add .num (.c (.v (.int .i64 2))) (.t 29)⟩,
   ⟨none, .sl 31 1 (.t 28) (some (.c (.v (.int .i64 2)))) (some (.t 30))⟩,
   ⟨none, .call (some 32) 30 [(.t 31)]⟩,
   ⟨none, .mv 33 (.t 0)⟩,
   ⟨none, .mv 34 (.t 5)⟩,
   ⟨none, .bin 35 .add .num (.c (.v (.int .i64 2))) (.t 34)⟩,
   ⟨none, .sl 36 1 (.t 33) (some (.t 35)) none⟩] [⟨none, .call (some 37) 30 [(.t 36)]⟩,
   ⟨none, .asg 2 (.t 32)⟩,
   ⟨none, .asg 3 (.t 37)⟩,
   ⟨none, .asg 4 (.c (.v (.int .i64 0)))⟩])
 (.seq (.scr r24) .ret)))))),
  38, [2, 3, 4]⟩

/-- coinage/coinageref07.ReadBytes -/
abbrev K25 : Nat := 6
def hints25 : List (List Bool) := [bits 32 [2, 3, 4], bits 32 [2, 3, 4], bits 32 [2, 3, 4], bits 32 [2, 3, 4]]
@[simp] def r25 : List Bool := bits 32 [2, 3, 4]
@[simp] def R25 (s2 s3 s4 : V) : St := tab 32 6 (fu (fu (fu dd 4 s4) 3 s3) 2 s2) dd
def c25 : MF := ⟨(.seq (.ops [⟨none, .asg 2 (.c (.nd (.sl true 1 0) []))⟩,
   ⟨none, .asg 3 (.c (.nd (.sl true 1 0) []))⟩,
   ⟨none, .asg 4 (.c (.v (.int .i64 0)))⟩])
 (.seq (.seq (.ops [⟨none, .mv 6 (.t 0)⟩,
    ⟨none, .len 7 false (.t 6)⟩,
    ⟨none, .bin 8 .lss .num (.t 7) (.c (.v (.int .i64 2)))⟩])
  (.cnd (.t 8)
   (.seq (.ops [⟨none, .asg 2 (.c (.nd (.sl true 1 0) []))⟩,
     ⟨none, .asg 3 (.c (.nd (.sl true 1 0) []))⟩,
     ⟨none, .asg 4 (.c (.v (.int .i64 4)))⟩])
   (.seq (.scr r25) .ret))
   .skip))
 (.seq (.ops [⟨none, .mv 9 (.t 0)⟩,
   ⟨none, .sl 10 1 (.t 9) none (some (.c (.v (.int .i64 2))))⟩,
   ⟨none, .call (some 11) 31 [(.t 10)]⟩,
   ⟨none, .cvi 12 .i64 (.t 11)⟩,
   ⟨none, .asg 5 (.t 12)⟩])
 (.seq (.seq (.ops [⟨none, .mv 13 (.t 5)⟩,
    ⟨none, .bin 14 .gtr .num (.t 13) (.c (.v (.int .i64 4096)))⟩])
  (.cnd (.t 14)
   (.seq (.ops [⟨none, .asg 2 (.c (.nd (.sl true 1 0) []))⟩,
     ⟨none, .asg 3 (.c (.nd (.sl true 1 0) []))⟩,
     ⟨none, .asg 4 (.c (.v (.int .i64 6)))⟩])
   (.seq (.scr r25) .ret))
   .skip))
 (.seq (.seq (.ops [⟨none, .mv 15 (.t 0)⟩,
    ⟨none, .len 16 false (.t 15)⟩,
    ⟨none, .mv 17 (.t 5)⟩,
    ⟨none, .bin 18 .add .num (.t 17) (.c (.v (.int .i64 2)))⟩,
    ⟨none, .bin 19 .lss .num (.t 16) (.t 18)⟩])
  (.cnd (.t 19)
   (.seq (.ops [⟨none, .asg 2 (.c (.nd (.sl true 1 0) []))⟩,
     ⟨none, .asg 3 (.c (.nd (.sl true 1 0) []))⟩,
     ⟨none, .asg 4 (.c (.v (.int .i64 4)))⟩])
   (.seq (.scr r25) .ret))
   .skip))
 (.seq (.drw [⟨none, .mz 20 1⟩,
   ⟨none, .mv 21 (.t 0)⟩,
   ⟨none, .mv 22 (.t 5)⟩,
   ⟨none, .bin 23 .add .num (.t 22) (.c (.v (.int .i64 2)))⟩,
   ⟨none, .sl 24 1 (.t 21) (some (.c (.v (.int .i64 2)))) (some (.t 23))⟩,
   ⟨none, .app 25 1 (.t 20) (.t 24)⟩,
   ⟨none, .mz 26 1⟩,
   ⟨none, .mv 27 (.t 0)⟩,
   ⟨none, .mv 28 (.t 5)⟩,
   ⟨none, .bin 29 .add .num (.t 28) (.c (.v (.int .i64 2)))⟩,
   ⟨none, .sl 30 1 (.t 27) (some (.t 29)) none⟩] [⟨none, .app 31 1 (.t 26) (.t 30)⟩,
   ⟨none, .asg 2 (.t 25)⟩,
   ⟨none, .asg 3 (.t 31)⟩,
   ⟨none, .asg 4 (.c (.v (.int .i64 0)))⟩])
 (.seq (.scr r25) .ret))))))),
  32, [2, 3, 4]⟩

/-- coinage/frame.big -/
abbrev K26 : Nat := 12
def hints26 : List (List Bool) := [bits 27 [5], bits 27 [0, 1, 5, 10, 11], bits 27 [5], bits 27 [0, 1, 5, 10, 11], bits 27 [4]]
@[simp] def r26 : List Bool := bits 27 [4]
@[simp] def R26 (s4 : V) : St := tab 27 12 (fu dd 4 s4) dd
@[simp] def x26_0 : List Bool := bits 27 [5]
@[simp] def X26_0 (s5 : V) : St := tab 27 12 (fu dd 5 s5) dd
@[simp] def h26_0 : List Bool := bits 27 [0, 1, 5, 10, 11]
@[simp] def L26_0 (s0 s1 s5 s10 s11 : V) : St := tab 27 12 (fu (fu (fu (fu (fu dd 11 s11) 10 s10) 5 s5) 1 s1) 0 s0) dd
@[simp] def x26_1 : List Bool := bits 27 [0, 1, 5, 10, 11]
@[simp] def X26_1 (s0 s1 s5 s10 s11 : V) : St := tab 27 12 (fu (fu (fu (fu (fu dd 11 s11) 10 s10) 5 s5) 1 s1) 0 s0) dd
def b26_0 : MC := .seq (.scr h26_0)
 (.seq (.ops [⟨none, .bin 12 .lss .num (.t 11) (.t 10)⟩])
 (.seq (.cnd (.t 12)
   .skip
   (.seq (.scr x26_0) (.ex 0)))
 (.seq (.seq (.blk 1 (.seq (.ops [⟨none, .mv 13 (.t 11)⟩,
     ⟨none, .asg 6 (.t 13)⟩])
   (.ops [⟨none, .mv 14 (.t 5)⟩,
    ⟨none, .mv 15 (.t 1)⟩,
    ⟨none, .bin 16 .sub .num (.t 15) (.c (.v (.int .i64 1)))⟩,
    ⟨none, .mv 17 (.t 6)⟩,
    ⟨none, .bin 18 .sub .num (.t 16) (.t 17)⟩,
    ⟨none, .mv 19 (.t 0)⟩,
    ⟨none, .mv 20 (.t 6)⟩,
    ⟨none, .bin 21 .mul .num (.c (.v (.int .i64 8))) (.t 20)⟩,
    ⟨none, .bin 22 .shr .num (.t 19) (.t 21)⟩,
    ⟨none, .cvi 23 .u8 (.t 22)⟩,
    ⟨none, .ixs 24 1 (.t 14) (.t 18)⟩,
    ⟨none, .stn none 1 (.t 24) (.t 23)⟩]))) (.scr x26_1))
 (.ops [⟨none, .bin 25 .add .num (.t 11) (.c (.v (.int .i64 1)))⟩,
  ⟨none, .mv 11 (.t 25)⟩]))))
def c26 : MF := ⟨(.seq (.ops [⟨none, .asg 4 (.c (.nd (.sl true 1 0) []))⟩])
 (.seq (.ops [⟨none, .mv 7 (.t 1)⟩,
   ⟨none, .mks 8 1 [(.v (.int .u8 0))] (.t 7) (.t 7)⟩,
   ⟨none, .asg 5 (.t 8)⟩])
 (.seq (.seq (.ops [⟨none, .mv 9 (.t 5)⟩,
    ⟨none, .len 10 false (.t 9)⟩,
    ⟨none, .mv 11 (.c (.v (.int .i64 0)))⟩])
  (.seq (.blk 0 (.lop b26_0)) (.scr x26_0)))
 (.seq (.ops [⟨none, .mv 26 (.t 5)⟩,
   ⟨none, .asg 4 (.t 26)⟩])
 (.seq (.scr r26) .ret))))),
  27, [4]⟩

/-- coinage/coinageref07.big -/
abbrev K27 : Nat := 7
def hints27 : List (List Bool) := [bits 24 [5], bits 24 [0, 5, 6], bits 24 [5], bits 24 [0, 5, 6], bits 24 [4]]
@[simp] def r27 : List Bool := bits 24 [4]
@[simp] def R27 (s4 : V) : St := tab 24 7 (fu dd 4 s4) dd
@[simp] def x27_0 : List Bool := bits 24 [5]
@[simp] def X27_0 (s5 : V) : St := tab 24 7 (fu dd 5 s5) dd
@[simp] def h27_0 : List Bool := bits 24 [0, 5, 6]
@[simp] def L27_0 (s0 s5 s6 : V) : St := tab 24 7 (fu (fu (fu dd 6 s6) 5 s5) 0 s0) dd
@[simp] def x27_1 : List Bool := bits 24 [0, 5, 6]
@[simp] def X27_1 (s0 s5 s6 : V) : St := tab 24 7 (fu (fu (fu dd 6 s6) 5 s5) 0 s0) dd
def b27_0 : MC := .seq (.scr h27_0)
 (.seq (.seq (.ops [⟨none, .mv 11 (.t 6)⟩,
    ⟨none, .bin 12 .geq .num (.t 11) (.c (.v (.int .i64 0)))⟩])
  (.cnd (.t 12)
   .skip
   (.seq (.scr x27_0) (.ex 0))))
 (.seq (.seq (.blk 1 (.seq (.ops [⟨none, .mv 15 (.t 5)⟩,
     ⟨none, .mv 16 (.t 6)⟩,
     ⟨none, .mv 17 (.t 0)⟩,
     ⟨none, .bin 18 .rem .num (.t 17) (.c (.v (.int .u64 256)))⟩,
     ⟨none, .cvi 19 .u8 (.t 18)⟩,
     ⟨none, .ixs 20 1 (.t 15) (.t 16)⟩,
     ⟨none, .stn none 1 (.t 20) (.t 19)⟩])
   (.ops [⟨none, .mv 21 (.t 0)⟩,
    ⟨none, .bin 22 .quo .num (.t 21) (.c (.v (.int .u64 256)))⟩,
    ⟨none, .asg 0 (.t 22)⟩]))) (.scr x27_1))
 (.ops [⟨none, .mv 13 (.t 6)⟩,
  ⟨none, .bin 14 .sub .num (.t 13) (.c (.v (.int .i64 1)))⟩,
  ⟨none, .asg 6 (.t 14)⟩])))
def c27 : MF := ⟨(.seq (.ops [⟨none, .asg 4 (.c (.nd (.sl true 1 0) []))⟩])
 (.seq (.ops [⟨none, .mv 7 (.t 1)⟩,
   ⟨none, .mks 8 1 [(.v (.int .u8 0))] (.t 7) (.t 7)⟩,
   ⟨none, .asg 5 (.t 8)⟩])
 (.seq (.seq (.ops [⟨none, .mv 9 (.t 1)⟩,
    ⟨none, .bin 10 .sub .num (.t 9) (.c (.v (.int .i64 1)))⟩,
    ⟨none, .asg 6 (.t 10)⟩])
  (.seq (.blk 0 (.lop b27_0)) (.scr x27_0)))
 (.seq (.ops [⟨none, .mv 23 (.t 5)⟩,
   ⟨none, .asg 4 (.t 23)⟩])
 (.seq (.scr r27) .ret))))),
  24, [4]⟩

/-- coinage/coinagebase.Bytes -/
abbrev K28 : Nat := 5
def hints28 : List (List Bool) := [bits 10 [4]]
@[simp] def r28 : List Bool := bits 10 [4]
@[simp] def R28 (s4 : V) : St := tab 10 5 (fu dd 4 s4) dd
def c28 : MF := ⟨(.seq (.ops [⟨none, .asg 4 (.c (.v (.bool false)))⟩])
 (.seq (.ops [⟨none, .mv 5 (.t 0)⟩,
   ⟨none, .cvs 6 (.t 5)⟩,
   ⟨none, .mv 7 (.t 1)⟩,
   ⟨none, .cvs 8 (.t 7)⟩,
   ⟨none, .bin 9 .eql .num (.t 6) (.t 8)⟩,
   ⟨none, .asg 4 (.t 9)⟩])
 (.seq (.scr r28) .ret))),
  10, [4]⟩

/-- coinage/frame.value -/
abbrev K29 : Nat := 9
def hints29 : List (List Bool) := [bits 19 [3], bits 19 [0, 3, 6, 7, 8], bits 19 [3], bits 19 [0, 3, 6, 7, 8], bits 19 [2]]
@[simp] def r29 : List Bool := bits 19 [2]
@[simp] def R29 (s2 : V) : St := tab 19 9 (fu dd 2 s2) dd
@[simp] def x29_0 : List Bool := bits 19 [3]
@[simp] def X29_0 (s3 : V) : St := tab 19 9 (fu dd 3 s3) dd
@[simp] def h29_0 : List Bool := bits 19 [0, 3, 6, 7, 8]
@[simp] def L29_0 (s0 s3 s6 s7 s8 : V) : St := tab 19 9 (fu (fu (fu (fu (fu dd 8 s8) 7 s7) 6 s6) 3 s3) 0 s0) dd
@[simp] def x29_1 : List Bool := bits 19 [0, 3, 6, 7, 8]
@[simp] def X29_1 (s0 s3 s6 s7 s8 : V) : St := tab 19 9 (fu (fu (fu (fu (fu dd 8 s8) 7 s7) 6 s6) 3 s3) 0 s0) dd
def b29_0 : MC := .seq (.scr h29_0)
 (.seq (.ops [⟨none, .bin 9 .lss .num (.t 8) (.t 7)⟩])
 (.seq (.cnd (.t 9)
   .skip
   (.seq (.scr x29_0) (.ex 0)))
 (.seq (.seq (.blk 1 (.seq (.ops [⟨none, .ixs 10 1 (.t 6) (.t 8)⟩,
     ⟨none, .ld1 11 (.t 10)⟩,
     ⟨none, .asg 5 (.t 11)⟩])
   (.ops [⟨none, .mv 12 (.t 3)⟩,
    ⟨none, .bin 13 .shl .num (.t 12) (.c (.v (.int .u64 8)))⟩,
    ⟨none, .mv 14 (.t 5)⟩,
    ⟨none, .cvi 15 .u64 (.t 14)⟩,
    ⟨none, .bin 16 .or .num (.t 13) (.t 15)⟩,
    ⟨none, .asg 3 (.t 16)⟩]))) (.scr x29_1))
 (.ops [⟨none, .bin 17 .add .num (.t 8) (.c (.v (.int .i64 1)))⟩,
  ⟨none, .mv 8 (.t 17)⟩]))))
def c29 : MF := ⟨(.seq (.ops [⟨none, .asg 2 (.c (.v (.int .u64 0)))⟩])
 (.seq (.ops [⟨none, .asg 3 (.c (.v (.int .u64 0)))⟩])
 (.seq (.seq (.ops [⟨none, .mv 6 (.t 0)⟩,
    ⟨none, .len 7 false (.t 6)⟩,
    ⟨none, .mv 8 (.c (.v (.int .i64 0)))⟩])
  (.seq (.blk 0 (.lop b29_0)) (.scr x29_0)))
 (.seq (.ops [⟨none, .mv 18 (.t 3)⟩,
   ⟨none, .asg 2 (.t 18)⟩])
 (.seq (.scr r29) .ret))))),
  19, [2]⟩

/-- slices.Clone[[]byte,byte] -/
abbrev K30 : Nat := 3
def hints30 : List (List Bool) := [bits 8 [2], bits 8 [2]]
@[simp] def r30 : List Bool := bits 8 [2]
@[simp] def R30 (s2 : V) : St := tab 8 3 (fu dd 2 s2) dd
def c30 : MF := ⟨(.seq (.ops [⟨none, .asg 2 (.c (.nd (.sl true 1 0) []))⟩])
 (.seq (.seq (.ops [⟨none, .mv 3 (.t 0)⟩,
    ⟨none, .bin 4 .eql (.nilT false) (.t 3) (.c (.nd (.sl true 0 0) []))⟩])
  (.cnd (.t 4)
   (.seq (.ops [⟨none, .asg 2 (.c (.nd (.sl true 1 0) []))⟩])
   (.seq (.scr r30) .ret))
   .skip))
 (.seq (.ops [⟨none, .mz 5 1⟩,
   ⟨none, .mv 6 (.t 0)⟩,
   ⟨none, .app 7 1 (.t 5) (.t 6)⟩,
   ⟨none, .asg 2 (.t 7)⟩])
 (.seq (.scr r30) .ret)))),
  8, [2]⟩

/-- coinage/coinageref07.number -/
abbrev K31 : Nat := 5
def hints31 : List (List Bool) := [bits 20 [3], bits 20 [0, 3, 4], bits 20 [3], bits 20 [0, 3, 4], bits 20 [2]]
@[simp] def r31 : List Bool := bits 20 [2]
@[simp] def R31 (s2 : V) : St := tab 20 5 (fu dd 2 s2) dd
@[simp] def x31_0 : List Bool := bits 20 [3]
@[simp] def X31_0 (s3 : V) : St := tab 20 5 (fu dd 3 s3) dd
@[simp] def h31_0 : List Bool := bits 20 [0, 3, 4]
@[simp] def L31_0 (s0 s3 s4 : V) : St := tab 20 5 (fu (fu (fu dd 4 s4) 3 s3) 0 s0) dd
@[simp] def x31_1 : List Bool := bits 20 [0, 3, 4]
@[simp] def X31_1 (s0 s3 s4 : V) : St := tab 20 5 (fu (fu (fu dd 4 s4) 3 s3) 0 s0) dd
def b31_0 : MC := .seq (.scr h31_0)
 (.seq (.seq (.ops [⟨none, .mv 5 (.t 4)⟩,
    ⟨none, .mv 6 (.t 0)⟩,
    ⟨none, .len 7 false (.t 6)⟩,
    ⟨none, .bin 8 .lss .num (.t 5) (.t 7)⟩])
  (.cnd (.t 8)
   .skip
   (.seq (.scr x31_0) (.ex 0))))
 (.seq (.seq (.blk 1 (.ops [⟨none, .mv 11 (.t 3)⟩,
    ⟨none, .bin 12 .mul .num (.t 11) (.c (.v (.int .u64 256)))⟩,
    ⟨none, .mv 13 (.t 0)⟩,
    ⟨none, .mv 14 (.t 4)⟩,
    ⟨none, .ixs 15 1 (.t 13) (.t 14)⟩,
    ⟨none, .ld1 16 (.t 15)⟩,
    ⟨none, .cvi 17 .u64 (.t 16)⟩,
    ⟨none, .bin 18 .add .num (.t 12) (.t 17)⟩,
    ⟨none, .asg 3 (.t 18)⟩])) (.scr x31_1))
 (.ops [⟨none, .mv 9 (.t 4)⟩,
  ⟨none, .bin 10 .add .num (.t 9) (.c (.v (.int .i64 1)))⟩,
  ⟨none, .asg 4 (.t 10)⟩])))
def c31 : MF := ⟨(.seq (.ops [⟨none, .asg 2 (.c (.v (.int .u64 0)))⟩])
 (.seq (.ops [⟨none, .asg 3 (.c (.v (.int .u64 0)))⟩])
 (.seq (.seq (.ops [⟨none, .asg 4 (.c (.v (.int .i64 0)))⟩])
  (.seq (.blk 0 (.lop b31_0)) (.scr x31_0)))
 (.seq (.ops [⟨none, .mv 19 (.t 3)⟩,
   ⟨none, .asg 2 (.t 19)⟩])
 (.seq (.scr r31) .ret))))),
  20, [2]⟩


theorem comp3 : compF Go.Proofs.Try.prog hints3 3 = some c3 := by kernel_rfl
theorem comp4 : compF Go.Proofs.Try.prog hints4 4 = some c4 := by kernel_rfl
theorem comp5 : compF Go.Proofs.Try.prog hints5 5 = some c5 := by kernel_rfl
theorem comp6 : compF Go.Proofs.Try.prog hints6 6 = some c6 := by kernel_rfl
theorem comp7 : compF Go.Proofs.Try.prog hints7 7 = some c7 := by kernel_rfl
theorem comp8 : compF Go.Proofs.Try.prog hints8 8 = some c8 := by kernel_rfl
theorem comp9 : compF Go.Proofs.Try.prog hints9 9 = some c9 := by kernel_rfl
theorem comp10 : compF Go.Proofs.Try.prog hints10 10 = some c10 := by kernel_rfl
theorem comp11 : compF Go.Proofs.Try.prog hints11 11 = some c11 := by kernel_rfl
theorem comp12 : compF Go.Proofs.Try.prog hints12 12 = some c12 := by kernel_rfl
theorem comp13 : compF Go.Proofs.Try.prog hints13 13 = some c13 := by kernel_rfl
theorem comp14 : compF Go.Proofs.Try.prog hints14 14 = some c14 := by kernel_rfl
theorem comp15 : compF Go.Proofs.Try.prog hints15 15 = some c15 := by kernel_rfl
theorem comp16 : compF Go.Proofs.Try.prog hints16 16 = some c16 := by kernel_rfl
theorem comp17 : compF Go.Proofs.Try.prog hints17 17 = some c17 := by kernel_rfl
theorem comp18 : compF Go.Proofs.Try.prog hints18 18 = some c18 := by kernel_rfl
theorem comp19 : compF Go.Proofs.Try.prog hints19 19 = some c19 := by kernel_rfl
theorem comp20 : compF Go.Proofs.Try.prog hints20 20 = some c20 := by kernel_rfl
theorem comp21 : compF Go.Proofs.Try.prog hints21 21 = some c21 := by kernel_rfl
theorem comp22 : compF Go.Proofs.Try.prog hints22 22 = some c22 := by kernel_rfl
theorem comp23 : compF Go.Proofs.Try.prog hints23 23 = some c23 := by kernel_rfl
theorem comp24 : compF Go.Proofs.Try.prog hints24 24 = some c24 := by kernel_rfl
theorem comp25 : compF Go.Proofs.Try.prog hints25 25 = some c25 := by kernel_rfl
theorem comp26 : compF Go.Proofs.Try.prog hints26 26 = some c26 := by kernel_rfl
theorem comp27 : compF Go.Proofs.Try.prog hints27 27 = some c27 := by kernel_rfl
theorem comp28 : compF Go.Proofs.Try.prog hints28 28 = some c28 := by kernel_rfl
theorem comp29 : compF Go.Proofs.Try.prog hints29 29 = some c29 := by kernel_rfl
theorem comp30 : compF Go.Proofs.Try.prog hints30 30 = some c30 := by kernel_rfl
theorem comp31 : compF Go.Proofs.Try.prog hints31 31 = some c31 := by kernel_rfl

def tbl : FuncId → Option MF
  | 3 => some c3
  | 4 => some c4
  | 5 => some c5
  | 6 => some c6
  | 7 => some c7
  | 8 => some c8
  | 9 => some c9
  | 10 => some c10
  | 11 => some c11
  | 12 => some c12
  | 13 => some c13
  | 14 => some c14
  | 15 => some c15
  | 16 => some c16
  | 17 => some c17
  | 18 => some c18
  | 19 => some c19
  | 20 => some c20
  | 21 => some c21
  | 22 => some c22
  | 23 => some c23
  | 24 => some c24
  | 25 => some c25
  | 26 => some c26
  | 27 => some c27
  | 28 => some c28
  | 29 => some c29
  | 30 => some c30
  | 31 => some c31
  | _ => none

theorem tbl_ok (f : FuncId) (mf : MF) (h : tbl f = some mf) : ∃ hints, compF Go.Proofs.Try.prog hints f = some mf := by
  unfold tbl at h
  split at h
  · cases h; exact ⟨_, comp3⟩
  · cases h; exact ⟨_, comp4⟩
  · cases h; exact ⟨_, comp5⟩
  · cases h; exact ⟨_, comp6⟩
  · cases h; exact ⟨_, comp7⟩
  · cases h; exact ⟨_, comp8⟩
  · cases h; exact ⟨_, comp9⟩
  · cases h; exact ⟨_, comp10⟩
  · cases h; exact ⟨_, comp11⟩
  · cases h; exact ⟨_, comp12⟩
  · cases h; exact ⟨_, comp13⟩
  · cases h; exact ⟨_, comp14⟩
  · cases h; exact ⟨_, comp15⟩
  · cases h; exact ⟨_, comp16⟩
  · cases h; exact ⟨_, comp17⟩
  · cases h; exact ⟨_, comp18⟩
  · cases h; exact ⟨_, comp19⟩
  · cases h; exact ⟨_, comp20⟩
  · cases h; exact ⟨_, comp21⟩
  · cases h; exact ⟨_, comp22⟩
  · cases h; exact ⟨_, comp23⟩
  · cases h; exact ⟨_, comp24⟩
  · cases h; exact ⟨_, comp25⟩
  · cases h; exact ⟨_, comp26⟩
  · cases h; exact ⟨_, comp27⟩
  · cases h; exact ⟨_, comp28⟩
  · cases h; exact ⟨_, comp29⟩
  · cases h; exact ⟨_, comp30⟩
  · cases h; exact ⟨_, comp31⟩
  · cases h

end Go.Mx
