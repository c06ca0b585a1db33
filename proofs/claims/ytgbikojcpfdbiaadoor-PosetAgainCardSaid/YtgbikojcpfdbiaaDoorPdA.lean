import Derived.Test.YtgbikojcpfdbiaaDoorMxRa
import Derived.KernelRfl
import Derived.Test.YtgbikojcpfdbiaaDoorChecked
/-
  The functions of this chapter in the machine's code, and that the given program's code is this one. Printed by a program of this repo (gencodes.py).
-/
namespace Go.Mx
set_option linter.unusedVariables false
set_option linter.unusedSimpArgs false
set_option linter.unusedSectionVars false
open Go

/-- coinage/coinagelaw06.PosetClosures -/
abbrev K3 : Nat := 40
def hints3 : List (List Bool) := [bits 63 [4], bits 63 [4]]
@[simp] def r3 : List Bool := bits 63 [4]
@[simp] def R3 (s4 : V) : St := tab 63 40 (fu dd 4 s4) dd
def c3 : MF := ⟨(.seq (.ops [⟨none, .asg 4 (.c (.v (.bool false)))⟩])
 (.seq (.seq (.ops [⟨none, .call (some 13) 5 []⟩,
    ⟨none, .un 14 .not (.t 13)⟩,
    ⟨none, .mv 15 (.t 14)⟩,
    ⟨some (15, false), .mv 16 (.t 1)⟩,
    ⟨some (15, false), .call (some 17) 6 [(.t 16)]⟩,
    ⟨some (15, false), .un 18 .not (.t 17)⟩,
    ⟨none, .pick 19 (.t 15) (.c (.v (.bool true))) (.t 18)⟩])
  (.cnd (.t 19)
   (.seq (.ops [⟨none, .call (some 20) 5 []⟩,
     ⟨none, .asg 4 (.t 20)⟩])
   (.seq (.scr r3) .ret))
   .skip))
 (.seq (.ops [⟨none, .mv 22 (.t 0)⟩,
   ⟨none, .mv 23 (.t 1)⟩,
   ⟨none, .call (some 24) 7 [(.t 22), (.t 23)]⟩,
   ⟨none, .mv 21 (.t 24)⟩,
   ⟨none, .ext 25 (.t 21) 0⟩,
   ⟨none, .ext 26 (.t 21) 1⟩,
   ⟨none, .asg 5 (.t 25)⟩,
   ⟨none, .asg 6 (.t 26)⟩])
 (.seq (.ops [⟨none, .mv 28 (.t 0)⟩,
   ⟨none, .mv 29 (.t 1)⟩,
   ⟨none, .call (some 30) 8 [(.t 28), (.t 29)]⟩,
   ⟨none, .mv 27 (.t 30)⟩,
   ⟨none, .ext 31 (.t 27) 0⟩,
   ⟨none, .ext 32 (.t 27) 1⟩,
   ⟨none, .asg 7 (.t 31)⟩,
   ⟨none, .asg 8 (.t 32)⟩])
 (.seq (.ops [⟨none, .mv 34 (.t 0)⟩,
   ⟨none, .mv 35 (.t 1)⟩,
   ⟨none, .call (some 36) 9 [(.t 34), (.t 35)]⟩,
   ⟨none, .mv 33 (.t 36)⟩,
   ⟨none, .ext 37 (.t 33) 0⟩,
   ⟨none, .ext 38 (.t 33) 1⟩,
   ⟨none, .asg 9 (.t 37)⟩,
   ⟨none, .asg 10 (.t 38)⟩])
 (.seq (.ops [⟨none, .mv 40 (.t 0)⟩,
   ⟨none, .mv 41 (.t 1)⟩,
   ⟨none, .call (some 42) 10 [(.t 40), (.t 41)]⟩,
   ⟨none, .mv 39 (.t 42)⟩,
   ⟨none, .ext 43 (.t 39) 0⟩,
   ⟨none, .ext 44 (.t 39) 1⟩,
   ⟨none, .asg 11 (.t 43)⟩,
   ⟨none, .asg 12 (.t 44)⟩])
 (.seq (.ops (⟨none, .mv 45 (.t 6)⟩ ::
   ⟨none, .mv 46 (.t 10)⟩ ::
   ⟨none, .bin 47 .eql .num (.t 45) (.t 46)⟩ ::
   ⟨none, .mv 48 (.t 47)⟩ ::
   ⟨some (48, true), .mv 49 (.t 8)⟩ ::
   ⟨some (48, true), .mv 50 (.t 12)⟩ ::
   ⟨some (48, true), .bin 51 .eql .num (.t 49) (.t 50)⟩ ::
   ⟨none, .pick 52 (.t 48) (.t 51) (.c (.v (.bool false)))⟩ ::
   ⟨none, .mv 53 (.t 52)⟩ ::
   ⟨some (53, true), .mv 54 (.t 5)⟩ ::
   ⟨some (53, true), .mv 55 (.t 9)⟩ ::
   ⟨some (53, true), .call (some 56) 11 [(.t 54), (.t 55)]⟩ ::
   ⟨none, .pick 57 (.t 53) (.t 56) (.c (.v (.bool false)))⟩ ::
   ⟨none, .mv 58 (.t 57)⟩ ::
   ⟨some (58, true), .mv 59 (.t 7)⟩ ::
   ⟨some (58, true), .mv 60 (.t 11)⟩ ::
   ⟨some (58, true), .call (some 61) 11 [(.t 59), (.t 60)]⟩ ::
   ⟨none, .pick 62 (.t 58) (.t 61) (.c (.v (.bool false)))⟩ ::
   ⟨none, .asg 4 (.t 62)⟩ :: []))
 (.seq (.scr r3) .ret)))))))),
  63, [4]⟩

/-- coinage/coinagelaw06.PosetAgain -/
abbrev K4 : Nat := 106
def hints4 : List (List Bool) := [bits 119 [6], bits 119 [6], bits 119 [6], bits 119 [6], bits 119 [6], bits 119 [6], bits 119 [6]]
@[simp] def r4 : List Bool := bits 119 [6]
@[simp] def R4 (s6 : V) : St := tab 119 106 (fu dd 6 s6) dd
def c4 : MF := ⟨(.seq (.ops [⟨none, .asg 6 (.c (.v (.bool false)))⟩])
 (.seq (.seq (.ops [⟨none, .call (some 15) 5 []⟩,
    ⟨none, .un 16 .not (.t 15)⟩,
    ⟨none, .mv 17 (.t 16)⟩,
    ⟨some (17, false), .mv 18 (.t 1)⟩,
    ⟨some (17, false), .call (some 19) 6 [(.t 18)]⟩,
    ⟨some (17, false), .un 20 .not (.t 19)⟩,
    ⟨none, .pick 21 (.t 17) (.c (.v (.bool true))) (.t 20)⟩])
  (.cnd (.t 21)
   (.seq (.ops [⟨none, .call (some 22) 5 []⟩,
     ⟨none, .asg 6 (.t 22)⟩])
   (.seq (.scr r4) .ret))
   .skip))
 (.seq (.ops [⟨none, .mv 24 (.t 0)⟩,
   ⟨none, .mv 25 (.t 1)⟩,
   ⟨none, .call (some 26) 7 [(.t 24), (.t 25)]⟩,
   ⟨none, .mv 23 (.t 26)⟩,
   ⟨none, .ext 27 (.t 23) 0⟩,
   ⟨none, .ext 28 (.t 23) 1⟩,
   ⟨none, .asg 7 (.t 27)⟩,
   ⟨none, .asg 8 (.t 28)⟩])
 (.seq (.seq (.ops [⟨none, .mv 29 (.t 8)⟩,
    ⟨none, .bin 30 .neq .num (.t 29) (.c (.v (.int .i64 0)))⟩])
  (.cnd (.t 30)
   (.seq (.ops [⟨none, .mv 31 (.t 7)⟩,
     ⟨none, .len 32 false (.t 31)⟩,
     ⟨none, .bin 33 .eql .num (.t 32) (.c (.v (.int .i64 0)))⟩,
     ⟨none, .mv 34 (.t 33)⟩,
     ⟨some (34, true), .mv 35 (.t 0)⟩,
     ⟨some (34, true), .mv 36 (.t 1)⟩,
     ⟨some (34, true), .call (some 37) 12 [(.t 35), (.t 36)]⟩,
     ⟨some (34, true), .un 38 .not (.t 37)⟩,
     ⟨none, .pick 39 (.t 34) (.t 38) (.c (.v (.bool false)))⟩,
     ⟨none, .asg 6 (.t 39)⟩])
   (.seq (.scr r4) .ret))
   .skip))
 (.seq (.ops [⟨none, .mv 41 (.t 0)⟩,
   ⟨none, .mv 42 (.t 7)⟩,
   ⟨none, .call (some 43) 7 [(.t 41), (.t 42)]⟩,
   ⟨none, .mv 40 (.t 43)⟩,
   ⟨none, .ext 44 (.t 40) 0⟩,
   ⟨none, .ext 45 (.t 40) 1⟩,
   ⟨none, .asg 9 (.t 44)⟩,
   ⟨none, .asg 10 (.t 45)⟩])
 (.seq (.seq (.ops [⟨none, .mv 46 (.t 10)⟩,
    ⟨none, .bin 47 .neq .num (.t 46) (.c (.v (.int .i64 0)))⟩,
    ⟨none, .mv 48 (.t 47)⟩,
    ⟨some (48, false), .mv 49 (.t 7)⟩,
    ⟨some (48, false), .mv 50 (.t 9)⟩,
    ⟨some (48, false), .call (some 51) 11 [(.t 49), (.t 50)]⟩,
    ⟨some (48, false), .un 52 .not (.t 51)⟩,
    ⟨none, .pick 53 (.t 48) (.c (.v (.bool true))) (.t 52)⟩])
  (.cnd (.t 53)
   (.seq (.ops [⟨none, .asg 6 (.c (.v (.bool false)))⟩])
   (.seq (.scr r4) .ret))
   .skip))
 (.seq (.ops [⟨none, .mv 55 (.t 0)⟩,
   ⟨none, .mv 56 (.t 1)⟩,
   ⟨none, .call (some 57) 8 [(.t 55), (.t 56)]⟩,
   ⟨none, .mv 54 (.t 57)⟩,
   ⟨none, .ext 58 (.t 54) 0⟩,
   ⟨none, .ext 59 (.t 54) 1⟩,
   ⟨none, .asg 11 (.t 58)⟩,
   ⟨none, .asg 12 (.t 59)⟩])
 (.seq (.seq (.ops [⟨none, .mv 60 (.t 12)⟩,
    ⟨none, .bin 61 .neq .num (.t 60) (.c (.v (.int .i64 0)))⟩])
  (.cnd (.t 61)
   (.seq (.ops [⟨none, .mv 62 (.t 12)⟩,
     ⟨none, .bin 63 .eql .num (.t 62) (.c (.v (.int .i64 11)))⟩,
     ⟨none, .mv 64 (.t 63)⟩,
     ⟨some (64, true), .mv 65 (.t 0)⟩,
     ⟨some (64, true), .mv 66 (.t 1)⟩,
     ⟨some (64, true), .call (some 67) 13 [(.t 65), (.t 66)]⟩,
     ⟨some (64, true), .un 68 .not (.t 67)⟩,
     ⟨none, .pick 69 (.t 64) (.t 68) (.c (.v (.bool false)))⟩,
     ⟨none, .asg 6 (.t 69)⟩])
   (.seq (.scr r4) .ret))
   .skip))
 (.seq (.ops [⟨none, .mv 71 (.t 0)⟩,
   ⟨none, .mv 72 (.t 11)⟩,
   ⟨none, .call (some 73) 7 [(.t 71), (.t 72)]⟩,
   ⟨none, .mv 70 (.t 73)⟩,
   ⟨none, .ext 74 (.t 70) 0⟩,
   ⟨none, .ext 75 (.t 70) 1⟩,
   ⟨none, .asg 9 (.t 74)⟩,
   ⟨none, .asg 10 (.t 75)⟩])
 (.seq (.seq (.ops [⟨none, .mv 76 (.t 10)⟩,
    ⟨none, .bin 77 .neq .num (.t 76) (.c (.v (.int .i64 0)))⟩,
    ⟨none, .mv 78 (.t 77)⟩,
    ⟨some (78, false), .mv 79 (.t 7)⟩,
    ⟨some (78, false), .mv 80 (.t 9)⟩,
    ⟨some (78, false), .call (some 81) 11 [(.t 79), (.t 80)]⟩,
    ⟨some (78, false), .un 82 .not (.t 81)⟩,
    ⟨none, .pick 83 (.t 78) (.c (.v (.bool true))) (.t 82)⟩])
  (.cnd (.t 83)
   (.seq (.ops [⟨none, .asg 6 (.c (.v (.bool false)))⟩])
   (.seq (.scr r4) .ret))
   .skip))
 (.seq (.seq (.ops [⟨none, .mv 84 (.t 11)⟩,
    ⟨none, .len 85 false (.t 84)⟩,
    ⟨none, .bin 86 .eql .num (.t 85) (.c (.v (.int .i64 0)))⟩])
  (.cnd (.t 86)
   (.seq (.ops [⟨none, .mv 87 (.t 7)⟩,
     ⟨none, .len 88 false (.t 87)⟩,
     ⟨none, .bin 89 .eql .num (.t 88) (.c (.v (.int .i64 0)))⟩,
     ⟨none, .asg 6 (.t 89)⟩])
   (.seq (.scr r4) .ret))
   .skip))
 (.seq (.ops [⟨none, .mv 90 (.t 2)⟩,
   ⟨none, .cvi 91 .i64 (.t 90)⟩,
   ⟨none, .mv 92 (.t 11)⟩,
   ⟨none, .len 93 false (.t 92)⟩,
   ⟨none, .bin 94 .rem .num (.t 91) (.t 93)⟩,
   ⟨none, .asg 13 (.t 94)⟩])
 (.seq (.drw [⟨none, .mz 95 2⟩,
   ⟨none, .mv 96 (.t 11)⟩,
   ⟨none, .mv 97 (.t 13)⟩,
   ⟨none, .sl 98 2 (.t 96) none (some (.t 97))⟩,
   ⟨none, .app 99 2 (.t 95) (.t 98)⟩,
   ⟨none, .mv 100 (.t 11)⟩,
   ⟨none, .mv 101 (.t 13)⟩,
   ⟨none, .bin 102 .add .num (.t 101) (.c (.v (.int .i64 1)))⟩,
   ⟨none, .sl 103 2 (.t 100) (some (.t 102)) none⟩] [⟨none, .app 104 2 (.t 99) (.t 103)⟩,
   ⟨none, .asg 14 (.t 104)⟩])
 (.seq (.ops [⟨none, .mv 106 (.t 0)⟩,
   ⟨none, .mv 107 (.t 14)⟩,
   ⟨none, .call (some 108) 7 [(.t 106), (.t 107)]⟩,
   ⟨none, .mv 105 (.t 108)⟩,
   ⟨none, .ext 109 (.t 105) 0⟩,
   ⟨none, .ext 110 (.t 105) 1⟩,
   ⟨none, .asg 9 (.t 109)⟩,
   ⟨none, .asg 10 (.t 110)⟩])
 (.seq (.ops [⟨none, .mv 111 (.t 10)⟩,
   ⟨none, .bin 112 .eql .num (.t 111) (.c (.v (.int .i64 0)))⟩,
   ⟨none, .mv 113 (.t 112)⟩,
   ⟨some (113, true), .mv 114 (.t 7)⟩,
   ⟨some (113, true), .mv 115 (.t 9)⟩,
   ⟨some (113, true), .call (some 116) 11 [(.t 114), (.t 115)]⟩,
   ⟨some (113, true), .un 117 .not (.t 116)⟩,
   ⟨none, .pick 118 (.t 113) (.t 117) (.c (.v (.bool false)))⟩,
   ⟨none, .asg 6 (.t 118)⟩])
 (.seq (.scr r4) .ret)))))))))))))))),
  119, [6]⟩

/-- coinage/coinagelaw06.awake -/
abbrev K5 : Nat := 16
def hints5 : List (List Bool) := [bits 36 [0]]
@[simp] def r5 : List Bool := bits 36 [0]
@[simp] def R5 (s0 : V) : St := tab 36 16 (fu dd 0 s0) dd
def c5 : MF := ⟨(.seq (.ops [⟨none, .asg 0 (.c (.v (.bool false)))⟩])
 (.seq (.ops [⟨none, .bld 6 [(.v (.int .i64 0)), (.v (.int .i64 0))] [(0, 1, (.c (.v (.int .i64 0)))), (1, 1, (.c (.v (.int .i64 2))))]⟩,
   ⟨none, .bld 7 [(.v (.int .i64 0)), (.v (.int .i64 0))] [(0, 1, (.c (.v (.int .i64 1)))), (1, 1, (.c (.v (.int .i64 2))))]⟩,
   ⟨none, .bld 8 [(.v (.int .i64 0)), (.v (.int .i64 0))] [(0, 1, (.c (.v (.int .i64 2)))), (1, 1, (.c (.v (.int .i64 3))))]⟩,
   ⟨none, .bs 9 2 3 [(.v (.int .i64 0)), (.v (.int .i64 0))] [(0, 2, (.t 6)), (2, 2, (.t 7)), (4, 2, (.t 8))]⟩,
   ⟨none, .asg 1 (.t 9)⟩])
 (.seq (.ops [⟨none, .mv 11 (.t 1)⟩,
   ⟨none, .call (some 12) 14 [(.c (.v (.int .i64 4))), (.t 11)]⟩,
   ⟨none, .mv 10 (.t 12)⟩,
   ⟨none, .ext 13 (.t 10) 0⟩,
   ⟨none, .ext 14 (.t 10) 1⟩,
   ⟨none, .asg 2 (.t 13)⟩,
   ⟨none, .asg 3 (.t 14)⟩])
 (.seq (.ops [⟨none, .mv 16 (.t 1)⟩,
   ⟨none, .call (some 17) 15 [(.c (.v (.int .i64 4))), (.t 16)]⟩,
   ⟨none, .mv 15 (.t 17)⟩,
   ⟨none, .ext 18 (.t 15) 0⟩,
   ⟨none, .ext 19 (.t 15) 1⟩,
   ⟨none, .asg 4 (.t 18)⟩,
   ⟨none, .asg 5 (.t 19)⟩])
 (.seq (.ops (⟨none, .mv 20 (.t 3)⟩ ::
   ⟨none, .bin 21 .eql .num (.t 20) (.c (.v (.int .i64 0)))⟩ ::
   ⟨none, .mv 22 (.t 21)⟩ ::
   ⟨some (22, true), .mv 23 (.t 2)⟩ ::
   ⟨some (22, true), .bs 24 1 4 [(.v (.int .i64 0))] [(0, 1, (.c (.v (.int .i64 0)))), (1, 1, (.c (.v (.int .i64 1)))), (2, 1, (.c (.v (.int .i64 2)))), (3, 1, (.c (.v (.int .i64 3))))]⟩ ::
   ⟨some (22, true), .call (some 25) 16 [(.t 23), (.t 24)]⟩ ::
   ⟨none, .pick 26 (.t 22) (.t 25) (.c (.v (.bool false)))⟩ ::
   ⟨none, .mv 27 (.t 26)⟩ ::
   ⟨some (27, true), .mv 28 (.t 5)⟩ ::
   ⟨some (27, true), .bin 29 .eql .num (.t 28) (.c (.v (.int .i64 0)))⟩ ::
   ⟨none, .pick 30 (.t 27) (.t 29) (.c (.v (.bool false)))⟩ ::
   ⟨none, .mv 31 (.t 30)⟩ ::
   ⟨some (31, true), .mv 32 (.t 4)⟩ ::
   ⟨some (31, true), .bs 33 1 4 [(.v (.int .i64 0))] [(0, 1, (.c (.v (.int .i64 0)))), (1, 1, (.c (.v (.int .i64 0)))), (2, 1, (.c (.v (.int .i64 1)))), (3, 1, (.c (.v (.int .i64 2))))]⟩ ::
   ⟨some (31, true), .call (some 34) 16 [(.t 32), (.t 33)]⟩ ::
   ⟨none, .pick 35 (.t 31) (.t 34) (.c (.v (.bool false)))⟩ ::
   ⟨none, .asg 0 (.t 35)⟩ :: []))
 (.seq (.scr r5) .ret)))))),
  36, [0]⟩

/-- coinage/coinagelaw06.few -/
abbrev K6 : Nat := 3
def hints6 : List (List Bool) := [bits 6 [2]]
@[simp] def r6 : List Bool := bits 6 [2]
@[simp] def R6 (s2 : V) : St := tab 6 3 (fu dd 2 s2) dd
def c6 : MF := ⟨(.seq (.ops [⟨none, .asg 2 (.c (.v (.bool false)))⟩])
 (.seq (.ops [⟨none, .mv 3 (.t 0)⟩,
   ⟨none, .len 4 false (.t 3)⟩,
   ⟨none, .bin 5 .leq .num (.t 4) (.c (.v (.int .i64 150)))⟩,
   ⟨none, .asg 2 (.t 5)⟩])
 (.seq (.scr r6) .ret))),
  6, [2]⟩

/-- coinage/poset.Closure -/
abbrev K7 : Nat := 6
def hints7 : List (List Bool) := [bits 14 [4, 5], bits 14 [4, 5]]
@[simp] def r7 : List Bool := bits 14 [4, 5]
@[simp] def R7 (s4 s5 : V) : St := tab 14 6 (fu (fu dd 5 s5) 4 s4) dd
def c7 : MF := ⟨(.seq (.ops [⟨none, .asg 4 (.c (.nd (.sl true 2 0) []))⟩,
   ⟨none, .asg 5 (.c (.v (.int .i64 0)))⟩])
 (.seq (.seq (.ops [⟨none, .mv 6 (.t 0)⟩,
    ⟨none, .mv 7 (.t 1)⟩,
    ⟨none, .call (some 8) 12 [(.t 6), (.t 7)]⟩,
    ⟨none, .un 9 .not (.t 8)⟩])
  (.cnd (.t 9)
   (.seq (.ops [⟨none, .asg 4 (.c (.nd (.sl true 2 0) []))⟩,
     ⟨none, .asg 5 (.c (.v (.int .i64 1)))⟩])
   (.seq (.scr r7) .ret))
   .skip))
 (.seq (.ops [⟨none, .mv 10 (.t 0)⟩,
   ⟨none, .mv 11 (.t 1)⟩,
   ⟨none, .call (some 12) 18 [(.t 10), (.t 11)]⟩,
   ⟨none, .call (some 13) 17 [(.t 12)]⟩,
   ⟨none, .asg 4 (.t 13)⟩,
   ⟨none, .asg 5 (.c (.v (.int .i64 0)))⟩])
 (.seq (.scr r7) .ret)))),
  14, [4, 5]⟩

/-- coinage/poset.Reduction -/
abbrev K8 : Nat := 27
def hints8 : List (List Bool) := [bits 54 [4, 5], bits 54 [4, 5], bits 54 [7], bits 54 [6, 7, 24, 25, 26], bits 54 [7], bits 54 [6, 7, 24, 25, 26], bits 54 [6, 7, 8, 9, 10, 24, 25, 26], bits 54 [6, 7, 8, 9, 10, 11, 24, 25, 26], bits 54 [6, 7, 8, 9, 10, 24, 25, 26], bits 54 [6, 7, 8, 9, 10, 11, 24, 25, 26], bits 54 [4, 5]]
@[simp] def r8 : List Bool := bits 54 [4, 5]
@[simp] def R8 (s4 s5 : V) : St := tab 54 27 (fu (fu dd 5 s5) 4 s4) dd
@[simp] def x8_0 : List Bool := bits 54 [7]
@[simp] def X8_0 (s7 : V) : St := tab 54 27 (fu dd 7 s7) dd
@[simp] def h8_0 : List Bool := bits 54 [6, 7, 24, 25, 26]
@[simp] def L8_0 (s6 s7 s24 s25 s26 : V) : St := tab 54 27 (fu (fu (fu (fu (fu dd 26 s26) 25 s25) 24 s24) 7 s7) 6 s6) dd
@[simp] def x8_1 : List Bool := bits 54 [6, 7, 24, 25, 26]
@[simp] def X8_1 (s6 s7 s24 s25 s26 : V) : St := tab 54 27 (fu (fu (fu (fu (fu dd 26 s26) 25 s25) 24 s24) 7 s7) 6 s6) dd
@[simp] def x8_2 : List Bool := bits 54 [6, 7, 8, 9, 10, 24, 25, 26]
@[simp] def X8_2 (s6 s7 s8 s9 s10 s24 s25 s26 : V) : St := tab 54 27 (fu (fu (fu (fu (fu (fu (fu (fu dd 26 s26) 25 s25) 24 s24) 10 s10) 9 s9) 8 s8) 7 s7) 6 s6) dd
@[simp] def h8_1 : List Bool := bits 54 [6, 7, 8, 9, 10, 11, 24, 25, 26]
@[simp] def L8_1 (s6 s7 s8 s9 s10 s11 s24 s25 s26 : V) : St := tab 54 27 (fu (fu (fu (fu (fu (fu (fu (fu (fu dd 26 s26) 25 s25) 24 s24) 11 s11) 10 s10) 9 s9) 8 s8) 7 s7) 6 s6) dd
@[simp] def x8_3 : List Bool := bits 54 [6, 7, 8, 9, 10, 11, 24, 25, 26]
@[simp] def X8_3 (s6 s7 s8 s9 s10 s11 s24 s25 s26 : V) : St := tab 54 27 (fu (fu (fu (fu (fu (fu (fu (fu (fu dd 26 s26) 25 s25) 24 s24) 11 s11) 10 s10) 9 s9) 8 s8) 7 s7) 6 s6) dd
def b8_1 : MC := .seq (.scr h8_1)
 (.seq (.seq (.ops [⟨none, .mv 32 (.t 11)⟩,
    ⟨none, .bin 33 .neq .num (.t 32) (.c (.v (.int .u32 0)))⟩])
  (.cnd (.t 33)
   .skip
   (.seq (.scr x8_2) (.ex 2))))
 (.seq (.seq (.blk 3 (.ops [⟨none, .mv 38 (.t 10)⟩,
    ⟨none, .mv 39 (.t 6)⟩,
    ⟨none, .mv 40 (.t 11)⟩,
    ⟨none, .call (some 41) 20 [(.t 40)]⟩,
    ⟨none, .ixs 42 1 (.t 39) (.t 41)⟩,
    ⟨none, .ld1 43 (.t 42)⟩,
    ⟨none, .bin 44 .or .num (.t 38) (.t 43)⟩,
    ⟨none, .asg 10 (.t 44)⟩])) (.scr x8_3))
 (.ops [⟨none, .mv 34 (.t 11)⟩,
  ⟨none, .mv 35 (.t 11)⟩,
  ⟨none, .bin 36 .sub .num (.t 35) (.c (.v (.int .u32 1)))⟩,
  ⟨none, .bin 37 .and .num (.t 34) (.t 36)⟩,
  ⟨none, .asg 11 (.t 37)⟩])))
def b8_0 : MC := .seq (.scr h8_0)
 (.seq (.ops [⟨none, .bin 27 .lss .num (.t 26) (.t 25)⟩])
 (.seq (.cnd (.t 27)
   .skip
   (.seq (.scr x8_0) (.ex 0)))
 (.seq (.seq (.blk 1 (.seq (.ops [⟨none, .mv 28 (.t 26)⟩,
     ⟨none, .ixs 29 1 (.t 24) (.t 26)⟩,
     ⟨none, .ld1 30 (.t 29)⟩,
     ⟨none, .asg 8 (.t 28)⟩,
     ⟨none, .asg 9 (.t 30)⟩])
   (.seq (.ops [⟨none, .asg 10 (.c (.v (.int .u32 0)))⟩])
   (.seq (.seq (.ops [⟨none, .mv 31 (.t 9)⟩,
      ⟨none, .asg 11 (.t 31)⟩])
    (.seq (.blk 2 (.lop b8_1)) (.scr x8_2)))
   (.ops [⟨none, .mv 45 (.t 7)⟩,
    ⟨none, .mv 46 (.t 8)⟩,
    ⟨none, .mv 47 (.t 9)⟩,
    ⟨none, .mv 48 (.t 10)⟩,
    ⟨none, .bin 49 .andNot .num (.t 47) (.t 48)⟩,
    ⟨none, .ixs 50 1 (.t 45) (.t 46)⟩,
    ⟨none, .stn none 1 (.t 50) (.t 49)⟩]))))) (.scr x8_1))
 (.ops [⟨none, .bin 51 .add .num (.t 26) (.c (.v (.int .i64 1)))⟩,
  ⟨none, .mv 26 (.t 51)⟩]))))
def c8 : MF := ⟨(.seq (.ops [⟨none, .asg 4 (.c (.nd (.sl true 2 0) []))⟩,
   ⟨none, .asg 5 (.c (.v (.int .i64 0)))⟩])
 (.seq (.seq (.ops [⟨none, .mv 12 (.t 0)⟩,
    ⟨none, .mv 13 (.t 1)⟩,
    ⟨none, .call (some 14) 12 [(.t 12), (.t 13)]⟩,
    ⟨none, .un 15 .not (.t 14)⟩])
  (.cnd (.t 15)
   (.seq (.ops [⟨none, .asg 4 (.c (.nd (.sl true 2 0) []))⟩,
     ⟨none, .asg 5 (.c (.v (.int .i64 1)))⟩])
   (.seq (.scr r8) .ret))
   .skip))
 (.seq (.ops [⟨none, .mv 16 (.t 0)⟩,
   ⟨none, .mv 17 (.t 1)⟩,
   ⟨none, .call (some 18) 18 [(.t 16), (.t 17)]⟩,
   ⟨none, .asg 6 (.t 18)⟩])
 (.seq (.seq (.ops [⟨none, .mv 19 (.t 6)⟩,
    ⟨none, .call (some 20) 19 [(.t 19)]⟩,
    ⟨none, .un 21 .not (.t 20)⟩])
  (.cnd (.t 21)
   (.seq (.ops [⟨none, .asg 4 (.c (.nd (.sl true 2 0) []))⟩,
     ⟨none, .asg 5 (.c (.v (.int .i64 11)))⟩])
   (.seq (.scr r8) .ret))
   .skip))
 (.seq (.ops [⟨none, .mv 22 (.t 0)⟩,
   ⟨none, .mks 23 1 [(.v (.int .u32 0))] (.t 22) (.t 22)⟩,
   ⟨none, .asg 7 (.t 23)⟩])
 (.seq (.seq (.ops [⟨none, .mv 24 (.t 6)⟩,
    ⟨none, .len 25 false (.t 24)⟩,
    ⟨none, .mv 26 (.c (.v (.int .i64 0)))⟩])
  (.seq (.blk 0 (.lop b8_0)) (.scr x8_0)))
 (.seq (.ops [⟨none, .mv 52 (.t 7)⟩,
   ⟨none, .call (some 53) 17 [(.t 52)]⟩,
   ⟨none, .asg 4 (.t 53)⟩,
   ⟨none, .asg 5 (.c (.v (.int .i64 0)))⟩])
 (.seq (.scr r8) .ret)))))))),
  54, [4, 5]⟩

/-- coinage/coinageref06.Closure -/
abbrev K9 : Nat := 10
def hints9 : List (List Bool) := [bits 44 [4, 5], bits 44 [7], bits 44 [0, 6, 7, 8], bits 44 [7], bits 44 [0, 6, 7, 8], bits 44 [0, 6, 7, 8], bits 44 [0, 6, 7, 8, 9], bits 44 [0, 6, 7, 8], bits 44 [0, 6, 7, 8, 9], bits 44 [4, 5]]
@[simp] def r9 : List Bool := bits 44 [4, 5]
@[simp] def R9 (s4 s5 : V) : St := tab 44 10 (fu (fu dd 5 s5) 4 s4) dd
@[simp] def x9_0 : List Bool := bits 44 [7]
@[simp] def X9_0 (s7 : V) : St := tab 44 10 (fu dd 7 s7) dd
@[simp] def h9_0 : List Bool := bits 44 [0, 6, 7, 8]
@[simp] def L9_0 (s0 s6 s7 s8 : V) : St := tab 44 10 (fu (fu (fu (fu dd 8 s8) 7 s7) 6 s6) 0 s0) dd
@[simp] def x9_1 : List Bool := bits 44 [0, 6, 7, 8]
@[simp] def X9_1 (s0 s6 s7 s8 : V) : St := tab 44 10 (fu (fu (fu (fu dd 8 s8) 7 s7) 6 s6) 0 s0) dd
@[simp] def x9_2 : List Bool := bits 44 [0, 6, 7, 8]
@[simp] def X9_2 (s0 s6 s7 s8 : V) : St := tab 44 10 (fu (fu (fu (fu dd 8 s8) 7 s7) 6 s6) 0 s0) dd
@[simp] def h9_1 : List Bool := bits 44 [0, 6, 7, 8, 9]
@[simp] def L9_1 (s0 s6 s7 s8 s9 : V) : St := tab 44 10 (fu (fu (fu (fu (fu dd 9 s9) 8 s8) 7 s7) 6 s6) 0 s0) dd
@[simp] def x9_3 : List Bool := bits 44 [0, 6, 7, 8, 9]
@[simp] def X9_3 (s0 s6 s7 s8 s9 : V) : St := tab 44 10 (fu (fu (fu (fu (fu dd 9 s9) 8 s8) 7 s7) 6 s6) 0 s0) dd
def b9_1 : MC := .seq (.scr h9_1)
 (.seq (.seq (.ops [⟨none, .mv 22 (.t 9)⟩,
    ⟨none, .mv 23 (.t 0)⟩,
    ⟨none, .bin 24 .lss .num (.t 22) (.t 23)⟩])
  (.cnd (.t 24)
   .skip
   (.seq (.scr x9_2) (.ex 2))))
 (.seq (.seq (.blk 3 (.seq (.ops [⟨none, .mv 27 (.t 8)⟩,
     ⟨none, .mv 28 (.t 9)⟩,
     ⟨none, .bin 29 .neq .num (.t 27) (.t 28)⟩,
     ⟨none, .mv 30 (.t 29)⟩,
     ⟨some (30, true), .mv 31 (.t 8)⟩,
     ⟨some (30, true), .mv 32 (.t 9)⟩,
     ⟨some (30, true), .ixa 33 24 24 (.t 6) (.t 31)⟩,
     ⟨some (30, true), .ixa 34 1 24 (.t 33) (.t 32)⟩,
     ⟨some (30, true), .ld1 35 (.t 34)⟩,
     ⟨none, .pick 36 (.t 30) (.t 35) (.c (.v (.bool false)))⟩])
   (.cnd (.t 36)
    (.ops [⟨none, .mv 37 (.t 7)⟩,
     ⟨none, .mv 38 (.t 8)⟩,
     ⟨none, .mv 39 (.t 9)⟩,
     ⟨none, .bld 40 [(.v (.int .i64 0)), (.v (.int .i64 0))] [(0, 1, (.t 38)), (1, 1, (.t 39))]⟩,
     ⟨none, .bs 41 2 1 [(.v (.int .i64 0)), (.v (.int .i64 0))] [(0, 2, (.t 40))]⟩,
     ⟨none, .app 42 2 (.t 37) (.t 41)⟩,
     ⟨none, .asg 7 (.t 42)⟩])
    .skip))) (.scr x9_3))
 (.ops [⟨none, .mv 25 (.t 9)⟩,
  ⟨none, .bin 26 .add .num (.t 25) (.c (.v (.int .i64 1)))⟩,
  ⟨none, .asg 9 (.t 26)⟩])))
def b9_0 : MC := .seq (.scr h9_0)
 (.seq (.seq (.ops [⟨none, .mv 17 (.t 8)⟩,
    ⟨none, .mv 18 (.t 0)⟩,
    ⟨none, .bin 19 .lss .num (.t 17) (.t 18)⟩])
  (.cnd (.t 19)
   .skip
   (.seq (.scr x9_0) (.ex 0))))
 (.seq (.seq (.blk 1 (.seq (.ops [⟨none, .asg 9 (.c (.v (.int .i64 0)))⟩])
   (.seq (.blk 2 (.lop b9_1)) (.scr x9_2)))) (.scr x9_1))
 (.ops [⟨none, .mv 20 (.t 8)⟩,
  ⟨none, .bin 21 .add .num (.t 20) (.c (.v (.int .i64 1)))⟩,
  ⟨none, .asg 8 (.t 21)⟩])))
def c9 : MF := ⟨(.seq (.ops [⟨none, .asg 4 (.c (.nd (.sl true 2 0) []))⟩,
   ⟨none, .asg 5 (.c (.v (.int .i64 0)))⟩])
 (.seq (.seq (.ops [⟨none, .mv 10 (.t 0)⟩,
    ⟨none, .mv 11 (.t 1)⟩,
    ⟨none, .call (some 12) 21 [(.t 10), (.t 11)]⟩,
    ⟨none, .un 13 .not (.t 12)⟩])
  (.cnd (.t 13)
   (.seq (.ops [⟨none, .asg 4 (.c (.nd (.sl true 2 0) []))⟩,
     ⟨none, .asg 5 (.c (.v (.int .i64 1)))⟩])
   (.seq (.scr r9) .ret))
   .skip))
 (.seq (.ops [⟨none, .mv 14 (.t 0)⟩,
   ⟨none, .mv 15 (.t 1)⟩,
   ⟨none, .call (some 16) 22 [(.t 14), (.t 15)]⟩,
   ⟨none, .alc 6 (rp 576 (.v (.bool false)))⟩,
   ⟨none, .stn none 576 (.t 6) (.t 16)⟩])
 (.seq (.ops [⟨none, .asg 7 (.c (.nd (.sl true 2 0) []))⟩])
 (.seq (.seq (.ops [⟨none, .asg 8 (.c (.v (.int .i64 0)))⟩])
  (.seq (.blk 0 (.lop b9_0)) (.scr x9_0)))
 (.seq (.ops [⟨none, .mv 43 (.t 7)⟩,
   ⟨none, .asg 4 (.t 43)⟩,
   ⟨none, .asg 5 (.c (.v (.int .i64 0)))⟩])
 (.seq (.scr r9) .ret))))))),
  44, [4, 5]⟩

/-- coinage/coinageref06.Reduction -/
abbrev K10 : Nat := 12
def hints10 : List (List Bool) := [bits 67 [4, 5], bits 67 [4, 5], bits 67 [7], bits 67 [0, 6, 7, 8], bits 67 [7], bits 67 [0, 6, 7, 8], bits 67 [0, 6, 7, 8], bits 67 [0, 6, 7, 8, 9], bits 67 [0, 6, 7, 8], bits 67 [0, 6, 7, 8, 9], bits 67 [0, 6, 7, 8, 9, 10], bits 67 [0, 6, 7, 8, 9, 10, 11], bits 67 [0, 6, 7, 8, 9, 10], bits 67 [0, 6, 7, 8, 9, 10, 11], bits 67 [4, 5]]
@[simp] def r10 : List Bool := bits 67 [4, 5]
@[simp] def R10 (s4 s5 : V) : St := tab 67 12 (fu (fu dd 5 s5) 4 s4) dd
@[simp] def x10_0 : List Bool := bits 67 [7]
@[simp] def X10_0 (s7 : V) : St := tab 67 12 (fu dd 7 s7) dd
@[simp] def h10_0 : List Bool := bits 67 [0, 6, 7, 8]
@[simp] def L10_0 (s0 s6 s7 s8 : V) : St := tab 67 12 (fu (fu (fu (fu dd 8 s8) 7 s7) 6 s6) 0 s0) dd
@[simp] def x10_1 : List Bool := bits 67 [0, 6, 7, 8]
@[simp] def X10_1 (s0 s6 s7 s8 : V) : St := tab 67 12 (fu (fu (fu (fu dd 8 s8) 7 s7) 6 s6) 0 s0) dd
@[simp] def x10_2 : List Bool := bits 67 [0, 6, 7, 8]
@[simp] def X10_2 (s0 s6 s7 s8 : V) : St := tab 67 12 (fu (fu (fu (fu dd 8 s8) 7 s7) 6 s6) 0 s0) dd
@[simp] def h10_1 : List Bool := bits 67 [0, 6, 7, 8, 9]
@[simp] def L10_1 (s0 s6 s7 s8 s9 : V) : St := tab 67 12 (fu (fu (fu (fu (fu dd 9 s9) 8 s8) 7 s7) 6 s6) 0 s0) dd
@[simp] def x10_3 : List Bool := bits 67 [0, 6, 7, 8, 9]
@[simp] def X10_3 (s0 s6 s7 s8 s9 : V) : St := tab 67 12 (fu (fu (fu (fu (fu dd 9 s9) 8 s8) 7 s7) 6 s6) 0 s0) dd
@[simp] def x10_4 : List Bool := bits 67 [0, 6, 7, 8, 9, 10]
@[simp] def X10_4 (s0 s6 s7 s8 s9 s10 : V) : St := tab 67 12 (fu (fu (fu (fu (fu (fu dd 10 s10) 9 s9) 8 s8) 7 s7) 6 s6) 0 s0) dd
@[simp] def h10_2 : List Bool := bits 67 [0, 6, 7, 8, 9, 10, 11]
@[simp] def L10_2 (s0 s6 s7 s8 s9 s10 s11 : V) : St := tab 67 12 (fu (fu (fu (fu (fu (fu (fu dd 11 s11) 10 s10) 9 s9) 8 s8) 7 s7) 6 s6) 0 s0) dd
@[simp] def x10_5 : List Bool := bits 67 [0, 6, 7, 8, 9, 10, 11]
@[simp] def X10_5 (s0 s6 s7 s8 s9 s10 s11 : V) : St := tab 67 12 (fu (fu (fu (fu (fu (fu (fu dd 11 s11) 10 s10) 9 s9) 8 s8) 7 s7) 6 s6) 0 s0) dd
def b10_2 : MC := .seq (.scr h10_2)
 (.seq (.seq (.ops [⟨none, .mv 38 (.t 11)⟩,
    ⟨none, .mv 39 (.t 0)⟩,
    ⟨none, .bin 40 .lss .num (.t 38) (.t 39)⟩])
  (.cnd (.t 40)
   .skip
   (.seq (.scr x10_4) (.ex 4))))
 (.seq (.seq (.blk 5 (.ops (⟨none, .mv 43 (.t 10)⟩ ::
    ⟨none, .mv 44 (.t 43)⟩ ::
    ⟨some (44, true), .mv 45 (.t 8)⟩ ::
    ⟨some (44, true), .mv 46 (.t 11)⟩ ::
    ⟨some (44, true), .ixa 47 24 24 (.t 6) (.t 45)⟩ ::
    ⟨some (44, true), .ixa 48 1 24 (.t 47) (.t 46)⟩ ::
    ⟨some (44, true), .ld1 49 (.t 48)⟩ ::
    ⟨some (44, true), .mv 50 (.t 49)⟩ ::
    ⟨some (50, true), .mv 51 (.t 11)⟩ ::
    ⟨some (50, true), .mv 52 (.t 9)⟩ ::
    ⟨some (50, true), .ixa 53 24 24 (.t 6) (.t 51)⟩ ::
    ⟨some (50, true), .ixa 54 1 24 (.t 53) (.t 52)⟩ ::
    ⟨some (50, true), .ld1 55 (.t 54)⟩ ::
    ⟨some (44, true), .pick 56 (.t 50) (.t 55) (.c (.v (.bool false)))⟩ ::
    ⟨some (44, true), .un 57 .not (.t 56)⟩ ::
    ⟨none, .pick 58 (.t 44) (.t 57) (.c (.v (.bool false)))⟩ ::
    ⟨none, .asg 10 (.t 58)⟩ :: []))) (.scr x10_5))
 (.ops [⟨none, .mv 41 (.t 11)⟩,
  ⟨none, .bin 42 .add .num (.t 41) (.c (.v (.int .i64 1)))⟩,
  ⟨none, .asg 11 (.t 42)⟩])))
def b10_1 : MC := .seq (.scr h10_1)
 (.seq (.seq (.ops [⟨none, .mv 28 (.t 9)⟩,
    ⟨none, .mv 29 (.t 0)⟩,
    ⟨none, .bin 30 .lss .num (.t 28) (.t 29)⟩])
  (.cnd (.t 30)
   .skip
   (.seq (.scr x10_2) (.ex 2))))
 (.seq (.seq (.blk 3 (.seq (.ops [⟨none, .mv 33 (.t 8)⟩,
     ⟨none, .mv 34 (.t 9)⟩,
     ⟨none, .ixa 35 24 24 (.t 6) (.t 33)⟩,
     ⟨none, .ixa 36 1 24 (.t 35) (.t 34)⟩,
     ⟨none, .ld1 37 (.t 36)⟩,
     ⟨none, .asg 10 (.t 37)⟩])
   (.seq (.seq (.ops [⟨none, .asg 11 (.c (.v (.int .i64 0)))⟩])
    (.seq (.blk 4 (.lop b10_2)) (.scr x10_4)))
   (.seq (.ops [⟨none, .mv 59 (.t 10)⟩])
   (.cnd (.t 59)
    (.ops [⟨none, .mv 60 (.t 7)⟩,
     ⟨none, .mv 61 (.t 8)⟩,
     ⟨none, .mv 62 (.t 9)⟩,
     ⟨none, .bld 63 [(.v (.int .i64 0)), (.v (.int .i64 0))] [(0, 1, (.t 61)), (1, 1, (.t 62))]⟩,
     ⟨none, .bs 64 2 1 [(.v (.int .i64 0)), (.v (.int .i64 0))] [(0, 2, (.t 63))]⟩,
     ⟨none, .app 65 2 (.t 60) (.t 64)⟩,
     ⟨none, .asg 7 (.t 65)⟩])
    .skip))))) (.scr x10_3))
 (.ops [⟨none, .mv 31 (.t 9)⟩,
  ⟨none, .bin 32 .add .num (.t 31) (.c (.v (.int .i64 1)))⟩,
  ⟨none, .asg 9 (.t 32)⟩])))
def b10_0 : MC := .seq (.scr h10_0)
 (.seq (.seq (.ops [⟨none, .mv 23 (.t 8)⟩,
    ⟨none, .mv 24 (.t 0)⟩,
    ⟨none, .bin 25 .lss .num (.t 23) (.t 24)⟩])
  (.cnd (.t 25)
   .skip
   (.seq (.scr x10_0) (.ex 0))))
 (.seq (.seq (.blk 1 (.seq (.ops [⟨none, .asg 9 (.c (.v (.int .i64 0)))⟩])
   (.seq (.blk 2 (.lop b10_1)) (.scr x10_2)))) (.scr x10_1))
 (.ops [⟨none, .mv 26 (.t 8)⟩,
  ⟨none, .bin 27 .add .num (.t 26) (.c (.v (.int .i64 1)))⟩,
  ⟨none, .asg 8 (.t 27)⟩])))
def c10 : MF := ⟨(.seq (.ops [⟨none, .asg 4 (.c (.nd (.sl true 2 0) []))⟩,
   ⟨none, .asg 5 (.c (.v (.int .i64 0)))⟩])
 (.seq (.seq (.ops [⟨none, .mv 12 (.t 0)⟩,
    ⟨none, .mv 13 (.t 1)⟩,
    ⟨none, .call (some 14) 21 [(.t 12), (.t 13)]⟩,
    ⟨none, .un 15 .not (.t 14)⟩])
  (.cnd (.t 15)
   (.seq (.ops [⟨none, .asg 4 (.c (.nd (.sl true 2 0) []))⟩,
     ⟨none, .asg 5 (.c (.v (.int .i64 1)))⟩])
   (.seq (.scr r10) .ret))
   .skip))
 (.seq (.seq (.ops [⟨none, .mv 16 (.t 0)⟩,
    ⟨none, .mv 17 (.t 1)⟩,
    ⟨none, .call (some 18) 23 [(.t 16), (.t 17)]⟩,
    ⟨none, .un 19 .not (.t 18)⟩])
  (.cnd (.t 19)
   (.seq (.ops [⟨none, .asg 4 (.c (.nd (.sl true 2 0) []))⟩,
     ⟨none, .asg 5 (.c (.v (.int .i64 11)))⟩])
   (.seq (.scr r10) .ret))
   .skip))
 (.seq (.ops [⟨none, .mv 20 (.t 0)⟩,
   ⟨none, .mv 21 (.t 1)⟩,
   ⟨none, .call (some 22) 22 [(.t 20), (.t 21)]⟩,
   ⟨none, .alc 6 (rp 576 (.v (.bool false)))⟩,
   ⟨none, .stn none 576 (.t 6) (.t 22)⟩])
 (.seq (.ops [⟨none, .asg 7 (.c (.nd (.sl true 2 0) []))⟩])
 (.seq (.seq (.ops [⟨none, .asg 8 (.c (.v (.int .i64 0)))⟩])
  (.seq (.blk 0 (.lop b10_0)) (.scr x10_0)))
 (.seq (.ops [⟨none, .mv 66 (.t 7)⟩,
   ⟨none, .asg 4 (.t 66)⟩,
   ⟨none, .asg 5 (.c (.v (.int .i64 0)))⟩])
 (.seq (.scr r10) .ret)))))))),
  67, [4, 5]⟩

/-- coinage/coinagebase.Arcs -/
abbrev K11 : Nat := 6
def hints11 : List (List Bool) := [bits 26 [4], bits 26 [], bits 26 [0, 1, 5], bits 26 [], bits 26 [0, 1, 5], bits 26 [4], bits 26 [4]]
@[simp] def r11 : List Bool := bits 26 [4]
@[simp] def R11 (s4 : V) : St := tab 26 6 (fu dd 4 s4) dd
@[simp] def x11_0 : List Bool := bits 26 []
@[simp] def X11_0 : St := tab 26 6 dd dd
@[simp] def h11_0 : List Bool := bits 26 [0, 1, 5]
@[simp] def L11_0 (s0 s1 s5 : V) : St := tab 26 6 (fu (fu (fu dd 5 s5) 1 s1) 0 s0) dd
@[simp] def x11_1 : List Bool := bits 26 [0, 1, 5]
@[simp] def X11_1 (s0 s1 s5 : V) : St := tab 26 6 (fu (fu (fu dd 5 s5) 1 s1) 0 s0) dd
def b11_0 : MC := .seq (.scr h11_0)
 (.seq (.seq (.ops [⟨none, .mv 11 (.t 5)⟩,
    ⟨none, .mv 12 (.t 0)⟩,
    ⟨none, .len 13 false (.t 12)⟩,
    ⟨none, .bin 14 .lss .num (.t 11) (.t 13)⟩])
  (.cnd (.t 14)
   .skip
   (.seq (.scr x11_0) (.ex 0))))
 (.seq (.seq (.blk 1 (.seq (.drw [⟨none, .mv 17 (.t 0)⟩,
     ⟨none, .mv 18 (.t 5)⟩,
     ⟨none, .ixs 19 2 (.t 17) (.t 18)⟩,
     ⟨none, .ldn 20 2 (.t 19)⟩,
     ⟨none, .mv 21 (.t 1)⟩,
     ⟨none, .mv 22 (.t 5)⟩,
     ⟨none, .ixs 23 2 (.t 21) (.t 22)⟩,
     ⟨none, .ldn 24 2 (.t 23)⟩] [⟨none, .bin 25 .neq (.ag [0, 0]) (.t 20) (.t 24)⟩])
   (.cnd (.t 25)
    (.seq (.ops [⟨none, .asg 4 (.c (.v (.bool false)))⟩])
    (.seq (.scr r11) .ret))
    .skip))) (.scr x11_1))
 (.ops [⟨none, .mv 15 (.t 5)⟩,
  ⟨none, .bin 16 .add .num (.t 15) (.c (.v (.int .i64 1)))⟩,
  ⟨none, .asg 5 (.t 16)⟩])))
def c11 : MF := ⟨(.seq (.ops [⟨none, .asg 4 (.c (.v (.bool false)))⟩])
 (.seq (.seq (.ops [⟨none, .mv 6 (.t 0)⟩,
    ⟨none, .len 7 false (.t 6)⟩,
    ⟨none, .mv 8 (.t 1)⟩,
    ⟨none, .len 9 false (.t 8)⟩,
    ⟨none, .bin 10 .neq .num (.t 7) (.t 9)⟩])
  (.cnd (.t 10)
   (.seq (.ops [⟨none, .asg 4 (.c (.v (.bool false)))⟩])
   (.seq (.scr r11) .ret))
   .skip))
 (.seq (.seq (.ops [⟨none, .asg 5 (.c (.v (.int .i64 0)))⟩])
  (.seq (.blk 0 (.lop b11_0)) (.scr x11_0)))
 (.seq (.ops [⟨none, .asg 4 (.c (.v (.bool true)))⟩])
 (.seq (.scr r11) .ret))))),
  26, [4]⟩

/-- coinage/poset.Valid -/
abbrev K12 : Nat := 16
def hints12 : List (List Bool) := [bits 83 [4], bits 83 [], bits 83 [0, 1, 13, 14, 15], bits 83 [], bits 83 [0, 1, 13, 14, 15], bits 83 [4], bits 83 [4], bits 83 [4]]
@[simp] def r12 : List Bool := bits 83 [4]
@[simp] def R12 (s4 : V) : St := tab 83 16 (fu dd 4 s4) dd
@[simp] def x12_0 : List Bool := bits 83 []
@[simp] def X12_0 : St := tab 83 16 dd dd
@[simp] def h12_0 : List Bool := bits 83 [0, 1, 13, 14, 15]
@[simp] def L12_0 (s0 s1 s13 s14 s15 : V) : St := tab 83 16 (fu (fu (fu (fu (fu dd 15 s15) 14 s14) 13 s13) 1 s1) 0 s0) dd
@[simp] def x12_1 : List Bool := bits 83 [0, 1, 13, 14, 15]
@[simp] def X12_1 (s0 s1 s13 s14 s15 : V) : St := tab 83 16 (fu (fu (fu (fu (fu dd 15 s15) 14 s14) 13 s13) 1 s1) 0 s0) dd
def b12_0 : MC := .seq (.scr h12_0)
 (.seq (.ops [⟨none, .bin 16 .lss .num (.t 15) (.t 14)⟩])
 (.seq (.cnd (.t 16)
   .skip
   (.seq (.scr x12_0) (.ex 0)))
 (.seq (.seq (.blk 1 (.seq (.ops [⟨none, .mv 17 (.t 15)⟩,
     ⟨none, .ixs 18 2 (.t 13) (.t 15)⟩,
     ⟨none, .ldn 19 2 (.t 18)⟩,
     ⟨none, .alc 6 [(.v (.int .i64 0)), (.v (.int .i64 0))]⟩,
     ⟨none, .asg 5 (.t 17)⟩,
     ⟨none, .stn none 2 (.t 6) (.t 19)⟩])
   (.seq (.seq (.ops (⟨none, .fa 20 0 (.t 6)⟩ ::
      ⟨none, .ld1 21 (.t 20)⟩ ::
      ⟨none, .bin 22 .lss .num (.t 21) (.c (.v (.int .i64 0)))⟩ ::
      ⟨none, .mv 23 (.t 22)⟩ ::
      ⟨some (23, false), .fa 24 0 (.t 6)⟩ ::
      ⟨some (23, false), .ld1 25 (.t 24)⟩ ::
      ⟨some (23, false), .mv 26 (.t 0)⟩ ::
      ⟨some (23, false), .bin 27 .geq .num (.t 25) (.t 26)⟩ ::
      ⟨none, .pick 28 (.t 23) (.c (.v (.bool true))) (.t 27)⟩ ::
      ⟨none, .mv 29 (.t 28)⟩ ::
      ⟨some (29, false), .fa 30 1 (.t 6)⟩ ::
      ⟨some (29, false), .ld1 31 (.t 30)⟩ ::
      ⟨some (29, false), .bin 32 .lss .num (.t 31) (.c (.v (.int .i64 0)))⟩ ::
      ⟨none, .pick 33 (.t 29) (.c (.v (.bool true))) (.t 32)⟩ ::
      ⟨none, .mv 34 (.t 33)⟩ ::
      ⟨some (34, false), .fa 35 1 (.t 6)⟩ ::
      ⟨some (34, false), .ld1 36 (.t 35)⟩ ::
      ⟨some (34, false), .mv 37 (.t 0)⟩ ::
      ⟨some (34, false), .bin 38 .geq .num (.t 36) (.t 37)⟩ ::
      ⟨none, .pick 39 (.t 34) (.c (.v (.bool true))) (.t 38)⟩ ::
      ⟨none, .mv 40 (.t 39)⟩ ::
      ⟨some (40, false), .fa 41 0 (.t 6)⟩ ::
      ⟨some (40, false), .ld1 42 (.t 41)⟩ ::
      ⟨some (40, false), .fa 43 1 (.t 6)⟩ ::
      ⟨some (40, false), .ld1 44 (.t 43)⟩ ::
      ⟨some (40, false), .bin 45 .eql .num (.t 42) (.t 44)⟩ ::
      ⟨none, .pick 46 (.t 40) (.c (.v (.bool true))) (.t 45)⟩ :: []))
    (.cnd (.t 46)
     (.seq (.ops [⟨none, .asg 4 (.c (.v (.bool false)))⟩])
     (.seq (.scr r12) .ret))
     .skip))
   (.seq (.drw (⟨none, .mv 47 (.t 5)⟩ ::
     ⟨none, .bin 48 .gtr .num (.t 47) (.c (.v (.int .i64 0)))⟩ ::
     ⟨none, .mv 49 (.t 48)⟩ ::
     ⟨some (49, true), .fa 50 0 (.t 6)⟩ ::
     ⟨some (49, true), .ld1 51 (.t 50)⟩ ::
     ⟨some (49, true), .mv 52 (.t 1)⟩ ::
     ⟨some (49, true), .mv 53 (.t 5)⟩ ::
     ⟨some (49, true), .bin 54 .sub .num (.t 53) (.c (.v (.int .i64 1)))⟩ ::
     ⟨some (49, true), .ixs 55 2 (.t 52) (.t 54)⟩ ::
     ⟨some (49, true), .fa 56 0 (.t 55)⟩ ::
     ⟨some (49, true), .ld1 57 (.t 56)⟩ ::
     ⟨some (49, true), .bin 58 .lss .num (.t 51) (.t 57)⟩ ::
     ⟨some (49, true), .mv 59 (.t 58)⟩ ::
     ⟨some (59, false), .fa 60 0 (.t 6)⟩ ::
     ⟨some (59, false), .ld1 61 (.t 60)⟩ ::
     ⟨some (59, false), .mv 62 (.t 1)⟩ ::
     ⟨some (59, false), .mv 63 (.t 5)⟩ ::
     ⟨some (59, false), .bin 64 .sub .num (.t 63) (.c (.v (.int .i64 1)))⟩ ::
     ⟨some (59, false), .ixs 65 2 (.t 62) (.t 64)⟩ ::
     ⟨some (59, false), .fa 66 0 (.t 65)⟩ ::
     ⟨some (59, false), .ld1 67 (.t 66)⟩ ::
     ⟨some (59, false), .bin 68 .eql .num (.t 61) (.t 67)⟩ ::
     ⟨some (59, false), .mv 69 (.t 68)⟩ ::
     ⟨some (69, true), .fa 70 1 (.t 6)⟩ ::
     ⟨some (69, true), .ld1 71 (.t 70)⟩ ::
     ⟨some (69, true), .mv 72 (.t 1)⟩ ::
     ⟨some (69, true), .mv 73 (.t 5)⟩ ::
     ⟨some (69, true), .bin 74 .sub .num (.t 73) (.c (.v (.int .i64 1)))⟩ ::
     ⟨some (69, true), .ixs 75 2 (.t 72) (.t 74)⟩ ::
     ⟨some (69, true), .fa 76 1 (.t 75)⟩ ::
     ⟨some (69, true), .ld1 77 (.t 76)⟩ :: []) [⟨some (69, true), .bin 78 .leq .num (.t 71) (.t 77)⟩,
     ⟨some (59, false), .pick 79 (.t 69) (.t 78) (.c (.v (.bool false)))⟩,
     ⟨some (49, true), .pick 80 (.t 59) (.c (.v (.bool true))) (.t 79)⟩,
     ⟨none, .pick 81 (.t 49) (.t 80) (.c (.v (.bool false)))⟩])
   (.cnd (.t 81)
    (.seq (.ops [⟨none, .asg 4 (.c (.v (.bool false)))⟩])
    (.seq (.scr r12) .ret))
    .skip))))) (.scr x12_1))
 (.ops [⟨none, .bin 82 .add .num (.t 15) (.c (.v (.int .i64 1)))⟩,
  ⟨none, .mv 15 (.t 82)⟩]))))
def c12 : MF := ⟨(.seq (.ops [⟨none, .asg 4 (.c (.v (.bool false)))⟩])
 (.seq (.seq (.ops [⟨none, .mv 7 (.t 0)⟩,
    ⟨none, .bin 8 .lss .num (.t 7) (.c (.v (.int .i64 0)))⟩,
    ⟨none, .mv 9 (.t 8)⟩,
    ⟨some (9, false), .mv 10 (.t 0)⟩,
    ⟨some (9, false), .bin 11 .gtr .num (.t 10) (.c (.v (.int .i64 24)))⟩,
    ⟨none, .pick 12 (.t 9) (.c (.v (.bool true))) (.t 11)⟩])
  (.cnd (.t 12)
   (.seq (.ops [⟨none, .asg 4 (.c (.v (.bool false)))⟩])
   (.seq (.scr r12) .ret))
   .skip))
 (.seq (.seq (.ops [⟨none, .mv 13 (.t 1)⟩,
    ⟨none, .len 14 false (.t 13)⟩,
    ⟨none, .mv 15 (.c (.v (.int .i64 0)))⟩])
  (.seq (.blk 0 (.lop b12_0)) (.scr x12_0)))
 (.seq (.ops [⟨none, .asg 4 (.c (.v (.bool true)))⟩])
 (.seq (.scr r12) .ret))))),
  83, [4]⟩

/-- coinage/poset.Acyclic -/
abbrev K13 : Nat := 5
def hints13 : List (List Bool) := [bits 14 [4]]
@[simp] def r13 : List Bool := bits 14 [4]
@[simp] def R13 (s4 : V) : St := tab 14 5 (fu dd 4 s4) dd
def c13 : MF := ⟨(.seq (.ops [⟨none, .asg 4 (.c (.v (.bool false)))⟩])
 (.seq (.ops [⟨none, .mv 5 (.t 0)⟩,
   ⟨none, .mv 6 (.t 1)⟩,
   ⟨none, .call (some 7) 12 [(.t 5), (.t 6)]⟩,
   ⟨none, .mv 8 (.t 7)⟩,
   ⟨some (8, true), .mv 9 (.t 0)⟩,
   ⟨some (8, true), .mv 10 (.t 1)⟩,
   ⟨some (8, true), .call (some 11) 18 [(.t 9), (.t 10)]⟩,
   ⟨some (8, true), .call (some 12) 19 [(.t 11)]⟩,
   ⟨none, .pick 13 (.t 8) (.t 12) (.c (.v (.bool false)))⟩,
   ⟨none, .asg 4 (.t 13)⟩])
 (.seq (.scr r13) .ret))),
  14, [4]⟩

/-- coinage/poset.Order -/
abbrev K14 : Nat := 21
def hints14 : List (List Bool) := [bits 70 [4, 5], bits 70 [0, 6], bits 70 [0, 1, 6, 18, 19, 20], bits 70 [0, 6], bits 70 [0, 1, 6, 18, 19, 20], bits 70 [10], bits 70 [0, 6, 9, 10], bits 70 [10], bits 70 [0, 6, 9, 10], bits 70 [0, 6, 9, 10, 11], bits 70 [0, 6, 9, 10, 11], bits 70 [0, 6, 9, 10, 11], bits 70 [0, 6, 9, 10, 11], bits 70 [4, 5], bits 70 [4, 5]]
@[simp] def r14 : List Bool := bits 70 [4, 5]
@[simp] def R14 (s4 s5 : V) : St := tab 70 21 (fu (fu dd 5 s5) 4 s4) dd
@[simp] def x14_0 : List Bool := bits 70 [0, 6]
@[simp] def X14_0 (s0 s6 : V) : St := tab 70 21 (fu (fu dd 6 s6) 0 s0) dd
@[simp] def h14_0 : List Bool := bits 70 [0, 1, 6, 18, 19, 20]
@[simp] def L14_0 (s0 s1 s6 s18 s19 s20 : V) : St := tab 70 21 (fu (fu (fu (fu (fu (fu dd 20 s20) 19 s19) 18 s18) 6 s6) 1 s1) 0 s0) dd
@[simp] def x14_1 : List Bool := bits 70 [0, 1, 6, 18, 19, 20]
@[simp] def X14_1 (s0 s1 s6 s18 s19 s20 : V) : St := tab 70 21 (fu (fu (fu (fu (fu (fu dd 20 s20) 19 s19) 18 s18) 6 s6) 1 s1) 0 s0) dd
def b14_0 : MC := .seq (.scr h14_0)
 (.seq (.ops [⟨none, .bin 21 .lss .num (.t 20) (.t 19)⟩])
 (.seq (.cnd (.t 21)
   .skip
   (.seq (.scr x14_0) (.ex 0)))
 (.seq (.seq (.blk 1 (.seq (.ops [⟨none, .ixs 22 2 (.t 18) (.t 20)⟩,
     ⟨none, .ldn 23 2 (.t 22)⟩,
     ⟨none, .alc 8 [(.v (.int .i64 0)), (.v (.int .i64 0))]⟩,
     ⟨none, .stn none 2 (.t 8) (.t 23)⟩])
   (.drw [⟨none, .mv 24 (.t 6)⟩,
    ⟨none, .fa 25 1 (.t 8)⟩,
    ⟨none, .ld1 26 (.t 25)⟩,
    ⟨none, .ixs 27 1 (.t 24) (.t 26)⟩,
    ⟨none, .ld1 28 (.t 27)⟩,
    ⟨none, .fa 29 0 (.t 8)⟩,
    ⟨none, .ld1 30 (.t 29)⟩,
    ⟨none, .bin 31 .shl .num (.c (.v (.int .u32 1))) (.t 30)⟩] [⟨none, .bin 32 .or .num (.t 28) (.t 31)⟩,
    ⟨none, .ixs 33 1 (.t 24) (.t 26)⟩,
    ⟨none, .stn none 1 (.t 33) (.t 32)⟩]))) (.scr x14_1))
 (.ops [⟨none, .bin 34 .add .num (.t 20) (.c (.v (.int .i64 1)))⟩,
  ⟨none, .mv 20 (.t 34)⟩]))))
@[simp] def x14_2 : List Bool := bits 70 [10]
@[simp] def X14_2 (s10 : V) : St := tab 70 21 (fu dd 10 s10) dd
@[simp] def h14_1 : List Bool := bits 70 [0, 6, 9, 10]
@[simp] def L14_1 (s0 s6 s9 s10 : V) : St := tab 70 21 (fu (fu (fu (fu dd 10 s10) 9 s9) 6 s6) 0 s0) dd
@[simp] def x14_3 : List Bool := bits 70 [0, 6, 9, 10]
@[simp] def X14_3 (s0 s6 s9 s10 : V) : St := tab 70 21 (fu (fu (fu (fu dd 10 s10) 9 s9) 6 s6) 0 s0) dd
@[simp] def x14_4 : List Bool := bits 70 [0, 6, 9, 10, 11]
@[simp] def X14_4 (s0 s6 s9 s10 s11 : V) : St := tab 70 21 (fu (fu (fu (fu (fu dd 11 s11) 10 s10) 9 s9) 6 s6) 0 s0) dd
@[simp] def h14_2 : List Bool := bits 70 [0, 6, 9, 10, 11]
@[simp] def L14_2 (s0 s6 s9 s10 s11 : V) : St := tab 70 21 (fu (fu (fu (fu (fu dd 11 s11) 10 s10) 9 s9) 6 s6) 0 s0) dd
@[simp] def x14_5 : List Bool := bits 70 [0, 6, 9, 10, 11]
@[simp] def X14_5 (s0 s6 s9 s10 s11 : V) : St := tab 70 21 (fu (fu (fu (fu (fu dd 11 s11) 10 s10) 9 s9) 6 s6) 0 s0) dd
def b14_2 : MC := .seq (.scr h14_2)
 (.seq (.seq (.ops (⟨none, .mv 39 (.t 11)⟩ ::
    ⟨none, .mv 40 (.t 0)⟩ ::
    ⟨none, .bin 41 .lss .num (.t 39) (.t 40)⟩ ::
    ⟨none, .mv 42 (.t 41)⟩ ::
    ⟨some (42, true), .mv 43 (.t 9)⟩ ::
    ⟨some (42, true), .mv 44 (.t 11)⟩ ::
    ⟨some (42, true), .call (some 45) 24 [(.t 43), (.t 44)]⟩ ::
    ⟨some (42, true), .mv 46 (.t 45)⟩ ::
    ⟨some (46, false), .mv 47 (.t 6)⟩ ::
    ⟨some (46, false), .mv 48 (.t 11)⟩ ::
    ⟨some (46, false), .ixs 49 1 (.t 47) (.t 48)⟩ ::
    ⟨some (46, false), .ld1 50 (.t 49)⟩ ::
    ⟨some (46, false), .mv 51 (.t 9)⟩ ::
    ⟨some (46, false), .bin 52 .andNot .num (.t 50) (.t 51)⟩ ::
    ⟨some (46, false), .bin 53 .neq .num (.t 52) (.c (.v (.int .u32 0)))⟩ ::
    ⟨some (42, true), .pick 54 (.t 46) (.c (.v (.bool true))) (.t 53)⟩ ::
    ⟨none, .pick 55 (.t 42) (.t 54) (.c (.v (.bool false)))⟩ :: []))
  (.cnd (.t 55)
   .skip
   (.seq (.scr x14_4) (.ex 4))))
 (.seq (.blk 5 (.ops [⟨none, .mv 56 (.t 11)⟩,
   ⟨none, .bin 57 .add .num (.t 56) (.c (.v (.int .i64 1)))⟩,
   ⟨none, .asg 11 (.t 57)⟩])) (.scr x14_5)))
def b14_1 : MC := .seq (.scr h14_1)
 (.seq (.seq (.ops [⟨none, .mv 35 (.t 10)⟩,
    ⟨none, .len 36 false (.t 35)⟩,
    ⟨none, .mv 37 (.t 0)⟩,
    ⟨none, .bin 38 .lss .num (.t 36) (.t 37)⟩])
  (.cnd (.t 38)
   .skip
   (.seq (.scr x14_2) (.ex 2))))
 (.seq (.blk 3 (.seq (.ops [⟨none, .asg 11 (.c (.v (.int .i64 0)))⟩])
  (.seq (.seq (.blk 4 (.lop b14_2)) (.scr x14_4))
  (.seq (.seq (.ops [⟨none, .mv 58 (.t 11)⟩,
     ⟨none, .mv 59 (.t 0)⟩,
     ⟨none, .bin 60 .eql .num (.t 58) (.t 59)⟩])
   (.cnd (.t 60)
    (.seq (.ops [⟨none, .asg 4 (.c (.nd (.sl true 1 0) []))⟩,
      ⟨none, .asg 5 (.c (.v (.int .i64 11)))⟩])
    (.seq (.scr r14) .ret))
    .skip))
  (.seq (.ops [⟨none, .mv 61 (.t 9)⟩,
    ⟨none, .mv 62 (.t 11)⟩,
    ⟨none, .bin 63 .shl .num (.c (.v (.int .u32 1))) (.t 62)⟩,
    ⟨none, .bin 64 .or .num (.t 61) (.t 63)⟩,
    ⟨none, .asg 9 (.t 64)⟩])
  (.ops [⟨none, .mv 65 (.t 10)⟩,
   ⟨none, .mv 66 (.t 11)⟩,
   ⟨none, .bs 67 1 1 [(.v (.int .i64 0))] [(0, 1, (.t 66))]⟩,
   ⟨none, .app 68 1 (.t 65) (.t 67)⟩,
   ⟨none, .asg 10 (.t 68)⟩])))))) (.scr x14_3)))
def c14 : MF := ⟨(.seq (.ops [⟨none, .asg 4 (.c (.nd (.sl true 1 0) []))⟩,
   ⟨none, .asg 5 (.c (.v (.int .i64 0)))⟩])
 (.seq (.seq (.ops [⟨none, .mv 12 (.t 0)⟩,
    ⟨none, .mv 13 (.t 1)⟩,
    ⟨none, .call (some 14) 12 [(.t 12), (.t 13)]⟩,
    ⟨none, .un 15 .not (.t 14)⟩])
  (.cnd (.t 15)
   (.seq (.ops [⟨none, .asg 4 (.c (.nd (.sl true 1 0) []))⟩,
     ⟨none, .asg 5 (.c (.v (.int .i64 1)))⟩])
   (.seq (.scr r14) .ret))
   .skip))
 (.seq (.ops [⟨none, .mv 16 (.t 0)⟩,
   ⟨none, .mks 17 1 [(.v (.int .u32 0))] (.t 16) (.t 16)⟩,
   ⟨none, .asg 6 (.t 17)⟩])
 (.seq (.seq (.ops [⟨none, .mv 18 (.t 1)⟩,
    ⟨none, .len 19 false (.t 18)⟩,
    ⟨none, .mv 20 (.c (.v (.int .i64 0)))⟩])
  (.seq (.blk 0 (.lop b14_0)) (.scr x14_0)))
 (.seq (.ops [⟨none, .asg 9 (.c (.v (.int .u32 0)))⟩])
 (.seq (.ops [⟨none, .asg 10 (.c (.nd (.sl true 1 0) []))⟩])
 (.seq (.seq (.blk 2 (.lop b14_1)) (.scr x14_2))
 (.seq (.ops [⟨none, .mv 69 (.t 10)⟩,
   ⟨none, .asg 4 (.t 69)⟩,
   ⟨none, .asg 5 (.c (.v (.int .i64 0)))⟩])
 (.seq (.scr r14) .ret))))))))),
  70, [4, 5]⟩

/-- coinage/poset.Levels -/
abbrev K15 : Nat := 35
def hints15 : List (List Bool) := [bits 59 [4, 5], bits 59 [9], bits 59 [0, 6, 8, 9, 27, 28, 29], bits 59 [9], bits 59 [0, 6, 8, 9, 27, 28, 29], bits 59 [0, 6, 8, 9, 27, 28, 29], bits 59 [0, 6, 8, 9, 11, 27, 28, 29, 33, 34], bits 59 [0, 6, 8, 9, 27, 28, 29], bits 59 [0, 6, 8, 9, 11, 27, 28, 29, 33, 34], bits 59 [4, 5]]
@[simp] def r15 : List Bool := bits 59 [4, 5]
@[simp] def R15 (s4 s5 : V) : St := tab 59 35 (fu (fu dd 5 s5) 4 s4) dd
@[simp] def x15_0 : List Bool := bits 59 [9]
@[simp] def X15_0 (s9 : V) : St := tab 59 35 (fu dd 9 s9) dd
@[simp] def h15_0 : List Bool := bits 59 [0, 6, 8, 9, 27, 28, 29]
@[simp] def L15_0 (s0 s6 s8 s9 s27 s28 s29 : V) : St := tab 59 35 (fu (fu (fu (fu (fu (fu (fu dd 29 s29) 28 s28) 27 s27) 9 s9) 8 s8) 6 s6) 0 s0) dd
@[simp] def x15_1 : List Bool := bits 59 [0, 6, 8, 9, 27, 28, 29]
@[simp] def X15_1 (s0 s6 s8 s9 s27 s28 s29 : V) : St := tab 59 35 (fu (fu (fu (fu (fu (fu (fu dd 29 s29) 28 s28) 27 s27) 9 s9) 8 s8) 6 s6) 0 s0) dd
@[simp] def x15_2 : List Bool := bits 59 [0, 6, 8, 9, 27, 28, 29]
@[simp] def X15_2 (s0 s6 s8 s9 s27 s28 s29 : V) : St := tab 59 35 (fu (fu (fu (fu (fu (fu (fu dd 29 s29) 28 s28) 27 s27) 9 s9) 8 s8) 6 s6) 0 s0) dd
@[simp] def h15_1 : List Bool := bits 59 [0, 6, 8, 9, 11, 27, 28, 29, 33, 34]
@[simp] def L15_1 (s0 s6 s8 s9 s11 s27 s28 s29 s33 s34 : V) : St := tab 59 35 (fu (fu (fu (fu (fu (fu (fu (fu (fu (fu dd 34 s34) 33 s33) 29 s29) 28 s28) 27 s27) 11 s11) 9 s9) 8 s8) 6 s6) 0 s0) dd
@[simp] def x15_3 : List Bool := bits 59 [0, 6, 8, 9, 11, 27, 28, 29, 33, 34]
@[simp] def X15_3 (s0 s6 s8 s9 s11 s27 s28 s29 s33 s34 : V) : St := tab 59 35 (fu (fu (fu (fu (fu (fu (fu (fu (fu (fu dd 34 s34) 33 s33) 29 s29) 28 s28) 27 s27) 11 s11) 9 s9) 8 s8) 6 s6) 0 s0) dd
def b15_1 : MC := .seq (.scr h15_1)
 (.seq (.ops [⟨none, .bin 35 .lss .num (.t 34) (.t 33)⟩])
 (.seq (.cnd (.t 35)
   .skip
   (.seq (.scr x15_2) (.ex 2)))
 (.seq (.seq (.blk 3 (.seq (.ops [⟨none, .mv 36 (.t 34)⟩,
     ⟨none, .asg 12 (.t 36)⟩])
   (.seq (.ops [⟨none, .mv 37 (.t 8)⟩,
     ⟨none, .mv 38 (.t 11)⟩,
     ⟨none, .ixs 39 1 (.t 37) (.t 38)⟩,
     ⟨none, .ld1 40 (.t 39)⟩,
     ⟨none, .mv 41 (.t 12)⟩,
     ⟨none, .call (some 42) 24 [(.t 40), (.t 41)]⟩])
   (.cnd (.t 42)
    (.drw [⟨none, .mv 43 (.t 9)⟩,
     ⟨none, .mv 44 (.t 12)⟩,
     ⟨none, .mv 45 (.t 9)⟩,
     ⟨none, .mv 46 (.t 12)⟩,
     ⟨none, .ixs 47 1 (.t 45) (.t 46)⟩,
     ⟨none, .ld1 48 (.t 47)⟩,
     ⟨none, .mv 49 (.t 9)⟩,
     ⟨none, .mv 50 (.t 11)⟩,
     ⟨none, .ixs 51 1 (.t 49) (.t 50)⟩,
     ⟨none, .ld1 52 (.t 51)⟩,
     ⟨none, .bin 53 .add .num (.t 52) (.c (.v (.int .i64 1)))⟩,
     ⟨none, .mm 54 true (.t 48) (.t 53)⟩] [⟨none, .ixs 55 1 (.t 43) (.t 44)⟩,
     ⟨none, .stn none 1 (.t 55) (.t 54)⟩])
    .skip)))) (.scr x15_3))
 (.ops [⟨none, .bin 56 .add .num (.t 34) (.c (.v (.int .i64 1)))⟩,
  ⟨none, .mv 34 (.t 56)⟩]))))
def b15_0 : MC := .seq (.scr h15_0)
 (.seq (.ops [⟨none, .bin 30 .lss .num (.t 29) (.t 28)⟩])
 (.seq (.cnd (.t 30)
   .skip
   (.seq (.scr x15_0) (.ex 0)))
 (.seq (.seq (.blk 1 (.seq (.ops [⟨none, .ixs 31 1 (.t 27) (.t 29)⟩,
     ⟨none, .ld1 32 (.t 31)⟩,
     ⟨none, .asg 11 (.t 32)⟩])
   (.seq (.ops [⟨none, .mv 33 (.t 0)⟩,
     ⟨none, .mv 34 (.c (.v (.int .i64 0)))⟩])
   (.seq (.blk 2 (.lop b15_1)) (.scr x15_2))))) (.scr x15_1))
 (.ops [⟨none, .bin 57 .add .num (.t 29) (.c (.v (.int .i64 1)))⟩,
  ⟨none, .mv 29 (.t 57)⟩]))))
def c15 : MF := ⟨(.seq (.ops [⟨none, .asg 4 (.c (.nd (.sl true 1 0) []))⟩,
   ⟨none, .asg 5 (.c (.v (.int .i64 0)))⟩])
 (.seq (.ops [⟨none, .mv 14 (.t 0)⟩,
   ⟨none, .mv 15 (.t 1)⟩,
   ⟨none, .call (some 16) 14 [(.t 14), (.t 15)]⟩,
   ⟨none, .mv 13 (.t 16)⟩,
   ⟨none, .ext 17 (.t 13) 0⟩,
   ⟨none, .ext 18 (.t 13) 1⟩,
   ⟨none, .asg 6 (.t 17)⟩,
   ⟨none, .asg 7 (.t 18)⟩])
 (.seq (.seq (.ops [⟨none, .mv 19 (.t 7)⟩,
    ⟨none, .bin 20 .neq .num (.t 19) (.c (.v (.int .i64 0)))⟩])
  (.cnd (.t 20)
   (.seq (.ops [⟨none, .mv 21 (.t 7)⟩,
     ⟨none, .asg 4 (.c (.nd (.sl true 1 0) []))⟩,
     ⟨none, .asg 5 (.t 21)⟩])
   (.seq (.scr r15) .ret))
   .skip))
 (.seq (.ops [⟨none, .mv 22 (.t 0)⟩,
   ⟨none, .mv 23 (.t 1)⟩,
   ⟨none, .call (some 24) 25 [(.t 22), (.t 23)]⟩,
   ⟨none, .asg 8 (.t 24)⟩])
 (.seq (.ops [⟨none, .mv 25 (.t 0)⟩,
   ⟨none, .mks 26 1 [(.v (.int .i64 0))] (.t 25) (.t 25)⟩,
   ⟨none, .asg 9 (.t 26)⟩])
 (.seq (.seq (.ops [⟨none, .mv 27 (.t 6)⟩,
    ⟨none, .len 28 false (.t 27)⟩,
    ⟨none, .mv 29 (.c (.v (.int .i64 0)))⟩])
  (.seq (.blk 0 (.lop b15_0)) (.scr x15_0)))
 (.seq (.ops [⟨none, .mv 58 (.t 9)⟩,
   ⟨none, .asg 4 (.t 58)⟩,
   ⟨none, .asg 5 (.c (.v (.int .i64 0)))⟩])
 (.seq (.scr r15) .ret)))))))),
  59, [4, 5]⟩

/-- coinage/coinagebase.Ints -/
abbrev K16 : Nat := 6
def hints16 : List (List Bool) := [bits 26 [4], bits 26 [], bits 26 [0, 1, 5], bits 26 [], bits 26 [0, 1, 5], bits 26 [4], bits 26 [4]]
@[simp] def r16 : List Bool := bits 26 [4]
@[simp] def R16 (s4 : V) : St := tab 26 6 (fu dd 4 s4) dd
@[simp] def x16_0 : List Bool := bits 26 []
@[simp] def X16_0 : St := tab 26 6 dd dd
@[simp] def h16_0 : List Bool := bits 26 [0, 1, 5]
@[simp] def L16_0 (s0 s1 s5 : V) : St := tab 26 6 (fu (fu (fu dd 5 s5) 1 s1) 0 s0) dd
@[simp] def x16_1 : List Bool := bits 26 [0, 1, 5]
@[simp] def X16_1 (s0 s1 s5 : V) : St := tab 26 6 (fu (fu (fu dd 5 s5) 1 s1) 0 s0) dd
def b16_0 : MC := .seq (.scr h16_0)
 (.seq (.seq (.ops [⟨none, .mv 11 (.t 5)⟩,
    ⟨none, .mv 12 (.t 0)⟩,
    ⟨none, .len 13 false (.t 12)⟩,
    ⟨none, .bin 14 .lss .num (.t 11) (.t 13)⟩])
  (.cnd (.t 14)
   .skip
   (.seq (.scr x16_0) (.ex 0))))
 (.seq (.seq (.blk 1 (.seq (.drw [⟨none, .mv 17 (.t 0)⟩,
     ⟨none, .mv 18 (.t 5)⟩,
     ⟨none, .ixs 19 1 (.t 17) (.t 18)⟩,
     ⟨none, .ld1 20 (.t 19)⟩,
     ⟨none, .mv 21 (.t 1)⟩,
     ⟨none, .mv 22 (.t 5)⟩,
     ⟨none, .ixs 23 1 (.t 21) (.t 22)⟩,
     ⟨none, .ld1 24 (.t 23)⟩] [⟨none, .bin 25 .neq .num (.t 20) (.t 24)⟩])
   (.cnd (.t 25)
    (.seq (.ops [⟨none, .asg 4 (.c (.v (.bool false)))⟩])
    (.seq (.scr r16) .ret))
    .skip))) (.scr x16_1))
 (.ops [⟨none, .mv 15 (.t 5)⟩,
  ⟨none, .bin 16 .add .num (.t 15) (.c (.v (.int .i64 1)))⟩,
  ⟨none, .asg 5 (.t 16)⟩])))
def c16 : MF := ⟨(.seq (.ops [⟨none, .asg 4 (.c (.v (.bool false)))⟩])
 (.seq (.seq (.ops [⟨none, .mv 6 (.t 0)⟩,
    ⟨none, .len 7 false (.t 6)⟩,
    ⟨none, .mv 8 (.t 1)⟩,
    ⟨none, .len 9 false (.t 8)⟩,
    ⟨none, .bin 10 .neq .num (.t 7) (.t 9)⟩])
  (.cnd (.t 10)
   (.seq (.ops [⟨none, .asg 4 (.c (.v (.bool false)))⟩])
   (.seq (.scr r16) .ret))
   .skip))
 (.seq (.seq (.ops [⟨none, .asg 5 (.c (.v (.int .i64 0)))⟩])
  (.seq (.blk 0 (.lop b16_0)) (.scr x16_0)))
 (.seq (.ops [⟨none, .asg 4 (.c (.v (.bool true)))⟩])
 (.seq (.scr r16) .ret))))),
  26, [4]⟩

/-- coinage/poset.list -/
abbrev K17 : Nat := 17
def hints17 : List (List Bool) := [bits 36 [3], bits 36 [0, 3, 7, 8, 9], bits 36 [3], bits 36 [0, 3, 7, 8, 9], bits 36 [0, 3, 7, 8, 9], bits 36 [0, 3, 4, 5, 7, 8, 9, 15, 16], bits 36 [0, 3, 7, 8, 9], bits 36 [0, 3, 4, 5, 7, 8, 9, 15, 16], bits 36 [2]]
@[simp] def r17 : List Bool := bits 36 [2]
@[simp] def R17 (s2 : V) : St := tab 36 17 (fu dd 2 s2) dd
@[simp] def x17_0 : List Bool := bits 36 [3]
@[simp] def X17_0 (s3 : V) : St := tab 36 17 (fu dd 3 s3) dd
@[simp] def h17_0 : List Bool := bits 36 [0, 3, 7, 8, 9]
@[simp] def L17_0 (s0 s3 s7 s8 s9 : V) : St := tab 36 17 (fu (fu (fu (fu (fu dd 9 s9) 8 s8) 7 s7) 3 s3) 0 s0) dd
@[simp] def x17_1 : List Bool := bits 36 [0, 3, 7, 8, 9]
@[simp] def X17_1 (s0 s3 s7 s8 s9 : V) : St := tab 36 17 (fu (fu (fu (fu (fu dd 9 s9) 8 s8) 7 s7) 3 s3) 0 s0) dd
@[simp] def x17_2 : List Bool := bits 36 [0, 3, 7, 8, 9]
@[simp] def X17_2 (s0 s3 s7 s8 s9 : V) : St := tab 36 17 (fu (fu (fu (fu (fu dd 9 s9) 8 s8) 7 s7) 3 s3) 0 s0) dd
@[simp] def h17_1 : List Bool := bits 36 [0, 3, 4, 5, 7, 8, 9, 15, 16]
@[simp] def L17_1 (s0 s3 s4 s5 s7 s8 s9 s15 s16 : V) : St := tab 36 17 (fu (fu (fu (fu (fu (fu (fu (fu (fu dd 16 s16) 15 s15) 9 s9) 8 s8) 7 s7) 5 s5) 4 s4) 3 s3) 0 s0) dd
@[simp] def x17_3 : List Bool := bits 36 [0, 3, 4, 5, 7, 8, 9, 15, 16]
@[simp] def X17_3 (s0 s3 s4 s5 s7 s8 s9 s15 s16 : V) : St := tab 36 17 (fu (fu (fu (fu (fu (fu (fu (fu (fu dd 16 s16) 15 s15) 9 s9) 8 s8) 7 s7) 5 s5) 4 s4) 3 s3) 0 s0) dd
def b17_1 : MC := .seq (.scr h17_1)
 (.seq (.ops [⟨none, .bin 17 .lss .num (.t 16) (.t 15)⟩])
 (.seq (.cnd (.t 17)
   .skip
   (.seq (.scr x17_2) (.ex 2)))
 (.seq (.seq (.blk 3 (.seq (.ops [⟨none, .mv 18 (.t 16)⟩,
     ⟨none, .asg 6 (.t 18)⟩])
   (.seq (.ops [⟨none, .mv 19 (.t 4)⟩,
     ⟨none, .mv 20 (.t 6)⟩,
     ⟨none, .bin 21 .neq .num (.t 19) (.t 20)⟩,
     ⟨none, .mv 22 (.t 21)⟩,
     ⟨some (22, true), .mv 23 (.t 5)⟩,
     ⟨some (22, true), .mv 24 (.t 6)⟩,
     ⟨some (22, true), .call (some 25) 24 [(.t 23), (.t 24)]⟩,
     ⟨none, .pick 26 (.t 22) (.t 25) (.c (.v (.bool false)))⟩])
   (.cnd (.t 26)
    (.ops [⟨none, .mv 27 (.t 3)⟩,
     ⟨none, .mv 28 (.t 4)⟩,
     ⟨none, .mv 29 (.t 6)⟩,
     ⟨none, .bld 30 [(.v (.int .i64 0)), (.v (.int .i64 0))] [(0, 1, (.t 28)), (1, 1, (.t 29))]⟩,
     ⟨none, .bs 31 2 1 [(.v (.int .i64 0)), (.v (.int .i64 0))] [(0, 2, (.t 30))]⟩,
     ⟨none, .app 32 2 (.t 27) (.t 31)⟩,
     ⟨none, .asg 3 (.t 32)⟩])
    .skip)))) (.scr x17_3))
 (.ops [⟨none, .bin 33 .add .num (.t 16) (.c (.v (.int .i64 1)))⟩,
  ⟨none, .mv 16 (.t 33)⟩]))))
def b17_0 : MC := .seq (.scr h17_0)
 (.seq (.ops [⟨none, .bin 10 .lss .num (.t 9) (.t 8)⟩])
 (.seq (.cnd (.t 10)
   .skip
   (.seq (.scr x17_0) (.ex 0)))
 (.seq (.seq (.blk 1 (.seq (.ops [⟨none, .mv 11 (.t 9)⟩,
     ⟨none, .ixs 12 1 (.t 7) (.t 9)⟩,
     ⟨none, .ld1 13 (.t 12)⟩,
     ⟨none, .asg 4 (.t 11)⟩,
     ⟨none, .asg 5 (.t 13)⟩])
   (.seq (.ops [⟨none, .mv 14 (.t 0)⟩,
     ⟨none, .len 15 false (.t 14)⟩,
     ⟨none, .mv 16 (.c (.v (.int .i64 0)))⟩])
   (.seq (.blk 2 (.lop b17_1)) (.scr x17_2))))) (.scr x17_1))
 (.ops [⟨none, .bin 34 .add .num (.t 9) (.c (.v (.int .i64 1)))⟩,
  ⟨none, .mv 9 (.t 34)⟩]))))
def c17 : MF := ⟨(.seq (.ops [⟨none, .asg 2 (.c (.nd (.sl true 2 0) []))⟩])
 (.seq (.ops [⟨none, .asg 3 (.c (.nd (.sl true 2 0) []))⟩])
 (.seq (.seq (.ops [⟨none, .mv 7 (.t 0)⟩,
    ⟨none, .len 8 false (.t 7)⟩,
    ⟨none, .mv 9 (.c (.v (.int .i64 0)))⟩])
  (.seq (.blk 0 (.lop b17_0)) (.scr x17_0)))
 (.seq (.ops [⟨none, .mv 35 (.t 3)⟩,
   ⟨none, .asg 2 (.t 35)⟩])
 (.seq (.scr r17) .ret))))),
  36, [2]⟩

/-- coinage/poset.reach -/
abbrev K18 : Nat := 17
def hints18 : List (List Bool) := [bits 38 [5], bits 38 [0, 5, 11, 12], bits 38 [5], bits 38 [0, 5, 11, 12], bits 38 [0, 5, 11, 12], bits 38 [0, 5, 6, 11, 12, 15, 16], bits 38 [0, 5, 11, 12], bits 38 [0, 5, 6, 11, 12, 15, 16], bits 38 [4]]
@[simp] def r18 : List Bool := bits 38 [4]
@[simp] def R18 (s4 : V) : St := tab 38 17 (fu dd 4 s4) dd
@[simp] def x18_0 : List Bool := bits 38 [5]
@[simp] def X18_0 (s5 : V) : St := tab 38 17 (fu dd 5 s5) dd
@[simp] def h18_0 : List Bool := bits 38 [0, 5, 11, 12]
@[simp] def L18_0 (s0 s5 s11 s12 : V) : St := tab 38 17 (fu (fu (fu (fu dd 12 s12) 11 s11) 5 s5) 0 s0) dd
@[simp] def x18_1 : List Bool := bits 38 [0, 5, 11, 12]
@[simp] def X18_1 (s0 s5 s11 s12 : V) : St := tab 38 17 (fu (fu (fu (fu dd 12 s12) 11 s11) 5 s5) 0 s0) dd
@[simp] def x18_2 : List Bool := bits 38 [0, 5, 11, 12]
@[simp] def X18_2 (s0 s5 s11 s12 : V) : St := tab 38 17 (fu (fu (fu (fu dd 12 s12) 11 s11) 5 s5) 0 s0) dd
@[simp] def h18_1 : List Bool := bits 38 [0, 5, 6, 11, 12, 15, 16]
@[simp] def L18_1 (s0 s5 s6 s11 s12 s15 s16 : V) : St := tab 38 17 (fu (fu (fu (fu (fu (fu (fu dd 16 s16) 15 s15) 12 s12) 11 s11) 6 s6) 5 s5) 0 s0) dd
@[simp] def x18_3 : List Bool := bits 38 [0, 5, 6, 11, 12, 15, 16]
@[simp] def X18_3 (s0 s5 s6 s11 s12 s15 s16 : V) : St := tab 38 17 (fu (fu (fu (fu (fu (fu (fu dd 16 s16) 15 s15) 12 s12) 11 s11) 6 s6) 5 s5) 0 s0) dd
def b18_1 : MC := .seq (.scr h18_1)
 (.seq (.ops [⟨none, .bin 17 .lss .num (.t 16) (.t 15)⟩])
 (.seq (.cnd (.t 17)
   .skip
   (.seq (.scr x18_2) (.ex 2)))
 (.seq (.seq (.blk 3 (.seq (.ops [⟨none, .mv 18 (.t 16)⟩,
     ⟨none, .asg 7 (.t 18)⟩])
   (.seq (.ops [⟨none, .mv 19 (.t 5)⟩,
     ⟨none, .mv 20 (.t 7)⟩,
     ⟨none, .ixs 21 1 (.t 19) (.t 20)⟩,
     ⟨none, .ld1 22 (.t 21)⟩,
     ⟨none, .mv 23 (.t 6)⟩,
     ⟨none, .call (some 24) 24 [(.t 22), (.t 23)]⟩])
   (.cnd (.t 24)
    (.drw [⟨none, .mv 25 (.t 5)⟩,
     ⟨none, .mv 26 (.t 7)⟩,
     ⟨none, .ixs 27 1 (.t 25) (.t 26)⟩,
     ⟨none, .ld1 28 (.t 27)⟩,
     ⟨none, .mv 29 (.t 5)⟩,
     ⟨none, .mv 30 (.t 6)⟩,
     ⟨none, .ixs 31 1 (.t 29) (.t 30)⟩,
     ⟨none, .ld1 32 (.t 31)⟩] [⟨none, .bin 33 .or .num (.t 28) (.t 32)⟩,
     ⟨none, .ixs 34 1 (.t 25) (.t 26)⟩,
     ⟨none, .stn none 1 (.t 34) (.t 33)⟩])
    .skip)))) (.scr x18_3))
 (.ops [⟨none, .bin 35 .add .num (.t 16) (.c (.v (.int .i64 1)))⟩,
  ⟨none, .mv 16 (.t 35)⟩]))))
def b18_0 : MC := .seq (.scr h18_0)
 (.seq (.ops [⟨none, .bin 13 .lss .num (.t 12) (.t 11)⟩])
 (.seq (.cnd (.t 13)
   .skip
   (.seq (.scr x18_0) (.ex 0)))
 (.seq (.seq (.blk 1 (.seq (.ops [⟨none, .mv 14 (.t 12)⟩,
     ⟨none, .asg 6 (.t 14)⟩])
   (.seq (.ops [⟨none, .mv 15 (.t 0)⟩,
     ⟨none, .mv 16 (.c (.v (.int .i64 0)))⟩])
   (.seq (.blk 2 (.lop b18_1)) (.scr x18_2))))) (.scr x18_1))
 (.ops [⟨none, .bin 36 .add .num (.t 12) (.c (.v (.int .i64 1)))⟩,
  ⟨none, .mv 12 (.t 36)⟩]))))
def c18 : MF := ⟨(.seq (.ops [⟨none, .asg 4 (.c (.nd (.sl true 1 0) []))⟩])
 (.seq (.ops [⟨none, .mv 8 (.t 0)⟩,
   ⟨none, .mv 9 (.t 1)⟩,
   ⟨none, .call (some 10) 25 [(.t 8), (.t 9)]⟩,
   ⟨none, .asg 5 (.t 10)⟩])
 (.seq (.seq (.ops [⟨none, .mv 11 (.t 0)⟩,
    ⟨none, .mv 12 (.c (.v (.int .i64 0)))⟩])
  (.seq (.blk 0 (.lop b18_0)) (.scr x18_0)))
 (.seq (.ops [⟨none, .mv 37 (.t 5)⟩,
   ⟨none, .asg 4 (.t 37)⟩])
 (.seq (.scr r18) .ret))))),
  38, [4]⟩

/-- coinage/poset.acyclic -/
abbrev K19 : Nat := 8
def hints19 : List (List Bool) := [bits 16 [], bits 16 [0, 5, 6, 7], bits 16 [], bits 16 [0, 5, 6, 7], bits 16 [2], bits 16 [2]]
@[simp] def r19 : List Bool := bits 16 [2]
@[simp] def R19 (s2 : V) : St := tab 16 8 (fu dd 2 s2) dd
@[simp] def x19_0 : List Bool := bits 16 []
@[simp] def X19_0 : St := tab 16 8 dd dd
@[simp] def h19_0 : List Bool := bits 16 [0, 5, 6, 7]
@[simp] def L19_0 (s0 s5 s6 s7 : V) : St := tab 16 8 (fu (fu (fu (fu dd 7 s7) 6 s6) 5 s5) 0 s0) dd
@[simp] def x19_1 : List Bool := bits 16 [0, 5, 6, 7]
@[simp] def X19_1 (s0 s5 s6 s7 : V) : St := tab 16 8 (fu (fu (fu (fu dd 7 s7) 6 s6) 5 s5) 0 s0) dd
def b19_0 : MC := .seq (.scr h19_0)
 (.seq (.ops [⟨none, .bin 8 .lss .num (.t 7) (.t 6)⟩])
 (.seq (.cnd (.t 8)
   .skip
   (.seq (.scr x19_0) (.ex 0)))
 (.seq (.seq (.blk 1 (.seq (.ops [⟨none, .mv 9 (.t 7)⟩,
     ⟨none, .ixs 10 1 (.t 5) (.t 7)⟩,
     ⟨none, .ld1 11 (.t 10)⟩,
     ⟨none, .asg 3 (.t 9)⟩,
     ⟨none, .asg 4 (.t 11)⟩])
   (.seq (.ops [⟨none, .mv 12 (.t 4)⟩,
     ⟨none, .mv 13 (.t 3)⟩,
     ⟨none, .call (some 14) 24 [(.t 12), (.t 13)]⟩])
   (.cnd (.t 14)
    (.seq (.ops [⟨none, .asg 2 (.c (.v (.bool false)))⟩])
    (.seq (.scr r19) .ret))
    .skip)))) (.scr x19_1))
 (.ops [⟨none, .bin 15 .add .num (.t 7) (.c (.v (.int .i64 1)))⟩,
  ⟨none, .mv 7 (.t 15)⟩]))))
def c19 : MF := ⟨(.seq (.ops [⟨none, .asg 2 (.c (.v (.bool false)))⟩])
 (.seq (.seq (.ops [⟨none, .mv 5 (.t 0)⟩,
    ⟨none, .len 6 false (.t 5)⟩,
    ⟨none, .mv 7 (.c (.v (.int .i64 0)))⟩])
  (.seq (.blk 0 (.lop b19_0)) (.scr x19_0)))
 (.seq (.ops [⟨none, .asg 2 (.c (.v (.bool true)))⟩])
 (.seq (.scr r19) .ret)))),
  16, [2]⟩

/-- coinage/coinageref06.Valid -/
abbrev K21 : Nat := 5
def hints21 : List (List Bool) := [bits 8 [4]]
@[simp] def r21 : List Bool := bits 8 [4]
@[simp] def R21 (s4 : V) : St := tab 8 5 (fu dd 4 s4) dd
def c21 : MF := ⟨(.seq (.ops [⟨none, .asg 4 (.c (.v (.bool false)))⟩])
 (.seq (.ops [⟨none, .mv 5 (.t 0)⟩,
   ⟨none, .mv 6 (.t 1)⟩,
   ⟨none, .call (some 7) 26 [(.t 5), (.t 6)]⟩,
   ⟨none, .asg 4 (.t 7)⟩])
 (.seq (.scr r21) .ret))),
  8, [4]⟩

/-- coinage/coinageref06.Table -/
abbrev K22 : Nat := 60
def hints22 : List (List Bool) := [bits 60 [0, 4, 5], bits 60 [0, 1, 4, 5, 6], bits 60 [0, 4, 5], bits 60 [0, 1, 4, 5, 6], bits 60 [4, 5], bits 60 [0, 4, 5, 7], bits 60 [4, 5], bits 60 [0, 4, 5, 7], bits 60 [0, 4, 5, 7], bits 60 [0, 4, 5, 7, 8], bits 60 [0, 4, 5, 7], bits 60 [0, 4, 5, 7, 8], bits 60 [0, 4, 5, 7, 8], bits 60 [0, 4, 5, 7, 8, 9], bits 60 [0, 4, 5, 7, 8], bits 60 [0, 4, 5, 7, 8, 9], bits 60 [4]]
@[simp] def r22 : List Bool := bits 60 [4]
@[simp] def R22 (s4 : V) : St := tab 60 60 (fu dd 4 s4) dd
@[simp] def x22_0 : List Bool := bits 60 [0, 4, 5]
@[simp] def X22_0 (s0 s4 s5 : V) : St := tab 60 60 (fu (fu (fu dd 5 s5) 4 s4) 0 s0) dd
@[simp] def h22_0 : List Bool := bits 60 [0, 1, 4, 5, 6]
@[simp] def L22_0 (s0 s1 s4 s5 s6 : V) : St := tab 60 60 (fu (fu (fu (fu (fu dd 6 s6) 5 s5) 4 s4) 1 s1) 0 s0) dd
@[simp] def x22_1 : List Bool := bits 60 [0, 1, 4, 5, 6]
@[simp] def X22_1 (s0 s1 s4 s5 s6 : V) : St := tab 60 60 (fu (fu (fu (fu (fu dd 6 s6) 5 s5) 4 s4) 1 s1) 0 s0) dd
def b22_0 : MC := .seq (.scr h22_0)
 (.seq (.seq (.ops [⟨none, .mv 10 (.t 6)⟩,
    ⟨none, .mv 11 (.t 1)⟩,
    ⟨none, .len 12 false (.t 11)⟩,
    ⟨none, .bin 13 .lss .num (.t 10) (.t 12)⟩])
  (.cnd (.t 13)
   .skip
   (.seq (.scr x22_0) (.ex 0))))
 (.seq (.seq (.blk 1 (.drw [⟨none, .mv 16 (.t 1)⟩,
    ⟨none, .mv 17 (.t 6)⟩,
    ⟨none, .ixs 18 2 (.t 16) (.t 17)⟩,
    ⟨none, .fa 19 0 (.t 18)⟩,
    ⟨none, .ld1 20 (.t 19)⟩,
    ⟨none, .mv 21 (.t 1)⟩,
    ⟨none, .mv 22 (.t 6)⟩,
    ⟨none, .ixs 23 2 (.t 21) (.t 22)⟩,
    ⟨none, .fa 24 1 (.t 23)⟩,
    ⟨none, .ld1 25 (.t 24)⟩,
    ⟨none, .ixa 26 24 24 (.t 5) (.t 20)⟩] [⟨none, .ixa 27 1 24 (.t 26) (.t 25)⟩,
    ⟨none, .stn none 1 (.t 27) (.c (.v (.bool true)))⟩])) (.scr x22_1))
 (.ops [⟨none, .mv 14 (.t 6)⟩,
  ⟨none, .bin 15 .add .num (.t 14) (.c (.v (.int .i64 1)))⟩,
  ⟨none, .asg 6 (.t 15)⟩])))
@[simp] def x22_2 : List Bool := bits 60 [4, 5]
@[simp] def X22_2 (s4 s5 : V) : St := tab 60 60 (fu (fu dd 5 s5) 4 s4) dd
@[simp] def h22_1 : List Bool := bits 60 [0, 4, 5, 7]
@[simp] def L22_1 (s0 s4 s5 s7 : V) : St := tab 60 60 (fu (fu (fu (fu dd 7 s7) 5 s5) 4 s4) 0 s0) dd
@[simp] def x22_3 : List Bool := bits 60 [0, 4, 5, 7]
@[simp] def X22_3 (s0 s4 s5 s7 : V) : St := tab 60 60 (fu (fu (fu (fu dd 7 s7) 5 s5) 4 s4) 0 s0) dd
@[simp] def x22_4 : List Bool := bits 60 [0, 4, 5, 7]
@[simp] def X22_4 (s0 s4 s5 s7 : V) : St := tab 60 60 (fu (fu (fu (fu dd 7 s7) 5 s5) 4 s4) 0 s0) dd
@[simp] def h22_2 : List Bool := bits 60 [0, 4, 5, 7, 8]
@[simp] def L22_2 (s0 s4 s5 s7 s8 : V) : St := tab 60 60 (fu (fu (fu (fu (fu dd 8 s8) 7 s7) 5 s5) 4 s4) 0 s0) dd
@[simp] def x22_5 : List Bool := bits 60 [0, 4, 5, 7, 8]
@[simp] def X22_5 (s0 s4 s5 s7 s8 : V) : St := tab 60 60 (fu (fu (fu (fu (fu dd 8 s8) 7 s7) 5 s5) 4 s4) 0 s0) dd
@[simp] def x22_6 : List Bool := bits 60 [0, 4, 5, 7, 8]
@[simp] def X22_6 (s0 s4 s5 s7 s8 : V) : St := tab 60 60 (fu (fu (fu (fu (fu dd 8 s8) 7 s7) 5 s5) 4 s4) 0 s0) dd
@[simp] def h22_3 : List Bool := bits 60 [0, 4, 5, 7, 8, 9]
@[simp] def L22_3 (s0 s4 s5 s7 s8 s9 : V) : St := tab 60 60 (fu (fu (fu (fu (fu (fu dd 9 s9) 8 s8) 7 s7) 5 s5) 4 s4) 0 s0) dd
@[simp] def x22_7 : List Bool := bits 60 [0, 4, 5, 7, 8, 9]
@[simp] def X22_7 (s0 s4 s5 s7 s8 s9 : V) : St := tab 60 60 (fu (fu (fu (fu (fu (fu dd 9 s9) 8 s8) 7 s7) 5 s5) 4 s4) 0 s0) dd
def b22_3 : MC := .seq (.scr h22_3)
 (.seq (.seq (.ops [⟨none, .mv 38 (.t 9)⟩,
    ⟨none, .mv 39 (.t 0)⟩,
    ⟨none, .bin 40 .lss .num (.t 38) (.t 39)⟩])
  (.cnd (.t 40)
   .skip
   (.seq (.scr x22_6) (.ex 6))))
 (.seq (.seq (.blk 7 (.seq (.ops [⟨none, .mv 43 (.t 8)⟩,
     ⟨none, .mv 44 (.t 7)⟩,
     ⟨none, .ixa 45 24 24 (.t 5) (.t 43)⟩,
     ⟨none, .ixa 46 1 24 (.t 45) (.t 44)⟩,
     ⟨none, .ld1 47 (.t 46)⟩,
     ⟨none, .mv 48 (.t 47)⟩,
     ⟨some (48, true), .mv 49 (.t 7)⟩,
     ⟨some (48, true), .mv 50 (.t 9)⟩,
     ⟨some (48, true), .ixa 51 24 24 (.t 5) (.t 49)⟩,
     ⟨some (48, true), .ixa 52 1 24 (.t 51) (.t 50)⟩,
     ⟨some (48, true), .ld1 53 (.t 52)⟩,
     ⟨none, .pick 54 (.t 48) (.t 53) (.c (.v (.bool false)))⟩])
   (.cnd (.t 54)
    (.ops [⟨none, .mv 55 (.t 8)⟩,
     ⟨none, .mv 56 (.t 9)⟩,
     ⟨none, .ixa 57 24 24 (.t 5) (.t 55)⟩,
     ⟨none, .ixa 58 1 24 (.t 57) (.t 56)⟩,
     ⟨none, .stn none 1 (.t 58) (.c (.v (.bool true)))⟩])
    .skip))) (.scr x22_7))
 (.ops [⟨none, .mv 41 (.t 9)⟩,
  ⟨none, .bin 42 .add .num (.t 41) (.c (.v (.int .i64 1)))⟩,
  ⟨none, .asg 9 (.t 42)⟩])))
def b22_2 : MC := .seq (.scr h22_2)
 (.seq (.seq (.ops [⟨none, .mv 33 (.t 8)⟩,
    ⟨none, .mv 34 (.t 0)⟩,
    ⟨none, .bin 35 .lss .num (.t 33) (.t 34)⟩])
  (.cnd (.t 35)
   .skip
   (.seq (.scr x22_4) (.ex 4))))
 (.seq (.seq (.blk 5 (.seq (.ops [⟨none, .asg 9 (.c (.v (.int .i64 0)))⟩])
   (.seq (.blk 6 (.lop b22_3)) (.scr x22_6)))) (.scr x22_5))
 (.ops [⟨none, .mv 36 (.t 8)⟩,
  ⟨none, .bin 37 .add .num (.t 36) (.c (.v (.int .i64 1)))⟩,
  ⟨none, .asg 8 (.t 37)⟩])))
def b22_1 : MC := .seq (.scr h22_1)
 (.seq (.seq (.ops [⟨none, .mv 28 (.t 7)⟩,
    ⟨none, .mv 29 (.t 0)⟩,
    ⟨none, .bin 30 .lss .num (.t 28) (.t 29)⟩])
  (.cnd (.t 30)
   .skip
   (.seq (.scr x22_2) (.ex 2))))
 (.seq (.seq (.blk 3 (.seq (.ops [⟨none, .asg 8 (.c (.v (.int .i64 0)))⟩])
   (.seq (.blk 4 (.lop b22_2)) (.scr x22_4)))) (.scr x22_3))
 (.ops [⟨none, .mv 31 (.t 7)⟩,
  ⟨none, .bin 32 .add .num (.t 31) (.c (.v (.int .i64 1)))⟩,
  ⟨none, .asg 7 (.t 32)⟩])))
def c22 : MF := ⟨(.seq (.ops [⟨none, .alc 4 (rp 576 (.v (.bool false)))⟩])
 (.seq (.ops [⟨none, .alc 5 (rp 576 (.v (.bool false)))⟩])
 (.seq (.seq (.ops [⟨none, .asg 6 (.c (.v (.int .i64 0)))⟩])
  (.seq (.blk 0 (.lop b22_0)) (.scr x22_0)))
 (.seq (.seq (.ops [⟨none, .asg 7 (.c (.v (.int .i64 0)))⟩])
  (.seq (.blk 2 (.lop b22_1)) (.scr x22_2)))
 (.seq (.ops [⟨none, .ldn 59 576 (.t 5)⟩,
   ⟨none, .stn none 576 (.t 4) (.t 59)⟩])
 (.seq (.scr r22) .ret)))))),
  60, [4, 576, 1000000]⟩

/-- coinage/coinageref06.Acyclic -/
abbrev K23 : Nat := 7
def hints23 : List (List Bool) := [bits 24 [4], bits 24 [], bits 24 [0, 5, 6], bits 24 [], bits 24 [0, 5, 6], bits 24 [4], bits 24 [4]]
@[simp] def r23 : List Bool := bits 24 [4]
@[simp] def R23 (s4 : V) : St := tab 24 7 (fu dd 4 s4) dd
@[simp] def x23_0 : List Bool := bits 24 []
@[simp] def X23_0 : St := tab 24 7 dd dd
@[simp] def h23_0 : List Bool := bits 24 [0, 5, 6]
@[simp] def L23_0 (s0 s5 s6 : V) : St := tab 24 7 (fu (fu (fu dd 6 s6) 5 s5) 0 s0) dd
@[simp] def x23_1 : List Bool := bits 24 [0, 5, 6]
@[simp] def X23_1 (s0 s5 s6 : V) : St := tab 24 7 (fu (fu (fu dd 6 s6) 5 s5) 0 s0) dd
def b23_0 : MC := .seq (.scr h23_0)
 (.seq (.seq (.ops [⟨none, .mv 14 (.t 6)⟩,
    ⟨none, .mv 15 (.t 0)⟩,
    ⟨none, .bin 16 .lss .num (.t 14) (.t 15)⟩])
  (.cnd (.t 16)
   .skip
   (.seq (.scr x23_0) (.ex 0))))
 (.seq (.seq (.blk 1 (.seq (.ops [⟨none, .mv 19 (.t 6)⟩,
     ⟨none, .mv 20 (.t 6)⟩,
     ⟨none, .ixa 21 24 24 (.t 5) (.t 19)⟩,
     ⟨none, .ixa 22 1 24 (.t 21) (.t 20)⟩,
     ⟨none, .ld1 23 (.t 22)⟩])
   (.cnd (.t 23)
    (.seq (.ops [⟨none, .asg 4 (.c (.v (.bool false)))⟩])
    (.seq (.scr r23) .ret))
    .skip))) (.scr x23_1))
 (.ops [⟨none, .mv 17 (.t 6)⟩,
  ⟨none, .bin 18 .add .num (.t 17) (.c (.v (.int .i64 1)))⟩,
  ⟨none, .asg 6 (.t 18)⟩])))
def c23 : MF := ⟨(.seq (.ops [⟨none, .asg 4 (.c (.v (.bool false)))⟩])
 (.seq (.seq (.ops [⟨none, .mv 7 (.t 0)⟩,
    ⟨none, .mv 8 (.t 1)⟩,
    ⟨none, .call (some 9) 21 [(.t 7), (.t 8)]⟩,
    ⟨none, .un 10 .not (.t 9)⟩])
  (.cnd (.t 10)
   (.seq (.ops [⟨none, .asg 4 (.c (.v (.bool false)))⟩])
   (.seq (.scr r23) .ret))
   .skip))
 (.seq (.ops [⟨none, .mv 11 (.t 0)⟩,
   ⟨none, .mv 12 (.t 1)⟩,
   ⟨none, .call (some 13) 22 [(.t 11), (.t 12)]⟩,
   ⟨none, .alc 5 (rp 576 (.v (.bool false)))⟩,
   ⟨none, .stn none 576 (.t 5) (.t 13)⟩])
 (.seq (.seq (.ops [⟨none, .asg 6 (.c (.v (.int .i64 0)))⟩])
  (.seq (.blk 0 (.lop b23_0)) (.scr x23_0)))
 (.seq (.ops [⟨none, .asg 4 (.c (.v (.bool true)))⟩])
 (.seq (.scr r23) .ret)))))),
  24, [4]⟩

/-- (coinage/poset.set).has -/
abbrev K24 : Nat := 5
def hints24 : List (List Bool) := [bits 10 [4]]
@[simp] def r24 : List Bool := bits 10 [4]
@[simp] def R24 (s4 : V) : St := tab 10 5 (fu dd 4 s4) dd
def c24 : MF := ⟨(.seq (.ops [⟨none, .asg 4 (.c (.v (.bool false)))⟩])
 (.seq (.ops [⟨none, .mv 5 (.t 0)⟩,
   ⟨none, .mv 6 (.t 1)⟩,
   ⟨none, .bin 7 .shr .num (.t 5) (.t 6)⟩,
   ⟨none, .bin 8 .and .num (.t 7) (.c (.v (.int .u32 1)))⟩,
   ⟨none, .bin 9 .neq .num (.t 8) (.c (.v (.int .u32 0)))⟩,
   ⟨none, .asg 4 (.t 9)⟩])
 (.seq (.scr r24) .ret))),
  10, [4]⟩

/-- coinage/poset.next -/
abbrev K25 : Nat := 13
def hints25 : List (List Bool) := [bits 28 [5], bits 28 [1, 5, 10, 11, 12], bits 28 [5], bits 28 [1, 5, 10, 11, 12], bits 28 [4]]
@[simp] def r25 : List Bool := bits 28 [4]
@[simp] def R25 (s4 : V) : St := tab 28 13 (fu dd 4 s4) dd
@[simp] def x25_0 : List Bool := bits 28 [5]
@[simp] def X25_0 (s5 : V) : St := tab 28 13 (fu dd 5 s5) dd
@[simp] def h25_0 : List Bool := bits 28 [1, 5, 10, 11, 12]
@[simp] def L25_0 (s1 s5 s10 s11 s12 : V) : St := tab 28 13 (fu (fu (fu (fu (fu dd 12 s12) 11 s11) 10 s10) 5 s5) 1 s1) dd
@[simp] def x25_1 : List Bool := bits 28 [1, 5, 10, 11, 12]
@[simp] def X25_1 (s1 s5 s10 s11 s12 : V) : St := tab 28 13 (fu (fu (fu (fu (fu dd 12 s12) 11 s11) 10 s10) 5 s5) 1 s1) dd
def b25_0 : MC := .seq (.scr h25_0)
 (.seq (.ops [⟨none, .bin 13 .lss .num (.t 12) (.t 11)⟩])
 (.seq (.cnd (.t 13)
   .skip
   (.seq (.scr x25_0) (.ex 0)))
 (.seq (.seq (.blk 1 (.seq (.ops [⟨none, .ixs 14 2 (.t 10) (.t 12)⟩,
     ⟨none, .ldn 15 2 (.t 14)⟩,
     ⟨none, .alc 7 [(.v (.int .i64 0)), (.v (.int .i64 0))]⟩,
     ⟨none, .stn none 2 (.t 7) (.t 15)⟩])
   (.drw [⟨none, .mv 16 (.t 5)⟩,
    ⟨none, .fa 17 0 (.t 7)⟩,
    ⟨none, .ld1 18 (.t 17)⟩,
    ⟨none, .ixs 19 1 (.t 16) (.t 18)⟩,
    ⟨none, .ld1 20 (.t 19)⟩,
    ⟨none, .fa 21 1 (.t 7)⟩,
    ⟨none, .ld1 22 (.t 21)⟩,
    ⟨none, .bin 23 .shl .num (.c (.v (.int .u32 1))) (.t 22)⟩] [⟨none, .bin 24 .or .num (.t 20) (.t 23)⟩,
    ⟨none, .ixs 25 1 (.t 16) (.t 18)⟩,
    ⟨none, .stn none 1 (.t 25) (.t 24)⟩]))) (.scr x25_1))
 (.ops [⟨none, .bin 26 .add .num (.t 12) (.c (.v (.int .i64 1)))⟩,
  ⟨none, .mv 12 (.t 26)⟩]))))
def c25 : MF := ⟨(.seq (.ops [⟨none, .asg 4 (.c (.nd (.sl true 1 0) []))⟩])
 (.seq (.ops [⟨none, .mv 8 (.t 0)⟩,
   ⟨none, .mks 9 1 [(.v (.int .u32 0))] (.t 8) (.t 8)⟩,
   ⟨none, .asg 5 (.t 9)⟩])
 (.seq (.seq (.ops [⟨none, .mv 10 (.t 1)⟩,
    ⟨none, .len 11 false (.t 10)⟩,
    ⟨none, .mv 12 (.c (.v (.int .i64 0)))⟩])
  (.seq (.blk 0 (.lop b25_0)) (.scr x25_0)))
 (.seq (.ops [⟨none, .mv 27 (.t 5)⟩,
   ⟨none, .asg 4 (.t 27)⟩])
 (.seq (.scr r25) .ret))))),
  28, [4]⟩

/-- coinage/coinagebase.Digraph -/
abbrev K26 : Nat := 6
def hints26 : List (List Bool) := [bits 115 [4], bits 115 [], bits 115 [0, 1, 5], bits 115 [], bits 115 [0, 1, 5], bits 115 [4], bits 115 [4], bits 115 [4]]
@[simp] def r26 : List Bool := bits 115 [4]
@[simp] def R26 (s4 : V) : St := tab 115 6 (fu dd 4 s4) dd
@[simp] def x26_0 : List Bool := bits 115 []
@[simp] def X26_0 : St := tab 115 6 dd dd
@[simp] def h26_0 : List Bool := bits 115 [0, 1, 5]
@[simp] def L26_0 (s0 s1 s5 : V) : St := tab 115 6 (fu (fu (fu dd 5 s5) 1 s1) 0 s0) dd
@[simp] def x26_1 : List Bool := bits 115 [0, 1, 5]
@[simp] def X26_1 (s0 s1 s5 : V) : St := tab 115 6 (fu (fu (fu dd 5 s5) 1 s1) 0 s0) dd
def b26_0 : MC := .seq (.scr h26_0)
 (.seq (.seq (.ops [⟨none, .mv 20 (.t 5)⟩,
    ⟨none, .mv 21 (.t 1)⟩,
    ⟨none, .len 22 false (.t 21)⟩,
    ⟨none, .bin 23 .lss .num (.t 20) (.t 22)⟩])
  (.cnd (.t 23)
   .skip
   (.seq (.scr x26_0) (.ex 0))))
 (.seq (.seq (.blk 1 (.seq (.seq (.drw (⟨none, .mv 26 (.t 1)⟩ ::
      ⟨none, .mv 27 (.t 5)⟩ ::
      ⟨none, .ixs 28 2 (.t 26) (.t 27)⟩ ::
      ⟨none, .fa 29 0 (.t 28)⟩ ::
      ⟨none, .ld1 30 (.t 29)⟩ ::
      ⟨none, .bin 31 .lss .num (.t 30) (.c (.v (.int .i64 0)))⟩ ::
      ⟨none, .mv 32 (.t 31)⟩ ::
      ⟨some (32, false), .mv 33 (.t 1)⟩ ::
      ⟨some (32, false), .mv 34 (.t 5)⟩ ::
      ⟨some (32, false), .ixs 35 2 (.t 33) (.t 34)⟩ ::
      ⟨some (32, false), .fa 36 0 (.t 35)⟩ ::
      ⟨some (32, false), .ld1 37 (.t 36)⟩ ::
      ⟨some (32, false), .mv 38 (.t 0)⟩ ::
      ⟨some (32, false), .bin 39 .geq .num (.t 37) (.t 38)⟩ ::
      ⟨none, .pick 40 (.t 32) (.c (.v (.bool true))) (.t 39)⟩ ::
      ⟨none, .mv 41 (.t 40)⟩ ::
      ⟨some (41, false), .mv 42 (.t 1)⟩ ::
      ⟨some (41, false), .mv 43 (.t 5)⟩ ::
      ⟨some (41, false), .ixs 44 2 (.t 42) (.t 43)⟩ ::
      ⟨some (41, false), .fa 45 1 (.t 44)⟩ ::
      ⟨some (41, false), .ld1 46 (.t 45)⟩ ::
      ⟨some (41, false), .bin 47 .lss .num (.t 46) (.c (.v (.int .i64 0)))⟩ ::
      ⟨none, .pick 48 (.t 41) (.c (.v (.bool true))) (.t 47)⟩ ::
      ⟨none, .mv 49 (.t 48)⟩ ::
      ⟨some (49, false), .mv 50 (.t 1)⟩ ::
      ⟨some (49, false), .mv 51 (.t 5)⟩ ::
      ⟨some (49, false), .ixs 52 2 (.t 50) (.t 51)⟩ ::
      ⟨some (49, false), .fa 53 1 (.t 52)⟩ ::
      ⟨some (49, false), .ld1 54 (.t 53)⟩ ::
      ⟨some (49, false), .mv 55 (.t 0)⟩ ::
      ⟨some (49, false), .bin 56 .geq .num (.t 54) (.t 55)⟩ ::
      ⟨none, .pick 57 (.t 49) (.c (.v (.bool true))) (.t 56)⟩ ::
      ⟨none, .mv 58 (.t 57)⟩ ::
      ⟨some (58, false), .mv 59 (.t 1)⟩ ::
      ⟨some (58, false), .mv 60 (.t 5)⟩ ::
      ⟨some (58, false), .ixs 61 2 (.t 59) (.t 60)⟩ ::
      ⟨some (58, false), .fa 62 0 (.t 61)⟩ ::
      ⟨some (58, false), .ld1 63 (.t 62)⟩ ::
      ⟨some (58, false), .mv 64 (.t 1)⟩ ::
      ⟨some (58, false), .mv 65 (.t 5)⟩ ::
      ⟨some (58, false), .ixs 66 2 (.t 64) (.t 65)⟩ ::
      ⟨some (58, false), .fa 67 1 (.t 66)⟩ ::
      ⟨some (58, false), .ld1 68 (.t 67)⟩ :: []) [⟨some (58, false), .bin 69 .eql .num (.t 63) (.t 68)⟩,
      ⟨none, .pick 70 (.t 58) (.c (.v (.bool true))) (.t 69)⟩])
    (.cnd (.t 70)
     (.seq (.ops [⟨none, .asg 4 (.c (.v (.bool false)))⟩])
     (.seq (.scr r26) .ret))
     .skip))
   (.seq (.drw (⟨none, .mv 71 (.t 5)⟩ ::
     ⟨none, .bin 72 .gtr .num (.t 71) (.c (.v (.int .i64 0)))⟩ ::
     ⟨none, .mv 73 (.t 72)⟩ ::
     ⟨some (73, true), .mv 74 (.t 1)⟩ ::
     ⟨some (73, true), .mv 75 (.t 5)⟩ ::
     ⟨some (73, true), .ixs 76 2 (.t 74) (.t 75)⟩ ::
     ⟨some (73, true), .fa 77 0 (.t 76)⟩ ::
     ⟨some (73, true), .ld1 78 (.t 77)⟩ ::
     ⟨some (73, true), .mv 79 (.t 1)⟩ ::
     ⟨some (73, true), .mv 80 (.t 5)⟩ ::
     ⟨some (73, true), .bin 81 .sub .num (.t 80) (.c (.v (.int .i64 1)))⟩ ::
     ⟨some (73, true), .ixs 82 2 (.t 79) (.t 81)⟩ ::
     ⟨some (73, true), .fa 83 0 (.t 82)⟩ ::
     ⟨some (73, true), .ld1 84 (.t 83)⟩ ::
     ⟨some (73, true), .bin 85 .lss .num (.t 78) (.t 84)⟩ ::
     ⟨some (73, true), .mv 86 (.t 85)⟩ ::
     ⟨some (86, false), .mv 87 (.t 1)⟩ ::
     ⟨some (86, false), .mv 88 (.t 5)⟩ ::
     ⟨some (86, false), .ixs 89 2 (.t 87) (.t 88)⟩ ::
     ⟨some (86, false), .fa 90 0 (.t 89)⟩ ::
     ⟨some (86, false), .ld1 91 (.t 90)⟩ ::
     ⟨some (86, false), .mv 92 (.t 1)⟩ ::
     ⟨some (86, false), .mv 93 (.t 5)⟩ ::
     ⟨some (86, false), .bin 94 .sub .num (.t 93) (.c (.v (.int .i64 1)))⟩ ::
     ⟨some (86, false), .ixs 95 2 (.t 92) (.t 94)⟩ ::
     ⟨some (86, false), .fa 96 0 (.t 95)⟩ ::
     ⟨some (86, false), .ld1 97 (.t 96)⟩ ::
     ⟨some (86, false), .bin 98 .eql .num (.t 91) (.t 97)⟩ ::
     ⟨some (86, false), .mv 99 (.t 98)⟩ ::
     ⟨some (99, true), .mv 100 (.t 1)⟩ ::
     ⟨some (99, true), .mv 101 (.t 5)⟩ ::
     ⟨some (99, true), .ixs 102 2 (.t 100) (.t 101)⟩ ::
     ⟨some (99, true), .fa 103 1 (.t 102)⟩ ::
     ⟨some (99, true), .ld1 104 (.t 103)⟩ ::
     ⟨some (99, true), .mv 105 (.t 1)⟩ ::
     ⟨some (99, true), .mv 106 (.t 5)⟩ ::
     ⟨some (99, true), .bin 107 .sub .num (.t 106) (.c (.v (.int .i64 1)))⟩ ::
     ⟨some (99, true), .ixs 108 2 (.t 105) (.t 107)⟩ ::
     ⟨some (99, true), .fa 109 1 (.t 108)⟩ ::
     ⟨some (99, true), .ld1 110 (.t 109)⟩ :: []) [⟨some (99, true), .bin 111 .leq .num (.t 104) (.t 110)⟩,
     ⟨some (86, false), .pick 112 (.t 99) (.t 111) (.c (.v (.bool false)))⟩,
     ⟨some (73, true), .pick 113 (.t 86) (.c (.v (.bool true))) (.t 112)⟩,
     ⟨none, .pick 114 (.t 73) (.t 113) (.c (.v (.bool false)))⟩])
   (.cnd (.t 114)
    (.seq (.ops [⟨none, .asg 4 (.c (.v (.bool false)))⟩])
    (.seq (.scr r26) .ret))
    .skip)))) (.scr x26_1))
 (.ops [⟨none, .mv 24 (.t 5)⟩,
  ⟨none, .bin 25 .add .num (.t 24) (.c (.v (.int .i64 1)))⟩,
  ⟨none, .asg 5 (.t 25)⟩])))
def c26 : MF := ⟨(.seq (.ops [⟨none, .asg 4 (.c (.v (.bool false)))⟩])
 (.seq (.seq (.ops [⟨none, .mv 6 (.t 0)⟩,
    ⟨none, .bin 7 .lss .num (.t 6) (.c (.v (.int .i64 0)))⟩,
    ⟨none, .mv 8 (.t 7)⟩,
    ⟨some (8, false), .mv 9 (.t 0)⟩,
    ⟨some (8, false), .bin 10 .gtr .num (.t 9) (.c (.v (.int .i64 24)))⟩,
    ⟨none, .pick 11 (.t 8) (.c (.v (.bool true))) (.t 10)⟩,
    ⟨none, .mv 12 (.t 11)⟩,
    ⟨some (12, false), .mv 13 (.t 1)⟩,
    ⟨some (12, false), .len 14 false (.t 13)⟩,
    ⟨some (12, false), .mv 15 (.t 0)⟩,
    ⟨some (12, false), .mv 16 (.t 0)⟩,
    ⟨some (12, false), .bin 17 .mul .num (.t 15) (.t 16)⟩,
    ⟨some (12, false), .bin 18 .gtr .num (.t 14) (.t 17)⟩,
    ⟨none, .pick 19 (.t 12) (.c (.v (.bool true))) (.t 18)⟩])
  (.cnd (.t 19)
   (.seq (.ops [⟨none, .asg 4 (.c (.v (.bool false)))⟩])
   (.seq (.scr r26) .ret))
   .skip))
 (.seq (.seq (.ops [⟨none, .asg 5 (.c (.v (.int .i64 0)))⟩])
  (.seq (.blk 0 (.lop b26_0)) (.scr x26_0)))
 (.seq (.ops [⟨none, .asg 4 (.c (.v (.bool true)))⟩])
 (.seq (.scr r26) .ret))))),
  115, [4]⟩


theorem comp3 : compF Go.Proofs.Tryd.prog hints3 3 = some c3 := by kernel_rfl
theorem comp4 : compF Go.Proofs.Tryd.prog hints4 4 = some c4 := by kernel_rfl
theorem comp5 : compF Go.Proofs.Tryd.prog hints5 5 = some c5 := by kernel_rfl
theorem comp6 : compF Go.Proofs.Tryd.prog hints6 6 = some c6 := by kernel_rfl
theorem comp7 : compF Go.Proofs.Tryd.prog hints7 7 = some c7 := by kernel_rfl
theorem comp8 : compF Go.Proofs.Tryd.prog hints8 8 = some c8 := by kernel_rfl
theorem comp9 : compF Go.Proofs.Tryd.prog hints9 9 = some c9 := by kernel_rfl
theorem comp10 : compF Go.Proofs.Tryd.prog hints10 10 = some c10 := by kernel_rfl
theorem comp11 : compF Go.Proofs.Tryd.prog hints11 11 = some c11 := by kernel_rfl
theorem comp12 : compF Go.Proofs.Tryd.prog hints12 12 = some c12 := by kernel_rfl
theorem comp13 : compF Go.Proofs.Tryd.prog hints13 13 = some c13 := by kernel_rfl
theorem comp14 : compF Go.Proofs.Tryd.prog hints14 14 = some c14 := by kernel_rfl
theorem comp15 : compF Go.Proofs.Tryd.prog hints15 15 = some c15 := by kernel_rfl
theorem comp16 : compF Go.Proofs.Tryd.prog hints16 16 = some c16 := by kernel_rfl
theorem comp17 : compF Go.Proofs.Tryd.prog hints17 17 = some c17 := by kernel_rfl
theorem comp18 : compF Go.Proofs.Tryd.prog hints18 18 = some c18 := by kernel_rfl
theorem comp19 : compF Go.Proofs.Tryd.prog hints19 19 = some c19 := by kernel_rfl
theorem comp21 : compF Go.Proofs.Tryd.prog hints21 21 = some c21 := by kernel_rfl
theorem comp22 : compF Go.Proofs.Tryd.prog hints22 22 = some c22 := by kernel_rfl
theorem comp23 : compF Go.Proofs.Tryd.prog hints23 23 = some c23 := by kernel_rfl
theorem comp24 : compF Go.Proofs.Tryd.prog hints24 24 = some c24 := by kernel_rfl
theorem comp25 : compF Go.Proofs.Tryd.prog hints25 25 = some c25 := by kernel_rfl
theorem comp26 : compF Go.Proofs.Tryd.prog hints26 26 = some c26 := by kernel_rfl

def tbl : FuncId → Option MF
  | 3 => some c3
  | 4 => some c4
  | 5 => some c5
  | 6 => some c6
  | 7 => some c7
  | 8 => some c8
  | 9 => some c9
  | 10 => some c10
  | 11 => some c11
  | 12 => some c12
  | 13 => some c13
  | 14 => some c14
  | 15 => some c15
  | 16 => some c16
  | 17 => some c17
  | 18 => some c18
  | 19 => some c19
  | 21 => some c21
  | 22 => some c22
  | 23 => some c23
  | 24 => some c24
  | 25 => some c25
  | 26 => some c26
  | _ => none

theorem tbl_ok (f : FuncId) (mf : MF) (h : tbl f = some mf) : ∃ hints, compF Go.Proofs.Tryd.prog hints f = some mf := by
  unfold tbl at h
  split at h
  · cases h; exact ⟨_, comp3⟩
  · cases h; exact ⟨_, comp4⟩
  · cases h; exact ⟨_, comp5⟩
  · cases h; exact ⟨_, comp6⟩
  · cases h; exact ⟨_, comp7⟩
  · cases h; exact ⟨_, comp8⟩
  · cases h; exact ⟨_, comp9⟩
  · cases h; exact ⟨_, comp10⟩
  · cases h; exact ⟨_, comp11⟩
  · cases h; exact ⟨_, comp12⟩
  · cases h; exact ⟨_, comp13⟩
  · cases h; exact ⟨_, comp14⟩
  · cases h; exact ⟨_, comp15⟩
  · cases h; exact ⟨_, comp16⟩
  · cases h; exact ⟨_, comp17⟩
  · cases h; exact ⟨_, comp18⟩
  · cases h; exact ⟨_, comp19⟩
  · cases h; exact ⟨_, comp21⟩
  · cases h; exact ⟨_, comp22⟩
  · cases h; exact ⟨_, comp23⟩
  · cases h; exact ⟨_, comp24⟩
  · cases h; exact ⟨_, comp25⟩
  · cases h; exact ⟨_, comp26⟩
  · cases h

end Go.Mx
