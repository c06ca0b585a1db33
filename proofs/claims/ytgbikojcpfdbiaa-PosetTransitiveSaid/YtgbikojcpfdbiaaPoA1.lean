import Derived.Test.YtgbikojcpfdbiaaMxR
import Derived.KernelRfl
import Derived.Test.YtgbikojcpfdbiaaChecked
/-
  The functions of this chapter in the machine's code, and that the given program's code is this one. Printed by a program of this repo (gencodes.py).
-/
namespace Go.Mx
set_option linter.unusedVariables false
set_option linter.unusedSimpArgs false
set_option linter.unusedSectionVars false
open Go

/-- coinage/coinagelaw06.PosetOrders -/
def hints3 : List (List Bool) := [[false, false, false, false, true, false, false, false, false, false, false, false, false, false, false, false, false, false, false, false, false, false, false, false, false, false, false, false, false, false, false, false, false, false, false, false, false, false, false, false, false, false, false, false, false, false, false, false, false, false, false, false, false, false, false, false, false, false, false, false, false, false, false], [false, false, false, false, true, false, false, false, false, false, false, false, false, false, false, false, false, false, false, false, false, false, false, false, false, false, false, false, false, false, false, false, false, false, false, false, false, false, false, false, false, false, false, false, false, false, false, false, false, false, false, false, false, false, false, false, false, false, false, false, false, false, false]]
@[simp] def r3 : List Bool := [false, false, false, false, true, false, false, false, false, false, false, false, false, false, false, false, false, false, false, false, false, false, false, false, false, false, false, false, false, false, false, false, false, false, false, false, false, false, false, false, false, false, false, false, false, false, false, false, false, false, false, false, false, false, false, false, false, false, false, false, false, false, false]
@[simp] def R3 (s4 : V) : St := [.dead, .dead, .dead, .dead, s4, .dead, .dead, .dead, .dead, .dead, .dead, .dead, .dead, .dead, .dead, .dead, .dead, .dead, .dead, .dead, .dead, .dead, .dead, .dead, .dead, .dead, .dead, .dead, .dead, .dead, .dead, .dead, .dead, .dead, .dead, .dead, .dead, .dead, .dead, .dead, .dead, .dead, .dead, .dead, .dead, .dead, .dead, .dead, .dead, .dead, .dead, .dead, .dead, .dead, .dead, .dead, .dead, .dead, .dead, .dead, .dead, .dead, .dead]
def c3 : MF := ⟨(.seq (.ops [⟨none, .asg 4 (.c (.v (.bool false)))⟩])
 (.seq (.seq (.ops [⟨none, .call (some 13) 9 []⟩,
    ⟨none, .un 14 .not (.t 13)⟩,
    ⟨none, .mv 15 (.t 14)⟩,
    ⟨some (15, false), .mv 16 (.t 1)⟩,
    ⟨some (15, false), .call (some 17) 10 [(.t 16)]⟩,
    ⟨some (15, false), .un 18 .not (.t 17)⟩,
    ⟨none, .pick 19 (.t 15) (.c (.v (.bool true))) (.t 18)⟩])
  (.cnd (.t 19)
   (.seq (.ops [⟨none, .call (some 20) 9 []⟩,
     ⟨none, .asg 4 (.t 20)⟩])
   (.seq (.scr r3) .ret))
   .skip))
 (.seq (.ops [⟨none, .mv 22 (.t 0)⟩,
   ⟨none, .mv 23 (.t 1)⟩,
   ⟨none, .call (some 24) 11 [(.t 22), (.t 23)]⟩,
   ⟨none, .mv 21 (.t 24)⟩,
   ⟨none, .ext 25 (.t 21) 0⟩,
   ⟨none, .ext 26 (.t 21) 1⟩,
   ⟨none, .asg 5 (.t 25)⟩,
   ⟨none, .asg 6 (.t 26)⟩])
 (.seq (.ops [⟨none, .mv 28 (.t 0)⟩,
   ⟨none, .mv 29 (.t 1)⟩,
   ⟨none, .call (some 30) 12 [(.t 28), (.t 29)]⟩,
   ⟨none, .mv 27 (.t 30)⟩,
   ⟨none, .ext 31 (.t 27) 0⟩,
   ⟨none, .ext 32 (.t 27) 1⟩,
   ⟨none, .asg 7 (.t 31)⟩,
   ⟨none, .asg 8 (.t 32)⟩])
 (.seq (.ops [⟨none, .mv 34 (.t 0)⟩,
   ⟨none, .mv 35 (.t 1)⟩,
   ⟨none, .call (some 36) 13 [(.t 34), (.t 35)]⟩,
   ⟨none, .mv 33 (.t 36)⟩,
   ⟨none, .ext 37 (.t 33) 0⟩,
   ⟨none, .ext 38 (.t 33) 1⟩,
   ⟨none, .asg 9 (.t 37)⟩,
   ⟨none, .asg 10 (.t 38)⟩])
 (.seq (.ops [⟨none, .mv 40 (.t 0)⟩,
   ⟨none, .mv 41 (.t 1)⟩,
   ⟨none, .call (some 42) 14 [(.t 40), (.t 41)]⟩,
   ⟨none, .mv 39 (.t 42)⟩,
   ⟨none, .ext 43 (.t 39) 0⟩,
   ⟨none, .ext 44 (.t 39) 1⟩,
   ⟨none, .asg 11 (.t 43)⟩,
   ⟨none, .asg 12 (.t 44)⟩])
 (.seq (.ops [⟨none, .mv 45 (.t 6)⟩,
   ⟨none, .mv 46 (.t 10)⟩,
   ⟨none, .bin 47 .eql .num (.t 45) (.t 46)⟩,
   ⟨none, .mv 48 (.t 47)⟩,
   ⟨some (48, true), .mv 49 (.t 8)⟩,
   ⟨some (48, true), .mv 50 (.t 12)⟩,
   ⟨some (48, true), .bin 51 .eql .num (.t 49) (.t 50)⟩,
   ⟨none, .pick 52 (.t 48) (.t 51) (.c (.v (.bool false)))⟩,
   ⟨none, .mv 53 (.t 52)⟩,
   ⟨some (53, true), .mv 54 (.t 5)⟩,
   ⟨some (53, true), .mv 55 (.t 9)⟩,
   ⟨some (53, true), .call (some 56) 15 [(.t 54), (.t 55)]⟩,
   ⟨none, .pick 57 (.t 53) (.t 56) (.c (.v (.bool false)))⟩,
   ⟨none, .mv 58 (.t 57)⟩,
   ⟨some (58, true), .mv 59 (.t 7)⟩,
   ⟨some (58, true), .mv 60 (.t 11)⟩,
   ⟨some (58, true), .call (some 61) 15 [(.t 59), (.t 60)]⟩,
   ⟨none, .pick 62 (.t 58) (.t 61) (.c (.v (.bool false)))⟩,
   ⟨none, .asg 4 (.t 62)⟩])
 (.seq (.scr r3) .ret)))))))),
  63, [4]⟩

/-- coinage/coinagelaw06.PosetTransitive -/
def hints4 : List (List Bool) := [[false, false, false, false, false, false, true, false, false, false, false, false, false, false, false, false, false, false, false, false, false, false, false, false, false, false, false, false, false, false, false, false, false, false, false, false, false, false, false, false, false, false], [false, false, false, false, false, false, true, false, false, false, false, false, false, false, false, false, false, false, false, false, false, false, false, false, false, false, false, false, false, false, false, false, false, false, false, false, false, false, false, false, false, false]]
@[simp] def r4 : List Bool := [false, false, false, false, false, false, true, false, false, false, false, false, false, false, false, false, false, false, false, false, false, false, false, false, false, false, false, false, false, false, false, false, false, false, false, false, false, false, false, false, false, false]
@[simp] def R4 (s6 : V) : St := [.dead, .dead, .dead, .dead, .dead, .dead, s6, .dead, .dead, .dead, .dead, .dead, .dead, .dead, .dead, .dead, .dead, .dead, .dead, .dead, .dead, .dead, .dead, .dead, .dead, .dead, .dead, .dead, .dead, .dead, .dead, .dead, .dead, .dead, .dead, .dead, .dead, .dead, .dead, .dead, .dead, .dead]
def c4 : MF := ⟨(.seq (.ops [⟨none, .box 5 (.t 2)⟩,
   ⟨none, .asg 6 (.c (.v (.bool false)))⟩])
 (.seq (.seq (.ops [⟨none, .call (some 7) 9 []⟩,
    ⟨none, .un 8 .not (.t 7)⟩,
    ⟨none, .mv 9 (.t 8)⟩,
    ⟨some (9, false), .mv 10 (.t 1)⟩,
    ⟨some (9, false), .call (some 11) 10 [(.t 10)]⟩,
    ⟨some (9, false), .un 12 .not (.t 11)⟩,
    ⟨none, .pick 13 (.t 9) (.c (.v (.bool true))) (.t 12)⟩])
  (.cnd (.t 13)
   (.seq (.ops [⟨none, .call (some 14) 9 []⟩,
     ⟨none, .asg 6 (.t 14)⟩])
   (.seq (.scr r4) .ret))
   .skip))
 (.seq (.ops [⟨none, .mv 15 (.t 0)⟩,
   ⟨none, .mv 16 (.t 1)⟩,
   ⟨none, .ixa 17 1 3 (.t 5) (.c (.v (.int .i64 0)))⟩,
   ⟨none, .ld1 18 (.t 17)⟩,
   ⟨none, .ixa 19 1 3 (.t 5) (.c (.v (.int .i64 1)))⟩,
   ⟨none, .ld1 20 (.t 19)⟩,
   ⟨none, .call (some 21) 16 [(.t 15), (.t 16), (.t 18), (.t 20)]⟩,
   ⟨none, .un 22 .not (.t 21)⟩,
   ⟨none, .mv 23 (.t 22)⟩,
   ⟨some (23, false), .mv 24 (.t 0)⟩,
   ⟨some (23, false), .mv 25 (.t 1)⟩,
   ⟨some (23, false), .ixa 26 1 3 (.t 5) (.c (.v (.int .i64 1)))⟩,
   ⟨some (23, false), .ld1 27 (.t 26)⟩,
   ⟨some (23, false), .ixa 28 1 3 (.t 5) (.c (.v (.int .i64 2)))⟩,
   ⟨some (23, false), .ld1 29 (.t 28)⟩,
   ⟨some (23, false), .call (some 30) 16 [(.t 24), (.t 25), (.t 27), (.t 29)]⟩,
   ⟨some (23, false), .un 31 .not (.t 30)⟩,
   ⟨none, .pick 32 (.t 23) (.c (.v (.bool true))) (.t 31)⟩,
   ⟨none, .mv 33 (.t 32)⟩,
   ⟨some (33, false), .mv 34 (.t 0)⟩,
   ⟨some (33, false), .mv 35 (.t 1)⟩,
   ⟨some (33, false), .ixa 36 1 3 (.t 5) (.c (.v (.int .i64 0)))⟩,
   ⟨some (33, false), .ld1 37 (.t 36)⟩,
   ⟨some (33, false), .ixa 38 1 3 (.t 5) (.c (.v (.int .i64 2)))⟩,
   ⟨some (33, false), .ld1 39 (.t 38)⟩,
   ⟨some (33, false), .call (some 40) 16 [(.t 34), (.t 35), (.t 37), (.t 39)]⟩,
   ⟨none, .pick 41 (.t 33) (.c (.v (.bool true))) (.t 40)⟩,
   ⟨none, .asg 6 (.t 41)⟩])
 (.seq (.scr r4) .ret)))),
  42, [6]⟩

/-- coinage/coinagelaw06.PosetInduces -/
def hints5 : List (List Bool) := [[false, false, false, false, false, false, true, false, false, false, false, false, false, false, false, false, false, false, false, false, false, false, false, false, false, false, false, false, false, false, false, false, false, false, false, false, false, false, false, false, false, false, false, false, false, false], [false, false, false, false, false, false, true, false, false, false, false, false, false, false, false, false, false, false, false, false, false, false, false, false, false, false, false, false, false, false, false, false, false, false, false, false, false, false, false, false, false, false, false, false, false, false]]
@[simp] def r5 : List Bool := [false, false, false, false, false, false, true, false, false, false, false, false, false, false, false, false, false, false, false, false, false, false, false, false, false, false, false, false, false, false, false, false, false, false, false, false, false, false, false, false, false, false, false, false, false, false]
@[simp] def R5 (s6 : V) : St := [.dead, .dead, .dead, .dead, .dead, .dead, s6, .dead, .dead, .dead, .dead, .dead, .dead, .dead, .dead, .dead, .dead, .dead, .dead, .dead, .dead, .dead, .dead, .dead, .dead, .dead, .dead, .dead, .dead, .dead, .dead, .dead, .dead, .dead, .dead, .dead, .dead, .dead, .dead, .dead, .dead, .dead, .dead, .dead, .dead, .dead]
def c5 : MF := ⟨(.seq (.ops [⟨none, .asg 6 (.c (.v (.bool false)))⟩])
 (.seq (.seq (.ops [⟨none, .call (some 11) 9 []⟩,
    ⟨none, .un 12 .not (.t 11)⟩,
    ⟨none, .mv 13 (.t 12)⟩,
    ⟨some (13, false), .mv 14 (.t 1)⟩,
    ⟨some (13, false), .call (some 15) 10 [(.t 14)]⟩,
    ⟨some (13, false), .un 16 .not (.t 15)⟩,
    ⟨none, .pick 17 (.t 13) (.c (.v (.bool true))) (.t 16)⟩,
    ⟨none, .mv 18 (.t 17)⟩,
    ⟨some (18, false), .mv 19 (.t 2)⟩,
    ⟨some (18, false), .len 20 false (.t 19)⟩,
    ⟨some (18, false), .bin 21 .gtr .num (.t 20) (.c (.v (.int .i64 60)))⟩,
    ⟨none, .pick 22 (.t 18) (.c (.v (.bool true))) (.t 21)⟩])
  (.cnd (.t 22)
   (.seq (.ops [⟨none, .call (some 23) 9 []⟩,
     ⟨none, .asg 6 (.t 23)⟩])
   (.seq (.scr r5) .ret))
   .skip))
 (.seq (.ops [⟨none, .mv 25 (.t 0)⟩,
   ⟨none, .mv 26 (.t 1)⟩,
   ⟨none, .mv 27 (.t 2)⟩,
   ⟨none, .call (some 28) 17 [(.t 25), (.t 26), (.t 27)]⟩,
   ⟨none, .mv 24 (.t 28)⟩,
   ⟨none, .ext 29 (.t 24) 0⟩,
   ⟨none, .ext 30 (.t 24) 1⟩,
   ⟨none, .asg 7 (.t 29)⟩,
   ⟨none, .asg 8 (.t 30)⟩])
 (.seq (.ops [⟨none, .mv 32 (.t 0)⟩,
   ⟨none, .mv 33 (.t 1)⟩,
   ⟨none, .mv 34 (.t 2)⟩,
   ⟨none, .call (some 35) 18 [(.t 32), (.t 33), (.t 34)]⟩,
   ⟨none, .mv 31 (.t 35)⟩,
   ⟨none, .ext 36 (.t 31) 0⟩,
   ⟨none, .ext 37 (.t 31) 1⟩,
   ⟨none, .asg 9 (.t 36)⟩,
   ⟨none, .asg 10 (.t 37)⟩])
 (.seq (.ops [⟨none, .mv 38 (.t 8)⟩,
   ⟨none, .mv 39 (.t 10)⟩,
   ⟨none, .bin 40 .eql .num (.t 38) (.t 39)⟩,
   ⟨none, .mv 41 (.t 40)⟩,
   ⟨some (41, true), .mv 42 (.t 7)⟩,
   ⟨some (41, true), .mv 43 (.t 9)⟩,
   ⟨some (41, true), .call (some 44) 19 [(.t 42), (.t 43)]⟩,
   ⟨none, .pick 45 (.t 41) (.t 44) (.c (.v (.bool false)))⟩,
   ⟨none, .asg 6 (.t 45)⟩])
 (.seq (.scr r5) .ret)))))),
  46, [6]⟩

/-- coinage/coinagelaw06.PosetValid -/
def hints6 : List (List Bool) := [[false, false, false, false, false, false, true, false, false, false, false, false, false, false, false, false, false, false, false, false, false, false, false, false, false, false, false, false, false, false, false, false, false, false, false, false, false, false, false, false, false, false, false, false, false, false, false, false, false, false, false, false, false, false, false, false, false], [false, false, false, false, false, false, true, false, false, false, false, false, false, false, false, false, false, false, false, false, false, false, false, false, false, false, false, false, false, false, false, false, false, false, false, false, false, false, false, false, false, false, false, false, false, false, false, false, false, false, false, false, false, false, false, false, false]]
@[simp] def r6 : List Bool := [false, false, false, false, false, false, true, false, false, false, false, false, false, false, false, false, false, false, false, false, false, false, false, false, false, false, false, false, false, false, false, false, false, false, false, false, false, false, false, false, false, false, false, false, false, false, false, false, false, false, false, false, false, false, false, false, false]
@[simp] def R6 (s6 : V) : St := [.dead, .dead, .dead, .dead, .dead, .dead, s6, .dead, .dead, .dead, .dead, .dead, .dead, .dead, .dead, .dead, .dead, .dead, .dead, .dead, .dead, .dead, .dead, .dead, .dead, .dead, .dead, .dead, .dead, .dead, .dead, .dead, .dead, .dead, .dead, .dead, .dead, .dead, .dead, .dead, .dead, .dead, .dead, .dead, .dead, .dead, .dead, .dead, .dead, .dead, .dead, .dead, .dead, .dead, .dead, .dead, .dead]
def c6 : MF := ⟨(.seq (.ops [⟨none, .box 5 (.t 2)⟩,
   ⟨none, .asg 6 (.c (.v (.bool false)))⟩])
 (.seq (.seq (.ops [⟨none, .call (some 8) 9 []⟩,
    ⟨none, .un 9 .not (.t 8)⟩,
    ⟨none, .mv 10 (.t 9)⟩,
    ⟨some (10, false), .mv 11 (.t 1)⟩,
    ⟨some (10, false), .call (some 12) 10 [(.t 11)]⟩,
    ⟨some (10, false), .un 13 .not (.t 12)⟩,
    ⟨none, .pick 14 (.t 10) (.c (.v (.bool true))) (.t 13)⟩])
  (.cnd (.t 14)
   (.seq (.ops [⟨none, .call (some 15) 9 []⟩,
     ⟨none, .asg 6 (.t 15)⟩])
   (.seq (.scr r6) .ret))
   .skip))
 (.seq (.ops [⟨none, .bs 16 2 0 [] []⟩,
   ⟨none, .mv 17 (.t 1)⟩,
   ⟨none, .app 18 2 (.t 16) (.t 17)⟩,
   ⟨none, .asg 7 (.t 18)⟩])
 (.seq (.drw [⟨none, .mv 19 (.t 0)⟩,
   ⟨none, .mv 20 (.t 7)⟩,
   ⟨none, .call (some 21) 20 [(.t 19), (.t 20)]⟩,
   ⟨none, .mv 22 (.t 0)⟩,
   ⟨none, .mv 23 (.t 1)⟩,
   ⟨none, .call (some 24) 21 [(.t 22), (.t 23)]⟩,
   ⟨none, .bin 25 .eql .bool (.t 21) (.t 24)⟩,
   ⟨none, .mv 26 (.t 25)⟩,
   ⟨some (26, true), .mv 27 (.t 0)⟩,
   ⟨some (26, true), .mv 28 (.t 7)⟩,
   ⟨some (26, true), .call (some 29) 22 [(.t 27), (.t 28)]⟩,
   ⟨some (26, true), .mv 30 (.t 0)⟩,
   ⟨some (26, true), .mv 31 (.t 1)⟩,
   ⟨some (26, true), .call (some 32) 23 [(.t 30), (.t 31)]⟩,
   ⟨some (26, true), .bin 33 .eql .bool (.t 29) (.t 32)⟩,
   ⟨none, .pick 34 (.t 26) (.t 33) (.c (.v (.bool false)))⟩,
   ⟨none, .mv 35 (.t 34)⟩,
   ⟨some (35, true), .mv 36 (.t 0)⟩,
   ⟨some (35, true), .mv 37 (.t 7)⟩,
   ⟨some (35, true), .ixa 38 1 2 (.t 5) (.c (.v (.int .i64 0)))⟩,
   ⟨some (35, true), .ld1 39 (.t 38)⟩,
   ⟨some (35, true), .ixa 40 1 2 (.t 5) (.c (.v (.int .i64 1)))⟩,
   ⟨some (35, true), .ld1 41 (.t 40)⟩,
   ⟨some (35, true), .call (some 42) 16 [(.t 36), (.t 37), (.t 39), (.t 41)]⟩,
   ⟨some (35, true), .mv 43 (.t 0)⟩,
   ⟨some (35, true), .mv 44 (.t 1)⟩,
   ⟨some (35, true), .ixa 45 1 2 (.t 5) (.c (.v (.int .i64 0)))⟩,
   ⟨some (35, true), .ld1 46 (.t 45)⟩,
   ⟨some (35, true), .ixa 47 1 2 (.t 5) (.c (.v (.int .i64 1)))⟩,
   ⟨some (35, true), .ld1 48 (.t 47)⟩,
   ⟨some (35, true), .call (some 49) 24 [(.t 43), (.t 44), (.t 46), (.t 48)]⟩,
   ⟨some (35, true), .bin 50 .eql .bool (.t 42) (.t 49)⟩,
   ⟨none, .pick 51 (.t 35) (.t 50) (.c (.v (.bool false)))⟩,
   ⟨none, .mv 52 (.t 51)⟩,
   ⟨some (52, true), .mv 53 (.t 7)⟩,
   ⟨some (52, true), .mv 54 (.t 1)⟩] [⟨some (52, true), .call (some 55) 19 [(.t 53), (.t 54)]⟩,
   ⟨none, .pick 56 (.t 52) (.t 55) (.c (.v (.bool false)))⟩,
   ⟨none, .asg 6 (.t 56)⟩])
 (.seq (.scr r6) .ret))))),
  57, [6]⟩

/-- coinage/coinagelaw06.PosetCycles -/
def hints7 : List (List Bool) := [[false, false, false, false, true, false, false, false, false, false, false, false, false, false, false, false, false, false, false, false, false, false, false, false, false, false, false, false, false, false, false, false, false, false, false, false, false], [false, false, false, false, true, false, false, false, false, false, false, false, false, false, false, false, false, false, false, false, false, false, false, false, false, false, false, false, false, false, false, false, false, false, false, false, false]]
@[simp] def r7 : List Bool := [false, false, false, false, true, false, false, false, false, false, false, false, false, false, false, false, false, false, false, false, false, false, false, false, false, false, false, false, false, false, false, false, false, false, false, false, false]
@[simp] def R7 (s4 : V) : St := [.dead, .dead, .dead, .dead, s4, .dead, .dead, .dead, .dead, .dead, .dead, .dead, .dead, .dead, .dead, .dead, .dead, .dead, .dead, .dead, .dead, .dead, .dead, .dead, .dead, .dead, .dead, .dead, .dead, .dead, .dead, .dead, .dead, .dead, .dead, .dead, .dead]
def c7 : MF := ⟨(.seq (.ops [⟨none, .asg 4 (.c (.v (.bool false)))⟩])
 (.seq (.seq (.ops [⟨none, .call (some 9) 9 []⟩,
    ⟨none, .un 10 .not (.t 9)⟩,
    ⟨none, .mv 11 (.t 10)⟩,
    ⟨some (11, false), .mv 12 (.t 1)⟩,
    ⟨some (11, false), .call (some 13) 10 [(.t 12)]⟩,
    ⟨some (11, false), .un 14 .not (.t 13)⟩,
    ⟨none, .pick 15 (.t 11) (.c (.v (.bool true))) (.t 14)⟩])
  (.cnd (.t 15)
   (.seq (.ops [⟨none, .call (some 16) 9 []⟩,
     ⟨none, .asg 4 (.t 16)⟩])
   (.seq (.scr r7) .ret))
   .skip))
 (.seq (.ops [⟨none, .mv 18 (.t 0)⟩,
   ⟨none, .mv 19 (.t 1)⟩,
   ⟨none, .call (some 20) 25 [(.t 18), (.t 19)]⟩,
   ⟨none, .mv 17 (.t 20)⟩,
   ⟨none, .ext 21 (.t 17) 0⟩,
   ⟨none, .ext 22 (.t 17) 1⟩,
   ⟨none, .asg 5 (.t 21)⟩,
   ⟨none, .asg 6 (.t 22)⟩])
 (.seq (.ops [⟨none, .mv 24 (.t 0)⟩,
   ⟨none, .mv 25 (.t 1)⟩,
   ⟨none, .call (some 26) 26 [(.t 24), (.t 25)]⟩,
   ⟨none, .mv 23 (.t 26)⟩,
   ⟨none, .ext 27 (.t 23) 0⟩,
   ⟨none, .ext 28 (.t 23) 1⟩,
   ⟨none, .asg 7 (.t 27)⟩,
   ⟨none, .asg 8 (.t 28)⟩])
 (.seq (.ops [⟨none, .mv 29 (.t 6)⟩,
   ⟨none, .mv 30 (.t 8)⟩,
   ⟨none, .bin 31 .eql .num (.t 29) (.t 30)⟩,
   ⟨none, .mv 32 (.t 31)⟩,
   ⟨some (32, true), .mv 33 (.t 5)⟩,
   ⟨some (32, true), .mv 34 (.t 7)⟩,
   ⟨some (32, true), .call (some 35) 15 [(.t 33), (.t 34)]⟩,
   ⟨none, .pick 36 (.t 32) (.t 35) (.c (.v (.bool false)))⟩,
   ⟨none, .asg 4 (.t 36)⟩])
 (.seq (.scr r7) .ret)))))),
  37, [4]⟩

/-- coinage/coinagelaw06.PosetEither -/
def hints8 : List (List Bool) := [[false, false, false, false, true, false, false, false, false, false, false, false, false, false, false, false, false, false, false, false, false, false, false, false, false, false, false, false, false, false, false, false, false, false, false, false, false, false, false, false, false, false, false, false, false, false, false, false, false, false, false, false, false, false, false, false, false, false, false, false, false, false, false, false, false, false, false, false, false, false, false, false, false, false, false, false, false, false, false, false, false, false, false, false, false, false, false, false, false, false, false, false, false, false, false, false, false, false, false, false, false, false, false, false, false, false, false, false, false, false, false, false, false, false, false, false, false, false, false, false, false, false, false, false, false, false, false, false, false, false, false, false, false, false, false, false, false, false, false, false, false, false, false, false, false, false, false, false, false, false, false, false, false, false, false, false, false, false, false, false, false, false, false, false, false, false, false, false, false, false, false, false, false, false, false, false, false, false, false, false, false, false, false, false, false, false, false, false, false, false, false, false, false, false, false, false, false, false, false, false, false, false, false, false, false, false, false, false, false, false, false, false, false, false, false, false, false, false, false], [false, false, false, false, true, false, false, false, false, false, false, false, false, false, false, false, false, false, false, false, false, false, false, false, false, false, false, false, false, false, false, false, false, false, false, false, false, false, false, false, false, false, false, false, false, false, false, false, false, false, false, false, false, false, false, false, false, false, false, false, false, false, false, false, false, false, false, false, false, false, false, false, false, false, false, false, false, false, false, false, false, false, false, false, false, false, false, false, false, false, false, false, false, false, false, false, false, false, false, false, false, false, false, false, false, false, false, false, false, false, false, false, false, false, false, false, false, false, false, false, false, false, false, false, false, false, false, false, false, false, false, false, false, false, false, false, false, false, false, false, false, false, false, false, false, false, false, false, false, false, false, false, false, false, false, false, false, false, false, false, false, false, false, false, false, false, false, false, false, false, false, false, false, false, false, false, false, false, false, false, false, false, false, false, false, false, false, false, false, false, false, false, false, false, false, false, false, false, false, false, false, false, false, false, false, false, false, false, false, false, false, false, false, false, false, false, false, false, false], [false, false, false, false, true, false, false, false, false, false, false, false, false, false, false, false, false, false, false, false, false, false, false, false, false, false, false, false, false, false, false, false, false, false, false, false, false, false, false, false, false, false, false, false, false, false, false, false, false, false, false, false, false, false, false, false, false, false, false, false, false, false, false, false, false, false, false, false, false, false, false, false, false, false, false, false, false, false, false, false, false, false, false, false, false, false, false, false, false, false, false, false, false, false, false, false, false, false, false, false, false, false, false, false, false, false, false, false, false, false, false, false, false, false, false, false, false, false, false, false, false, false, false, false, false, false, false, false, false, false, false, false, false, false, false, false, false, false, false, false, false, false, false, false, false, false, false, false, false, false, false, false, false, false, false, false, false, false, false, false, false, false, false, false, false, false, false, false, false, false, false, false, false, false, false, false, false, false, false, false, false, false, false, false, false, false, false, false, false, false, false, false, false, false, false, false, false, false, false, false, false, false, false, false, false, false, false, false, false, false, false, false, false, false, false, false, false, false, false], [false, false, false, false, false, false, false, false, false, false, false, false, false, false, false, false, false, false, false, false, false, false, false, false, false, false, false, false, false, false, false, false, false, false, false, false, false, false, false, false, false, false, false, false, false, false, false, false, false, false, false, false, false, false, false, false, false, false, false, false, false, false, false, false, false, false, false, false, false, false, false, false, false, false, false, false, false, false, false, false, false, false, false, false, false, false, false, false, false, false, false, false, false, false, false, false, false, false, false, false, false, false, false, false, false, false, false, false, false, false, false, false, false, false, false, false, false, false, false, false, false, false, false, false, false, false, false, false, false, false, false, false, false, false, false, false, false, false, false, false, false, false, false, false, false, false, false, false, false, false, false, false, false, false, false, false, false, false, false, false, false, false, false, false, false, false, false, false, false, false, false, false, false, false, false, false, false, false, false, false, false, false, false, false, false, false, false, false, false, false, false, false, false, false, false, false, false, false, false, false, false, false, false, false, false, false, false, false, false, false, false, false, false, false, false, false, false, false, false], [true, true, false, false, false, true, false, false, false, true, false, true, false, false, false, false, false, false, false, false, false, false, false, false, false, true, false, false, true, true, false, false, false, false, false, false, false, false, false, false, false, false, false, false, false, false, false, false, false, false, false, false, false, false, true, false, false, true, true, false, false, false, false, false, false, false, false, false, false, false, false, false, false, false, false, false, false, false, false, false, false, false, false, false, false, false, false, false, false, false, false, false, false, false, false, false, false, false, false, false, false, false, false, false, false, false, false, false, false, false, false, false, false, false, false, false, false, false, false, false, false, false, false, false, false, false, false, false, false, false, false, false, false, false, false, false, false, false, false, false, false, false, false, false, false, false, false, false, false, false, false, false, false, false, false, false, false, false, false, false, false, false, false, false, false, false, false, false, false, false, false, false, false, false, false, false, false, false, false, false, false, false, false, false, false, false, false, false, false, false, false, false, false, false, false, false, false, false, false, false, false, false, false, false, false, false, false, false, false, false, false, false, false, false, false, false, false, false, false], [false, false, false, false, false, false, false, false, false, false, false, false, false, false, false, false, false, false, false, false, false, false, false, false, false, false, false, false, false, false, false, false, false, false, false, false, false, false, false, false, false, false, false, false, false, false, false, false, false, false, false, false, false, false, false, false, false, false, false, false, false, false, false, false, false, false, false, false, false, false, false, false, false, false, false, false, false, false, false, false, false, false, false, false, false, false, false, false, false, false, false, false, false, false, false, false, false, false, false, false, false, false, false, false, false, false, false, false, false, false, false, false, false, false, false, false, false, false, false, false, false, false, false, false, false, false, false, false, false, false, false, false, false, false, false, false, false, false, false, false, false, false, false, false, false, false, false, false, false, false, false, false, false, false, false, false, false, false, false, false, false, false, false, false, false, false, false, false, false, false, false, false, false, false, false, false, false, false, false, false, false, false, false, false, false, false, false, false, false, false, false, false, false, false, false, false, false, false, false, false, false, false, false, false, false, false, false, false, false, false, false, false, false, false, false, false, false, false, false], [true, true, false, false, false, true, false, false, false, true, false, true, false, false, false, false, false, false, false, false, false, false, false, false, false, true, false, false, true, true, false, false, false, false, false, false, false, false, false, false, false, false, false, false, false, false, false, false, false, false, false, false, false, false, true, false, false, true, true, false, false, false, false, false, false, false, false, false, false, false, false, false, false, false, false, false, false, false, false, false, false, false, false, false, false, false, false, false, false, false, false, false, false, false, false, false, false, false, false, false, false, false, false, false, false, false, false, false, false, false, false, false, false, false, false, false, false, false, false, false, false, false, false, false, false, false, false, false, false, false, false, false, false, false, false, false, false, false, false, false, false, false, false, false, false, false, false, false, false, false, false, false, false, false, false, false, false, false, false, false, false, false, false, false, false, false, false, false, false, false, false, false, false, false, false, false, false, false, false, false, false, false, false, false, false, false, false, false, false, false, false, false, false, false, false, false, false, false, false, false, false, false, false, false, false, false, false, false, false, false, false, false, false, false, false, false, false, false, false], [false, false, false, false, true, false, false, false, false, false, false, false, false, false, false, false, false, false, false, false, false, false, false, false, false, false, false, false, false, false, false, false, false, false, false, false, false, false, false, false, false, false, false, false, false, false, false, false, false, false, false, false, false, false, false, false, false, false, false, false, false, false, false, false, false, false, false, false, false, false, false, false, false, false, false, false, false, false, false, false, false, false, false, false, false, false, false, false, false, false, false, false, false, false, false, false, false, false, false, false, false, false, false, false, false, false, false, false, false, false, false, false, false, false, false, false, false, false, false, false, false, false, false, false, false, false, false, false, false, false, false, false, false, false, false, false, false, false, false, false, false, false, false, false, false, false, false, false, false, false, false, false, false, false, false, false, false, false, false, false, false, false, false, false, false, false, false, false, false, false, false, false, false, false, false, false, false, false, false, false, false, false, false, false, false, false, false, false, false, false, false, false, false, false, false, false, false, false, false, false, false, false, false, false, false, false, false, false, false, false, false, false, false, false, false, false, false, false, false], [false, false, false, false, true, false, false, false, false, false, false, false, false, false, false, false, false, false, false, false, false, false, false, false, false, false, false, false, false, false, false, false, false, false, false, false, false, false, false, false, false, false, false, false, false, false, false, false, false, false, false, false, false, false, false, false, false, false, false, false, false, false, false, false, false, false, false, false, false, false, false, false, false, false, false, false, false, false, false, false, false, false, false, false, false, false, false, false, false, false, false, false, false, false, false, false, false, false, false, false, false, false, false, false, false, false, false, false, false, false, false, false, false, false, false, false, false, false, false, false, false, false, false, false, false, false, false, false, false, false, false, false, false, false, false, false, false, false, false, false, false, false, false, false, false, false, false, false, false, false, false, false, false, false, false, false, false, false, false, false, false, false, false, false, false, false, false, false, false, false, false, false, false, false, false, false, false, false, false, false, false, false, false, false, false, false, false, false, false, false, false, false, false, false, false, false, false, false, false, false, false, false, false, false, false, false, false, false, false, false, false, false, false, false, false, false, false, false, false], [false, false, false, false, true, false, false, false, false, false, false, false, false, false, false, false, false, false, false, false, false, false, false, false, false, false, false, false, false, false, false, false, false, false, false, false, false, false, false, false, false, false, false, false, false, false, false, false, false, false, false, false, false, false, false, false, false, false, false, false, false, false, false, false, false, false, false, false, false, false, false, false, false, false, false, false, false, false, false, false, false, false, false, false, false, false, false, false, false, false, false, false, false, false, false, false, false, false, false, false, false, false, false, false, false, false, false, false, false, false, false, false, false, false, false, false, false, false, false, false, false, false, false, false, false, false, false, false, false, false, false, false, false, false, false, false, false, false, false, false, false, false, false, false, false, false, false, false, false, false, false, false, false, false, false, false, false, false, false, false, false, false, false, false, false, false, false, false, false, false, false, false, false, false, false, false, false, false, false, false, false, false, false, false, false, false, false, false, false, false, false, false, false, false, false, false, false, false, false, false, false, false, false, false, false, false, false, false, false, false, false, false, false, false, false, false, false, false, false], [false, false, false, false, false, false, false, false, false, false, false, false, false, false, false, false, false, false, false, false, false, false, false, false, false, false, false, false, false, false, false, false, false, false, false, false, false, false, false, false, false, false, false, false, false, false, false, false, false, false, false, false, false, false, false, false, false, false, false, false, false, false, false, false, false, false, false, false, false, false, false, false, false, false, false, false, false, false, false, false, false, false, false, false, false, false, false, false, false, false, false, false, false, false, false, false, false, false, false, false, false, false, false, false, false, false, false, false, false, false, false, false, false, false, false, false, false, false, false, false, false, false, false, false, false, false, false, false, false, false, false, false, false, false, false, false, false, false, false, false, false, false, false, false, false, false, false, false, false, false, false, false, false, false, false, false, false, false, false, false, false, false, false, false, false, false, false, false, false, false, false, false, false, false, false, false, false, false, false, false, false, false, false, false, false, false, false, false, false, false, false, false, false, false, false, false, false, false, false, false, false, false, false, false, false, false, false, false, false, false, false, false, false, false, false, false, false, false, false], [false, true, false, false, false, false, false, true, false, false, false, false, false, false, true, false, false, false, false, false, false, false, false, false, false, false, false, false, false, false, false, true, false, false, true, true, false, false, false, false, false, false, false, false, false, false, false, false, false, false, false, false, false, false, false, false, false, false, false, false, false, false, false, false, false, false, false, false, false, false, false, false, false, false, false, false, false, false, false, false, false, false, false, false, false, false, false, false, false, false, false, false, false, false, false, false, false, false, false, false, false, false, false, false, false, false, false, false, false, false, false, false, false, false, false, false, false, false, false, false, false, false, false, false, false, false, false, false, false, false, false, false, false, false, false, false, false, false, false, false, false, false, false, false, false, false, false, false, false, false, false, false, false, false, false, false, false, false, false, false, false, false, false, false, false, false, false, false, false, false, false, false, false, false, false, false, false, false, false, false, false, false, false, false, false, false, false, false, false, false, false, false, false, false, false, false, false, false, false, false, false, false, false, false, false, false, false, false, false, false, false, false, false, false, false, false, false, false, false], [false, false, false, false, false, false, false, false, false, false, false, false, false, false, false, false, false, false, false, false, false, false, false, false, false, false, false, false, false, false, false, false, false, false, false, false, false, false, false, false, false, false, false, false, false, false, false, false, false, false, false, false, false, false, false, false, false, false, false, false, false, false, false, false, false, false, false, false, false, false, false, false, false, false, false, false, false, false, false, false, false, false, false, false, false, false, false, false, false, false, false, false, false, false, false, false, false, false, false, false, false, false, false, false, false, false, false, false, false, false, false, false, false, false, false, false, false, false, false, false, false, false, false, false, false, false, false, false, false, false, false, false, false, false, false, false, false, false, false, false, false, false, false, false, false, false, false, false, false, false, false, false, false, false, false, false, false, false, false, false, false, false, false, false, false, false, false, false, false, false, false, false, false, false, false, false, false, false, false, false, false, false, false, false, false, false, false, false, false, false, false, false, false, false, false, false, false, false, false, false, false, false, false, false, false, false, false, false, false, false, false, false, false, false, false, false, false, false, false], [false, true, false, false, false, false, false, true, false, false, false, false, false, false, true, false, false, false, false, false, false, false, false, false, false, false, false, false, false, false, false, true, false, false, true, true, false, false, false, false, false, false, false, false, false, false, false, false, false, false, false, false, false, false, false, false, false, false, false, false, false, false, false, false, false, false, false, false, false, false, false, false, false, false, false, false, false, false, false, false, false, false, false, false, false, false, false, false, false, false, false, false, false, false, false, false, false, false, false, false, false, false, false, false, false, false, false, false, false, false, false, false, false, false, false, false, false, false, false, false, false, false, false, false, false, false, false, false, false, false, false, false, false, false, false, false, false, false, false, false, false, false, false, false, false, false, false, false, false, false, false, false, false, false, false, false, false, false, false, false, false, false, false, false, false, false, false, false, false, false, false, false, false, false, false, false, false, false, false, false, false, false, false, false, false, false, false, false, false, false, false, false, false, false, false, false, false, false, false, false, false, false, false, false, false, false, false, false, false, false, false, false, false, false, false, false, false, false, false], [false, true, false, false, false, false, false, true, false, false, false, false, false, false, true, true, false, false, false, false, false, false, false, false, false, false, false, false, false, false, false, true, false, false, true, true, false, false, false, false, false, false, false, false, false, false, false, false, false, false, false, false, false, false, false, false, false, false, false, false, false, false, false, false, false, false, false, false, false, false, false, false, false, false, false, false, false, false, false, false, false, false, false, false, false, false, false, false, false, false, false, false, false, false, false, false, false, false, false, false, false, false, false, false, false, false, false, false, false, false, false, false, false, false, false, false, false, false, false, false, false, false, false, false, false, false, false, false, false, false, false, false, false, false, false, false, false, false, false, false, false, false, false, false, false, false, false, false, false, false, false, false, false, false, false, false, false, false, false, false, false, false, false, false, false, false, false, false, false, false, false, false, false, false, false, false, false, false, false, false, false, false, false, false, false, false, false, false, false, false, false, false, false, false, false, false, false, false, false, false, false, false, false, false, false, false, false, false, false, false, false, false, false, false, false, false, false, false, false], [false, true, false, false, false, false, false, true, false, false, false, false, false, false, true, true, true, false, false, false, false, false, false, false, false, false, false, false, false, false, false, true, false, false, true, true, false, false, false, false, false, false, false, false, false, false, false, false, false, false, false, false, false, false, false, false, false, false, false, false, false, false, false, false, false, false, false, false, false, false, false, false, false, false, false, false, false, false, false, false, false, false, false, false, false, false, false, false, false, false, false, false, false, false, false, false, false, false, false, false, false, false, false, false, false, false, false, false, false, false, false, false, false, false, false, false, false, false, false, false, false, false, false, false, false, false, false, false, false, false, false, false, false, false, false, false, false, false, false, false, false, false, false, false, false, false, false, false, false, false, false, false, false, false, false, false, false, false, false, false, false, false, false, false, false, false, false, false, false, false, false, false, false, false, false, false, false, false, false, false, false, false, false, false, false, false, false, false, false, false, false, false, false, false, false, false, false, false, false, false, false, false, false, false, false, false, false, false, false, false, false, false, false, false, false, false, false, false, false], [false, true, false, false, false, false, false, true, false, false, false, false, false, false, true, true, false, false, false, false, false, false, false, false, false, false, false, false, false, false, false, true, false, false, true, true, false, false, false, false, false, false, false, false, false, false, false, false, false, false, false, false, false, false, false, false, false, false, false, false, false, false, false, false, false, false, false, false, false, false, false, false, false, false, false, false, false, false, false, false, false, false, false, false, false, false, false, false, false, false, false, false, false, false, false, false, false, false, false, false, false, false, false, false, false, false, false, false, false, false, false, false, false, false, false, false, false, false, false, false, false, false, false, false, false, false, false, false, false, false, false, false, false, false, false, false, false, false, false, false, false, false, false, false, false, false, false, false, false, false, false, false, false, false, false, false, false, false, false, false, false, false, false, false, false, false, false, false, false, false, false, false, false, false, false, false, false, false, false, false, false, false, false, false, false, false, false, false, false, false, false, false, false, false, false, false, false, false, false, false, false, false, false, false, false, false, false, false, false, false, false, false, false, false, false, false, false, false, false], [false, true, false, false, false, false, false, true, false, false, false, false, false, false, true, true, true, false, false, false, false, false, false, false, false, false, false, false, false, false, false, true, false, false, true, true, false, false, false, false, false, false, false, false, false, false, false, false, false, false, false, false, false, false, false, false, false, false, false, false, false, false, false, false, false, false, false, false, false, false, false, false, false, false, false, false, false, false, false, false, false, false, false, false, false, false, false, false, false, false, false, false, false, false, false, false, false, false, false, false, false, false, false, false, false, false, false, false, false, false, false, false, false, false, false, false, false, false, false, false, false, false, false, false, false, false, false, false, false, false, false, false, false, false, false, false, false, false, false, false, false, false, false, false, false, false, false, false, false, false, false, false, false, false, false, false, false, false, false, false, false, false, false, false, false, false, false, false, false, false, false, false, false, false, false, false, false, false, false, false, false, false, false, false, false, false, false, false, false, false, false, false, false, false, false, false, false, false, false, false, false, false, false, false, false, false, false, false, false, false, false, false, false, false, false, false, false, false, false], [false, false, false, false, true, false, false, false, false, false, false, false, false, false, false, false, false, false, false, false, false, false, false, false, false, false, false, false, false, false, false, false, false, false, false, false, false, false, false, false, false, false, false, false, false, false, false, false, false, false, false, false, false, false, false, false, false, false, false, false, false, false, false, false, false, false, false, false, false, false, false, false, false, false, false, false, false, false, false, false, false, false, false, false, false, false, false, false, false, false, false, false, false, false, false, false, false, false, false, false, false, false, false, false, false, false, false, false, false, false, false, false, false, false, false, false, false, false, false, false, false, false, false, false, false, false, false, false, false, false, false, false, false, false, false, false, false, false, false, false, false, false, false, false, false, false, false, false, false, false, false, false, false, false, false, false, false, false, false, false, false, false, false, false, false, false, false, false, false, false, false, false, false, false, false, false, false, false, false, false, false, false, false, false, false, false, false, false, false, false, false, false, false, false, false, false, false, false, false, false, false, false, false, false, false, false, false, false, false, false, false, false, false, false, false, false, false, false, false], [false, false, false, false, true, false, false, false, false, false, false, false, false, false, false, false, false, false, false, false, false, false, false, false, false, false, false, false, false, false, false, false, false, false, false, false, false, false, false, false, false, false, false, false, false, false, false, false, false, false, false, false, false, false, false, false, false, false, false, false, false, false, false, false, false, false, false, false, false, false, false, false, false, false, false, false, false, false, false, false, false, false, false, false, false, false, false, false, false, false, false, false, false, false, false, false, false, false, false, false, false, false, false, false, false, false, false, false, false, false, false, false, false, false, false, false, false, false, false, false, false, false, false, false, false, false, false, false, false, false, false, false, false, false, false, false, false, false, false, false, false, false, false, false, false, false, false, false, false, false, false, false, false, false, false, false, false, false, false, false, false, false, false, false, false, false, false, false, false, false, false, false, false, false, false, false, false, false, false, false, false, false, false, false, false, false, false, false, false, false, false, false, false, false, false, false, false, false, false, false, false, false, false, false, false, false, false, false, false, false, false, false, false, false, false, false, false, false, false]]
@[simp] def r8 : List Bool := [false, false, false, false, true, false, false, false, false, false, false, false, false, false, false, false, false, false, false, false, false, false, false, false, false, false, false, false, false, false, false, false, false, false, false, false, false, false, false, false, false, false, false, false, false, false, false, false, false, false, false, false, false, false, false, false, false, false, false, false, false, false, false, false, false, false, false, false, false, false, false, false, false, false, false, false, false, false, false, false, false, false, false, false, false, false, false, false, false, false, false, false, false, false, false, false, false, false, false, false, false, false, false, false, false, false, false, false, false, false, false, false, false, false, false, false, false, false, false, false, false, false, false, false, false, false, false, false, false, false, false, false, false, false, false, false, false, false, false, false, false, false, false, false, false, false, false, false, false, false, false, false, false, false, false, false, false, false, false, false, false, false, false, false, false, false, false, false, false, false, false, false, false, false, false, false, false, false, false, false, false, false, false, false, false, false, false, false, false, false, false, false, false, false, false, false, false, false, false, false, false, false, false, false, false, false, false, false, false, false, false, false, false, false, false, false, false, false, false]
@[simp] def R8 (s4 : V) : St := [.dead, .dead, .dead, .dead, s4, .dead, .dead, .dead, .dead, .dead, .dead, .dead, .dead, .dead, .dead, .dead, .dead, .dead, .dead, .dead, .dead, .dead, .dead, .dead, .dead, .dead, .dead, .dead, .dead, .dead, .dead, .dead, .dead, .dead, .dead, .dead, .dead, .dead, .dead, .dead, .dead, .dead, .dead, .dead, .dead, .dead, .dead, .dead, .dead, .dead, .dead, .dead, .dead, .dead, .dead, .dead, .dead, .dead, .dead, .dead, .dead, .dead, .dead, .dead, .dead, .dead, .dead, .dead, .dead, .dead, .dead, .dead, .dead, .dead, .dead, .dead, .dead, .dead, .dead, .dead, .dead, .dead, .dead, .dead, .dead, .dead, .dead, .dead, .dead, .dead, .dead, .dead, .dead, .dead, .dead, .dead, .dead, .dead, .dead, .dead, .dead, .dead, .dead, .dead, .dead, .dead, .dead, .dead, .dead, .dead, .dead, .dead, .dead, .dead, .dead, .dead, .dead, .dead, .dead, .dead, .dead, .dead, .dead, .dead, .dead, .dead, .dead, .dead, .dead, .dead, .dead, .dead, .dead, .dead, .dead, .dead, .dead, .dead, .dead, .dead, .dead, .dead, .dead, .dead, .dead, .dead, .dead, .dead, .dead, .dead, .dead, .dead, .dead, .dead, .dead, .dead, .dead, .dead, .dead, .dead, .dead, .dead, .dead, .dead, .dead, .dead, .dead, .dead, .dead, .dead, .dead, .dead, .dead, .dead, .dead, .dead, .dead, .dead, .dead, .dead, .dead, .dead, .dead, .dead, .dead, .dead, .dead, .dead, .dead, .dead, .dead, .dead, .dead, .dead, .dead, .dead, .dead, .dead, .dead, .dead, .dead, .dead, .dead, .dead, .dead, .dead, .dead, .dead, .dead, .dead, .dead, .dead, .dead, .dead, .dead, .dead, .dead, .dead, .dead]
@[simp] def x8_0 : List Bool := [false, false, false, false, false, false, false, false, false, false, false, false, false, false, false, false, false, false, false, false, false, false, false, false, false, false, false, false, false, false, false, false, false, false, false, false, false, false, false, false, false, false, false, false, false, false, false, false, false, false, false, false, false, false, false, false, false, false, false, false, false, false, false, false, false, false, false, false, false, false, false, false, false, false, false, false, false, false, false, false, false, false, false, false, false, false, false, false, false, false, false, false, false, false, false, false, false, false, false, false, false, false, false, false, false, false, false, false, false, false, false, false, false, false, false, false, false, false, false, false, false, false, false, false, false, false, false, false, false, false, false, false, false, false, false, false, false, false, false, false, false, false, false, false, false, false, false, false, false, false, false, false, false, false, false, false, false, false, false, false, false, false, false, false, false, false, false, false, false, false, false, false, false, false, false, false, false, false, false, false, false, false, false, false, false, false, false, false, false, false, false, false, false, false, false, false, false, false, false, false, false, false, false, false, false, false, false, false, false, false, false, false, false, false, false, false, false, false, false]
@[simp] def X8_0 : St := [.dead, .dead, .dead, .dead, .dead, .dead, .dead, .dead, .dead, .dead, .dead, .dead, .dead, .dead, .dead, .dead, .dead, .dead, .dead, .dead, .dead, .dead, .dead, .dead, .dead, .dead, .dead, .dead, .dead, .dead, .dead, .dead, .dead, .dead, .dead, .dead, .dead, .dead, .dead, .dead, .dead, .dead, .dead, .dead, .dead, .dead, .dead, .dead, .dead, .dead, .dead, .dead, .dead, .dead, .dead, .dead, .dead, .dead, .dead, .dead, .dead, .dead, .dead, .dead, .dead, .dead, .dead, .dead, .dead, .dead, .dead, .dead, .dead, .dead, .dead, .dead, .dead, .dead, .dead, .dead, .dead, .dead, .dead, .dead, .dead, .dead, .dead, .dead, .dead, .dead, .dead, .dead, .dead, .dead, .dead, .dead, .dead, .dead, .dead, .dead, .dead, .dead, .dead, .dead, .dead, .dead, .dead, .dead, .dead, .dead, .dead, .dead, .dead, .dead, .dead, .dead, .dead, .dead, .dead, .dead, .dead, .dead, .dead, .dead, .dead, .dead, .dead, .dead, .dead, .dead, .dead, .dead, .dead, .dead, .dead, .dead, .dead, .dead, .dead, .dead, .dead, .dead, .dead, .dead, .dead, .dead, .dead, .dead, .dead, .dead, .dead, .dead, .dead, .dead, .dead, .dead, .dead, .dead, .dead, .dead, .dead, .dead, .dead, .dead, .dead, .dead, .dead, .dead, .dead, .dead, .dead, .dead, .dead, .dead, .dead, .dead, .dead, .dead, .dead, .dead, .dead, .dead, .dead, .dead, .dead, .dead, .dead, .dead, .dead, .dead, .dead, .dead, .dead, .dead, .dead, .dead, .dead, .dead, .dead, .dead, .dead, .dead, .dead, .dead, .dead, .dead, .dead, .dead, .dead, .dead, .dead, .dead, .dead, .dead, .dead, .dead, .dead, .dead, .dead]
@[simp] def h8_0 : List Bool := [true, true, false, false, false, true, false, false, false, true, false, true, false, false, false, false, false, false, false, false, false, false, false, false, false, true, false, false, true, true, false, false, false, false, false, false, false, false, false, false, false, false, false, false, false, false, false, false, false, false, false, false, false, false, true, false, false, true, true, false, false, false, false, false, false, false, false, false, false, false, false, false, false, false, false, false, false, false, false, false, false, false, false, false, false, false, false, false, false, false, false, false, false, false, false, false, false, false, false, false, false, false, false, false, false, false, false, false, false, false, false, false, false, false, false, false, false, false, false, false, false, false, false, false, false, false, false, false, false, false, false, false, false, false, false, false, false, false, false, false, false, false, false, false, false, false, false, false, false, false, false, false, false, false, false, false, false, false, false, false, false, false, false, false, false, false, false, false, false, false, false, false, false, false, false, false, false, false, false, false, false, false, false, false, false, false, false, false, false, false, false, false, false, false, false, false, false, false, false, false, false, false, false, false, false, false, false, false, false, false, false, false, false, false, false, false, false, false, false]
@[simp] def L8_0 (s0 s1 s5 s9 s11 s25 s28 s29 s54 s57 s58 : V) : St := [s0, s1, .dead, .dead, .dead, s5, .dead, .dead, .dead, s9, .dead, s11, .dead, .dead, .dead, .dead, .dead, .dead, .dead, .dead, .dead, .dead, .dead, .dead, .dead, s25, .dead, .dead, s28, s29, .dead, .dead, .dead, .dead, .dead, .dead, .dead, .dead, .dead, .dead, .dead, .dead, .dead, .dead, .dead, .dead, .dead, .dead, .dead, .dead, .dead, .dead, .dead, .dead, s54, .dead, .dead, s57, s58, .dead, .dead, .dead, .dead, .dead, .dead, .dead, .dead, .dead, .dead, .dead, .dead, .dead, .dead, .dead, .dead, .dead, .dead, .dead, .dead, .dead, .dead, .dead, .dead, .dead, .dead, .dead, .dead, .dead, .dead, .dead, .dead, .dead, .dead, .dead, .dead, .dead, .dead, .dead, .dead, .dead, .dead, .dead, .dead, .dead, .dead, .dead, .dead, .dead, .dead, .dead, .dead, .dead, .dead, .dead, .dead, .dead, .dead, .dead, .dead, .dead, .dead, .dead, .dead, .dead, .dead, .dead, .dead, .dead, .dead, .dead, .dead, .dead, .dead, .dead, .dead, .dead, .dead, .dead, .dead, .dead, .dead, .dead, .dead, .dead, .dead, .dead, .dead, .dead, .dead, .dead, .dead, .dead, .dead, .dead, .dead, .dead, .dead, .dead, .dead, .dead, .dead, .dead, .dead, .dead, .dead, .dead, .dead, .dead, .dead, .dead, .dead, .dead, .dead, .dead, .dead, .dead, .dead, .dead, .dead, .dead, .dead, .dead, .dead, .dead, .dead, .dead, .dead, .dead, .dead, .dead, .dead, .dead, .dead, .dead, .dead, .dead, .dead, .dead, .dead, .dead, .dead, .dead, .dead, .dead, .dead, .dead, .dead, .dead, .dead, .dead, .dead, .dead, .dead, .dead, .dead, .dead, .dead, .dead, .dead]
@[simp] def x8_1 : List Bool := [true, true, false, false, false, true, false, false, false, true, false, true, false, false, false, false, false, false, false, false, false, false, false, false, false, true, false, false, true, true, false, false, false, false, false, false, false, false, false, false, false, false, false, false, false, false, false, false, false, false, false, false, false, false, true, false, false, true, true, false, false, false, false, false, false, false, false, false, false, false, false, false, false, false, false, false, false, false, false, false, false, false, false, false, false, false, false, false, false, false, false, false, false, false, false, false, false, false, false, false, false, false, false, false, false, false, false, false, false, false, false, false, false, false, false, false, false, false, false, false, false, false, false, false, false, false, false, false, false, false, false, false, false, false, false, false, false, false, false, false, false, false, false, false, false, false, false, false, false, false, false, false, false, false, false, false, false, false, false, false, false, false, false, false, false, false, false, false, false, false, false, false, false, false, false, false, false, false, false, false, false, false, false, false, false, false, false, false, false, false, false, false, false, false, false, false, false, false, false, false, false, false, false, false, false, false, false, false, false, false, false, false, false, false, false, false, false, false, false]
@[simp] def X8_1 (s0 s1 s5 s9 s11 s25 s28 s29 s54 s57 s58 : V) : St := [s0, s1, .dead, .dead, .dead, s5, .dead, .dead, .dead, s9, .dead, s11, .dead, .dead, .dead, .dead, .dead, .dead, .dead, .dead, .dead, .dead, .dead, .dead, .dead, s25, .dead, .dead, s28, s29, .dead, .dead, .dead, .dead, .dead, .dead, .dead, .dead, .dead, .dead, .dead, .dead, .dead, .dead, .dead, .dead, .dead, .dead, .dead, .dead, .dead, .dead, .dead, .dead, s54, .dead, .dead, s57, s58, .dead, .dead, .dead, .dead, .dead, .dead, .dead, .dead, .dead, .dead, .dead, .dead, .dead, .dead, .dead, .dead, .dead, .dead, .dead, .dead, .dead, .dead, .dead, .dead, .dead, .dead, .dead, .dead, .dead, .dead, .dead, .dead, .dead, .dead, .dead, .dead, .dead, .dead, .dead, .dead, .dead, .dead, .dead, .dead, .dead, .dead, .dead, .dead, .dead, .dead, .dead, .dead, .dead, .dead, .dead, .dead, .dead, .dead, .dead, .dead, .dead, .dead, .dead, .dead, .dead, .dead, .dead, .dead, .dead, .dead, .dead, .dead, .dead, .dead, .dead, .dead, .dead, .dead, .dead, .dead, .dead, .dead, .dead, .dead, .dead, .dead, .dead, .dead, .dead, .dead, .dead, .dead, .dead, .dead, .dead, .dead, .dead, .dead, .dead, .dead, .dead, .dead, .dead, .dead, .dead, .dead, .dead, .dead, .dead, .dead, .dead, .dead, .dead, .dead, .dead, .dead, .dead, .dead, .dead, .dead, .dead, .dead, .dead, .dead, .dead, .dead, .dead, .dead, .dead, .dead, .dead, .dead, .dead, .dead, .dead, .dead, .dead, .dead, .dead, .dead, .dead, .dead, .dead, .dead, .dead, .dead, .dead, .dead, .dead, .dead, .dead, .dead, .dead, .dead, .dead, .dead, .dead, .dead, .dead, .dead]
def b8_0 : MC := .seq (.scr h8_0)
 (.seq (.seq (.ops [⟨none, .mv 90 (.t 11)⟩,
    ⟨none, .mv 91 (.t 1)⟩,
    ⟨none, .len 92 false (.t 91)⟩,
    ⟨none, .bin 93 .lss .num (.t 90) (.t 92)⟩])
  (.cnd (.t 93)
   .skip
   (.seq (.scr x8_0) (.ex 0))))
 (.seq (.seq (.blk 1 (.seq (.drw [⟨none, .mv 96 (.t 5)⟩,
     ⟨none, .mv 97 (.t 1)⟩,
     ⟨none, .mv 98 (.t 11)⟩,
     ⟨none, .ixs 99 2 (.t 97) (.t 98)⟩,
     ⟨none, .fa 100 0 (.t 99)⟩,
     ⟨none, .ld1 101 (.t 100)⟩,
     ⟨none, .call (some 102) 27 [(.t 96), (.t 101)]⟩,
     ⟨none, .mv 103 (.t 5)⟩,
     ⟨none, .mv 104 (.t 1)⟩,
     ⟨none, .mv 105 (.t 11)⟩,
     ⟨none, .ixs 106 2 (.t 104) (.t 105)⟩,
     ⟨none, .fa 107 1 (.t 106)⟩,
     ⟨none, .ld1 108 (.t 107)⟩] [⟨none, .call (some 109) 27 [(.t 103), (.t 108)]⟩,
     ⟨none, .asg 12 (.t 102)⟩,
     ⟨none, .asg 13 (.t 109)⟩])
   (.seq (.drw [⟨none, .mv 110 (.t 12)⟩,
     ⟨none, .bin 111 .lss .num (.t 110) (.c (.v (.int .i64 0)))⟩,
     ⟨none, .mv 112 (.t 111)⟩,
     ⟨some (112, false), .mv 113 (.t 13)⟩,
     ⟨some (112, false), .mv 114 (.t 12)⟩,
     ⟨some (112, false), .bin 115 .leq .num (.t 113) (.t 114)⟩,
     ⟨none, .pick 116 (.t 112) (.c (.v (.bool true))) (.t 115)⟩,
     ⟨none, .mv 117 (.t 116)⟩,
     ⟨some (117, false), .mv 118 (.t 1)⟩,
     ⟨some (117, false), .mv 119 (.t 11)⟩,
     ⟨some (117, false), .ixs 120 2 (.t 118) (.t 119)⟩,
     ⟨some (117, false), .fa 121 0 (.t 120)⟩,
     ⟨some (117, false), .ld1 122 (.t 121)⟩,
     ⟨some (117, false), .mv 123 (.t 0)⟩,
     ⟨some (117, false), .bin 124 .geq .num (.t 122) (.t 123)⟩,
     ⟨none, .pick 125 (.t 117) (.c (.v (.bool true))) (.t 124)⟩,
     ⟨none, .mv 126 (.t 125)⟩,
     ⟨some (126, false), .mv 127 (.t 1)⟩,
     ⟨some (126, false), .mv 128 (.t 11)⟩,
     ⟨some (126, false), .ixs 129 2 (.t 127) (.t 128)⟩,
     ⟨some (126, false), .fa 130 1 (.t 129)⟩,
     ⟨some (126, false), .ld1 131 (.t 130)⟩,
     ⟨some (126, false), .mv 132 (.t 0)⟩,
     ⟨some (126, false), .bin 133 .geq .num (.t 131) (.t 132)⟩,
     ⟨none, .pick 134 (.t 126) (.c (.v (.bool true))) (.t 133)⟩,
     ⟨none, .mv 135 (.t 134)⟩,
     ⟨some (135, false), .mv 136 (.t 9)⟩,
     ⟨some (135, false), .mv 137 (.t 1)⟩,
     ⟨some (135, false), .mv 138 (.t 11)⟩,
     ⟨some (135, false), .ixs 139 2 (.t 137) (.t 138)⟩,
     ⟨some (135, false), .fa 140 0 (.t 139)⟩,
     ⟨some (135, false), .ld1 141 (.t 140)⟩,
     ⟨some (135, false), .ixs 142 1 (.t 136) (.t 141)⟩,
     ⟨some (135, false), .ld1 143 (.t 142)⟩,
     ⟨some (135, false), .mv 144 (.t 9)⟩,
     ⟨some (135, false), .mv 145 (.t 1)⟩,
     ⟨some (135, false), .mv 146 (.t 11)⟩,
     ⟨some (135, false), .ixs 147 2 (.t 145) (.t 146)⟩,
     ⟨some (135, false), .fa 148 1 (.t 147)⟩,
     ⟨some (135, false), .ld1 149 (.t 148)⟩,
     ⟨some (135, false), .ixs 150 1 (.t 144) (.t 149)⟩,
     ⟨some (135, false), .ld1 151 (.t 150)⟩] [⟨some (135, false), .bin 152 .geq .num (.t 143) (.t 151)⟩,
     ⟨none, .pick 153 (.t 135) (.c (.v (.bool true))) (.t 152)⟩])
   (.cnd (.t 153)
    (.seq (.ops [⟨none, .asg 4 (.c (.v (.bool false)))⟩])
    (.seq (.scr r8) .ret))
    .skip)))) (.scr x8_1))
 (.ops [⟨none, .mv 94 (.t 11)⟩,
  ⟨none, .bin 95 .add .num (.t 94) (.c (.v (.int .i64 1)))⟩,
  ⟨none, .asg 11 (.t 95)⟩])))
@[simp] def x8_2 : List Bool := [false, false, false, false, false, false, false, false, false, false, false, false, false, false, false, false, false, false, false, false, false, false, false, false, false, false, false, false, false, false, false, false, false, false, false, false, false, false, false, false, false, false, false, false, false, false, false, false, false, false, false, false, false, false, false, false, false, false, false, false, false, false, false, false, false, false, false, false, false, false, false, false, false, false, false, false, false, false, false, false, false, false, false, false, false, false, false, false, false, false, false, false, false, false, false, false, false, false, false, false, false, false, false, false, false, false, false, false, false, false, false, false, false, false, false, false, false, false, false, false, false, false, false, false, false, false, false, false, false, false, false, false, false, false, false, false, false, false, false, false, false, false, false, false, false, false, false, false, false, false, false, false, false, false, false, false, false, false, false, false, false, false, false, false, false, false, false, false, false, false, false, false, false, false, false, false, false, false, false, false, false, false, false, false, false, false, false, false, false, false, false, false, false, false, false, false, false, false, false, false, false, false, false, false, false, false, false, false, false, false, false, false, false, false, false, false, false, false, false]
@[simp] def X8_2 : St := [.dead, .dead, .dead, .dead, .dead, .dead, .dead, .dead, .dead, .dead, .dead, .dead, .dead, .dead, .dead, .dead, .dead, .dead, .dead, .dead, .dead, .dead, .dead, .dead, .dead, .dead, .dead, .dead, .dead, .dead, .dead, .dead, .dead, .dead, .dead, .dead, .dead, .dead, .dead, .dead, .dead, .dead, .dead, .dead, .dead, .dead, .dead, .dead, .dead, .dead, .dead, .dead, .dead, .dead, .dead, .dead, .dead, .dead, .dead, .dead, .dead, .dead, .dead, .dead, .dead, .dead, .dead, .dead, .dead, .dead, .dead, .dead, .dead, .dead, .dead, .dead, .dead, .dead, .dead, .dead, .dead, .dead, .dead, .dead, .dead, .dead, .dead, .dead, .dead, .dead, .dead, .dead, .dead, .dead, .dead, .dead, .dead, .dead, .dead, .dead, .dead, .dead, .dead, .dead, .dead, .dead, .dead, .dead, .dead, .dead, .dead, .dead, .dead, .dead, .dead, .dead, .dead, .dead, .dead, .dead, .dead, .dead, .dead, .dead, .dead, .dead, .dead, .dead, .dead, .dead, .dead, .dead, .dead, .dead, .dead, .dead, .dead, .dead, .dead, .dead, .dead, .dead, .dead, .dead, .dead, .dead, .dead, .dead, .dead, .dead, .dead, .dead, .dead, .dead, .dead, .dead, .dead, .dead, .dead, .dead, .dead, .dead, .dead, .dead, .dead, .dead, .dead, .dead, .dead, .dead, .dead, .dead, .dead, .dead, .dead, .dead, .dead, .dead, .dead, .dead, .dead, .dead, .dead, .dead, .dead, .dead, .dead, .dead, .dead, .dead, .dead, .dead, .dead, .dead, .dead, .dead, .dead, .dead, .dead, .dead, .dead, .dead, .dead, .dead, .dead, .dead, .dead, .dead, .dead, .dead, .dead, .dead, .dead, .dead, .dead, .dead, .dead, .dead, .dead]
@[simp] def h8_1 : List Bool := [false, true, false, false, false, false, false, true, false, false, false, false, false, false, true, false, false, false, false, false, false, false, false, false, false, false, false, false, false, false, false, true, false, false, true, true, false, false, false, false, false, false, false, false, false, false, false, false, false, false, false, false, false, false, false, false, false, false, false, false, false, false, false, false, false, false, false, false, false, false, false, false, false, false, false, false, false, false, false, false, false, false, false, false, false, false, false, false, false, false, false, false, false, false, false, false, false, false, false, false, false, false, false, false, false, false, false, false, false, false, false, false, false, false, false, false, false, false, false, false, false, false, false, false, false, false, false, false, false, false, false, false, false, false, false, false, false, false, false, false, false, false, false, false, false, false, false, false, false, false, false, false, false, false, false, false, false, false, false, false, false, false, false, false, false, false, false, false, false, false, false, false, false, false, false, false, false, false, false, false, false, false, false, false, false, false, false, false, false, false, false, false, false, false, false, false, false, false, false, false, false, false, false, false, false, false, false, false, false, false, false, false, false, false, false, false, false, false, false]
@[simp] def L8_1 (s1 s7 s14 s31 s34 s35 : V) : St := [.dead, s1, .dead, .dead, .dead, .dead, .dead, s7, .dead, .dead, .dead, .dead, .dead, .dead, s14, .dead, .dead, .dead, .dead, .dead, .dead, .dead, .dead, .dead, .dead, .dead, .dead, .dead, .dead, .dead, .dead, s31, .dead, .dead, s34, s35, .dead, .dead, .dead, .dead, .dead, .dead, .dead, .dead, .dead, .dead, .dead, .dead, .dead, .dead, .dead, .dead, .dead, .dead, .dead, .dead, .dead, .dead, .dead, .dead, .dead, .dead, .dead, .dead, .dead, .dead, .dead, .dead, .dead, .dead, .dead, .dead, .dead, .dead, .dead, .dead, .dead, .dead, .dead, .dead, .dead, .dead, .dead, .dead, .dead, .dead, .dead, .dead, .dead, .dead, .dead, .dead, .dead, .dead, .dead, .dead, .dead, .dead, .dead, .dead, .dead, .dead, .dead, .dead, .dead, .dead, .dead, .dead, .dead, .dead, .dead, .dead, .dead, .dead, .dead, .dead, .dead, .dead, .dead, .dead, .dead, .dead, .dead, .dead, .dead, .dead, .dead, .dead, .dead, .dead, .dead, .dead, .dead, .dead, .dead, .dead, .dead, .dead, .dead, .dead, .dead, .dead, .dead, .dead, .dead, .dead, .dead, .dead, .dead, .dead, .dead, .dead, .dead, .dead, .dead, .dead, .dead, .dead, .dead, .dead, .dead, .dead, .dead, .dead, .dead, .dead, .dead, .dead, .dead, .dead, .dead, .dead, .dead, .dead, .dead, .dead, .dead, .dead, .dead, .dead, .dead, .dead, .dead, .dead, .dead, .dead, .dead, .dead, .dead, .dead, .dead, .dead, .dead, .dead, .dead, .dead, .dead, .dead, .dead, .dead, .dead, .dead, .dead, .dead, .dead, .dead, .dead, .dead, .dead, .dead, .dead, .dead, .dead, .dead, .dead, .dead, .dead, .dead, .dead]
@[simp] def x8_3 : List Bool := [false, true, false, false, false, false, false, true, false, false, false, false, false, false, true, false, false, false, false, false, false, false, false, false, false, false, false, false, false, false, false, true, false, false, true, true, false, false, false, false, false, false, false, false, false, false, false, false, false, false, false, false, false, false, false, false, false, false, false, false, false, false, false, false, false, false, false, false, false, false, false, false, false, false, false, false, false, false, false, false, false, false, false, false, false, false, false, false, false, false, false, false, false, false, false, false, false, false, false, false, false, false, false, false, false, false, false, false, false, false, false, false, false, false, false, false, false, false, false, false, false, false, false, false, false, false, false, false, false, false, false, false, false, false, false, false, false, false, false, false, false, false, false, false, false, false, false, false, false, false, false, false, false, false, false, false, false, false, false, false, false, false, false, false, false, false, false, false, false, false, false, false, false, false, false, false, false, false, false, false, false, false, false, false, false, false, false, false, false, false, false, false, false, false, false, false, false, false, false, false, false, false, false, false, false, false, false, false, false, false, false, false, false, false, false, false, false, false, false]
@[simp] def X8_3 (s1 s7 s14 s31 s34 s35 : V) : St := [.dead, s1, .dead, .dead, .dead, .dead, .dead, s7, .dead, .dead, .dead, .dead, .dead, .dead, s14, .dead, .dead, .dead, .dead, .dead, .dead, .dead, .dead, .dead, .dead, .dead, .dead, .dead, .dead, .dead, .dead, s31, .dead, .dead, s34, s35, .dead, .dead, .dead, .dead, .dead, .dead, .dead, .dead, .dead, .dead, .dead, .dead, .dead, .dead, .dead, .dead, .dead, .dead, .dead, .dead, .dead, .dead, .dead, .dead, .dead, .dead, .dead, .dead, .dead, .dead, .dead, .dead, .dead, .dead, .dead, .dead, .dead, .dead, .dead, .dead, .dead, .dead, .dead, .dead, .dead, .dead, .dead, .dead, .dead, .dead, .dead, .dead, .dead, .dead, .dead, .dead, .dead, .dead, .dead, .dead, .dead, .dead, .dead, .dead, .dead, .dead, .dead, .dead, .dead, .dead, .dead, .dead, .dead, .dead, .dead, .dead, .dead, .dead, .dead, .dead, .dead, .dead, .dead, .dead, .dead, .dead, .dead, .dead, .dead, .dead, .dead, .dead, .dead, .dead, .dead, .dead, .dead, .dead, .dead, .dead, .dead, .dead, .dead, .dead, .dead, .dead, .dead, .dead, .dead, .dead, .dead, .dead, .dead, .dead, .dead, .dead, .dead, .dead, .dead, .dead, .dead, .dead, .dead, .dead, .dead, .dead, .dead, .dead, .dead, .dead, .dead, .dead, .dead, .dead, .dead, .dead, .dead, .dead, .dead, .dead, .dead, .dead, .dead, .dead, .dead, .dead, .dead, .dead, .dead, .dead, .dead, .dead, .dead, .dead, .dead, .dead, .dead, .dead, .dead, .dead, .dead, .dead, .dead, .dead, .dead, .dead, .dead, .dead, .dead, .dead, .dead, .dead, .dead, .dead, .dead, .dead, .dead, .dead, .dead, .dead, .dead, .dead, .dead]
@[simp] def x8_4 : List Bool := [false, true, false, false, false, false, false, true, false, false, false, false, false, false, true, true, false, false, false, false, false, false, false, false, false, false, false, false, false, false, false, true, false, false, true, true, false, false, false, false, false, false, false, false, false, false, false, false, false, false, false, false, false, false, false, false, false, false, false, false, false, false, false, false, false, false, false, false, false, false, false, false, false, false, false, false, false, false, false, false, false, false, false, false, false, false, false, false, false, false, false, false, false, false, false, false, false, false, false, false, false, false, false, false, false, false, false, false, false, false, false, false, false, false, false, false, false, false, false, false, false, false, false, false, false, false, false, false, false, false, false, false, false, false, false, false, false, false, false, false, false, false, false, false, false, false, false, false, false, false, false, false, false, false, false, false, false, false, false, false, false, false, false, false, false, false, false, false, false, false, false, false, false, false, false, false, false, false, false, false, false, false, false, false, false, false, false, false, false, false, false, false, false, false, false, false, false, false, false, false, false, false, false, false, false, false, false, false, false, false, false, false, false, false, false, false, false, false, false]
@[simp] def X8_4 (s1 s7 s14 s15 s31 s34 s35 : V) : St := [.dead, s1, .dead, .dead, .dead, .dead, .dead, s7, .dead, .dead, .dead, .dead, .dead, .dead, s14, s15, .dead, .dead, .dead, .dead, .dead, .dead, .dead, .dead, .dead, .dead, .dead, .dead, .dead, .dead, .dead, s31, .dead, .dead, s34, s35, .dead, .dead, .dead, .dead, .dead, .dead, .dead, .dead, .dead, .dead, .dead, .dead, .dead, .dead, .dead, .dead, .dead, .dead, .dead, .dead, .dead, .dead, .dead, .dead, .dead, .dead, .dead, .dead, .dead, .dead, .dead, .dead, .dead, .dead, .dead, .dead, .dead, .dead, .dead, .dead, .dead, .dead, .dead, .dead, .dead, .dead, .dead, .dead, .dead, .dead, .dead, .dead, .dead, .dead, .dead, .dead, .dead, .dead, .dead, .dead, .dead, .dead, .dead, .dead, .dead, .dead, .dead, .dead, .dead, .dead, .dead, .dead, .dead, .dead, .dead, .dead, .dead, .dead, .dead, .dead, .dead, .dead, .dead, .dead, .dead, .dead, .dead, .dead, .dead, .dead, .dead, .dead, .dead, .dead, .dead, .dead, .dead, .dead, .dead, .dead, .dead, .dead, .dead, .dead, .dead, .dead, .dead, .dead, .dead, .dead, .dead, .dead, .dead, .dead, .dead, .dead, .dead, .dead, .dead, .dead, .dead, .dead, .dead, .dead, .dead, .dead, .dead, .dead, .dead, .dead, .dead, .dead, .dead, .dead, .dead, .dead, .dead, .dead, .dead, .dead, .dead, .dead, .dead, .dead, .dead, .dead, .dead, .dead, .dead, .dead, .dead, .dead, .dead, .dead, .dead, .dead, .dead, .dead, .dead, .dead, .dead, .dead, .dead, .dead, .dead, .dead, .dead, .dead, .dead, .dead, .dead, .dead, .dead, .dead, .dead, .dead, .dead, .dead, .dead, .dead, .dead, .dead, .dead]
@[simp] def h8_2 : List Bool := [false, true, false, false, false, false, false, true, false, false, false, false, false, false, true, true, true, false, false, false, false, false, false, false, false, false, false, false, false, false, false, true, false, false, true, true, false, false, false, false, false, false, false, false, false, false, false, false, false, false, false, false, false, false, false, false, false, false, false, false, false, false, false, false, false, false, false, false, false, false, false, false, false, false, false, false, false, false, false, false, false, false, false, false, false, false, false, false, false, false, false, false, false, false, false, false, false, false, false, false, false, false, false, false, false, false, false, false, false, false, false, false, false, false, false, false, false, false, false, false, false, false, false, false, false, false, false, false, false, false, false, false, false, false, false, false, false, false, false, false, false, false, false, false, false, false, false, false, false, false, false, false, false, false, false, false, false, false, false, false, false, false, false, false, false, false, false, false, false, false, false, false, false, false, false, false, false, false, false, false, false, false, false, false, false, false, false, false, false, false, false, false, false, false, false, false, false, false, false, false, false, false, false, false, false, false, false, false, false, false, false, false, false, false, false, false, false, false, false]
@[simp] def L8_2 (s1 s7 s14 s15 s16 s31 s34 s35 : V) : St := [.dead, s1, .dead, .dead, .dead, .dead, .dead, s7, .dead, .dead, .dead, .dead, .dead, .dead, s14, s15, s16, .dead, .dead, .dead, .dead, .dead, .dead, .dead, .dead, .dead, .dead, .dead, .dead, .dead, .dead, s31, .dead, .dead, s34, s35, .dead, .dead, .dead, .dead, .dead, .dead, .dead, .dead, .dead, .dead, .dead, .dead, .dead, .dead, .dead, .dead, .dead, .dead, .dead, .dead, .dead, .dead, .dead, .dead, .dead, .dead, .dead, .dead, .dead, .dead, .dead, .dead, .dead, .dead, .dead, .dead, .dead, .dead, .dead, .dead, .dead, .dead, .dead, .dead, .dead, .dead, .dead, .dead, .dead, .dead, .dead, .dead, .dead, .dead, .dead, .dead, .dead, .dead, .dead, .dead, .dead, .dead, .dead, .dead, .dead, .dead, .dead, .dead, .dead, .dead, .dead, .dead, .dead, .dead, .dead, .dead, .dead, .dead, .dead, .dead, .dead, .dead, .dead, .dead, .dead, .dead, .dead, .dead, .dead, .dead, .dead, .dead, .dead, .dead, .dead, .dead, .dead, .dead, .dead, .dead, .dead, .dead, .dead, .dead, .dead, .dead, .dead, .dead, .dead, .dead, .dead, .dead, .dead, .dead, .dead, .dead, .dead, .dead, .dead, .dead, .dead, .dead, .dead, .dead, .dead, .dead, .dead, .dead, .dead, .dead, .dead, .dead, .dead, .dead, .dead, .dead, .dead, .dead, .dead, .dead, .dead, .dead, .dead, .dead, .dead, .dead, .dead, .dead, .dead, .dead, .dead, .dead, .dead, .dead, .dead, .dead, .dead, .dead, .dead, .dead, .dead, .dead, .dead, .dead, .dead, .dead, .dead, .dead, .dead, .dead, .dead, .dead, .dead, .dead, .dead, .dead, .dead, .dead, .dead, .dead, .dead, .dead, .dead]
@[simp] def x8_5 : List Bool := [false, true, false, false, false, false, false, true, false, false, false, false, false, false, true, true, true, false, false, false, false, false, false, false, false, false, false, false, false, false, false, true, false, false, true, true, false, false, false, false, false, false, false, false, false, false, false, false, false, false, false, false, false, false, false, false, false, false, false, false, false, false, false, false, false, false, false, false, false, false, false, false, false, false, false, false, false, false, false, false, false, false, false, false, false, false, false, false, false, false, false, false, false, false, false, false, false, false, false, false, false, false, false, false, false, false, false, false, false, false, false, false, false, false, false, false, false, false, false, false, false, false, false, false, false, false, false, false, false, false, false, false, false, false, false, false, false, false, false, false, false, false, false, false, false, false, false, false, false, false, false, false, false, false, false, false, false, false, false, false, false, false, false, false, false, false, false, false, false, false, false, false, false, false, false, false, false, false, false, false, false, false, false, false, false, false, false, false, false, false, false, false, false, false, false, false, false, false, false, false, false, false, false, false, false, false, false, false, false, false, false, false, false, false, false, false, false, false, false]
@[simp] def X8_5 (s1 s7 s14 s15 s16 s31 s34 s35 : V) : St := [.dead, s1, .dead, .dead, .dead, .dead, .dead, s7, .dead, .dead, .dead, .dead, .dead, .dead, s14, s15, s16, .dead, .dead, .dead, .dead, .dead, .dead, .dead, .dead, .dead, .dead, .dead, .dead, .dead, .dead, s31, .dead, .dead, s34, s35, .dead, .dead, .dead, .dead, .dead, .dead, .dead, .dead, .dead, .dead, .dead, .dead, .dead, .dead, .dead, .dead, .dead, .dead, .dead, .dead, .dead, .dead, .dead, .dead, .dead, .dead, .dead, .dead, .dead, .dead, .dead, .dead, .dead, .dead, .dead, .dead, .dead, .dead, .dead, .dead, .dead, .dead, .dead, .dead, .dead, .dead, .dead, .dead, .dead, .dead, .dead, .dead, .dead, .dead, .dead, .dead, .dead, .dead, .dead, .dead, .dead, .dead, .dead, .dead, .dead, .dead, .dead, .dead, .dead, .dead, .dead, .dead, .dead, .dead, .dead, .dead, .dead, .dead, .dead, .dead, .dead, .dead, .dead, .dead, .dead, .dead, .dead, .dead, .dead, .dead, .dead, .dead, .dead, .dead, .dead, .dead, .dead, .dead, .dead, .dead, .dead, .dead, .dead, .dead, .dead, .dead, .dead, .dead, .dead, .dead, .dead, .dead, .dead, .dead, .dead, .dead, .dead, .dead, .dead, .dead, .dead, .dead, .dead, .dead, .dead, .dead, .dead, .dead, .dead, .dead, .dead, .dead, .dead, .dead, .dead, .dead, .dead, .dead, .dead, .dead, .dead, .dead, .dead, .dead, .dead, .dead, .dead, .dead, .dead, .dead, .dead, .dead, .dead, .dead, .dead, .dead, .dead, .dead, .dead, .dead, .dead, .dead, .dead, .dead, .dead, .dead, .dead, .dead, .dead, .dead, .dead, .dead, .dead, .dead, .dead, .dead, .dead, .dead, .dead, .dead, .dead, .dead, .dead]
def b8_2 : MC := .seq (.scr h8_2)
 (.seq (.seq (.ops [⟨none, .mv 176 (.t 16)⟩,
    ⟨none, .mv 177 (.t 1)⟩,
    ⟨none, .len 178 false (.t 177)⟩,
    ⟨none, .bin 179 .lss .num (.t 176) (.t 178)⟩])
  (.cnd (.t 179)
   .skip
   (.seq (.scr x8_4) (.ex 4))))
 (.seq (.seq (.blk 5 (.drw [⟨none, .mv 182 (.t 15)⟩,
    ⟨none, .mv 183 (.t 182)⟩,
    ⟨some (183, false), .mv 184 (.t 1)⟩,
    ⟨some (183, false), .mv 185 (.t 16)⟩,
    ⟨some (183, false), .ixs 186 2 (.t 184) (.t 185)⟩,
    ⟨some (183, false), .ldn 187 2 (.t 186)⟩,
    ⟨some (183, false), .mv 188 (.t 7)⟩,
    ⟨some (183, false), .mv 189 (.t 14)⟩,
    ⟨some (183, false), .ixs 190 1 (.t 188) (.t 189)⟩,
    ⟨some (183, false), .ld1 191 (.t 190)⟩,
    ⟨some (183, false), .mv 192 (.t 7)⟩,
    ⟨some (183, false), .mv 193 (.t 14)⟩,
    ⟨some (183, false), .bin 194 .add .num (.t 193) (.c (.v (.int .i64 1)))⟩,
    ⟨some (183, false), .mv 195 (.t 7)⟩,
    ⟨some (183, false), .len 196 false (.t 195)⟩,
    ⟨some (183, false), .bin 197 .rem .num (.t 194) (.t 196)⟩,
    ⟨some (183, false), .ixs 198 1 (.t 192) (.t 197)⟩,
    ⟨some (183, false), .ld1 199 (.t 198)⟩,
    ⟨some (183, false), .bld 200 [(.v (.int .i64 0)), (.v (.int .i64 0))] [(0, 1, (.t 191)), (1, 1, (.t 199))]⟩] [⟨some (183, false), .bin 201 .eql (.ag [0, 0]) (.t 187) (.t 200)⟩,
    ⟨none, .pick 202 (.t 183) (.c (.v (.bool true))) (.t 201)⟩,
    ⟨none, .asg 15 (.t 202)⟩])) (.scr x8_5))
 (.ops [⟨none, .mv 180 (.t 16)⟩,
  ⟨none, .bin 181 .add .num (.t 180) (.c (.v (.int .i64 1)))⟩,
  ⟨none, .asg 16 (.t 181)⟩])))
def b8_1 : MC := .seq (.scr h8_1)
 (.seq (.seq (.ops [⟨none, .mv 170 (.t 14)⟩,
    ⟨none, .mv 171 (.t 7)⟩,
    ⟨none, .len 172 false (.t 171)⟩,
    ⟨none, .bin 173 .lss .num (.t 170) (.t 172)⟩])
  (.cnd (.t 173)
   .skip
   (.seq (.scr x8_2) (.ex 2))))
 (.seq (.seq (.blk 3 (.seq (.ops [⟨none, .asg 15 (.c (.v (.bool false)))⟩])
   (.seq (.seq (.ops [⟨none, .asg 16 (.c (.v (.int .i64 0)))⟩])
    (.seq (.blk 4 (.lop b8_2)) (.scr x8_4)))
   (.seq (.drw [⟨none, .mv 203 (.t 15)⟩,
     ⟨none, .un 204 .not (.t 203)⟩,
     ⟨none, .mv 205 (.t 204)⟩,
     ⟨some (205, false), .mv 206 (.t 14)⟩,
     ⟨some (205, false), .bin 207 .gtr .num (.t 206) (.c (.v (.int .i64 0)))⟩,
     ⟨some (205, false), .mv 208 (.t 207)⟩,
     ⟨some (208, true), .mv 209 (.t 7)⟩,
     ⟨some (208, true), .mv 210 (.t 14)⟩,
     ⟨some (208, true), .ixs 211 1 (.t 209) (.t 210)⟩,
     ⟨some (208, true), .ld1 212 (.t 211)⟩,
     ⟨some (208, true), .mv 213 (.t 7)⟩,
     ⟨some (208, true), .ixs 214 1 (.t 213) (.c (.v (.int .i64 0)))⟩,
     ⟨some (208, true), .ld1 215 (.t 214)⟩] [⟨some (208, true), .bin 216 .leq .num (.t 212) (.t 215)⟩,
     ⟨some (205, false), .pick 217 (.t 208) (.t 216) (.c (.v (.bool false)))⟩,
     ⟨none, .pick 218 (.t 205) (.c (.v (.bool true))) (.t 217)⟩])
   (.cnd (.t 218)
    (.seq (.ops [⟨none, .asg 4 (.c (.v (.bool false)))⟩])
    (.seq (.scr r8) .ret))
    .skip))))) (.scr x8_3))
 (.ops [⟨none, .mv 174 (.t 14)⟩,
  ⟨none, .bin 175 .add .num (.t 174) (.c (.v (.int .i64 1)))⟩,
  ⟨none, .asg 14 (.t 175)⟩])))
def c8 : MF := ⟨(.seq (.ops [⟨none, .asg 4 (.c (.v (.bool false)))⟩])
 (.seq (.seq (.ops [⟨none, .call (some 17) 9 []⟩,
    ⟨none, .un 18 .not (.t 17)⟩,
    ⟨none, .mv 19 (.t 18)⟩,
    ⟨some (19, false), .mv 20 (.t 1)⟩,
    ⟨some (19, false), .call (some 21) 10 [(.t 20)]⟩,
    ⟨some (19, false), .un 22 .not (.t 21)⟩,
    ⟨none, .pick 23 (.t 19) (.c (.v (.bool true))) (.t 22)⟩])
  (.cnd (.t 23)
   (.seq (.ops [⟨none, .call (some 24) 9 []⟩,
     ⟨none, .asg 4 (.t 24)⟩])
   (.seq (.scr r8) .ret))
   .skip))
 (.seq (.ops [⟨none, .mv 26 (.t 0)⟩,
   ⟨none, .mv 27 (.t 1)⟩,
   ⟨none, .call (some 28) 11 [(.t 26), (.t 27)]⟩,
   ⟨none, .mv 25 (.t 28)⟩,
   ⟨none, .ext 29 (.t 25) 0⟩,
   ⟨none, .ext 30 (.t 25) 1⟩,
   ⟨none, .asg 5 (.t 29)⟩,
   ⟨none, .asg 6 (.t 30)⟩])
 (.seq (.ops [⟨none, .mv 32 (.t 0)⟩,
   ⟨none, .mv 33 (.t 1)⟩,
   ⟨none, .call (some 34) 25 [(.t 32), (.t 33)]⟩,
   ⟨none, .mv 31 (.t 34)⟩,
   ⟨none, .ext 35 (.t 31) 0⟩,
   ⟨none, .ext 36 (.t 31) 1⟩,
   ⟨none, .asg 7 (.t 35)⟩,
   ⟨none, .asg 8 (.t 36)⟩])
 (.seq (.seq (.ops [⟨none, .mv 37 (.t 6)⟩,
    ⟨none, .bin 38 .eql .num (.t 37) (.c (.v (.int .i64 1)))⟩,
    ⟨none, .mv 39 (.t 38)⟩,
    ⟨some (39, false), .mv 40 (.t 8)⟩,
    ⟨some (39, false), .bin 41 .eql .num (.t 40) (.c (.v (.int .i64 1)))⟩,
    ⟨none, .pick 42 (.t 39) (.c (.v (.bool true))) (.t 41)⟩])
  (.cnd (.t 42)
   (.seq (.ops [⟨none, .mv 43 (.t 6)⟩,
     ⟨none, .mv 44 (.t 8)⟩,
     ⟨none, .bin 45 .eql .num (.t 43) (.t 44)⟩,
     ⟨none, .mv 46 (.t 45)⟩,
     ⟨some (46, true), .mv 47 (.t 0)⟩,
     ⟨some (46, true), .mv 48 (.t 1)⟩,
     ⟨some (46, true), .call (some 49) 20 [(.t 47), (.t 48)]⟩,
     ⟨some (46, true), .un 50 .not (.t 49)⟩,
     ⟨none, .pick 51 (.t 46) (.t 50) (.c (.v (.bool false)))⟩,
     ⟨none, .asg 4 (.t 51)⟩])
   (.seq (.scr r8) .ret))
   .skip))
 (.seq (.seq (.ops [⟨none, .mv 52 (.t 6)⟩,
    ⟨none, .bin 53 .eql .num (.t 52) (.c (.v (.int .i64 0)))⟩])
  (.cnd (.t 53)
   (.seq (.ops [⟨none, .mv 55 (.t 0)⟩,
     ⟨none, .mv 56 (.t 1)⟩,
     ⟨none, .call (some 57) 12 [(.t 55), (.t 56)]⟩,
     ⟨none, .mv 54 (.t 57)⟩,
     ⟨none, .ext 58 (.t 54) 0⟩,
     ⟨none, .ext 59 (.t 54) 1⟩,
     ⟨none, .asg 9 (.t 58)⟩,
     ⟨none, .asg 10 (.t 59)⟩])
   (.seq (.seq (.ops [⟨none, .mv 60 (.t 0)⟩,
      ⟨none, .mv 61 (.t 1)⟩,
      ⟨none, .call (some 62) 21 [(.t 60), (.t 61)]⟩,
      ⟨none, .un 63 .not (.t 62)⟩,
      ⟨none, .mv 64 (.t 63)⟩,
      ⟨some (64, false), .mv 65 (.t 8)⟩,
      ⟨some (64, false), .bin 66 .neq .num (.t 65) (.c (.v (.int .i64 7)))⟩,
      ⟨none, .pick 67 (.t 64) (.c (.v (.bool true))) (.t 66)⟩,
      ⟨none, .mv 68 (.t 67)⟩,
      ⟨some (68, false), .mv 69 (.t 10)⟩,
      ⟨some (68, false), .bin 70 .neq .num (.t 69) (.c (.v (.int .i64 0)))⟩,
      ⟨none, .pick 71 (.t 68) (.c (.v (.bool true))) (.t 70)⟩,
      ⟨none, .mv 72 (.t 71)⟩,
      ⟨some (72, false), .mv 73 (.t 5)⟩,
      ⟨some (72, false), .len 74 false (.t 73)⟩,
      ⟨some (72, false), .mv 75 (.t 0)⟩,
      ⟨some (72, false), .bin 76 .neq .num (.t 74) (.t 75)⟩,
      ⟨none, .pick 77 (.t 72) (.c (.v (.bool true))) (.t 76)⟩,
      ⟨none, .mv 78 (.t 77)⟩,
      ⟨some (78, false), .mv 79 (.t 9)⟩,
      ⟨some (78, false), .len 80 false (.t 79)⟩,
      ⟨some (78, false), .mv 81 (.t 0)⟩,
      ⟨some (78, false), .bin 82 .neq .num (.t 80) (.t 81)⟩,
      ⟨none, .pick 83 (.t 78) (.c (.v (.bool true))) (.t 82)⟩,
      ⟨none, .mv 84 (.t 83)⟩,
      ⟨some (84, false), .mv 85 (.t 0)⟩,
      ⟨some (84, false), .mv 86 (.t 1)⟩,
      ⟨some (84, false), .call (some 87) 22 [(.t 85), (.t 86)]⟩,
      ⟨some (84, false), .un 88 .not (.t 87)⟩,
      ⟨none, .pick 89 (.t 84) (.c (.v (.bool true))) (.t 88)⟩])
    (.cnd (.t 89)
     (.seq (.ops [⟨none, .asg 4 (.c (.v (.bool false)))⟩])
     (.seq (.scr r8) .ret))
     .skip))
   (.seq (.seq (.ops [⟨none, .asg 11 (.c (.v (.int .i64 0)))⟩])
    (.seq (.blk 0 (.lop b8_0)) (.scr x8_0)))
   (.seq (.ops [⟨none, .asg 4 (.c (.v (.bool true)))⟩])
   (.seq (.scr r8) .ret)))))
   .skip))
 (.seq (.seq (.ops [⟨none, .mv 154 (.t 6)⟩,
    ⟨none, .bin 155 .neq .num (.t 154) (.c (.v (.int .i64 11)))⟩,
    ⟨none, .mv 156 (.t 155)⟩,
    ⟨some (156, false), .mv 157 (.t 8)⟩,
    ⟨some (156, false), .bin 158 .neq .num (.t 157) (.c (.v (.int .i64 0)))⟩,
    ⟨none, .pick 159 (.t 156) (.c (.v (.bool true))) (.t 158)⟩,
    ⟨none, .mv 160 (.t 159)⟩,
    ⟨some (160, false), .mv 161 (.t 7)⟩,
    ⟨some (160, false), .len 162 false (.t 161)⟩,
    ⟨some (160, false), .bin 163 .lss .num (.t 162) (.c (.v (.int .i64 2)))⟩,
    ⟨none, .pick 164 (.t 160) (.c (.v (.bool true))) (.t 163)⟩,
    ⟨none, .mv 165 (.t 164)⟩,
    ⟨some (165, false), .mv 166 (.t 0)⟩,
    ⟨some (165, false), .mv 167 (.t 1)⟩,
    ⟨some (165, false), .call (some 168) 22 [(.t 166), (.t 167)]⟩,
    ⟨none, .pick 169 (.t 165) (.c (.v (.bool true))) (.t 168)⟩])
  (.cnd (.t 169)
   (.seq (.ops [⟨none, .asg 4 (.c (.v (.bool false)))⟩])
   (.seq (.scr r8) .ret))
   .skip))
 (.seq (.seq (.ops [⟨none, .asg 14 (.c (.v (.int .i64 0)))⟩])
  (.seq (.blk 2 (.lop b8_1)) (.scr x8_2)))
 (.seq (.ops [⟨none, .asg 4 (.c (.v (.bool true)))⟩])
 (.seq (.scr r8) .ret)))))))))),
  219, [4]⟩

/-- coinage/coinagelaw06.awake -/
def hints9 : List (List Bool) := [[true, false, false, false, false, false, false, false, false, false, false, false, false, false, false, false, false, false, false, false, false, false, false, false, false, false, false, false, false, false, false, false, false, false, false, false]]
@[simp] def r9 : List Bool := [true, false, false, false, false, false, false, false, false, false, false, false, false, false, false, false, false, false, false, false, false, false, false, false, false, false, false, false, false, false, false, false, false, false, false, false]
@[simp] def R9 (s0 : V) : St := [s0, .dead, .dead, .dead, .dead, .dead, .dead, .dead, .dead, .dead, .dead, .dead, .dead, .dead, .dead, .dead, .dead, .dead, .dead, .dead, .dead, .dead, .dead, .dead, .dead, .dead, .dead, .dead, .dead, .dead, .dead, .dead, .dead, .dead, .dead, .dead]
def c9 : MF := ⟨(.seq (.ops [⟨none, .asg 0 (.c (.v (.bool false)))⟩])
 (.seq (.ops [⟨none, .bld 6 [(.v (.int .i64 0)), (.v (.int .i64 0))] [(0, 1, (.c (.v (.int .i64 0)))), (1, 1, (.c (.v (.int .i64 2))))]⟩,
   ⟨none, .bld 7 [(.v (.int .i64 0)), (.v (.int .i64 0))] [(0, 1, (.c (.v (.int .i64 1)))), (1, 1, (.c (.v (.int .i64 2))))]⟩,
   ⟨none, .bld 8 [(.v (.int .i64 0)), (.v (.int .i64 0))] [(0, 1, (.c (.v (.int .i64 2)))), (1, 1, (.c (.v (.int .i64 3))))]⟩,
   ⟨none, .bs 9 2 3 [(.v (.int .i64 0)), (.v (.int .i64 0))] [(0, 2, (.t 6)), (2, 2, (.t 7)), (4, 2, (.t 8))]⟩,
   ⟨none, .asg 1 (.t 9)⟩])
 (.seq (.ops [⟨none, .mv 11 (.t 1)⟩,
   ⟨none, .call (some 12) 11 [(.c (.v (.int .i64 4))), (.t 11)]⟩,
   ⟨none, .mv 10 (.t 12)⟩,
   ⟨none, .ext 13 (.t 10) 0⟩,
   ⟨none, .ext 14 (.t 10) 1⟩,
   ⟨none, .asg 2 (.t 13)⟩,
   ⟨none, .asg 3 (.t 14)⟩])
 (.seq (.ops [⟨none, .mv 16 (.t 1)⟩,
   ⟨none, .call (some 17) 12 [(.c (.v (.int .i64 4))), (.t 16)]⟩,
   ⟨none, .mv 15 (.t 17)⟩,
   ⟨none, .ext 18 (.t 15) 0⟩,
   ⟨none, .ext 19 (.t 15) 1⟩,
   ⟨none, .asg 4 (.t 18)⟩,
   ⟨none, .asg 5 (.t 19)⟩])
 (.seq (.ops [⟨none, .mv 20 (.t 3)⟩,
   ⟨none, .bin 21 .eql .num (.t 20) (.c (.v (.int .i64 0)))⟩,
   ⟨none, .mv 22 (.t 21)⟩,
   ⟨some (22, true), .mv 23 (.t 2)⟩,
   ⟨some (22, true), .bs 24 1 4 [(.v (.int .i64 0))] [(0, 1, (.c (.v (.int .i64 0)))), (1, 1, (.c (.v (.int .i64 1)))), (2, 1, (.c (.v (.int .i64 2)))), (3, 1, (.c (.v (.int .i64 3))))]⟩,
   ⟨some (22, true), .call (some 25) 15 [(.t 23), (.t 24)]⟩,
   ⟨none, .pick 26 (.t 22) (.t 25) (.c (.v (.bool false)))⟩,
   ⟨none, .mv 27 (.t 26)⟩,
   ⟨some (27, true), .mv 28 (.t 5)⟩,
   ⟨some (27, true), .bin 29 .eql .num (.t 28) (.c (.v (.int .i64 0)))⟩,
   ⟨none, .pick 30 (.t 27) (.t 29) (.c (.v (.bool false)))⟩,
   ⟨none, .mv 31 (.t 30)⟩,
   ⟨some (31, true), .mv 32 (.t 4)⟩,
   ⟨some (31, true), .bs 33 1 4 [(.v (.int .i64 0))] [(0, 1, (.c (.v (.int .i64 0)))), (1, 1, (.c (.v (.int .i64 0)))), (2, 1, (.c (.v (.int .i64 1)))), (3, 1, (.c (.v (.int .i64 2))))]⟩,
   ⟨some (31, true), .call (some 34) 15 [(.t 32), (.t 33)]⟩,
   ⟨none, .pick 35 (.t 31) (.t 34) (.c (.v (.bool false)))⟩,
   ⟨none, .asg 0 (.t 35)⟩])
 (.seq (.scr r9) .ret)))))),
  36, [0]⟩

/-- coinage/coinagelaw06.few -/
def hints10 : List (List Bool) := [[false, false, true, false, false, false]]
@[simp] def r10 : List Bool := [false, false, true, false, false, false]
@[simp] def R10 (s2 : V) : St := [.dead, .dead, s2, .dead, .dead, .dead]
def c10 : MF := ⟨(.seq (.ops [⟨none, .asg 2 (.c (.v (.bool false)))⟩])
 (.seq (.ops [⟨none, .mv 3 (.t 0)⟩,
   ⟨none, .len 4 false (.t 3)⟩,
   ⟨none, .bin 5 .leq .num (.t 4) (.c (.v (.int .i64 150)))⟩,
   ⟨none, .asg 2 (.t 5)⟩])
 (.seq (.scr r10) .ret))),
  6, [2]⟩

/-- coinage/poset.Order -/
def hints11 : List (List Bool) := [[false, false, false, false, true, true, false, false, false, false, false, false, false, false, false, false, false, false, false, false, false, false, false, false, false, false, false, false, false, false, false, false, false, false, false, false, false, false, false, false, false, false, false, false, false, false, false, false, false, false, false, false, false, false, false, false, false, false, false, false, false, false, false, false, false, false, false, false, false, false], [true, false, false, false, false, false, true, false, false, false, false, false, false, false, false, false, false, true, false, false, false, false, false, false, false, false, false, false, false, false, false, false, false, false, false, false, false, false, false, false, false, false, false, false, false, false, false, false, false, false, false, false, false, false, false, false, false, false, false, false, false, false, false, false, false, false, false, false, true, false], [true, true, false, false, false, false, true, false, false, false, false, false, false, false, false, false, false, true, true, true, true, false, false, false, false, false, false, false, false, false, false, false, false, false, false, false, false, false, false, false, false, false, false, false, false, false, false, false, false, false, false, false, false, false, false, false, false, false, false, false, false, false, false, false, false, false, false, false, true, false], [true, false, false, false, false, false, true, false, false, false, false, false, false, false, false, false, false, true, false, false, false, false, false, false, false, false, false, false, false, false, false, false, false, false, false, false, false, false, false, false, false, false, false, false, false, false, false, false, false, false, false, false, false, false, false, false, false, false, false, false, false, false, false, false, false, false, false, false, true, false], [true, true, false, false, false, false, true, false, false, false, false, false, false, false, false, false, false, true, true, true, true, false, false, false, false, false, false, false, false, false, false, false, false, false, false, false, false, false, false, false, false, false, false, false, false, false, false, false, false, false, false, false, false, false, false, false, false, false, false, false, false, false, false, false, false, false, false, false, true, false], [false, false, false, false, false, false, false, false, false, false, true, false, false, false, false, false, false, false, false, false, false, false, false, false, false, false, false, false, false, false, false, false, false, false, false, false, false, false, false, false, false, false, false, false, false, false, false, false, false, false, false, false, false, false, false, false, false, false, false, false, false, false, false, false, false, false, false, false, true, false], [true, false, false, false, false, false, true, false, false, true, true, false, false, false, false, false, false, true, false, false, false, false, false, false, false, false, false, false, false, false, false, false, false, false, false, false, false, false, false, false, false, false, false, false, false, false, false, false, false, false, false, false, false, false, false, false, false, false, false, false, false, false, false, false, false, false, false, false, true, false], [false, false, false, false, false, false, false, false, false, false, true, false, false, false, false, false, false, false, false, false, false, false, false, false, false, false, false, false, false, false, false, false, false, false, false, false, false, false, false, false, false, false, false, false, false, false, false, false, false, false, false, false, false, false, false, false, false, false, false, false, false, false, false, false, false, false, false, false, true, false], [true, false, false, false, false, false, true, false, false, true, true, false, false, false, false, false, false, true, false, false, false, false, false, false, false, false, false, false, false, false, false, false, false, false, false, false, false, false, false, false, false, false, false, false, false, false, false, false, false, false, false, false, false, false, false, false, false, false, false, false, false, false, false, false, false, false, false, false, true, false], [true, false, false, false, false, false, true, false, false, true, true, true, false, false, false, false, false, true, false, false, false, false, false, false, false, false, false, false, false, false, false, false, false, false, false, false, false, false, false, false, false, false, false, false, false, false, false, false, false, false, false, false, false, false, false, false, false, false, false, false, false, false, false, false, false, false, false, false, true, false], [true, false, false, false, false, false, true, false, false, true, true, true, false, false, false, false, false, true, false, false, false, false, false, false, false, false, false, false, false, false, false, false, false, false, false, false, false, false, false, false, false, false, false, false, false, false, false, false, false, false, false, false, false, false, false, false, false, false, false, false, false, false, false, false, false, false, false, false, true, false], [true, false, false, false, false, false, true, false, false, true, true, true, false, false, false, false, false, true, false, false, false, false, false, false, false, false, false, false, false, false, false, false, false, false, false, false, false, false, false, false, false, false, false, false, false, false, false, false, false, false, false, false, false, false, false, false, false, false, false, false, false, false, false, false, false, false, false, false, true, false], [true, false, false, false, false, false, true, false, false, true, true, true, false, false, false, false, false, true, false, false, false, false, false, false, false, false, false, false, false, false, false, false, false, false, false, false, false, false, false, false, false, false, false, false, false, false, false, false, false, false, false, false, false, false, false, false, false, false, false, false, false, false, false, false, false, false, false, false, true, false], [false, false, false, false, true, true, false, false, false, false, false, false, false, false, false, false, false, false, false, false, false, false, false, false, false, false, false, false, false, false, false, false, false, false, false, false, false, false, false, false, false, false, false, false, false, false, false, false, false, false, false, false, false, false, false, false, false, false, false, false, false, false, false, false, false, false, false, false, false, false], [false, false, false, false, true, true, false, false, false, false, false, false, false, false, false, false, false, false, false, false, false, false, false, false, false, false, false, false, false, false, false, false, false, false, false, false, false, false, false, false, false, false, false, false, false, false, false, false, false, false, false, false, false, false, false, false, false, false, false, false, false, false, false, false, false, false, false, false, false, false]]
@[simp] def r11 : List Bool := [false, false, false, false, true, true, false, false, false, false, false, false, false, false, false, false, false, false, false, false, false, false, false, false, false, false, false, false, false, false, false, false, false, false, false, false, false, false, false, false, false, false, false, false, false, false, false, false, false, false, false, false, false, false, false, false, false, false, false, false, false, false, false, false, false, false, false, false, false, false]
@[simp] def R11 (s4 s5 : V) : St := [.dead, .dead, .dead, .dead, s4, s5, .dead, .dead, .dead, .dead, .dead, .dead, .dead, .dead, .dead, .dead, .dead, .dead, .dead, .dead, .dead, .dead, .dead, .dead, .dead, .dead, .dead, .dead, .dead, .dead, .dead, .dead, .dead, .dead, .dead, .dead, .dead, .dead, .dead, .dead, .dead, .dead, .dead, .dead, .dead, .dead, .dead, .dead, .dead, .dead, .dead, .dead, .dead, .dead, .dead, .dead, .dead, .dead, .dead, .dead, .dead, .dead, .dead, .dead, .dead, .dead, .dead, .dead, .dead, .dead]
@[simp] def x11_0 : List Bool := [true, false, false, false, false, false, true, false, false, false, false, false, false, false, false, false, false, true, false, false, false, false, false, false, false, false, false, false, false, false, false, false, false, false, false, false, false, false, false, false, false, false, false, false, false, false, false, false, false, false, false, false, false, false, false, false, false, false, false, false, false, false, false, false, false, false, false, false, true, false]
@[simp] def X11_0 (s0 s6 s17 s68 : V) : St := [s0, .dead, .dead, .dead, .dead, .dead, s6, .dead, .dead, .dead, .dead, .dead, .dead, .dead, .dead, .dead, .dead, s17, .dead, .dead, .dead, .dead, .dead, .dead, .dead, .dead, .dead, .dead, .dead, .dead, .dead, .dead, .dead, .dead, .dead, .dead, .dead, .dead, .dead, .dead, .dead, .dead, .dead, .dead, .dead, .dead, .dead, .dead, .dead, .dead, .dead, .dead, .dead, .dead, .dead, .dead, .dead, .dead, .dead, .dead, .dead, .dead, .dead, .dead, .dead, .dead, .dead, .dead, s68, .dead]
@[simp] def h11_0 : List Bool := [true, true, false, false, false, false, true, false, false, false, false, false, false, false, false, false, false, true, true, true, true, false, false, false, false, false, false, false, false, false, false, false, false, false, false, false, false, false, false, false, false, false, false, false, false, false, false, false, false, false, false, false, false, false, false, false, false, false, false, false, false, false, false, false, false, false, false, false, true, false]
@[simp] def L11_0 (s0 s1 s6 s17 s18 s19 s20 s68 : V) : St := [s0, s1, .dead, .dead, .dead, .dead, s6, .dead, .dead, .dead, .dead, .dead, .dead, .dead, .dead, .dead, .dead, s17, s18, s19, s20, .dead, .dead, .dead, .dead, .dead, .dead, .dead, .dead, .dead, .dead, .dead, .dead, .dead, .dead, .dead, .dead, .dead, .dead, .dead, .dead, .dead, .dead, .dead, .dead, .dead, .dead, .dead, .dead, .dead, .dead, .dead, .dead, .dead, .dead, .dead, .dead, .dead, .dead, .dead, .dead, .dead, .dead, .dead, .dead, .dead, .dead, .dead, s68, .dead]
@[simp] def x11_1 : List Bool := [true, true, false, false, false, false, true, false, false, false, false, false, false, false, false, false, false, true, true, true, true, false, false, false, false, false, false, false, false, false, false, false, false, false, false, false, false, false, false, false, false, false, false, false, false, false, false, false, false, false, false, false, false, false, false, false, false, false, false, false, false, false, false, false, false, false, false, false, true, false]
@[simp] def X11_1 (s0 s1 s6 s17 s18 s19 s20 s68 : V) : St := [s0, s1, .dead, .dead, .dead, .dead, s6, .dead, .dead, .dead, .dead, .dead, .dead, .dead, .dead, .dead, .dead, s17, s18, s19, s20, .dead, .dead, .dead, .dead, .dead, .dead, .dead, .dead, .dead, .dead, .dead, .dead, .dead, .dead, .dead, .dead, .dead, .dead, .dead, .dead, .dead, .dead, .dead, .dead, .dead, .dead, .dead, .dead, .dead, .dead, .dead, .dead, .dead, .dead, .dead, .dead, .dead, .dead, .dead, .dead, .dead, .dead, .dead, .dead, .dead, .dead, .dead, s68, .dead]
def b11_0 : MC := .seq (.scr h11_0)
 (.seq (.ops [⟨none, .bin 21 .lss .num (.t 20) (.t 19)⟩])
 (.seq (.cnd (.t 21)
   .skip
   (.seq (.scr x11_0) (.ex 0)))
 (.seq (.seq (.blk 1 (.seq (.ops [⟨none, .ixs 22 2 (.t 18) (.t 20)⟩,
     ⟨none, .ldn 23 2 (.t 22)⟩,
     ⟨none, .alc 8 [(.v (.int .i64 0)), (.v (.int .i64 0))]⟩,
     ⟨none, .stn none 2 (.t 8) (.t 23)⟩])
   (.drw [⟨none, .mv 24 (.t 6)⟩,
    ⟨none, .fa 25 1 (.t 8)⟩,
    ⟨none, .ld1 26 (.t 25)⟩,
    ⟨none, .ixs 27 1 (.t 24) (.t 26)⟩,
    ⟨none, .ld1 28 (.t 27)⟩,
    ⟨none, .fa 29 0 (.t 8)⟩,
    ⟨none, .ld1 30 (.t 29)⟩,
    ⟨none, .bin 31 .shl .num (.c (.v (.int .u32 1))) (.t 30)⟩] [⟨none, .bin 32 .or .num (.t 28) (.t 31)⟩,
    ⟨none, .ixs 33 1 (.t 24) (.t 26)⟩,
    ⟨none, .stn none 1 (.t 33) (.t 32)⟩]))) (.scr x11_1))
 (.ops [⟨none, .bin 34 .add .num (.t 20) (.c (.v (.int .i64 1)))⟩,
  ⟨none, .mv 20 (.t 34)⟩]))))
@[simp] def x11_2 : List Bool := [false, false, false, false, false, false, false, false, false, false, true, false, false, false, false, false, false, false, false, false, false, false, false, false, false, false, false, false, false, false, false, false, false, false, false, false, false, false, false, false, false, false, false, false, false, false, false, false, false, false, false, false, false, false, false, false, false, false, false, false, false, false, false, false, false, false, false, false, true, false]
@[simp] def X11_2 (s10 s68 : V) : St := [.dead, .dead, .dead, .dead, .dead, .dead, .dead, .dead, .dead, .dead, s10, .dead, .dead, .dead, .dead, .dead, .dead, .dead, .dead, .dead, .dead, .dead, .dead, .dead, .dead, .dead, .dead, .dead, .dead, .dead, .dead, .dead, .dead, .dead, .dead, .dead, .dead, .dead, .dead, .dead, .dead, .dead, .dead, .dead, .dead, .dead, .dead, .dead, .dead, .dead, .dead, .dead, .dead, .dead, .dead, .dead, .dead, .dead, .dead, .dead, .dead, .dead, .dead, .dead, .dead, .dead, .dead, .dead, s68, .dead]
@[simp] def h11_1 : List Bool := [true, false, false, false, false, false, true, false, false, true, true, false, false, false, false, false, false, true, false, false, false, false, false, false, false, false, false, false, false, false, false, false, false, false, false, false, false, false, false, false, false, false, false, false, false, false, false, false, false, false, false, false, false, false, false, false, false, false, false, false, false, false, false, false, false, false, false, false, true, false]
@[simp] def L11_1 (s0 s6 s9 s10 s17 s68 : V) : St := [s0, .dead, .dead, .dead, .dead, .dead, s6, .dead, .dead, s9, s10, .dead, .dead, .dead, .dead, .dead, .dead, s17, .dead, .dead, .dead, .dead, .dead, .dead, .dead, .dead, .dead, .dead, .dead, .dead, .dead, .dead, .dead, .dead, .dead, .dead, .dead, .dead, .dead, .dead, .dead, .dead, .dead, .dead, .dead, .dead, .dead, .dead, .dead, .dead, .dead, .dead, .dead, .dead, .dead, .dead, .dead, .dead, .dead, .dead, .dead, .dead, .dead, .dead, .dead, .dead, .dead, .dead, s68, .dead]
@[simp] def x11_3 : List Bool := [true, false, false, false, false, false, true, false, false, true, true, false, false, false, false, false, false, true, false, false, false, false, false, false, false, false, false, false, false, false, false, false, false, false, false, false, false, false, false, false, false, false, false, false, false, false, false, false, false, false, false, false, false, false, false, false, false, false, false, false, false, false, false, false, false, false, false, false, true, false]
@[simp] def X11_3 (s0 s6 s9 s10 s17 s68 : V) : St := [s0, .dead, .dead, .dead, .dead, .dead, s6, .dead, .dead, s9, s10, .dead, .dead, .dead, .dead, .dead, .dead, s17, .dead, .dead, .dead, .dead, .dead, .dead, .dead, .dead, .dead, .dead, .dead, .dead, .dead, .dead, .dead, .dead, .dead, .dead, .dead, .dead, .dead, .dead, .dead, .dead, .dead, .dead, .dead, .dead, .dead, .dead, .dead, .dead, .dead, .dead, .dead, .dead, .dead, .dead, .dead, .dead, .dead, .dead, .dead, .dead, .dead, .dead, .dead, .dead, .dead, .dead, s68, .dead]
@[simp] def x11_4 : List Bool := [true, false, false, false, false, false, true, false, false, true, true, true, false, false, false, false, false, true, false, false, false, false, false, false, false, false, false, false, false, false, false, false, false, false, false, false, false, false, false, false, false, false, false, false, false, false, false, false, false, false, false, false, false, false, false, false, false, false, false, false, false, false, false, false, false, false, false, false, true, false]
@[simp] def X11_4 (s0 s6 s9 s10 s11 s17 s68 : V) : St := [s0, .dead, .dead, .dead, .dead, .dead, s6, .dead, .dead, s9, s10, s11, .dead, .dead, .dead, .dead, .dead, s17, .dead, .dead, .dead, .dead, .dead, .dead, .dead, .dead, .dead, .dead, .dead, .dead, .dead, .dead, .dead, .dead, .dead, .dead, .dead, .dead, .dead, .dead, .dead, .dead, .dead, .dead, .dead, .dead, .dead, .dead, .dead, .dead, .dead, .dead, .dead, .dead, .dead, .dead, .dead, .dead, .dead, .dead, .dead, .dead, .dead, .dead, .dead, .dead, .dead, .dead, s68, .dead]
@[simp] def h11_2 : List Bool := [true, false, false, false, false, false, true, false, false, true, true, true, false, false, false, false, false, true, false, false, false, false, false, false, false, false, false, false, false, false, false, false, false, false, false, false, false, false, false, false, false, false, false, false, false, false, false, false, false, false, false, false, false, false, false, false, false, false, false, false, false, false, false, false, false, false, false, false, true, false]
@[simp] def L11_2 (s0 s6 s9 s10 s11 s17 s68 : V) : St := [s0, .dead, .dead, .dead, .dead, .dead, s6, .dead, .dead, s9, s10, s11, .dead, .dead, .dead, .dead, .dead, s17, .dead, .dead, .dead, .dead, .dead, .dead, .dead, .dead, .dead, .dead, .dead, .dead, .dead, .dead, .dead, .dead, .dead, .dead, .dead, .dead, .dead, .dead, .dead, .dead, .dead, .dead, .dead, .dead, .dead, .dead, .dead, .dead, .dead, .dead, .dead, .dead, .dead, .dead, .dead, .dead, .dead, .dead, .dead, .dead, .dead, .dead, .dead, .dead, .dead, .dead, s68, .dead]
@[simp] def x11_5 : List Bool := [true, false, false, false, false, false, true, false, false, true, true, true, false, false, false, false, false, true, false, false, false, false, false, false, false, false, false, false, false, false, false, false, false, false, false, false, false, false, false, false, false, false, false, false, false, false, false, false, false, false, false, false, false, false, false, false, false, false, false, false, false, false, false, false, false, false, false, false, true, false]
@[simp] def X11_5 (s0 s6 s9 s10 s11 s17 s68 : V) : St := [s0, .dead, .dead, .dead, .dead, .dead, s6, .dead, .dead, s9, s10, s11, .dead, .dead, .dead, .dead, .dead, s17, .dead, .dead, .dead, .dead, .dead, .dead, .dead, .dead, .dead, .dead, .dead, .dead, .dead, .dead, .dead, .dead, .dead, .dead, .dead, .dead, .dead, .dead, .dead, .dead, .dead, .dead, .dead, .dead, .dead, .dead, .dead, .dead, .dead, .dead, .dead, .dead, .dead, .dead, .dead, .dead, .dead, .dead, .dead, .dead, .dead, .dead, .dead, .dead, .dead, .dead, s68, .dead]
def b11_2 : MC := .seq (.scr h11_2)
 (.seq (.seq (.ops [⟨none, .mv 39 (.t 11)⟩,
    ⟨none, .mv 40 (.t 0)⟩,
    ⟨none, .bin 41 .lss .num (.t 39) (.t 40)⟩,
    ⟨none, .mv 42 (.t 41)⟩,
    ⟨some (42, true), .mv 43 (.t 9)⟩,
    ⟨some (42, true), .mv 44 (.t 11)⟩,
    ⟨some (42, true), .call (some 45) 28 [(.t 43), (.t 44)]⟩,
    ⟨some (42, true), .mv 46 (.t 45)⟩,
    ⟨some (46, false), .mv 47 (.t 6)⟩,
    ⟨some (46, false), .mv 48 (.t 11)⟩,
    ⟨some (46, false), .ixs 49 1 (.t 47) (.t 48)⟩,
    ⟨some (46, false), .ld1 50 (.t 49)⟩,
    ⟨some (46, false), .mv 51 (.t 9)⟩,
    ⟨some (46, false), .bin 52 .andNot .num (.t 50) (.t 51)⟩,
    ⟨some (46, false), .bin 53 .neq .num (.t 52) (.c (.v (.int .u32 0)))⟩,
    ⟨some (42, true), .pick 54 (.t 46) (.c (.v (.bool true))) (.t 53)⟩,
    ⟨none, .pick 55 (.t 42) (.t 54) (.c (.v (.bool false)))⟩])
  (.cnd (.t 55)
   .skip
   (.seq (.scr x11_4) (.ex 4))))
 (.seq (.blk 5 (.ops [⟨none, .mv 56 (.t 11)⟩,
   ⟨none, .bin 57 .add .num (.t 56) (.c (.v (.int .i64 1)))⟩,
   ⟨none, .asg 11 (.t 57)⟩])) (.scr x11_5)))
def b11_1 : MC := .seq (.scr h11_1)
 (.seq (.seq (.ops [⟨none, .mv 35 (.t 10)⟩,
    ⟨none, .len 36 false (.t 35)⟩,
    ⟨none, .mv 37 (.t 0)⟩,
    ⟨none, .bin 38 .lss .num (.t 36) (.t 37)⟩])
  (.cnd (.t 38)
   .skip
   (.seq (.scr x11_2) (.ex 2))))
 (.seq (.blk 3 (.seq (.ops [⟨none, .asg 11 (.c (.v (.int .i64 0)))⟩])
  (.seq (.seq (.blk 4 (.lop b11_2)) (.scr x11_4))
  (.seq (.seq (.ops [⟨none, .mv 58 (.t 11)⟩,
     ⟨none, .mv 59 (.t 0)⟩,
     ⟨none, .bin 60 .eql .num (.t 58) (.t 59)⟩])
   (.cnd (.t 60)
    (.seq (.ops [⟨none, .asg 4 (.c (.nd (.sl true 1 0) []))⟩,
      ⟨none, .asg 5 (.c (.v (.int .i64 11)))⟩])
    (.seq (.scr r11) .ret))
    .skip))
  (.seq (.ops [⟨none, .mv 61 (.t 9)⟩,
    ⟨none, .mv 62 (.t 11)⟩,
    ⟨none, .bin 63 .shl .num (.c (.v (.int .u32 1))) (.t 62)⟩,
    ⟨none, .bin 64 .or .num (.t 61) (.t 63)⟩,
    ⟨none, .asg 9 (.t 64)⟩])
  (.ops [⟨none, .mv 65 (.t 10)⟩,
   ⟨none, .mv 66 (.t 11)⟩,
   ⟨none, .bs 67 1 1 [(.v (.int .i64 0))] [(0, 1, (.t 66))]⟩,
   ⟨none, .app 68 1 (.t 65) (.t 67)⟩,
   ⟨none, .asg 10 (.t 68)⟩])))))) (.scr x11_3)))
def c11 : MF := ⟨(.seq (.ops [⟨none, .asg 4 (.c (.nd (.sl true 1 0) []))⟩,
   ⟨none, .asg 5 (.c (.v (.int .i64 0)))⟩])
 (.seq (.seq (.ops [⟨none, .mv 12 (.t 0)⟩,
    ⟨none, .mv 13 (.t 1)⟩,
    ⟨none, .call (some 14) 20 [(.t 12), (.t 13)]⟩,
    ⟨none, .un 15 .not (.t 14)⟩])
  (.cnd (.t 15)
   (.seq (.ops [⟨none, .asg 4 (.c (.nd (.sl true 1 0) []))⟩,
     ⟨none, .asg 5 (.c (.v (.int .i64 1)))⟩])
   (.seq (.scr r11) .ret))
   .skip))
 (.seq (.ops [⟨none, .mv 16 (.t 0)⟩,
   ⟨none, .mks 17 1 [(.v (.int .u32 0))] (.t 16) (.t 16)⟩,
   ⟨none, .asg 6 (.t 17)⟩])
 (.seq (.seq (.ops [⟨none, .mv 18 (.t 1)⟩,
    ⟨none, .len 19 false (.t 18)⟩,
    ⟨none, .mv 20 (.c (.v (.int .i64 0)))⟩])
  (.seq (.blk 0 (.lop b11_0)) (.scr x11_0)))
 (.seq (.ops [⟨none, .asg 9 (.c (.v (.int .u32 0)))⟩])
 (.seq (.ops [⟨none, .asg 10 (.c (.nd (.sl true 1 0) []))⟩])
 (.seq (.seq (.blk 2 (.lop b11_1)) (.scr x11_2))
 (.seq (.ops [⟨none, .mv 69 (.t 10)⟩,
   ⟨none, .asg 4 (.t 69)⟩,
   ⟨none, .asg 5 (.c (.v (.int .i64 0)))⟩])
 (.seq (.scr r11) .ret))))))))),
  70, [4, 5]⟩

/-- coinage/poset.Levels -/
def hints12 : List (List Bool) := [[false, false, false, false, true, true, false, false, false, false, false, false, false, false, false, false, false, false, false, false, false, false, false, false, false, false, false, false, false, false, false, false, false, false, false, false, false, false, false, false, false, false, false, false, false, false, false, false, false, false, false, false, false, false, false, false, false, false, false], [false, false, false, false, false, false, false, false, false, true, false, false, false, false, false, false, false, false, false, false, false, false, false, false, false, false, true, false, false, false, false, false, false, false, false, false, false, false, false, false, false, false, false, false, false, false, false, false, false, false, false, false, false, false, false, false, false, false, false], [true, false, false, false, false, false, true, false, true, true, false, false, false, true, false, false, true, true, false, false, false, false, false, false, true, false, true, true, true, true, false, false, false, false, false, false, false, false, false, false, false, false, false, false, false, false, false, false, false, false, false, false, false, false, false, false, false, false, false], [false, false, false, false, false, false, false, false, false, true, false, false, false, false, false, false, false, false, false, false, false, false, false, false, false, false, true, false, false, false, false, false, false, false, false, false, false, false, false, false, false, false, false, false, false, false, false, false, false, false, false, false, false, false, false, false, false, false, false], [true, false, false, false, false, false, true, false, true, true, false, false, false, true, false, false, true, true, false, false, false, false, false, false, true, false, true, true, true, true, false, false, false, false, false, false, false, false, false, false, false, false, false, false, false, false, false, false, false, false, false, false, false, false, false, false, false, false, false], [true, false, false, false, false, false, true, false, true, true, false, false, false, true, false, false, true, true, false, false, false, false, false, false, true, false, true, true, true, true, false, false, false, false, false, false, false, false, false, false, false, false, false, false, false, false, false, false, false, false, false, false, false, false, false, false, false, false, false], [true, false, false, false, false, false, true, false, true, true, false, true, false, true, false, false, true, true, false, false, false, false, false, false, true, false, true, true, true, true, false, false, false, true, true, false, false, false, false, false, false, false, false, false, false, false, false, false, false, false, false, false, false, false, false, false, false, false, false], [true, false, false, false, false, false, true, false, true, true, false, false, false, true, false, false, true, true, false, false, false, false, false, false, true, false, true, true, true, true, false, false, false, false, false, false, false, false, false, false, false, false, false, false, false, false, false, false, false, false, false, false, false, false, false, false, false, false, false], [true, false, false, false, false, false, true, false, true, true, false, true, false, true, false, false, true, true, false, false, false, false, false, false, true, false, true, true, true, true, false, false, false, true, true, false, false, false, false, false, false, false, false, false, false, false, false, false, false, false, false, false, false, false, false, false, false, false, false], [false, false, false, false, true, true, false, false, false, false, false, false, false, false, false, false, false, false, false, false, false, false, false, false, false, false, false, false, false, false, false, false, false, false, false, false, false, false, false, false, false, false, false, false, false, false, false, false, false, false, false, false, false, false, false, false, false, false, false]]
@[simp] def r12 : List Bool := [false, false, false, false, true, true, false, false, false, false, false, false, false, false, false, false, false, false, false, false, false, false, false, false, false, false, false, false, false, false, false, false, false, false, false, false, false, false, false, false, false, false, false, false, false, false, false, false, false, false, false, false, false, false, false, false, false, false, false]
@[simp] def R12 (s4 s5 : V) : St := [.dead, .dead, .dead, .dead, s4, s5, .dead, .dead, .dead, .dead, .dead, .dead, .dead, .dead, .dead, .dead, .dead, .dead, .dead, .dead, .dead, .dead, .dead, .dead, .dead, .dead, .dead, .dead, .dead, .dead, .dead, .dead, .dead, .dead, .dead, .dead, .dead, .dead, .dead, .dead, .dead, .dead, .dead, .dead, .dead, .dead, .dead, .dead, .dead, .dead, .dead, .dead, .dead, .dead, .dead, .dead, .dead, .dead, .dead]
@[simp] def x12_0 : List Bool := [false, false, false, false, false, false, false, false, false, true, false, false, false, false, false, false, false, false, false, false, false, false, false, false, false, false, true, false, false, false, false, false, false, false, false, false, false, false, false, false, false, false, false, false, false, false, false, false, false, false, false, false, false, false, false, false, false, false, false]
@[simp] def X12_0 (s9 s26 : V) : St := [.dead, .dead, .dead, .dead, .dead, .dead, .dead, .dead, .dead, s9, .dead, .dead, .dead, .dead, .dead, .dead, .dead, .dead, .dead, .dead, .dead, .dead, .dead, .dead, .dead, .dead, s26, .dead, .dead, .dead, .dead, .dead, .dead, .dead, .dead, .dead, .dead, .dead, .dead, .dead, .dead, .dead, .dead, .dead, .dead, .dead, .dead, .dead, .dead, .dead, .dead, .dead, .dead, .dead, .dead, .dead, .dead, .dead, .dead]
@[simp] def h12_0 : List Bool := [true, false, false, false, false, false, true, false, true, true, false, false, false, true, false, false, true, true, false, false, false, false, false, false, true, false, true, true, true, true, false, false, false, false, false, false, false, false, false, false, false, false, false, false, false, false, false, false, false, false, false, false, false, false, false, false, false, false, false]
@[simp] def L12_0 (s0 s6 s8 s9 s13 s16 s17 s24 s26 s27 s28 s29 : V) : St := [s0, .dead, .dead, .dead, .dead, .dead, s6, .dead, s8, s9, .dead, .dead, .dead, s13, .dead, .dead, s16, s17, .dead, .dead, .dead, .dead, .dead, .dead, s24, .dead, s26, s27, s28, s29, .dead, .dead, .dead, .dead, .dead, .dead, .dead, .dead, .dead, .dead, .dead, .dead, .dead, .dead, .dead, .dead, .dead, .dead, .dead, .dead, .dead, .dead, .dead, .dead, .dead, .dead, .dead, .dead, .dead]
@[simp] def x12_1 : List Bool := [true, false, false, false, false, false, true, false, true, true, false, false, false, true, false, false, true, true, false, false, false, false, false, false, true, false, true, true, true, true, false, false, false, false, false, false, false, false, false, false, false, false, false, false, false, false, false, false, false, false, false, false, false, false, false, false, false, false, false]
@[simp] def X12_1 (s0 s6 s8 s9 s13 s16 s17 s24 s26 s27 s28 s29 : V) : St := [s0, .dead, .dead, .dead, .dead, .dead, s6, .dead, s8, s9, .dead, .dead, .dead, s13, .dead, .dead, s16, s17, .dead, .dead, .dead, .dead, .dead, .dead, s24, .dead, s26, s27, s28, s29, .dead, .dead, .dead, .dead, .dead, .dead, .dead, .dead, .dead, .dead, .dead, .dead, .dead, .dead, .dead, .dead, .dead, .dead, .dead, .dead, .dead, .dead, .dead, .dead, .dead, .dead, .dead, .dead, .dead]
@[simp] def x12_2 : List Bool := [true, false, false, false, false, false, true, false, true, true, false, false, false, true, false, false, true, true, false, false, false, false, false, false, true, false, true, true, true, true, false, false, false, false, false, false, false, false, false, false, false, false, false, false, false, false, false, false, false, false, false, false, false, false, false, false, false, false, false]
@[simp] def X12_2 (s0 s6 s8 s9 s13 s16 s17 s24 s26 s27 s28 s29 : V) : St := [s0, .dead, .dead, .dead, .dead, .dead, s6, .dead, s8, s9, .dead, .dead, .dead, s13, .dead, .dead, s16, s17, .dead, .dead, .dead, .dead, .dead, .dead, s24, .dead, s26, s27, s28, s29, .dead, .dead, .dead, .dead, .dead, .dead, .dead, .dead, .dead, .dead, .dead, .dead, .dead, .dead, .dead, .dead, .dead, .dead, .dead, .dead, .dead, .dead, .dead, .dead, .dead, .dead, .dead, .dead, .dead]
@[simp] def h12_1 : List Bool := [true, false, false, false, false, false, true, false, true, true, false, true, false, true, false, false, true, true, false, false, false, false, false, false, true, false, true, true, true, true, false, false, false, true, true, false, false, false, false, false, false, false, false, false, false, false, false, false, false, false, false, false, false, false, false, false, false, false, false]
@[simp] def L12_1 (s0 s6 s8 s9 s11 s13 s16 s17 s24 s26 s27 s28 s29 s33 s34 : V) : St := [s0, .dead, .dead, .dead, .dead, .dead, s6, .dead, s8, s9, .dead, s11, .dead, s13, .dead, .dead, s16, s17, .dead, .dead, .dead, .dead, .dead, .dead, s24, .dead, s26, s27, s28, s29, .dead, .dead, .dead, s33, s34, .dead, .dead, .dead, .dead, .dead, .dead, .dead, .dead, .dead, .dead, .dead, .dead, .dead, .dead, .dead, .dead, .dead, .dead, .dead, .dead, .dead, .dead, .dead, .dead]
@[simp] def x12_3 : List Bool := [true, false, false, false, false, false, true, false, true, true, false, true, false, true, false, false, true, true, false, false, false, false, false, false, true, false, true, true, true, true, false, false, false, true, true, false, false, false, false, false, false, false, false, false, false, false, false, false, false, false, false, false, false, false, false, false, false, false, false]
@[simp] def X12_3 (s0 s6 s8 s9 s11 s13 s16 s17 s24 s26 s27 s28 s29 s33 s34 : V) : St := [s0, .dead, .dead, .dead, .dead, .dead, s6, .dead, s8, s9, .dead, s11, .dead, s13, .dead, .dead, s16, s17, .dead, .dead, .dead, .dead, .dead, .dead, s24, .dead, s26, s27, s28, s29, .dead, .dead, .dead, s33, s34, .dead, .dead, .dead, .dead, .dead, .dead, .dead, .dead, .dead, .dead, .dead, .dead, .dead, .dead, .dead, .dead, .dead, .dead, .dead, .dead, .dead, .dead, .dead, .dead]
def b12_1 : MC := .seq (.scr h12_1)
 (.seq (.ops [⟨none, .bin 35 .lss .num (.t 34) (.t 33)⟩])
 (.seq (.cnd (.t 35)
   .skip
   (.seq (.scr x12_2) (.ex 2)))
 (.seq (.seq (.blk 3 (.seq (.ops [⟨none, .mv 36 (.t 34)⟩,
     ⟨none, .asg 12 (.t 36)⟩])
   (.seq (.ops [⟨none, .mv 37 (.t 8)⟩,
     ⟨none, .mv 38 (.t 11)⟩,
     ⟨none, .ixs 39 1 (.t 37) (.t 38)⟩,
     ⟨none, .ld1 40 (.t 39)⟩,
     ⟨none, .mv 41 (.t 12)⟩,
     ⟨none, .call (some 42) 28 [(.t 40), (.t 41)]⟩])
   (.cnd (.t 42)
    (.drw [⟨none, .mv 43 (.t 9)⟩,
     ⟨none, .mv 44 (.t 12)⟩,
     ⟨none, .mv 45 (.t 9)⟩,
     ⟨none, .mv 46 (.t 12)⟩,
     ⟨none, .ixs 47 1 (.t 45) (.t 46)⟩,
     ⟨none, .ld1 48 (.t 47)⟩,
     ⟨none, .mv 49 (.t 9)⟩,
     ⟨none, .mv 50 (.t 11)⟩,
     ⟨none, .ixs 51 1 (.t 49) (.t 50)⟩,
     ⟨none, .ld1 52 (.t 51)⟩,
     ⟨none, .bin 53 .add .num (.t 52) (.c (.v (.int .i64 1)))⟩,
     ⟨none, .mm 54 true (.t 48) (.t 53)⟩] [⟨none, .ixs 55 1 (.t 43) (.t 44)⟩,
     ⟨none, .stn none 1 (.t 55) (.t 54)⟩])
    .skip)))) (.scr x12_3))
 (.ops [⟨none, .bin 56 .add .num (.t 34) (.c (.v (.int .i64 1)))⟩,
  ⟨none, .mv 34 (.t 56)⟩]))))
def b12_0 : MC := .seq (.scr h12_0)
 (.seq (.ops [⟨none, .bin 30 .lss .num (.t 29) (.t 28)⟩])
 (.seq (.cnd (.t 30)
   .skip
   (.seq (.scr x12_0) (.ex 0)))
 (.seq (.seq (.blk 1 (.seq (.ops [⟨none, .ixs 31 1 (.t 27) (.t 29)⟩,
     ⟨none, .ld1 32 (.t 31)⟩,
     ⟨none, .asg 11 (.t 32)⟩])
   (.seq (.ops [⟨none, .mv 33 (.t 0)⟩,
     ⟨none, .mv 34 (.c (.v (.int .i64 0)))⟩])
   (.seq (.blk 2 (.lop b12_1)) (.scr x12_2))))) (.scr x12_1))
 (.ops [⟨none, .bin 57 .add .num (.t 29) (.c (.v (.int .i64 1)))⟩,
  ⟨none, .mv 29 (.t 57)⟩]))))
def c12 : MF := ⟨(.seq (.ops [⟨none, .asg 4 (.c (.nd (.sl true 1 0) []))⟩,
   ⟨none, .asg 5 (.c (.v (.int .i64 0)))⟩])
 (.seq (.ops [⟨none, .mv 14 (.t 0)⟩,
   ⟨none, .mv 15 (.t 1)⟩,
   ⟨none, .call (some 16) 11 [(.t 14), (.t 15)]⟩,
   ⟨none, .mv 13 (.t 16)⟩,
   ⟨none, .ext 17 (.t 13) 0⟩,
   ⟨none, .ext 18 (.t 13) 1⟩,
   ⟨none, .asg 6 (.t 17)⟩,
   ⟨none, .asg 7 (.t 18)⟩])
 (.seq (.seq (.ops [⟨none, .mv 19 (.t 7)⟩,
    ⟨none, .bin 20 .neq .num (.t 19) (.c (.v (.int .i64 0)))⟩])
  (.cnd (.t 20)
   (.seq (.ops [⟨none, .mv 21 (.t 7)⟩,
     ⟨none, .asg 4 (.c (.nd (.sl true 1 0) []))⟩,
     ⟨none, .asg 5 (.t 21)⟩])
   (.seq (.scr r12) .ret))
   .skip))
 (.seq (.ops [⟨none, .mv 22 (.t 0)⟩,
   ⟨none, .mv 23 (.t 1)⟩,
   ⟨none, .call (some 24) 29 [(.t 22), (.t 23)]⟩,
   ⟨none, .asg 8 (.t 24)⟩])
 (.seq (.ops [⟨none, .mv 25 (.t 0)⟩,
   ⟨none, .mks 26 1 [(.v (.int .i64 0))] (.t 25) (.t 25)⟩,
   ⟨none, .asg 9 (.t 26)⟩])
 (.seq (.seq (.ops [⟨none, .mv 27 (.t 6)⟩,
    ⟨none, .len 28 false (.t 27)⟩,
    ⟨none, .mv 29 (.c (.v (.int .i64 0)))⟩])
  (.seq (.blk 0 (.lop b12_0)) (.scr x12_0)))
 (.seq (.ops [⟨none, .mv 58 (.t 9)⟩,
   ⟨none, .asg 4 (.t 58)⟩,
   ⟨none, .asg 5 (.c (.v (.int .i64 0)))⟩])
 (.seq (.scr r12) .ret)))))))),
  59, [4, 5]⟩

/-- coinage/coinageref06.Order -/
def hints13 : List (List Bool) := [[false, false, false, false, true, true, false, false, false, false, false, false, false, false, false, false, false, false, false, false, false, false, false, false, false, false, false, false, false, false, false, false, false, false, false, false, false, false, false, false, false, false, false, false, false, false, false, false, false, false, false, false, false, false, false, false, false, false, false, false, false, false, false], [false, false, false, false, false, false, true, false, false, false, false, false, false, false, false, false, false, false, false, false, false, false, false, false, false, false, false, false, false, false, false, false, false, false, false, false, false, false, false, false, false, false, false, false, false, false, false, false, false, false, false, false, false, false, false, false, false, false, false, false, false, true, false], [true, true, false, false, false, false, true, false, false, false, false, false, false, false, false, false, false, false, false, false, false, false, false, false, false, false, false, false, false, false, false, false, false, false, false, false, false, false, false, false, false, false, false, false, false, false, false, false, false, false, false, false, false, false, false, false, false, false, false, false, false, true, false], [false, false, false, false, false, false, true, false, false, false, false, false, false, false, false, false, false, false, false, false, false, false, false, false, false, false, false, false, false, false, false, false, false, false, false, false, false, false, false, false, false, false, false, false, false, false, false, false, false, false, false, false, false, false, false, false, false, false, false, false, false, true, false], [true, true, false, false, false, false, true, false, false, false, false, false, false, false, false, false, false, false, false, false, false, false, false, false, false, false, false, false, false, false, false, false, false, false, false, false, false, false, false, false, false, false, false, false, false, false, false, false, false, false, false, false, false, false, false, false, false, false, false, false, false, true, false], [true, true, false, false, false, false, true, true, false, false, false, false, false, false, false, false, false, false, false, false, false, false, false, false, false, false, false, false, false, false, false, false, false, false, false, false, false, false, false, false, false, false, false, false, false, false, false, false, false, false, false, false, false, false, false, false, false, false, false, false, false, true, false], [true, true, false, false, false, false, true, true, true, false, false, false, false, false, false, false, false, false, false, false, false, false, false, false, false, false, false, false, false, false, false, false, false, false, false, false, false, false, false, false, false, false, false, false, false, false, false, false, false, false, false, false, false, false, false, false, false, false, false, false, false, true, false], [true, true, false, false, false, false, true, true, false, false, false, false, false, false, false, false, false, false, false, false, false, false, false, false, false, false, false, false, false, false, false, false, false, false, false, false, false, false, false, false, false, false, false, false, false, false, false, false, false, false, false, false, false, false, false, false, false, false, false, false, false, true, false], [true, true, false, false, false, false, true, true, true, false, false, false, false, false, false, false, false, false, false, false, false, false, false, false, false, false, false, false, false, false, false, false, false, false, false, false, false, false, false, false, false, false, false, false, false, false, false, false, false, false, false, false, false, false, false, false, false, false, false, false, false, true, false], [true, true, false, false, false, false, true, true, true, true, false, false, false, false, false, false, false, false, false, false, false, false, false, false, false, false, false, false, false, false, false, false, false, false, false, false, false, false, false, false, false, false, false, false, false, false, false, false, false, false, false, false, false, false, false, false, false, false, false, false, false, true, false], [true, true, false, false, false, false, true, true, true, true, true, false, false, false, false, false, false, false, false, false, false, false, false, false, false, false, false, false, false, false, false, false, false, false, false, false, false, false, false, false, false, false, false, false, false, false, false, false, false, false, false, false, false, false, false, false, false, false, false, false, false, true, false], [true, true, false, false, false, false, true, true, true, true, false, false, false, false, false, false, false, false, false, false, false, false, false, false, false, false, false, false, false, false, false, false, false, false, false, false, false, false, false, false, false, false, false, false, false, false, false, false, false, false, false, false, false, false, false, false, false, false, false, false, false, true, false], [true, true, false, false, false, false, true, true, true, true, true, false, false, false, false, false, false, false, false, false, false, false, false, false, false, false, false, false, false, false, false, false, false, false, false, false, false, false, false, false, false, false, false, false, false, false, false, false, false, false, false, false, false, false, false, false, false, false, false, false, false, true, false], [false, false, false, false, true, true, false, false, false, false, false, false, false, false, false, false, false, false, false, false, false, false, false, false, false, false, false, false, false, false, false, false, false, false, false, false, false, false, false, false, false, false, false, false, false, false, false, false, false, false, false, false, false, false, false, false, false, false, false, false, false, false, false], [false, false, false, false, true, true, false, false, false, false, false, false, false, false, false, false, false, false, false, false, false, false, false, false, false, false, false, false, false, false, false, false, false, false, false, false, false, false, false, false, false, false, false, false, false, false, false, false, false, false, false, false, false, false, false, false, false, false, false, false, false, false, false]]
@[simp] def r13 : List Bool := [false, false, false, false, true, true, false, false, false, false, false, false, false, false, false, false, false, false, false, false, false, false, false, false, false, false, false, false, false, false, false, false, false, false, false, false, false, false, false, false, false, false, false, false, false, false, false, false, false, false, false, false, false, false, false, false, false, false, false, false, false, false, false]
@[simp] def R13 (s4 s5 : V) : St := [.dead, .dead, .dead, .dead, s4, s5, .dead, .dead, .dead, .dead, .dead, .dead, .dead, .dead, .dead, .dead, .dead, .dead, .dead, .dead, .dead, .dead, .dead, .dead, .dead, .dead, .dead, .dead, .dead, .dead, .dead, .dead, .dead, .dead, .dead, .dead, .dead, .dead, .dead, .dead, .dead, .dead, .dead, .dead, .dead, .dead, .dead, .dead, .dead, .dead, .dead, .dead, .dead, .dead, .dead, .dead, .dead, .dead, .dead, .dead, .dead, .dead, .dead]
@[simp] def x13_0 : List Bool := [false, false, false, false, false, false, true, false, false, false, false, false, false, false, false, false, false, false, false, false, false, false, false, false, false, false, false, false, false, false, false, false, false, false, false, false, false, false, false, false, false, false, false, false, false, false, false, false, false, false, false, false, false, false, false, false, false, false, false, false, false, true, false]
@[simp] def X13_0 (s6 s61 : V) : St := [.dead, .dead, .dead, .dead, .dead, .dead, s6, .dead, .dead, .dead, .dead, .dead, .dead, .dead, .dead, .dead, .dead, .dead, .dead, .dead, .dead, .dead, .dead, .dead, .dead, .dead, .dead, .dead, .dead, .dead, .dead, .dead, .dead, .dead, .dead, .dead, .dead, .dead, .dead, .dead, .dead, .dead, .dead, .dead, .dead, .dead, .dead, .dead, .dead, .dead, .dead, .dead, .dead, .dead, .dead, .dead, .dead, .dead, .dead, .dead, .dead, s61, .dead]
@[simp] def h13_0 : List Bool := [true, true, false, false, false, false, true, false, false, false, false, false, false, false, false, false, false, false, false, false, false, false, false, false, false, false, false, false, false, false, false, false, false, false, false, false, false, false, false, false, false, false, false, false, false, false, false, false, false, false, false, false, false, false, false, false, false, false, false, false, false, true, false]
@[simp] def L13_0 (s0 s1 s6 s61 : V) : St := [s0, s1, .dead, .dead, .dead, .dead, s6, .dead, .dead, .dead, .dead, .dead, .dead, .dead, .dead, .dead, .dead, .dead, .dead, .dead, .dead, .dead, .dead, .dead, .dead, .dead, .dead, .dead, .dead, .dead, .dead, .dead, .dead, .dead, .dead, .dead, .dead, .dead, .dead, .dead, .dead, .dead, .dead, .dead, .dead, .dead, .dead, .dead, .dead, .dead, .dead, .dead, .dead, .dead, .dead, .dead, .dead, .dead, .dead, .dead, .dead, s61, .dead]
@[simp] def x13_1 : List Bool := [true, true, false, false, false, false, true, false, false, false, false, false, false, false, false, false, false, false, false, false, false, false, false, false, false, false, false, false, false, false, false, false, false, false, false, false, false, false, false, false, false, false, false, false, false, false, false, false, false, false, false, false, false, false, false, false, false, false, false, false, false, true, false]
@[simp] def X13_1 (s0 s1 s6 s61 : V) : St := [s0, s1, .dead, .dead, .dead, .dead, s6, .dead, .dead, .dead, .dead, .dead, .dead, .dead, .dead, .dead, .dead, .dead, .dead, .dead, .dead, .dead, .dead, .dead, .dead, .dead, .dead, .dead, .dead, .dead, .dead, .dead, .dead, .dead, .dead, .dead, .dead, .dead, .dead, .dead, .dead, .dead, .dead, .dead, .dead, .dead, .dead, .dead, .dead, .dead, .dead, .dead, .dead, .dead, .dead, .dead, .dead, .dead, .dead, .dead, .dead, s61, .dead]
@[simp] def x13_2 : List Bool := [true, true, false, false, false, false, true, true, false, false, false, false, false, false, false, false, false, false, false, false, false, false, false, false, false, false, false, false, false, false, false, false, false, false, false, false, false, false, false, false, false, false, false, false, false, false, false, false, false, false, false, false, false, false, false, false, false, false, false, false, false, true, false]
@[simp] def X13_2 (s0 s1 s6 s7 s61 : V) : St := [s0, s1, .dead, .dead, .dead, .dead, s6, s7, .dead, .dead, .dead, .dead, .dead, .dead, .dead, .dead, .dead, .dead, .dead, .dead, .dead, .dead, .dead, .dead, .dead, .dead, .dead, .dead, .dead, .dead, .dead, .dead, .dead, .dead, .dead, .dead, .dead, .dead, .dead, .dead, .dead, .dead, .dead, .dead, .dead, .dead, .dead, .dead, .dead, .dead, .dead, .dead, .dead, .dead, .dead, .dead, .dead, .dead, .dead, .dead, .dead, s61, .dead]
@[simp] def h13_1 : List Bool := [true, true, false, false, false, false, true, true, true, false, false, false, false, false, false, false, false, false, false, false, false, false, false, false, false, false, false, false, false, false, false, false, false, false, false, false, false, false, false, false, false, false, false, false, false, false, false, false, false, false, false, false, false, false, false, false, false, false, false, false, false, true, false]
@[simp] def L13_1 (s0 s1 s6 s7 s8 s61 : V) : St := [s0, s1, .dead, .dead, .dead, .dead, s6, s7, s8, .dead, .dead, .dead, .dead, .dead, .dead, .dead, .dead, .dead, .dead, .dead, .dead, .dead, .dead, .dead, .dead, .dead, .dead, .dead, .dead, .dead, .dead, .dead, .dead, .dead, .dead, .dead, .dead, .dead, .dead, .dead, .dead, .dead, .dead, .dead, .dead, .dead, .dead, .dead, .dead, .dead, .dead, .dead, .dead, .dead, .dead, .dead, .dead, .dead, .dead, .dead, .dead, s61, .dead]
@[simp] def x13_3 : List Bool := [true, true, false, false, false, false, true, true, true, false, false, false, false, false, false, false, false, false, false, false, false, false, false, false, false, false, false, false, false, false, false, false, false, false, false, false, false, false, false, false, false, false, false, false, false, false, false, false, false, false, false, false, false, false, false, false, false, false, false, false, false, true, false]
@[simp] def X13_3 (s0 s1 s6 s7 s8 s61 : V) : St := [s0, s1, .dead, .dead, .dead, .dead, s6, s7, s8, .dead, .dead, .dead, .dead, .dead, .dead, .dead, .dead, .dead, .dead, .dead, .dead, .dead, .dead, .dead, .dead, .dead, .dead, .dead, .dead, .dead, .dead, .dead, .dead, .dead, .dead, .dead, .dead, .dead, .dead, .dead, .dead, .dead, .dead, .dead, .dead, .dead, .dead, .dead, .dead, .dead, .dead, .dead, .dead, .dead, .dead, .dead, .dead, .dead, .dead, .dead, .dead, s61, .dead]
@[simp] def x13_4 : List Bool := [true, true, false, false, false, false, true, true, true, true, false, false, false, false, false, false, false, false, false, false, false, false, false, false, false, false, false, false, false, false, false, false, false, false, false, false, false, false, false, false, false, false, false, false, false, false, false, false, false, false, false, false, false, false, false, false, false, false, false, false, false, true, false]
@[simp] def X13_4 (s0 s1 s6 s7 s8 s9 s61 : V) : St := [s0, s1, .dead, .dead, .dead, .dead, s6, s7, s8, s9, .dead, .dead, .dead, .dead, .dead, .dead, .dead, .dead, .dead, .dead, .dead, .dead, .dead, .dead, .dead, .dead, .dead, .dead, .dead, .dead, .dead, .dead, .dead, .dead, .dead, .dead, .dead, .dead, .dead, .dead, .dead, .dead, .dead, .dead, .dead, .dead, .dead, .dead, .dead, .dead, .dead, .dead, .dead, .dead, .dead, .dead, .dead, .dead, .dead, .dead, .dead, s61, .dead]
@[simp] def h13_2 : List Bool := [true, true, false, false, false, false, true, true, true, true, true, false, false, false, false, false, false, false, false, false, false, false, false, false, false, false, false, false, false, false, false, false, false, false, false, false, false, false, false, false, false, false, false, false, false, false, false, false, false, false, false, false, false, false, false, false, false, false, false, false, false, true, false]
@[simp] def L13_2 (s0 s1 s6 s7 s8 s9 s10 s61 : V) : St := [s0, s1, .dead, .dead, .dead, .dead, s6, s7, s8, s9, s10, .dead, .dead, .dead, .dead, .dead, .dead, .dead, .dead, .dead, .dead, .dead, .dead, .dead, .dead, .dead, .dead, .dead, .dead, .dead, .dead, .dead, .dead, .dead, .dead, .dead, .dead, .dead, .dead, .dead, .dead, .dead, .dead, .dead, .dead, .dead, .dead, .dead, .dead, .dead, .dead, .dead, .dead, .dead, .dead, .dead, .dead, .dead, .dead, .dead, .dead, s61, .dead]
@[simp] def x13_5 : List Bool := [true, true, false, false, false, false, true, true, true, true, true, false, false, false, false, false, false, false, false, false, false, false, false, false, false, false, false, false, false, false, false, false, false, false, false, false, false, false, false, false, false, false, false, false, false, false, false, false, false, false, false, false, false, false, false, false, false, false, false, false, false, true, false]
@[simp] def X13_5 (s0 s1 s6 s7 s8 s9 s10 s61 : V) : St := [s0, s1, .dead, .dead, .dead, .dead, s6, s7, s8, s9, s10, .dead, .dead, .dead, .dead, .dead, .dead, .dead, .dead, .dead, .dead, .dead, .dead, .dead, .dead, .dead, .dead, .dead, .dead, .dead, .dead, .dead, .dead, .dead, .dead, .dead, .dead, .dead, .dead, .dead, .dead, .dead, .dead, .dead, .dead, .dead, .dead, .dead, .dead, .dead, .dead, .dead, .dead, .dead, .dead, .dead, .dead, .dead, .dead, .dead, .dead, s61, .dead]
def b13_2 : MC := .seq (.scr h13_2)
 (.seq (.seq (.ops [⟨none, .mv 29 (.t 10)⟩,
    ⟨none, .mv 30 (.t 1)⟩,
    ⟨none, .len 31 false (.t 30)⟩,
    ⟨none, .bin 32 .lss .num (.t 29) (.t 31)⟩])
  (.cnd (.t 32)
   .skip
   (.seq (.scr x13_4) (.ex 4))))
 (.seq (.seq (.blk 5 (.ops [⟨none, .mv 35 (.t 9)⟩,
    ⟨none, .mv 36 (.t 35)⟩,
    ⟨some (36, true), .mv 37 (.t 1)⟩,
    ⟨some (36, true), .mv 38 (.t 10)⟩,
    ⟨some (36, true), .ixs 39 2 (.t 37) (.t 38)⟩,
    ⟨some (36, true), .fa 40 1 (.t 39)⟩,
    ⟨some (36, true), .ld1 41 (.t 40)⟩,
    ⟨some (36, true), .mv 42 (.t 8)⟩,
    ⟨some (36, true), .bin 43 .neq .num (.t 41) (.t 42)⟩,
    ⟨some (36, true), .mv 44 (.t 43)⟩,
    ⟨some (44, false), .mv 45 (.t 6)⟩,
    ⟨some (44, false), .mv 46 (.t 1)⟩,
    ⟨some (44, false), .mv 47 (.t 10)⟩,
    ⟨some (44, false), .ixs 48 2 (.t 46) (.t 47)⟩,
    ⟨some (44, false), .fa 49 0 (.t 48)⟩,
    ⟨some (44, false), .ld1 50 (.t 49)⟩,
    ⟨some (44, false), .call (some 51) 30 [(.t 45), (.t 50)]⟩,
    ⟨some (36, true), .pick 52 (.t 44) (.c (.v (.bool true))) (.t 51)⟩,
    ⟨none, .pick 53 (.t 36) (.t 52) (.c (.v (.bool false)))⟩,
    ⟨none, .asg 9 (.t 53)⟩])) (.scr x13_5))
 (.ops [⟨none, .mv 33 (.t 10)⟩,
  ⟨none, .bin 34 .add .num (.t 33) (.c (.v (.int .i64 1)))⟩,
  ⟨none, .asg 10 (.t 34)⟩])))
def b13_1 : MC := .seq (.scr h13_1)
 (.seq (.seq (.ops [⟨none, .mv 21 (.t 8)⟩,
    ⟨none, .bin 22 .geq .num (.t 21) (.c (.v (.int .i64 0)))⟩])
  (.cnd (.t 22)
   .skip
   (.seq (.scr x13_2) (.ex 2))))
 (.seq (.seq (.blk 3 (.seq (.ops [⟨none, .mv 25 (.t 6)⟩,
     ⟨none, .mv 26 (.t 8)⟩,
     ⟨none, .call (some 27) 30 [(.t 25), (.t 26)]⟩,
     ⟨none, .un 28 .not (.t 27)⟩,
     ⟨none, .asg 9 (.t 28)⟩])
   (.seq (.seq (.ops [⟨none, .asg 10 (.c (.v (.int .i64 0)))⟩])
    (.seq (.blk 4 (.lop b13_2)) (.scr x13_4)))
   (.seq (.ops [⟨none, .mv 54 (.t 9)⟩])
   (.cnd (.t 54)
    (.ops [⟨none, .mv 55 (.t 8)⟩,
     ⟨none, .asg 7 (.t 55)⟩])
    .skip))))) (.scr x13_3))
 (.ops [⟨none, .mv 23 (.t 8)⟩,
  ⟨none, .bin 24 .sub .num (.t 23) (.c (.v (.int .i64 1)))⟩,
  ⟨none, .asg 8 (.t 24)⟩])))
def b13_0 : MC := .seq (.scr h13_0)
 (.seq (.seq (.ops [⟨none, .mv 15 (.t 6)⟩,
    ⟨none, .len 16 false (.t 15)⟩,
    ⟨none, .mv 17 (.t 0)⟩,
    ⟨none, .bin 18 .lss .num (.t 16) (.t 17)⟩])
  (.cnd (.t 18)
   .skip
   (.seq (.scr x13_0) (.ex 0))))
 (.seq (.blk 1 (.seq (.ops [⟨none, .asg 7 (.c (.v (.int .i64 (-1))))⟩])
  (.seq (.seq (.ops [⟨none, .mv 19 (.t 0)⟩,
     ⟨none, .bin 20 .sub .num (.t 19) (.c (.v (.int .i64 1)))⟩,
     ⟨none, .asg 8 (.t 20)⟩])
   (.seq (.blk 2 (.lop b13_1)) (.scr x13_2)))
  (.seq (.seq (.ops [⟨none, .mv 56 (.t 7)⟩,
     ⟨none, .bin 57 .lss .num (.t 56) (.c (.v (.int .i64 0)))⟩])
   (.cnd (.t 57)
    (.seq (.ops [⟨none, .asg 4 (.c (.nd (.sl true 1 0) []))⟩,
      ⟨none, .asg 5 (.c (.v (.int .i64 11)))⟩])
    (.seq (.scr r13) .ret))
    .skip))
  (.ops [⟨none, .mv 58 (.t 6)⟩,
   ⟨none, .mv 59 (.t 7)⟩,
   ⟨none, .bs 60 1 1 [(.v (.int .i64 0))] [(0, 1, (.t 59))]⟩,
   ⟨none, .app 61 1 (.t 58) (.t 60)⟩,
   ⟨none, .asg 6 (.t 61)⟩]))))) (.scr x13_1)))
def c13 : MF := ⟨(.seq (.ops [⟨none, .asg 4 (.c (.nd (.sl true 1 0) []))⟩,
   ⟨none, .asg 5 (.c (.v (.int .i64 0)))⟩])
 (.seq (.seq (.ops [⟨none, .mv 11 (.t 0)⟩,
    ⟨none, .mv 12 (.t 1)⟩,
    ⟨none, .call (some 13) 21 [(.t 11), (.t 12)]⟩,
    ⟨none, .un 14 .not (.t 13)⟩])
  (.cnd (.t 14)
   (.seq (.ops [⟨none, .asg 4 (.c (.nd (.sl true 1 0) []))⟩,
     ⟨none, .asg 5 (.c (.v (.int .i64 1)))⟩])
   (.seq (.scr r13) .ret))
   .skip))
 (.seq (.ops [⟨none, .asg 6 (.c (.nd (.sl true 1 0) []))⟩])
 (.seq (.seq (.blk 0 (.lop b13_0)) (.scr x13_0))
 (.seq (.ops [⟨none, .mv 62 (.t 6)⟩,
   ⟨none, .asg 4 (.t 62)⟩,
   ⟨none, .asg 5 (.c (.v (.int .i64 0)))⟩])
 (.seq (.scr r13) .ret)))))),
  63, [4, 5]⟩

/-- coinage/coinageref06.Levels -/
def hints14 : List (List Bool) := [[false, false, false, false, true, true, false, false, false, false, false, false, false, false, false, false, false, false, false, false, false, false, false, false, false, false, false, false, false, false, false, false, false, false, false, false, false, false, false, false, false, false, false, false, false, false, false, false, false, false, false, false, false, false, false, false], [false, false, false, false, true, true, false, false, false, false, false, false, false, false, false, false, false, false, false, false, false, false, false, false, false, false, false, false, false, false, false, false, false, false, false, false, false, false, false, false, false, false, false, false, false, false, false, false, false, false, false, false, false, false, false, false], [false, false, false, false, false, false, true, false, false, false, false, false, false, false, false, false, false, false, true, false, false, false, false, false, false, false, false, false, false, false, false, false, false, false, false, false, false, false, false, false, false, false, false, false, false, false, false, false, false, false, false, false, false, false, false, false], [true, true, false, false, false, false, true, true, false, false, false, false, false, false, false, false, false, false, true, false, false, false, false, false, false, false, false, false, false, false, false, false, false, false, false, false, false, false, false, false, false, false, false, false, false, false, false, false, false, false, false, false, false, false, false, false], [false, false, false, false, false, false, true, false, false, false, false, false, false, false, false, false, false, false, true, false, false, false, false, false, false, false, false, false, false, false, false, false, false, false, false, false, false, false, false, false, false, false, false, false, false, false, false, false, false, false, false, false, false, false, false, false], [true, true, false, false, false, false, true, true, false, false, false, false, false, false, false, false, false, false, true, false, false, false, false, false, false, false, false, false, false, false, false, false, false, false, false, false, false, false, false, false, false, false, false, false, false, false, false, false, false, false, false, false, false, false, false, false], [true, true, false, false, false, false, true, true, false, false, false, false, false, false, false, false, false, false, true, false, false, false, false, false, false, false, false, false, false, false, false, false, false, false, false, false, false, false, false, false, false, false, false, false, false, false, false, false, false, false, false, false, false, false, false, false], [true, true, false, false, false, false, true, true, true, false, false, false, false, false, false, false, false, false, true, false, false, false, false, false, false, false, false, false, false, false, false, false, false, false, false, false, false, false, false, false, false, false, false, false, false, false, false, false, false, false, false, false, false, false, false, false], [true, true, false, false, false, false, true, true, false, false, false, false, false, false, false, false, false, false, true, false, false, false, false, false, false, false, false, false, false, false, false, false, false, false, false, false, false, false, false, false, false, false, false, false, false, false, false, false, false, false, false, false, false, false, false, false], [true, true, false, false, false, false, true, true, true, false, false, false, false, false, false, false, false, false, true, false, false, false, false, false, false, false, false, false, false, false, false, false, false, false, false, false, false, false, false, false, false, false, false, false, false, false, false, false, false, false, false, false, false, false, false, false], [false, false, false, false, true, true, false, false, false, false, false, false, false, false, false, false, false, false, false, false, false, false, false, false, false, false, false, false, false, false, false, false, false, false, false, false, false, false, false, false, false, false, false, false, false, false, false, false, false, false, false, false, false, false, false, false]]
@[simp] def r14 : List Bool := [false, false, false, false, true, true, false, false, false, false, false, false, false, false, false, false, false, false, false, false, false, false, false, false, false, false, false, false, false, false, false, false, false, false, false, false, false, false, false, false, false, false, false, false, false, false, false, false, false, false, false, false, false, false, false, false]
@[simp] def R14 (s4 s5 : V) : St := [.dead, .dead, .dead, .dead, s4, s5, .dead, .dead, .dead, .dead, .dead, .dead, .dead, .dead, .dead, .dead, .dead, .dead, .dead, .dead, .dead, .dead, .dead, .dead, .dead, .dead, .dead, .dead, .dead, .dead, .dead, .dead, .dead, .dead, .dead, .dead, .dead, .dead, .dead, .dead, .dead, .dead, .dead, .dead, .dead, .dead, .dead, .dead, .dead, .dead, .dead, .dead, .dead, .dead, .dead, .dead]
@[simp] def x14_0 : List Bool := [false, false, false, false, false, false, true, false, false, false, false, false, false, false, false, false, false, false, true, false, false, false, false, false, false, false, false, false, false, false, false, false, false, false, false, false, false, false, false, false, false, false, false, false, false, false, false, false, false, false, false, false, false, false, false, false]
@[simp] def X14_0 (s6 s18 : V) : St := [.dead, .dead, .dead, .dead, .dead, .dead, s6, .dead, .dead, .dead, .dead, .dead, .dead, .dead, .dead, .dead, .dead, .dead, s18, .dead, .dead, .dead, .dead, .dead, .dead, .dead, .dead, .dead, .dead, .dead, .dead, .dead, .dead, .dead, .dead, .dead, .dead, .dead, .dead, .dead, .dead, .dead, .dead, .dead, .dead, .dead, .dead, .dead, .dead, .dead, .dead, .dead, .dead, .dead, .dead, .dead]
@[simp] def h14_0 : List Bool := [true, true, false, false, false, false, true, true, false, false, false, false, false, false, false, false, false, false, true, false, false, false, false, false, false, false, false, false, false, false, false, false, false, false, false, false, false, false, false, false, false, false, false, false, false, false, false, false, false, false, false, false, false, false, false, false]
@[simp] def L14_0 (s0 s1 s6 s7 s18 : V) : St := [s0, s1, .dead, .dead, .dead, .dead, s6, s7, .dead, .dead, .dead, .dead, .dead, .dead, .dead, .dead, .dead, .dead, s18, .dead, .dead, .dead, .dead, .dead, .dead, .dead, .dead, .dead, .dead, .dead, .dead, .dead, .dead, .dead, .dead, .dead, .dead, .dead, .dead, .dead, .dead, .dead, .dead, .dead, .dead, .dead, .dead, .dead, .dead, .dead, .dead, .dead, .dead, .dead, .dead, .dead]
@[simp] def x14_1 : List Bool := [true, true, false, false, false, false, true, true, false, false, false, false, false, false, false, false, false, false, true, false, false, false, false, false, false, false, false, false, false, false, false, false, false, false, false, false, false, false, false, false, false, false, false, false, false, false, false, false, false, false, false, false, false, false, false, false]
@[simp] def X14_1 (s0 s1 s6 s7 s18 : V) : St := [s0, s1, .dead, .dead, .dead, .dead, s6, s7, .dead, .dead, .dead, .dead, .dead, .dead, .dead, .dead, .dead, .dead, s18, .dead, .dead, .dead, .dead, .dead, .dead, .dead, .dead, .dead, .dead, .dead, .dead, .dead, .dead, .dead, .dead, .dead, .dead, .dead, .dead, .dead, .dead, .dead, .dead, .dead, .dead, .dead, .dead, .dead, .dead, .dead, .dead, .dead, .dead, .dead, .dead, .dead]
@[simp] def x14_2 : List Bool := [true, true, false, false, false, false, true, true, false, false, false, false, false, false, false, false, false, false, true, false, false, false, false, false, false, false, false, false, false, false, false, false, false, false, false, false, false, false, false, false, false, false, false, false, false, false, false, false, false, false, false, false, false, false, false, false]
@[simp] def X14_2 (s0 s1 s6 s7 s18 : V) : St := [s0, s1, .dead, .dead, .dead, .dead, s6, s7, .dead, .dead, .dead, .dead, .dead, .dead, .dead, .dead, .dead, .dead, s18, .dead, .dead, .dead, .dead, .dead, .dead, .dead, .dead, .dead, .dead, .dead, .dead, .dead, .dead, .dead, .dead, .dead, .dead, .dead, .dead, .dead, .dead, .dead, .dead, .dead, .dead, .dead, .dead, .dead, .dead, .dead, .dead, .dead, .dead, .dead, .dead, .dead]
@[simp] def h14_1 : List Bool := [true, true, false, false, false, false, true, true, true, false, false, false, false, false, false, false, false, false, true, false, false, false, false, false, false, false, false, false, false, false, false, false, false, false, false, false, false, false, false, false, false, false, false, false, false, false, false, false, false, false, false, false, false, false, false, false]
@[simp] def L14_1 (s0 s1 s6 s7 s8 s18 : V) : St := [s0, s1, .dead, .dead, .dead, .dead, s6, s7, s8, .dead, .dead, .dead, .dead, .dead, .dead, .dead, .dead, .dead, s18, .dead, .dead, .dead, .dead, .dead, .dead, .dead, .dead, .dead, .dead, .dead, .dead, .dead, .dead, .dead, .dead, .dead, .dead, .dead, .dead, .dead, .dead, .dead, .dead, .dead, .dead, .dead, .dead, .dead, .dead, .dead, .dead, .dead, .dead, .dead, .dead, .dead]
@[simp] def x14_3 : List Bool := [true, true, false, false, false, false, true, true, true, false, false, false, false, false, false, false, false, false, true, false, false, false, false, false, false, false, false, false, false, false, false, false, false, false, false, false, false, false, false, false, false, false, false, false, false, false, false, false, false, false, false, false, false, false, false, false]
@[simp] def X14_3 (s0 s1 s6 s7 s8 s18 : V) : St := [s0, s1, .dead, .dead, .dead, .dead, s6, s7, s8, .dead, .dead, .dead, .dead, .dead, .dead, .dead, .dead, .dead, s18, .dead, .dead, .dead, .dead, .dead, .dead, .dead, .dead, .dead, .dead, .dead, .dead, .dead, .dead, .dead, .dead, .dead, .dead, .dead, .dead, .dead, .dead, .dead, .dead, .dead, .dead, .dead, .dead, .dead, .dead, .dead, .dead, .dead, .dead, .dead, .dead, .dead]
def b14_1 : MC := .seq (.scr h14_1)
 (.seq (.seq (.ops [⟨none, .mv 24 (.t 8)⟩,
    ⟨none, .mv 25 (.t 1)⟩,
    ⟨none, .len 26 false (.t 25)⟩,
    ⟨none, .bin 27 .lss .num (.t 24) (.t 26)⟩])
  (.cnd (.t 27)
   .skip
   (.seq (.scr x14_2) (.ex 2))))
 (.seq (.seq (.blk 3 (.drw [⟨none, .mv 30 (.t 6)⟩,
    ⟨none, .mv 31 (.t 1)⟩,
    ⟨none, .mv 32 (.t 8)⟩,
    ⟨none, .ixs 33 2 (.t 31) (.t 32)⟩,
    ⟨none, .fa 34 1 (.t 33)⟩,
    ⟨none, .ld1 35 (.t 34)⟩,
    ⟨none, .mv 36 (.t 6)⟩,
    ⟨none, .mv 37 (.t 1)⟩,
    ⟨none, .mv 38 (.t 8)⟩,
    ⟨none, .ixs 39 2 (.t 37) (.t 38)⟩,
    ⟨none, .fa 40 1 (.t 39)⟩,
    ⟨none, .ld1 41 (.t 40)⟩,
    ⟨none, .ixs 42 1 (.t 36) (.t 41)⟩,
    ⟨none, .ld1 43 (.t 42)⟩,
    ⟨none, .mv 44 (.t 6)⟩,
    ⟨none, .mv 45 (.t 1)⟩,
    ⟨none, .mv 46 (.t 8)⟩,
    ⟨none, .ixs 47 2 (.t 45) (.t 46)⟩,
    ⟨none, .fa 48 0 (.t 47)⟩,
    ⟨none, .ld1 49 (.t 48)⟩,
    ⟨none, .ixs 50 1 (.t 44) (.t 49)⟩,
    ⟨none, .ld1 51 (.t 50)⟩,
    ⟨none, .bin 52 .add .num (.t 51) (.c (.v (.int .i64 1)))⟩,
    ⟨none, .mm 53 true (.t 43) (.t 52)⟩] [⟨none, .ixs 54 1 (.t 30) (.t 35)⟩,
    ⟨none, .stn none 1 (.t 54) (.t 53)⟩])) (.scr x14_3))
 (.ops [⟨none, .mv 28 (.t 8)⟩,
  ⟨none, .bin 29 .add .num (.t 28) (.c (.v (.int .i64 1)))⟩,
  ⟨none, .asg 8 (.t 29)⟩])))
def b14_0 : MC := .seq (.scr h14_0)
 (.seq (.seq (.ops [⟨none, .mv 19 (.t 7)⟩,
    ⟨none, .mv 20 (.t 0)⟩,
    ⟨none, .bin 21 .lss .num (.t 19) (.t 20)⟩])
  (.cnd (.t 21)
   .skip
   (.seq (.scr x14_0) (.ex 0))))
 (.seq (.seq (.blk 1 (.seq (.ops [⟨none, .asg 8 (.c (.v (.int .i64 0)))⟩])
   (.seq (.blk 2 (.lop b14_1)) (.scr x14_2)))) (.scr x14_1))
 (.ops [⟨none, .mv 22 (.t 7)⟩,
  ⟨none, .bin 23 .add .num (.t 22) (.c (.v (.int .i64 1)))⟩,
  ⟨none, .asg 7 (.t 23)⟩])))
def c14 : MF := ⟨(.seq (.ops [⟨none, .asg 4 (.c (.nd (.sl true 1 0) []))⟩,
   ⟨none, .asg 5 (.c (.v (.int .i64 0)))⟩])
 (.seq (.seq (.ops [⟨none, .mv 9 (.t 0)⟩,
    ⟨none, .mv 10 (.t 1)⟩,
    ⟨none, .call (some 11) 21 [(.t 9), (.t 10)]⟩,
    ⟨none, .un 12 .not (.t 11)⟩])
  (.cnd (.t 12)
   (.seq (.ops [⟨none, .asg 4 (.c (.nd (.sl true 1 0) []))⟩,
     ⟨none, .asg 5 (.c (.v (.int .i64 1)))⟩])
   (.seq (.scr r14) .ret))
   .skip))
 (.seq (.seq (.ops [⟨none, .mv 13 (.t 0)⟩,
    ⟨none, .mv 14 (.t 1)⟩,
    ⟨none, .call (some 15) 23 [(.t 13), (.t 14)]⟩,
    ⟨none, .un 16 .not (.t 15)⟩])
  (.cnd (.t 16)
   (.seq (.ops [⟨none, .asg 4 (.c (.nd (.sl true 1 0) []))⟩,
     ⟨none, .asg 5 (.c (.v (.int .i64 11)))⟩])
   (.seq (.scr r14) .ret))
   .skip))
 (.seq (.ops [⟨none, .mv 17 (.t 0)⟩,
   ⟨none, .mks 18 1 [(.v (.int .i64 0))] (.t 17) (.t 17)⟩,
   ⟨none, .asg 6 (.t 18)⟩])
 (.seq (.seq (.ops [⟨none, .asg 7 (.c (.v (.int .i64 0)))⟩])
  (.seq (.blk 0 (.lop b14_0)) (.scr x14_0)))
 (.seq (.ops [⟨none, .mv 55 (.t 6)⟩,
   ⟨none, .asg 4 (.t 55)⟩,
   ⟨none, .asg 5 (.c (.v (.int .i64 0)))⟩])
 (.seq (.scr r14) .ret))))))),
  56, [4, 5]⟩

/-- coinage/coinagebase.Ints -/
def hints15 : List (List Bool) := [[false, false, false, false, true, false, false, false, false, false, false, false, false, false, false, false, false, false, false, false, false, false, false, false, false, false], [false, false, false, false, false, false, false, false, false, false, false, false, false, false, false, false, false, false, false, false, false, false, false, false, false, false], [true, true, false, false, false, true, false, false, false, false, false, false, false, false, false, false, false, false, false, false, false, false, false, false, false, false], [false, false, false, false, false, false, false, false, false, false, false, false, false, false, false, false, false, false, false, false, false, false, false, false, false, false], [true, true, false, false, false, true, false, false, false, false, false, false, false, false, false, false, false, false, false, false, false, false, false, false, false, false], [false, false, false, false, true, false, false, false, false, false, false, false, false, false, false, false, false, false, false, false, false, false, false, false, false, false], [false, false, false, false, true, false, false, false, false, false, false, false, false, false, false, false, false, false, false, false, false, false, false, false, false, false]]
@[simp] def r15 : List Bool := [false, false, false, false, true, false, false, false, false, false, false, false, false, false, false, false, false, false, false, false, false, false, false, false, false, false]
@[simp] def R15 (s4 : V) : St := [.dead, .dead, .dead, .dead, s4, .dead, .dead, .dead, .dead, .dead, .dead, .dead, .dead, .dead, .dead, .dead, .dead, .dead, .dead, .dead, .dead, .dead, .dead, .dead, .dead, .dead]
@[simp] def x15_0 : List Bool := [false, false, false, false, false, false, false, false, false, false, false, false, false, false, false, false, false, false, false, false, false, false, false, false, false, false]
@[simp] def X15_0 : St := [.dead, .dead, .dead, .dead, .dead, .dead, .dead, .dead, .dead, .dead, .dead, .dead, .dead, .dead, .dead, .dead, .dead, .dead, .dead, .dead, .dead, .dead, .dead, .dead, .dead, .dead]
@[simp] def h15_0 : List Bool := [true, true, false, false, false, true, false, false, false, false, false, false, false, false, false, false, false, false, false, false, false, false, false, false, false, false]
@[simp] def L15_0 (s0 s1 s5 : V) : St := [s0, s1, .dead, .dead, .dead, s5, .dead, .dead, .dead, .dead, .dead, .dead, .dead, .dead, .dead, .dead, .dead, .dead, .dead, .dead, .dead, .dead, .dead, .dead, .dead, .dead]
@[simp] def x15_1 : List Bool := [true, true, false, false, false, true, false, false, false, false, false, false, false, false, false, false, false, false, false, false, false, false, false, false, false, false]
@[simp] def X15_1 (s0 s1 s5 : V) : St := [s0, s1, .dead, .dead, .dead, s5, .dead, .dead, .dead, .dead, .dead, .dead, .dead, .dead, .dead, .dead, .dead, .dead, .dead, .dead, .dead, .dead, .dead, .dead, .dead, .dead]
def b15_0 : MC := .seq (.scr h15_0)
 (.seq (.seq (.ops [⟨none, .mv 11 (.t 5)⟩,
    ⟨none, .mv 12 (.t 0)⟩,
    ⟨none, .len 13 false (.t 12)⟩,
    ⟨none, .bin 14 .lss .num (.t 11) (.t 13)⟩])
  (.cnd (.t 14)
   .skip
   (.seq (.scr x15_0) (.ex 0))))
 (.seq (.seq (.blk 1 (.seq (.drw [⟨none, .mv 17 (.t 0)⟩,
     ⟨none, .mv 18 (.t 5)⟩,
     ⟨none, .ixs 19 1 (.t 17) (.t 18)⟩,
     ⟨none, .ld1 20 (.t 19)⟩,
     ⟨none, .mv 21 (.t 1)⟩,
     ⟨none, .mv 22 (.t 5)⟩,
     ⟨none, .ixs 23 1 (.t 21) (.t 22)⟩,
     ⟨none, .ld1 24 (.t 23)⟩] [⟨none, .bin 25 .neq .num (.t 20) (.t 24)⟩])
   (.cnd (.t 25)
    (.seq (.ops [⟨none, .asg 4 (.c (.v (.bool false)))⟩])
    (.seq (.scr r15) .ret))
    .skip))) (.scr x15_1))
 (.ops [⟨none, .mv 15 (.t 5)⟩,
  ⟨none, .bin 16 .add .num (.t 15) (.c (.v (.int .i64 1)))⟩,
  ⟨none, .asg 5 (.t 16)⟩])))
def c15 : MF := ⟨(.seq (.ops [⟨none, .asg 4 (.c (.v (.bool false)))⟩])
 (.seq (.seq (.ops [⟨none, .mv 6 (.t 0)⟩,
    ⟨none, .len 7 false (.t 6)⟩,
    ⟨none, .mv 8 (.t 1)⟩,
    ⟨none, .len 9 false (.t 8)⟩,
    ⟨none, .bin 10 .neq .num (.t 7) (.t 9)⟩])
  (.cnd (.t 10)
   (.seq (.ops [⟨none, .asg 4 (.c (.v (.bool false)))⟩])
   (.seq (.scr r15) .ret))
   .skip))
 (.seq (.seq (.ops [⟨none, .asg 5 (.c (.v (.int .i64 0)))⟩])
  (.seq (.blk 0 (.lop b15_0)) (.scr x15_0)))
 (.seq (.ops [⟨none, .asg 4 (.c (.v (.bool true)))⟩])
 (.seq (.scr r15) .ret))))),
  26, [4]⟩

/-- coinage/poset.Reaches -/
def hints16 : List (List Bool) := [[false, false, false, false, false, false, false, false, true, false, false, false, false, false, false, false, false, false, false, false, false, false, false, false, false, false, false, false, false, false, false, false, false, false, false, false, false, false, false, false]]
@[simp] def r16 : List Bool := [false, false, false, false, false, false, false, false, true, false, false, false, false, false, false, false, false, false, false, false, false, false, false, false, false, false, false, false, false, false, false, false, false, false, false, false, false, false, false, false]
@[simp] def R16 (s8 : V) : St := [.dead, .dead, .dead, .dead, .dead, .dead, .dead, .dead, s8, .dead, .dead, .dead, .dead, .dead, .dead, .dead, .dead, .dead, .dead, .dead, .dead, .dead, .dead, .dead, .dead, .dead, .dead, .dead, .dead, .dead, .dead, .dead, .dead, .dead, .dead, .dead, .dead, .dead, .dead, .dead]
def c16 : MF := ⟨(.seq (.ops [⟨none, .asg 8 (.c (.v (.bool false)))⟩])
 (.seq (.ops [⟨none, .mv 9 (.t 0)⟩,
   ⟨none, .mv 10 (.t 1)⟩,
   ⟨none, .call (some 11) 20 [(.t 9), (.t 10)]⟩,
   ⟨none, .mv 12 (.t 11)⟩,
   ⟨some (12, true), .mv 13 (.t 2)⟩,
   ⟨some (12, true), .bin 14 .geq .num (.t 13) (.c (.v (.int .i64 0)))⟩,
   ⟨none, .pick 15 (.t 12) (.t 14) (.c (.v (.bool false)))⟩,
   ⟨none, .mv 16 (.t 15)⟩,
   ⟨some (16, true), .mv 17 (.t 2)⟩,
   ⟨some (16, true), .mv 18 (.t 0)⟩,
   ⟨some (16, true), .bin 19 .lss .num (.t 17) (.t 18)⟩,
   ⟨none, .pick 20 (.t 16) (.t 19) (.c (.v (.bool false)))⟩,
   ⟨none, .mv 21 (.t 20)⟩,
   ⟨some (21, true), .mv 22 (.t 3)⟩,
   ⟨some (21, true), .bin 23 .geq .num (.t 22) (.c (.v (.int .i64 0)))⟩,
   ⟨none, .pick 24 (.t 21) (.t 23) (.c (.v (.bool false)))⟩,
   ⟨none, .mv 25 (.t 24)⟩,
   ⟨some (25, true), .mv 26 (.t 3)⟩,
   ⟨some (25, true), .mv 27 (.t 0)⟩,
   ⟨some (25, true), .bin 28 .lss .num (.t 26) (.t 27)⟩,
   ⟨none, .pick 29 (.t 25) (.t 28) (.c (.v (.bool false)))⟩,
   ⟨none, .mv 30 (.t 29)⟩,
   ⟨some (30, true), .mv 31 (.t 0)⟩,
   ⟨some (30, true), .mv 32 (.t 1)⟩,
   ⟨some (30, true), .call (some 33) 31 [(.t 31), (.t 32)]⟩,
   ⟨some (30, true), .mv 34 (.t 2)⟩,
   ⟨some (30, true), .ixs 35 1 (.t 33) (.t 34)⟩,
   ⟨some (30, true), .ld1 36 (.t 35)⟩,
   ⟨some (30, true), .mv 37 (.t 3)⟩,
   ⟨some (30, true), .call (some 38) 28 [(.t 36), (.t 37)]⟩,
   ⟨none, .pick 39 (.t 30) (.t 38) (.c (.v (.bool false)))⟩,
   ⟨none, .asg 8 (.t 39)⟩])
 (.seq (.scr r16) .ret))),
  40, [8]⟩

/-- coinage/poset.Induced -/
def hints17 : List (List Bool) := [[false, false, false, false, false, false, true, true, false, false, false, false, false, false, false, false, false, false, false, false, false, false, false, false, false, false, false, false, false, false, false, false, false, false, false, false, false, false, false, false, false, false, false, false, false, false, false, false, false, false, false, false, false, false, false, false, false, false, false, false, false, false, false, false, false, false, false, false, false, false, false, false, false, false, false, false, false, false, false, false, false, false, false, false, false, false, false, false, false, false, false, false, false, false, false, false, false, false], [true, true, true, false, false, false, false, false, true, false, false, false, false, false, false, false, false, false, false, false, true, false, false, false, false, false, false, false, false, false, false, false, false, false, false, false, false, false, false, false, false, false, false, false, false, false, false, false, false, false, false, false, false, false, false, false, false, false, false, false, false, false, false, false, false, false, false, false, false, false, false, false, false, false, false, false, false, false, false, false, false, false, false, false, false, false, false, false, false, false, false, false, false, false, false, true, false, false], [true, true, true, false, false, false, false, false, true, false, false, false, false, false, false, false, false, false, false, false, true, false, true, true, false, false, false, false, false, false, false, false, false, false, false, false, false, false, false, false, false, false, false, false, false, false, false, false, false, false, false, false, false, false, false, false, false, false, false, false, false, false, false, false, false, false, false, false, false, false, false, false, false, false, false, false, false, false, false, false, false, false, false, false, false, false, false, false, false, false, false, false, false, false, false, true, false, false], [true, true, true, false, false, false, false, false, true, false, false, false, false, false, false, false, false, false, false, false, true, false, false, false, false, false, false, false, false, false, false, false, false, false, false, false, false, false, false, false, false, false, false, false, false, false, false, false, false, false, false, false, false, false, false, false, false, false, false, false, false, false, false, false, false, false, false, false, false, false, false, false, false, false, false, false, false, false, false, false, false, false, false, false, false, false, false, false, false, false, false, false, false, false, false, true, false, false], [true, true, true, false, false, false, false, false, true, false, false, false, false, false, false, false, false, false, false, false, true, false, true, true, false, false, false, false, false, false, false, false, false, false, false, false, false, false, false, false, false, false, false, false, false, false, false, false, false, false, false, false, false, false, false, false, false, false, false, false, false, false, false, false, false, false, false, false, false, false, false, false, false, false, false, false, false, false, false, false, false, false, false, false, false, false, false, false, false, false, false, false, false, false, false, true, false, false], [false, true, false, false, false, false, false, false, true, false, false, false, false, false, false, false, false, false, false, false, true, false, false, false, false, false, false, false, false, false, false, false, false, false, false, false, false, false, false, false, false, false, false, false, false, false, false, false, false, false, false, false, false, false, false, false, false, false, false, false, false, false, false, false, false, false, false, false, false, false, false, false, false, false, false, false, false, false, false, false, false, false, false, false, false, false, false, false, false, false, false, false, false, false, false, true, false, false], [true, true, true, false, false, false, false, false, true, false, false, false, false, false, false, false, false, false, false, false, true, false, false, false, false, false, false, false, false, false, true, true, true, false, false, false, false, false, false, false, false, false, false, false, false, false, false, false, false, false, false, false, false, false, false, false, false, false, false, false, false, false, false, false, false, false, false, false, false, false, false, false, false, false, false, false, false, false, false, false, false, false, false, false, false, false, false, false, false, false, false, false, false, false, false, true, false, false], [false, true, false, false, false, false, false, false, true, false, false, false, false, false, false, false, false, false, false, false, true, false, false, false, false, false, false, false, false, false, false, false, false, false, false, false, false, false, false, false, false, false, false, false, false, false, false, false, false, false, false, false, false, false, false, false, false, false, false, false, false, false, false, false, false, false, false, false, false, false, false, false, false, false, false, false, false, false, false, false, false, false, false, false, false, false, false, false, false, false, false, false, false, false, false, true, false, false], [true, true, true, false, false, false, false, false, true, false, false, false, false, false, false, false, false, false, false, false, true, false, false, false, false, false, false, false, false, false, true, true, true, false, false, false, false, false, false, false, false, false, false, false, false, false, false, false, false, false, false, false, false, false, false, false, false, false, false, false, false, false, false, false, false, false, false, false, false, false, false, false, false, false, false, false, false, false, false, false, false, false, false, false, false, false, false, false, false, false, false, false, false, false, false, true, false, false], [false, false, false, false, false, false, true, true, false, false, false, false, false, false, false, false, false, false, false, false, false, false, false, false, false, false, false, false, false, false, false, false, false, false, false, false, false, false, false, false, false, false, false, false, false, false, false, false, false, false, false, false, false, false, false, false, false, false, false, false, false, false, false, false, false, false, false, false, false, false, false, false, false, false, false, false, false, false, false, false, false, false, false, false, false, false, false, false, false, false, false, false, false, false, false, false, false, false], [false, false, false, false, false, false, false, false, false, false, false, false, true, false, false, false, false, false, false, false, false, false, false, false, false, false, false, false, false, false, false, false, false, false, false, false, false, false, false, false, false, false, false, false, false, false, false, false, false, false, false, false, false, false, false, false, false, false, false, false, false, false, false, false, false, false, false, false, false, false, false, false, false, false, false, false, false, false, false, false, false, false, false, false, false, false, false, false, false, false, false, false, false, false, false, true, false, false], [false, true, false, false, false, false, false, false, true, false, false, false, true, false, false, false, false, false, false, false, true, false, false, false, false, false, false, false, false, false, false, false, false, false, false, false, false, false, false, false, false, false, false, false, false, false, false, false, false, false, false, false, false, false, false, false, false, false, false, false, false, false, true, true, true, false, false, false, false, false, false, false, false, false, false, false, false, false, false, false, false, false, false, false, false, false, false, false, false, false, false, false, false, false, false, true, false, false], [false, false, false, false, false, false, false, false, false, false, false, false, true, false, false, false, false, false, false, false, false, false, false, false, false, false, false, false, false, false, false, false, false, false, false, false, false, false, false, false, false, false, false, false, false, false, false, false, false, false, false, false, false, false, false, false, false, false, false, false, false, false, false, false, false, false, false, false, false, false, false, false, false, false, false, false, false, false, false, false, false, false, false, false, false, false, false, false, false, false, false, false, false, false, false, true, false, false], [false, true, false, false, false, false, false, false, true, false, false, false, true, false, false, false, false, false, false, false, true, false, false, false, false, false, false, false, false, false, false, false, false, false, false, false, false, false, false, false, false, false, false, false, false, false, false, false, false, false, false, false, false, false, false, false, false, false, false, false, false, false, true, true, true, false, false, false, false, false, false, false, false, false, false, false, false, false, false, false, false, false, false, false, false, false, false, false, false, false, false, false, false, false, false, true, false, false], [false, false, false, false, false, false, true, true, false, false, false, false, false, false, false, false, false, false, false, false, false, false, false, false, false, false, false, false, false, false, false, false, false, false, false, false, false, false, false, false, false, false, false, false, false, false, false, false, false, false, false, false, false, false, false, false, false, false, false, false, false, false, false, false, false, false, false, false, false, false, false, false, false, false, false, false, false, false, false, false, false, false, false, false, false, false, false, false, false, false, false, false, false, false, false, false, false, false]]
@[simp] def r17 : List Bool := [false, false, false, false, false, false, true, true, false, false, false, false, false, false, false, false, false, false, false, false, false, false, false, false, false, false, false, false, false, false, false, false, false, false, false, false, false, false, false, false, false, false, false, false, false, false, false, false, false, false, false, false, false, false, false, false, false, false, false, false, false, false, false, false, false, false, false, false, false, false, false, false, false, false, false, false, false, false, false, false, false, false, false, false, false, false, false, false, false, false, false, false, false, false, false, false, false, false]
@[simp] def R17 (s6 s7 : V) : St := [.dead, .dead, .dead, .dead, .dead, .dead, s6, s7, .dead, .dead, .dead, .dead, .dead, .dead, .dead, .dead, .dead, .dead, .dead, .dead, .dead, .dead, .dead, .dead, .dead, .dead, .dead, .dead, .dead, .dead, .dead, .dead, .dead, .dead, .dead, .dead, .dead, .dead, .dead, .dead, .dead, .dead, .dead, .dead, .dead, .dead, .dead, .dead, .dead, .dead, .dead, .dead, .dead, .dead, .dead, .dead, .dead, .dead, .dead, .dead, .dead, .dead, .dead, .dead, .dead, .dead, .dead, .dead, .dead, .dead, .dead, .dead, .dead, .dead, .dead, .dead, .dead, .dead, .dead, .dead, .dead, .dead, .dead, .dead, .dead, .dead, .dead, .dead, .dead, .dead, .dead, .dead, .dead, .dead, .dead, .dead, .dead, .dead]
@[simp] def x17_0 : List Bool := [true, true, true, false, false, false, false, false, true, false, false, false, false, false, false, false, false, false, false, false, true, false, false, false, false, false, false, false, false, false, false, false, false, false, false, false, false, false, false, false, false, false, false, false, false, false, false, false, false, false, false, false, false, false, false, false, false, false, false, false, false, false, false, false, false, false, false, false, false, false, false, false, false, false, false, false, false, false, false, false, false, false, false, false, false, false, false, false, false, false, false, false, false, false, false, true, false, false]
@[simp] def X17_0 (s0 s1 s2 s8 s20 s95 : V) : St := [s0, s1, s2, .dead, .dead, .dead, .dead, .dead, s8, .dead, .dead, .dead, .dead, .dead, .dead, .dead, .dead, .dead, .dead, .dead, s20, .dead, .dead, .dead, .dead, .dead, .dead, .dead, .dead, .dead, .dead, .dead, .dead, .dead, .dead, .dead, .dead, .dead, .dead, .dead, .dead, .dead, .dead, .dead, .dead, .dead, .dead, .dead, .dead, .dead, .dead, .dead, .dead, .dead, .dead, .dead, .dead, .dead, .dead, .dead, .dead, .dead, .dead, .dead, .dead, .dead, .dead, .dead, .dead, .dead, .dead, .dead, .dead, .dead, .dead, .dead, .dead, .dead, .dead, .dead, .dead, .dead, .dead, .dead, .dead, .dead, .dead, .dead, .dead, .dead, .dead, .dead, .dead, .dead, .dead, s95, .dead, .dead]
@[simp] def h17_0 : List Bool := [true, true, true, false, false, false, false, false, true, false, false, false, false, false, false, false, false, false, false, false, true, false, true, true, false, false, false, false, false, false, false, false, false, false, false, false, false, false, false, false, false, false, false, false, false, false, false, false, false, false, false, false, false, false, false, false, false, false, false, false, false, false, false, false, false, false, false, false, false, false, false, false, false, false, false, false, false, false, false, false, false, false, false, false, false, false, false, false, false, false, false, false, false, false, false, true, false, false]
@[simp] def L17_0 (s0 s1 s2 s8 s20 s22 s23 s95 : V) : St := [s0, s1, s2, .dead, .dead, .dead, .dead, .dead, s8, .dead, .dead, .dead, .dead, .dead, .dead, .dead, .dead, .dead, .dead, .dead, s20, .dead, s22, s23, .dead, .dead, .dead, .dead, .dead, .dead, .dead, .dead, .dead, .dead, .dead, .dead, .dead, .dead, .dead, .dead, .dead, .dead, .dead, .dead, .dead, .dead, .dead, .dead, .dead, .dead, .dead, .dead, .dead, .dead, .dead, .dead, .dead, .dead, .dead, .dead, .dead, .dead, .dead, .dead, .dead, .dead, .dead, .dead, .dead, .dead, .dead, .dead, .dead, .dead, .dead, .dead, .dead, .dead, .dead, .dead, .dead, .dead, .dead, .dead, .dead, .dead, .dead, .dead, .dead, .dead, .dead, .dead, .dead, .dead, .dead, s95, .dead, .dead]
@[simp] def x17_1 : List Bool := [true, true, true, false, false, false, false, false, true, false, false, false, false, false, false, false, false, false, false, false, true, false, true, true, false, false, false, false, false, false, false, false, false, false, false, false, false, false, false, false, false, false, false, false, false, false, false, false, false, false, false, false, false, false, false, false, false, false, false, false, false, false, false, false, false, false, false, false, false, false, false, false, false, false, false, false, false, false, false, false, false, false, false, false, false, false, false, false, false, false, false, false, false, false, false, true, false, false]
@[simp] def X17_1 (s0 s1 s2 s8 s20 s22 s23 s95 : V) : St := [s0, s1, s2, .dead, .dead, .dead, .dead, .dead, s8, .dead, .dead, .dead, .dead, .dead, .dead, .dead, .dead, .dead, .dead, .dead, s20, .dead, s22, s23, .dead, .dead, .dead, .dead, .dead, .dead, .dead, .dead, .dead, .dead, .dead, .dead, .dead, .dead, .dead, .dead, .dead, .dead, .dead, .dead, .dead, .dead, .dead, .dead, .dead, .dead, .dead, .dead, .dead, .dead, .dead, .dead, .dead, .dead, .dead, .dead, .dead, .dead, .dead, .dead, .dead, .dead, .dead, .dead, .dead, .dead, .dead, .dead, .dead, .dead, .dead, .dead, .dead, .dead, .dead, .dead, .dead, .dead, .dead, .dead, .dead, .dead, .dead, .dead, .dead, .dead, .dead, .dead, .dead, .dead, .dead, s95, .dead, .dead]
def b17_0 : MC := .seq (.scr h17_0)
 (.seq (.ops [⟨none, .bin 24 .lss .num (.t 23) (.t 22)⟩])
 (.seq (.cnd (.t 24)
   .skip
   (.seq (.scr x17_0) (.ex 0)))
 (.seq (.seq (.blk 1 (.seq (.ops [⟨none, .mv 25 (.t 23)⟩,
     ⟨none, .asg 9 (.t 25)⟩])
   (.ops [⟨none, .mv 26 (.t 8)⟩,
    ⟨none, .mv 27 (.t 9)⟩,
    ⟨none, .ixs 28 1 (.t 26) (.t 27)⟩,
    ⟨none, .stn none 1 (.t 28) (.c (.v (.int .i64 (-1))))⟩]))) (.scr x17_1))
 (.ops [⟨none, .bin 29 .add .num (.t 23) (.c (.v (.int .i64 1)))⟩,
  ⟨none, .mv 23 (.t 29)⟩]))))
@[simp] def x17_2 : List Bool := [false, true, false, false, false, false, false, false, true, false, false, false, false, false, false, false, false, false, false, false, true, false, false, false, false, false, false, false, false, false, false, false, false, false, false, false, false, false, false, false, false, false, false, false, false, false, false, false, false, false, false, false, false, false, false, false, false, false, false, false, false, false, false, false, false, false, false, false, false, false, false, false, false, false, false, false, false, false, false, false, false, false, false, false, false, false, false, false, false, false, false, false, false, false, false, true, false, false]
@[simp] def X17_2 (s1 s8 s20 s95 : V) : St := [.dead, s1, .dead, .dead, .dead, .dead, .dead, .dead, s8, .dead, .dead, .dead, .dead, .dead, .dead, .dead, .dead, .dead, .dead, .dead, s20, .dead, .dead, .dead, .dead, .dead, .dead, .dead, .dead, .dead, .dead, .dead, .dead, .dead, .dead, .dead, .dead, .dead, .dead, .dead, .dead, .dead, .dead, .dead, .dead, .dead, .dead, .dead, .dead, .dead, .dead, .dead, .dead, .dead, .dead, .dead, .dead, .dead, .dead, .dead, .dead, .dead, .dead, .dead, .dead, .dead, .dead, .dead, .dead, .dead, .dead, .dead, .dead, .dead, .dead, .dead, .dead, .dead, .dead, .dead, .dead, .dead, .dead, .dead, .dead, .dead, .dead, .dead, .dead, .dead, .dead, .dead, .dead, .dead, .dead, s95, .dead, .dead]
@[simp] def h17_1 : List Bool := [true, true, true, false, false, false, false, false, true, false, false, false, false, false, false, false, false, false, false, false, true, false, false, false, false, false, false, false, false, false, true, true, true, false, false, false, false, false, false, false, false, false, false, false, false, false, false, false, false, false, false, false, false, false, false, false, false, false, false, false, false, false, false, false, false, false, false, false, false, false, false, false, false, false, false, false, false, false, false, false, false, false, false, false, false, false, false, false, false, false, false, false, false, false, false, true, false, false]
@[simp] def L17_1 (s0 s1 s2 s8 s20 s30 s31 s32 s95 : V) : St := [s0, s1, s2, .dead, .dead, .dead, .dead, .dead, s8, .dead, .dead, .dead, .dead, .dead, .dead, .dead, .dead, .dead, .dead, .dead, s20, .dead, .dead, .dead, .dead, .dead, .dead, .dead, .dead, .dead, s30, s31, s32, .dead, .dead, .dead, .dead, .dead, .dead, .dead, .dead, .dead, .dead, .dead, .dead, .dead, .dead, .dead, .dead, .dead, .dead, .dead, .dead, .dead, .dead, .dead, .dead, .dead, .dead, .dead, .dead, .dead, .dead, .dead, .dead, .dead, .dead, .dead, .dead, .dead, .dead, .dead, .dead, .dead, .dead, .dead, .dead, .dead, .dead, .dead, .dead, .dead, .dead, .dead, .dead, .dead, .dead, .dead, .dead, .dead, .dead, .dead, .dead, .dead, .dead, s95, .dead, .dead]
@[simp] def x17_3 : List Bool := [true, true, true, false, false, false, false, false, true, false, false, false, false, false, false, false, false, false, false, false, true, false, false, false, false, false, false, false, false, false, true, true, true, false, false, false, false, false, false, false, false, false, false, false, false, false, false, false, false, false, false, false, false, false, false, false, false, false, false, false, false, false, false, false, false, false, false, false, false, false, false, false, false, false, false, false, false, false, false, false, false, false, false, false, false, false, false, false, false, false, false, false, false, false, false, true, false, false]
@[simp] def X17_3 (s0 s1 s2 s8 s20 s30 s31 s32 s95 : V) : St := [s0, s1, s2, .dead, .dead, .dead, .dead, .dead, s8, .dead, .dead, .dead, .dead, .dead, .dead, .dead, .dead, .dead, .dead, .dead, s20, .dead, .dead, .dead, .dead, .dead, .dead, .dead, .dead, .dead, s30, s31, s32, .dead, .dead, .dead, .dead, .dead, .dead, .dead, .dead, .dead, .dead, .dead, .dead, .dead, .dead, .dead, .dead, .dead, .dead, .dead, .dead, .dead, .dead, .dead, .dead, .dead, .dead, .dead, .dead, .dead, .dead, .dead, .dead, .dead, .dead, .dead, .dead, .dead, .dead, .dead, .dead, .dead, .dead, .dead, .dead, .dead, .dead, .dead, .dead, .dead, .dead, .dead, .dead, .dead, .dead, .dead, .dead, .dead, .dead, .dead, .dead, .dead, .dead, s95, .dead, .dead]
def b17_1 : MC := .seq (.scr h17_1)
 (.seq (.ops [⟨none, .bin 33 .lss .num (.t 32) (.t 31)⟩])
 (.seq (.cnd (.t 33)
   .skip
   (.seq (.scr x17_2) (.ex 2)))
 (.seq (.seq (.blk 3 (.seq (.ops [⟨none, .mv 34 (.t 32)⟩,
     ⟨none, .ixs 35 1 (.t 30) (.t 32)⟩,
     ⟨none, .ld1 36 (.t 35)⟩,
     ⟨none, .asg 10 (.t 34)⟩,
     ⟨none, .asg 11 (.t 36)⟩])
   (.seq (.seq (.ops [⟨none, .mv 37 (.t 11)⟩,
      ⟨none, .bin 38 .lss .num (.t 37) (.c (.v (.int .i64 0)))⟩,
      ⟨none, .mv 39 (.t 38)⟩,
      ⟨some (39, false), .mv 40 (.t 11)⟩,
      ⟨some (39, false), .mv 41 (.t 0)⟩,
      ⟨some (39, false), .bin 42 .geq .num (.t 40) (.t 41)⟩,
      ⟨none, .pick 43 (.t 39) (.c (.v (.bool true))) (.t 42)⟩,
      ⟨none, .mv 44 (.t 43)⟩,
      ⟨some (44, false), .mv 45 (.t 10)⟩,
      ⟨some (44, false), .bin 46 .gtr .num (.t 45) (.c (.v (.int .i64 0)))⟩,
      ⟨some (44, false), .mv 47 (.t 46)⟩,
      ⟨some (47, true), .mv 48 (.t 11)⟩,
      ⟨some (47, true), .mv 49 (.t 2)⟩,
      ⟨some (47, true), .mv 50 (.t 10)⟩,
      ⟨some (47, true), .bin 51 .sub .num (.t 50) (.c (.v (.int .i64 1)))⟩,
      ⟨some (47, true), .ixs 52 1 (.t 49) (.t 51)⟩,
      ⟨some (47, true), .ld1 53 (.t 52)⟩,
      ⟨some (47, true), .bin 54 .leq .num (.t 48) (.t 53)⟩,
      ⟨some (44, false), .pick 55 (.t 47) (.t 54) (.c (.v (.bool false)))⟩,
      ⟨none, .pick 56 (.t 44) (.c (.v (.bool true))) (.t 55)⟩])
    (.cnd (.t 56)
     (.seq (.ops [⟨none, .asg 6 (.c (.nd (.sl true 2 0) []))⟩,
       ⟨none, .asg 7 (.c (.v (.int .i64 1)))⟩])
     (.seq (.scr r17) .ret))
     .skip))
   (.ops [⟨none, .mv 57 (.t 8)⟩,
    ⟨none, .mv 58 (.t 11)⟩,
    ⟨none, .mv 59 (.t 10)⟩,
    ⟨none, .ixs 60 1 (.t 57) (.t 58)⟩,
    ⟨none, .stn none 1 (.t 60) (.t 59)⟩])))) (.scr x17_3))
 (.ops [⟨none, .bin 61 .add .num (.t 32) (.c (.v (.int .i64 1)))⟩,
  ⟨none, .mv 32 (.t 61)⟩]))))
@[simp] def x17_4 : List Bool := [false, false, false, false, false, false, false, false, false, false, false, false, true, false, false, false, false, false, false, false, false, false, false, false, false, false, false, false, false, false, false, false, false, false, false, false, false, false, false, false, false, false, false, false, false, false, false, false, false, false, false, false, false, false, false, false, false, false, false, false, false, false, false, false, false, false, false, false, false, false, false, false, false, false, false, false, false, false, false, false, false, false, false, false, false, false, false, false, false, false, false, false, false, false, false, true, false, false]
@[simp] def X17_4 (s12 s95 : V) : St := [.dead, .dead, .dead, .dead, .dead, .dead, .dead, .dead, .dead, .dead, .dead, .dead, s12, .dead, .dead, .dead, .dead, .dead, .dead, .dead, .dead, .dead, .dead, .dead, .dead, .dead, .dead, .dead, .dead, .dead, .dead, .dead, .dead, .dead, .dead, .dead, .dead, .dead, .dead, .dead, .dead, .dead, .dead, .dead, .dead, .dead, .dead, .dead, .dead, .dead, .dead, .dead, .dead, .dead, .dead, .dead, .dead, .dead, .dead, .dead, .dead, .dead, .dead, .dead, .dead, .dead, .dead, .dead, .dead, .dead, .dead, .dead, .dead, .dead, .dead, .dead, .dead, .dead, .dead, .dead, .dead, .dead, .dead, .dead, .dead, .dead, .dead, .dead, .dead, .dead, .dead, .dead, .dead, .dead, .dead, s95, .dead, .dead]
@[simp] def h17_2 : List Bool := [false, true, false, false, false, false, false, false, true, false, false, false, true, false, false, false, false, false, false, false, true, false, false, false, false, false, false, false, false, false, false, false, false, false, false, false, false, false, false, false, false, false, false, false, false, false, false, false, false, false, false, false, false, false, false, false, false, false, false, false, false, false, true, true, true, false, false, false, false, false, false, false, false, false, false, false, false, false, false, false, false, false, false, false, false, false, false, false, false, false, false, false, false, false, false, true, false, false]
@[simp] def L17_2 (s1 s8 s12 s20 s62 s63 s64 s95 : V) : St := [.dead, s1, .dead, .dead, .dead, .dead, .dead, .dead, s8, .dead, .dead, .dead, s12, .dead, .dead, .dead, .dead, .dead, .dead, .dead, s20, .dead, .dead, .dead, .dead, .dead, .dead, .dead, .dead, .dead, .dead, .dead, .dead, .dead, .dead, .dead, .dead, .dead, .dead, .dead, .dead, .dead, .dead, .dead, .dead, .dead, .dead, .dead, .dead, .dead, .dead, .dead, .dead, .dead, .dead, .dead, .dead, .dead, .dead, .dead, .dead, .dead, s62, s63, s64, .dead, .dead, .dead, .dead, .dead, .dead, .dead, .dead, .dead, .dead, .dead, .dead, .dead, .dead, .dead, .dead, .dead, .dead, .dead, .dead, .dead, .dead, .dead, .dead, .dead, .dead, .dead, .dead, .dead, .dead, s95, .dead, .dead]
@[simp] def x17_5 : List Bool := [false, true, false, false, false, false, false, false, true, false, false, false, true, false, false, false, false, false, false, false, true, false, false, false, false, false, false, false, false, false, false, false, false, false, false, false, false, false, false, false, false, false, false, false, false, false, false, false, false, false, false, false, false, false, false, false, false, false, false, false, false, false, true, true, true, false, false, false, false, false, false, false, false, false, false, false, false, false, false, false, false, false, false, false, false, false, false, false, false, false, false, false, false, false, false, true, false, false]
@[simp] def X17_5 (s1 s8 s12 s20 s62 s63 s64 s95 : V) : St := [.dead, s1, .dead, .dead, .dead, .dead, .dead, .dead, s8, .dead, .dead, .dead, s12, .dead, .dead, .dead, .dead, .dead, .dead, .dead, s20, .dead, .dead, .dead, .dead, .dead, .dead, .dead, .dead, .dead, .dead, .dead, .dead, .dead, .dead, .dead, .dead, .dead, .dead, .dead, .dead, .dead, .dead, .dead, .dead, .dead, .dead, .dead, .dead, .dead, .dead, .dead, .dead, .dead, .dead, .dead, .dead, .dead, .dead, .dead, .dead, .dead, s62, s63, s64, .dead, .dead, .dead, .dead, .dead, .dead, .dead, .dead, .dead, .dead, .dead, .dead, .dead, .dead, .dead, .dead, .dead, .dead, .dead, .dead, .dead, .dead, .dead, .dead, .dead, .dead, .dead, .dead, .dead, .dead, s95, .dead, .dead]
def b17_2 : MC := .seq (.scr h17_2)
 (.seq (.ops [⟨none, .bin 65 .lss .num (.t 64) (.t 63)⟩])
 (.seq (.cnd (.t 65)
   .skip
   (.seq (.scr x17_4) (.ex 4)))
 (.seq (.seq (.blk 5 (.seq (.ops [⟨none, .ixs 66 2 (.t 62) (.t 64)⟩,
     ⟨none, .ldn 67 2 (.t 66)⟩,
     ⟨none, .alc 14 [(.v (.int .i64 0)), (.v (.int .i64 0))]⟩,
     ⟨none, .stn none 2 (.t 14) (.t 67)⟩])
   (.seq (.ops [⟨none, .mv 68 (.t 8)⟩,
     ⟨none, .fa 69 0 (.t 14)⟩,
     ⟨none, .ld1 70 (.t 69)⟩,
     ⟨none, .ixs 71 1 (.t 68) (.t 70)⟩,
     ⟨none, .ld1 72 (.t 71)⟩,
     ⟨none, .bin 73 .geq .num (.t 72) (.c (.v (.int .i64 0)))⟩,
     ⟨none, .mv 74 (.t 73)⟩,
     ⟨some (74, true), .mv 75 (.t 8)⟩,
     ⟨some (74, true), .fa 76 1 (.t 14)⟩,
     ⟨some (74, true), .ld1 77 (.t 76)⟩,
     ⟨some (74, true), .ixs 78 1 (.t 75) (.t 77)⟩,
     ⟨some (74, true), .ld1 79 (.t 78)⟩,
     ⟨some (74, true), .bin 80 .geq .num (.t 79) (.c (.v (.int .i64 0)))⟩,
     ⟨none, .pick 81 (.t 74) (.t 80) (.c (.v (.bool false)))⟩])
   (.cnd (.t 81)
    (.drw [⟨none, .mv 82 (.t 12)⟩,
     ⟨none, .mv 83 (.t 8)⟩,
     ⟨none, .fa 84 0 (.t 14)⟩,
     ⟨none, .ld1 85 (.t 84)⟩,
     ⟨none, .ixs 86 1 (.t 83) (.t 85)⟩,
     ⟨none, .ld1 87 (.t 86)⟩,
     ⟨none, .mv 88 (.t 8)⟩,
     ⟨none, .fa 89 1 (.t 14)⟩,
     ⟨none, .ld1 90 (.t 89)⟩,
     ⟨none, .ixs 91 1 (.t 88) (.t 90)⟩,
     ⟨none, .ld1 92 (.t 91)⟩,
     ⟨none, .bld 93 [(.v (.int .i64 0)), (.v (.int .i64 0))] [(0, 1, (.t 87)), (1, 1, (.t 92))]⟩,
     ⟨none, .bs 94 2 1 [(.v (.int .i64 0)), (.v (.int .i64 0))] [(0, 2, (.t 93))]⟩] [⟨none, .app 95 2 (.t 82) (.t 94)⟩,
     ⟨none, .asg 12 (.t 95)⟩])
    .skip)))) (.scr x17_5))
 (.ops [⟨none, .bin 96 .add .num (.t 64) (.c (.v (.int .i64 1)))⟩,
  ⟨none, .mv 64 (.t 96)⟩]))))
def c17 : MF := ⟨(.seq (.ops [⟨none, .asg 6 (.c (.nd (.sl true 2 0) []))⟩,
   ⟨none, .asg 7 (.c (.v (.int .i64 0)))⟩])
 (.seq (.seq (.ops [⟨none, .mv 15 (.t 0)⟩,
    ⟨none, .mv 16 (.t 1)⟩,
    ⟨none, .call (some 17) 20 [(.t 15), (.t 16)]⟩,
    ⟨none, .un 18 .not (.t 17)⟩])
  (.cnd (.t 18)
   (.seq (.ops [⟨none, .asg 6 (.c (.nd (.sl true 2 0) []))⟩,
     ⟨none, .asg 7 (.c (.v (.int .i64 1)))⟩])
   (.seq (.scr r17) .ret))
   .skip))
 (.seq (.ops [⟨none, .mv 19 (.t 0)⟩,
   ⟨none, .mks 20 1 [(.v (.int .i64 0))] (.t 19) (.t 19)⟩,
   ⟨none, .asg 8 (.t 20)⟩])
 (.seq (.seq (.ops [⟨none, .mv 21 (.t 8)⟩,
    ⟨none, .len 22 false (.t 21)⟩,
    ⟨none, .mv 23 (.c (.v (.int .i64 0)))⟩])
  (.seq (.blk 0 (.lop b17_0)) (.scr x17_0)))
 (.seq (.seq (.ops [⟨none, .mv 30 (.t 2)⟩,
    ⟨none, .len 31 false (.t 30)⟩,
    ⟨none, .mv 32 (.c (.v (.int .i64 0)))⟩])
  (.seq (.blk 2 (.lop b17_1)) (.scr x17_2)))
 (.seq (.ops [⟨none, .asg 12 (.c (.nd (.sl true 2 0) []))⟩])
 (.seq (.seq (.ops [⟨none, .mv 62 (.t 1)⟩,
    ⟨none, .len 63 false (.t 62)⟩,
    ⟨none, .mv 64 (.c (.v (.int .i64 0)))⟩])
  (.seq (.blk 4 (.lop b17_2)) (.scr x17_4)))
 (.seq (.ops [⟨none, .mv 97 (.t 12)⟩,
   ⟨none, .asg 6 (.t 97)⟩,
   ⟨none, .asg 7 (.c (.v (.int .i64 0)))⟩])
 (.seq (.scr r17) .ret))))))))),
  98, [6, 7]⟩

/-- coinage/coinageref06.Induced -/
def hints18 : List (List Bool) := [[false, false, false, false, false, false, true, true, false, false, false, false, false, false, false, false, false, false, false, false, false, false, false, false, false, false, false, false, false, false, false, false, false, false, false, false, false, false, false, false, false, false, false, false, false, false, false, false, false, false, false, false, false, false, false, false, false, false, false, false, false, false, false, false, false, false, false, false, false, false], [false, false, false, false, false, false, false, false, true, false, false, false, false, false, false, false, false, false, false, false, false, false, false, false, false, false, false, false, false, false, false, false, false, false, false, false, false, false, false, false, false, false, false, false, false, false, false, false, false, false, false, false, false, false, false, false, false, false, false, false, false, false, false, false, false, false, false, false, true, false], [false, true, true, false, false, false, false, false, true, true, false, false, false, false, false, false, false, false, false, false, false, false, false, false, false, false, false, false, false, false, false, false, false, false, false, false, false, false, false, false, false, false, false, false, false, false, false, false, false, false, false, false, false, false, false, false, false, false, false, false, false, false, false, false, false, false, false, false, true, false], [false, false, false, false, false, false, false, false, true, false, false, false, false, false, false, false, false, false, false, false, false, false, false, false, false, false, false, false, false, false, false, false, false, false, false, false, false, false, false, false, false, false, false, false, false, false, false, false, false, false, false, false, false, false, false, false, false, false, false, false, false, false, false, false, false, false, false, false, true, false], [false, true, true, false, false, false, false, false, true, true, false, false, false, false, false, false, false, false, false, false, false, false, false, false, false, false, false, false, false, false, false, false, false, false, false, false, false, false, false, false, false, false, false, false, false, false, false, false, false, false, false, false, false, false, false, false, false, false, false, false, false, false, false, false, false, false, false, false, true, false], [false, true, true, false, false, false, false, false, true, true, false, false, false, false, false, false, false, false, false, false, false, false, false, false, false, false, false, false, false, false, false, false, false, false, false, false, false, false, false, false, false, false, false, false, false, false, false, false, false, false, false, false, false, false, false, false, false, false, false, false, false, false, false, false, false, false, false, false, true, false], [false, true, true, false, false, false, false, false, true, true, true, false, false, false, false, false, false, false, false, false, false, false, false, false, false, false, false, false, false, false, false, false, false, false, false, false, false, false, false, false, false, false, false, false, false, false, false, false, false, false, false, false, false, false, false, false, false, false, false, false, false, false, false, false, false, false, false, false, true, false], [false, true, true, false, false, false, false, false, true, true, false, false, false, false, false, false, false, false, false, false, false, false, false, false, false, false, false, false, false, false, false, false, false, false, false, false, false, false, false, false, false, false, false, false, false, false, false, false, false, false, false, false, false, false, false, false, false, false, false, false, false, false, false, false, false, false, false, false, true, false], [false, true, true, false, false, false, false, false, true, true, true, false, false, false, false, false, false, false, false, false, false, false, false, false, false, false, false, false, false, false, false, false, false, false, false, false, false, false, false, false, false, false, false, false, false, false, false, false, false, false, false, false, false, false, false, false, false, false, false, false, false, false, false, false, false, false, false, false, true, false], [false, true, true, false, false, false, false, false, true, true, true, false, false, false, false, false, false, false, false, false, false, false, false, false, false, false, false, false, false, false, false, false, false, false, false, false, false, false, false, false, false, false, false, false, false, false, false, false, false, false, false, false, false, false, false, false, false, false, false, false, false, false, false, false, false, false, false, false, true, false], [false, true, true, false, false, false, false, false, true, true, true, true, false, false, false, false, false, false, false, false, false, false, false, false, false, false, false, false, false, false, false, false, false, false, false, false, false, false, false, false, false, false, false, false, false, false, false, false, false, false, false, false, false, false, false, false, false, false, false, false, false, false, false, false, false, false, false, false, true, false], [false, true, true, false, false, false, false, false, true, true, true, false, false, false, false, false, false, false, false, false, false, false, false, false, false, false, false, false, false, false, false, false, false, false, false, false, false, false, false, false, false, false, false, false, false, false, false, false, false, false, false, false, false, false, false, false, false, false, false, false, false, false, false, false, false, false, false, false, true, false], [false, true, true, false, false, false, false, false, true, true, true, true, false, false, false, false, false, false, false, false, false, false, false, false, false, false, false, false, false, false, false, false, false, false, false, false, false, false, false, false, false, false, false, false, false, false, false, false, false, false, false, false, false, false, false, false, false, false, false, false, false, false, false, false, false, false, false, false, true, false], [false, false, false, false, false, false, true, true, false, false, false, false, false, false, false, false, false, false, false, false, false, false, false, false, false, false, false, false, false, false, false, false, false, false, false, false, false, false, false, false, false, false, false, false, false, false, false, false, false, false, false, false, false, false, false, false, false, false, false, false, false, false, false, false, false, false, false, false, false, false]]
@[simp] def r18 : List Bool := [false, false, false, false, false, false, true, true, false, false, false, false, false, false, false, false, false, false, false, false, false, false, false, false, false, false, false, false, false, false, false, false, false, false, false, false, false, false, false, false, false, false, false, false, false, false, false, false, false, false, false, false, false, false, false, false, false, false, false, false, false, false, false, false, false, false, false, false, false, false]
@[simp] def R18 (s6 s7 : V) : St := [.dead, .dead, .dead, .dead, .dead, .dead, s6, s7, .dead, .dead, .dead, .dead, .dead, .dead, .dead, .dead, .dead, .dead, .dead, .dead, .dead, .dead, .dead, .dead, .dead, .dead, .dead, .dead, .dead, .dead, .dead, .dead, .dead, .dead, .dead, .dead, .dead, .dead, .dead, .dead, .dead, .dead, .dead, .dead, .dead, .dead, .dead, .dead, .dead, .dead, .dead, .dead, .dead, .dead, .dead, .dead, .dead, .dead, .dead, .dead, .dead, .dead, .dead, .dead, .dead, .dead, .dead, .dead, .dead, .dead]
@[simp] def x18_0 : List Bool := [false, false, false, false, false, false, false, false, true, false, false, false, false, false, false, false, false, false, false, false, false, false, false, false, false, false, false, false, false, false, false, false, false, false, false, false, false, false, false, false, false, false, false, false, false, false, false, false, false, false, false, false, false, false, false, false, false, false, false, false, false, false, false, false, false, false, false, false, true, false]
@[simp] def X18_0 (s8 s68 : V) : St := [.dead, .dead, .dead, .dead, .dead, .dead, .dead, .dead, s8, .dead, .dead, .dead, .dead, .dead, .dead, .dead, .dead, .dead, .dead, .dead, .dead, .dead, .dead, .dead, .dead, .dead, .dead, .dead, .dead, .dead, .dead, .dead, .dead, .dead, .dead, .dead, .dead, .dead, .dead, .dead, .dead, .dead, .dead, .dead, .dead, .dead, .dead, .dead, .dead, .dead, .dead, .dead, .dead, .dead, .dead, .dead, .dead, .dead, .dead, .dead, .dead, .dead, .dead, .dead, .dead, .dead, .dead, .dead, s68, .dead]
@[simp] def h18_0 : List Bool := [false, true, true, false, false, false, false, false, true, true, false, false, false, false, false, false, false, false, false, false, false, false, false, false, false, false, false, false, false, false, false, false, false, false, false, false, false, false, false, false, false, false, false, false, false, false, false, false, false, false, false, false, false, false, false, false, false, false, false, false, false, false, false, false, false, false, false, false, true, false]
@[simp] def L18_0 (s1 s2 s8 s9 s68 : V) : St := [.dead, s1, s2, .dead, .dead, .dead, .dead, .dead, s8, s9, .dead, .dead, .dead, .dead, .dead, .dead, .dead, .dead, .dead, .dead, .dead, .dead, .dead, .dead, .dead, .dead, .dead, .dead, .dead, .dead, .dead, .dead, .dead, .dead, .dead, .dead, .dead, .dead, .dead, .dead, .dead, .dead, .dead, .dead, .dead, .dead, .dead, .dead, .dead, .dead, .dead, .dead, .dead, .dead, .dead, .dead, .dead, .dead, .dead, .dead, .dead, .dead, .dead, .dead, .dead, .dead, .dead, .dead, s68, .dead]
@[simp] def x18_1 : List Bool := [false, true, true, false, false, false, false, false, true, true, false, false, false, false, false, false, false, false, false, false, false, false, false, false, false, false, false, false, false, false, false, false, false, false, false, false, false, false, false, false, false, false, false, false, false, false, false, false, false, false, false, false, false, false, false, false, false, false, false, false, false, false, false, false, false, false, false, false, true, false]
@[simp] def X18_1 (s1 s2 s8 s9 s68 : V) : St := [.dead, s1, s2, .dead, .dead, .dead, .dead, .dead, s8, s9, .dead, .dead, .dead, .dead, .dead, .dead, .dead, .dead, .dead, .dead, .dead, .dead, .dead, .dead, .dead, .dead, .dead, .dead, .dead, .dead, .dead, .dead, .dead, .dead, .dead, .dead, .dead, .dead, .dead, .dead, .dead, .dead, .dead, .dead, .dead, .dead, .dead, .dead, .dead, .dead, .dead, .dead, .dead, .dead, .dead, .dead, .dead, .dead, .dead, .dead, .dead, .dead, .dead, .dead, .dead, .dead, .dead, .dead, s68, .dead]
@[simp] def x18_2 : List Bool := [false, true, true, false, false, false, false, false, true, true, false, false, false, false, false, false, false, false, false, false, false, false, false, false, false, false, false, false, false, false, false, false, false, false, false, false, false, false, false, false, false, false, false, false, false, false, false, false, false, false, false, false, false, false, false, false, false, false, false, false, false, false, false, false, false, false, false, false, true, false]
@[simp] def X18_2 (s1 s2 s8 s9 s68 : V) : St := [.dead, s1, s2, .dead, .dead, .dead, .dead, .dead, s8, s9, .dead, .dead, .dead, .dead, .dead, .dead, .dead, .dead, .dead, .dead, .dead, .dead, .dead, .dead, .dead, .dead, .dead, .dead, .dead, .dead, .dead, .dead, .dead, .dead, .dead, .dead, .dead, .dead, .dead, .dead, .dead, .dead, .dead, .dead, .dead, .dead, .dead, .dead, .dead, .dead, .dead, .dead, .dead, .dead, .dead, .dead, .dead, .dead, .dead, .dead, .dead, .dead, .dead, .dead, .dead, .dead, .dead, .dead, s68, .dead]
@[simp] def h18_1 : List Bool := [false, true, true, false, false, false, false, false, true, true, true, false, false, false, false, false, false, false, false, false, false, false, false, false, false, false, false, false, false, false, false, false, false, false, false, false, false, false, false, false, false, false, false, false, false, false, false, false, false, false, false, false, false, false, false, false, false, false, false, false, false, false, false, false, false, false, false, false, true, false]
@[simp] def L18_1 (s1 s2 s8 s9 s10 s68 : V) : St := [.dead, s1, s2, .dead, .dead, .dead, .dead, .dead, s8, s9, s10, .dead, .dead, .dead, .dead, .dead, .dead, .dead, .dead, .dead, .dead, .dead, .dead, .dead, .dead, .dead, .dead, .dead, .dead, .dead, .dead, .dead, .dead, .dead, .dead, .dead, .dead, .dead, .dead, .dead, .dead, .dead, .dead, .dead, .dead, .dead, .dead, .dead, .dead, .dead, .dead, .dead, .dead, .dead, .dead, .dead, .dead, .dead, .dead, .dead, .dead, .dead, .dead, .dead, .dead, .dead, .dead, .dead, s68, .dead]
@[simp] def x18_3 : List Bool := [false, true, true, false, false, false, false, false, true, true, true, false, false, false, false, false, false, false, false, false, false, false, false, false, false, false, false, false, false, false, false, false, false, false, false, false, false, false, false, false, false, false, false, false, false, false, false, false, false, false, false, false, false, false, false, false, false, false, false, false, false, false, false, false, false, false, false, false, true, false]
@[simp] def X18_3 (s1 s2 s8 s9 s10 s68 : V) : St := [.dead, s1, s2, .dead, .dead, .dead, .dead, .dead, s8, s9, s10, .dead, .dead, .dead, .dead, .dead, .dead, .dead, .dead, .dead, .dead, .dead, .dead, .dead, .dead, .dead, .dead, .dead, .dead, .dead, .dead, .dead, .dead, .dead, .dead, .dead, .dead, .dead, .dead, .dead, .dead, .dead, .dead, .dead, .dead, .dead, .dead, .dead, .dead, .dead, .dead, .dead, .dead, .dead, .dead, .dead, .dead, .dead, .dead, .dead, .dead, .dead, .dead, .dead, .dead, .dead, .dead, .dead, s68, .dead]
@[simp] def x18_4 : List Bool := [false, true, true, false, false, false, false, false, true, true, true, false, false, false, false, false, false, false, false, false, false, false, false, false, false, false, false, false, false, false, false, false, false, false, false, false, false, false, false, false, false, false, false, false, false, false, false, false, false, false, false, false, false, false, false, false, false, false, false, false, false, false, false, false, false, false, false, false, true, false]
@[simp] def X18_4 (s1 s2 s8 s9 s10 s68 : V) : St := [.dead, s1, s2, .dead, .dead, .dead, .dead, .dead, s8, s9, s10, .dead, .dead, .dead, .dead, .dead, .dead, .dead, .dead, .dead, .dead, .dead, .dead, .dead, .dead, .dead, .dead, .dead, .dead, .dead, .dead, .dead, .dead, .dead, .dead, .dead, .dead, .dead, .dead, .dead, .dead, .dead, .dead, .dead, .dead, .dead, .dead, .dead, .dead, .dead, .dead, .dead, .dead, .dead, .dead, .dead, .dead, .dead, .dead, .dead, .dead, .dead, .dead, .dead, .dead, .dead, .dead, .dead, s68, .dead]
@[simp] def h18_2 : List Bool := [false, true, true, false, false, false, false, false, true, true, true, true, false, false, false, false, false, false, false, false, false, false, false, false, false, false, false, false, false, false, false, false, false, false, false, false, false, false, false, false, false, false, false, false, false, false, false, false, false, false, false, false, false, false, false, false, false, false, false, false, false, false, false, false, false, false, false, false, true, false]
@[simp] def L18_2 (s1 s2 s8 s9 s10 s11 s68 : V) : St := [.dead, s1, s2, .dead, .dead, .dead, .dead, .dead, s8, s9, s10, s11, .dead, .dead, .dead, .dead, .dead, .dead, .dead, .dead, .dead, .dead, .dead, .dead, .dead, .dead, .dead, .dead, .dead, .dead, .dead, .dead, .dead, .dead, .dead, .dead, .dead, .dead, .dead, .dead, .dead, .dead, .dead, .dead, .dead, .dead, .dead, .dead, .dead, .dead, .dead, .dead, .dead, .dead, .dead, .dead, .dead, .dead, .dead, .dead, .dead, .dead, .dead, .dead, .dead, .dead, .dead, .dead, s68, .dead]
@[simp] def x18_5 : List Bool := [false, true, true, false, false, false, false, false, true, true, true, true, false, false, false, false, false, false, false, false, false, false, false, false, false, false, false, false, false, false, false, false, false, false, false, false, false, false, false, false, false, false, false, false, false, false, false, false, false, false, false, false, false, false, false, false, false, false, false, false, false, false, false, false, false, false, false, false, true, false]
@[simp] def X18_5 (s1 s2 s8 s9 s10 s11 s68 : V) : St := [.dead, s1, s2, .dead, .dead, .dead, .dead, .dead, s8, s9, s10, s11, .dead, .dead, .dead, .dead, .dead, .dead, .dead, .dead, .dead, .dead, .dead, .dead, .dead, .dead, .dead, .dead, .dead, .dead, .dead, .dead, .dead, .dead, .dead, .dead, .dead, .dead, .dead, .dead, .dead, .dead, .dead, .dead, .dead, .dead, .dead, .dead, .dead, .dead, .dead, .dead, .dead, .dead, .dead, .dead, .dead, .dead, .dead, .dead, .dead, .dead, .dead, .dead, .dead, .dead, .dead, .dead, s68, .dead]
def b18_2 : MC := .seq (.scr h18_2)
 (.seq (.seq (.ops [⟨none, .mv 35 (.t 11)⟩,
    ⟨none, .mv 36 (.t 1)⟩,
    ⟨none, .len 37 false (.t 36)⟩,
    ⟨none, .bin 38 .lss .num (.t 35) (.t 37)⟩])
  (.cnd (.t 38)
   .skip
   (.seq (.scr x18_4) (.ex 4))))
 (.seq (.seq (.blk 5 (.seq (.drw [⟨none, .mv 41 (.t 1)⟩,
     ⟨none, .mv 42 (.t 11)⟩,
     ⟨none, .ixs 43 2 (.t 41) (.t 42)⟩,
     ⟨none, .fa 44 0 (.t 43)⟩,
     ⟨none, .ld1 45 (.t 44)⟩,
     ⟨none, .mv 46 (.t 2)⟩,
     ⟨none, .mv 47 (.t 9)⟩,
     ⟨none, .ixs 48 1 (.t 46) (.t 47)⟩,
     ⟨none, .ld1 49 (.t 48)⟩,
     ⟨none, .bin 50 .eql .num (.t 45) (.t 49)⟩,
     ⟨none, .mv 51 (.t 50)⟩,
     ⟨some (51, true), .mv 52 (.t 1)⟩,
     ⟨some (51, true), .mv 53 (.t 11)⟩,
     ⟨some (51, true), .ixs 54 2 (.t 52) (.t 53)⟩,
     ⟨some (51, true), .fa 55 1 (.t 54)⟩,
     ⟨some (51, true), .ld1 56 (.t 55)⟩,
     ⟨some (51, true), .mv 57 (.t 2)⟩,
     ⟨some (51, true), .mv 58 (.t 10)⟩,
     ⟨some (51, true), .ixs 59 1 (.t 57) (.t 58)⟩,
     ⟨some (51, true), .ld1 60 (.t 59)⟩] [⟨some (51, true), .bin 61 .eql .num (.t 56) (.t 60)⟩,
     ⟨none, .pick 62 (.t 51) (.t 61) (.c (.v (.bool false)))⟩])
   (.cnd (.t 62)
    (.ops [⟨none, .mv 63 (.t 8)⟩,
     ⟨none, .mv 64 (.t 9)⟩,
     ⟨none, .mv 65 (.t 10)⟩,
     ⟨none, .bld 66 [(.v (.int .i64 0)), (.v (.int .i64 0))] [(0, 1, (.t 64)), (1, 1, (.t 65))]⟩,
     ⟨none, .bs 67 2 1 [(.v (.int .i64 0)), (.v (.int .i64 0))] [(0, 2, (.t 66))]⟩,
     ⟨none, .app 68 2 (.t 63) (.t 67)⟩,
     ⟨none, .asg 8 (.t 68)⟩])
    .skip))) (.scr x18_5))
 (.ops [⟨none, .mv 39 (.t 11)⟩,
  ⟨none, .bin 40 .add .num (.t 39) (.c (.v (.int .i64 1)))⟩,
  ⟨none, .asg 11 (.t 40)⟩])))
def b18_1 : MC := .seq (.scr h18_1)
 (.seq (.seq (.ops [⟨none, .mv 29 (.t 10)⟩,
    ⟨none, .mv 30 (.t 2)⟩,
    ⟨none, .len 31 false (.t 30)⟩,
    ⟨none, .bin 32 .lss .num (.t 29) (.t 31)⟩])
  (.cnd (.t 32)
   .skip
   (.seq (.scr x18_2) (.ex 2))))
 (.seq (.seq (.blk 3 (.seq (.ops [⟨none, .asg 11 (.c (.v (.int .i64 0)))⟩])
   (.seq (.blk 4 (.lop b18_2)) (.scr x18_4)))) (.scr x18_3))
 (.ops [⟨none, .mv 33 (.t 10)⟩,
  ⟨none, .bin 34 .add .num (.t 33) (.c (.v (.int .i64 1)))⟩,
  ⟨none, .asg 10 (.t 34)⟩])))
def b18_0 : MC := .seq (.scr h18_0)
 (.seq (.seq (.ops [⟨none, .mv 23 (.t 9)⟩,
    ⟨none, .mv 24 (.t 2)⟩,
    ⟨none, .len 25 false (.t 24)⟩,
    ⟨none, .bin 26 .lss .num (.t 23) (.t 25)⟩])
  (.cnd (.t 26)
   .skip
   (.seq (.scr x18_0) (.ex 0))))
 (.seq (.seq (.blk 1 (.seq (.ops [⟨none, .asg 10 (.c (.v (.int .i64 0)))⟩])
   (.seq (.blk 2 (.lop b18_1)) (.scr x18_2)))) (.scr x18_1))
 (.ops [⟨none, .mv 27 (.t 9)⟩,
  ⟨none, .bin 28 .add .num (.t 27) (.c (.v (.int .i64 1)))⟩,
  ⟨none, .asg 9 (.t 28)⟩])))
def c18 : MF := ⟨(.seq (.ops [⟨none, .asg 6 (.c (.nd (.sl true 2 0) []))⟩,
   ⟨none, .asg 7 (.c (.v (.int .i64 0)))⟩])
 (.seq (.seq (.ops [⟨none, .mv 12 (.t 0)⟩,
    ⟨none, .mv 13 (.t 1)⟩,
    ⟨none, .call (some 14) 21 [(.t 12), (.t 13)]⟩,
    ⟨none, .un 15 .not (.t 14)⟩,
    ⟨none, .mv 16 (.t 15)⟩,
    ⟨some (16, false), .mv 17 (.t 2)⟩,
    ⟨some (16, false), .mv 18 (.t 0)⟩,
    ⟨some (16, false), .bin 19 .sub .num (.t 18) (.c (.v (.int .i64 1)))⟩,
    ⟨some (16, false), .call (some 20) 32 [(.t 17), (.c (.v (.int .i64 0))), (.t 19)]⟩,
    ⟨some (16, false), .un 21 .not (.t 20)⟩,
    ⟨none, .pick 22 (.t 16) (.c (.v (.bool true))) (.t 21)⟩])
  (.cnd (.t 22)
   (.seq (.ops [⟨none, .asg 6 (.c (.nd (.sl true 2 0) []))⟩,
     ⟨none, .asg 7 (.c (.v (.int .i64 1)))⟩])
   (.seq (.scr r18) .ret))
   .skip))
 (.seq (.ops [⟨none, .asg 8 (.c (.nd (.sl true 2 0) []))⟩])
 (.seq (.seq (.ops [⟨none, .asg 9 (.c (.v (.int .i64 0)))⟩])
  (.seq (.blk 0 (.lop b18_0)) (.scr x18_0)))
 (.seq (.ops [⟨none, .mv 69 (.t 8)⟩,
   ⟨none, .asg 6 (.t 69)⟩,
   ⟨none, .asg 7 (.c (.v (.int .i64 0)))⟩])
 (.seq (.scr r18) .ret)))))),
  70, [6, 7]⟩

/-- coinage/coinagebase.Arcs -/
def hints19 : List (List Bool) := [[false, false, false, false, true, false, false, false, false, false, false, false, false, false, false, false, false, false, false, false, false, false, false, false, false, false], [false, false, false, false, false, false, false, false, false, false, false, false, false, false, false, false, false, false, false, false, false, false, false, false, false, false], [true, true, false, false, false, true, false, false, false, false, false, false, false, false, false, false, false, false, false, false, false, false, false, false, false, false], [false, false, false, false, false, false, false, false, false, false, false, false, false, false, false, false, false, false, false, false, false, false, false, false, false, false], [true, true, false, false, false, true, false, false, false, false, false, false, false, false, false, false, false, false, false, false, false, false, false, false, false, false], [false, false, false, false, true, false, false, false, false, false, false, false, false, false, false, false, false, false, false, false, false, false, false, false, false, false], [false, false, false, false, true, false, false, false, false, false, false, false, false, false, false, false, false, false, false, false, false, false, false, false, false, false]]
@[simp] def r19 : List Bool := [false, false, false, false, true, false, false, false, false, false, false, false, false, false, false, false, false, false, false, false, false, false, false, false, false, false]
@[simp] def R19 (s4 : V) : St := [.dead, .dead, .dead, .dead, s4, .dead, .dead, .dead, .dead, .dead, .dead, .dead, .dead, .dead, .dead, .dead, .dead, .dead, .dead, .dead, .dead, .dead, .dead, .dead, .dead, .dead]
@[simp] def x19_0 : List Bool := [false, false, false, false, false, false, false, false, false, false, false, false, false, false, false, false, false, false, false, false, false, false, false, false, false, false]
@[simp] def X19_0 : St := [.dead, .dead, .dead, .dead, .dead, .dead, .dead, .dead, .dead, .dead, .dead, .dead, .dead, .dead, .dead, .dead, .dead, .dead, .dead, .dead, .dead, .dead, .dead, .dead, .dead, .dead]
@[simp] def h19_0 : List Bool := [true, true, false, false, false, true, false, false, false, false, false, false, false, false, false, false, false, false, false, false, false, false, false, false, false, false]
@[simp] def L19_0 (s0 s1 s5 : V) : St := [s0, s1, .dead, .dead, .dead, s5, .dead, .dead, .dead, .dead, .dead, .dead, .dead, .dead, .dead, .dead, .dead, .dead, .dead, .dead, .dead, .dead, .dead, .dead, .dead, .dead]
@[simp] def x19_1 : List Bool := [true, true, false, false, false, true, false, false, false, false, false, false, false, false, false, false, false, false, false, false, false, false, false, false, false, false]
@[simp] def X19_1 (s0 s1 s5 : V) : St := [s0, s1, .dead, .dead, .dead, s5, .dead, .dead, .dead, .dead, .dead, .dead, .dead, .dead, .dead, .dead, .dead, .dead, .dead, .dead, .dead, .dead, .dead, .dead, .dead, .dead]
def b19_0 : MC := .seq (.scr h19_0)
 (.seq (.seq (.ops [⟨none, .mv 11 (.t 5)⟩,
    ⟨none, .mv 12 (.t 0)⟩,
    ⟨none, .len 13 false (.t 12)⟩,
    ⟨none, .bin 14 .lss .num (.t 11) (.t 13)⟩])
  (.cnd (.t 14)
   .skip
   (.seq (.scr x19_0) (.ex 0))))
 (.seq (.seq (.blk 1 (.seq (.drw [⟨none, .mv 17 (.t 0)⟩,
     ⟨none, .mv 18 (.t 5)⟩,
     ⟨none, .ixs 19 2 (.t 17) (.t 18)⟩,
     ⟨none, .ldn 20 2 (.t 19)⟩,
     ⟨none, .mv 21 (.t 1)⟩,
     ⟨none, .mv 22 (.t 5)⟩,
     ⟨none, .ixs 23 2 (.t 21) (.t 22)⟩,
     ⟨none, .ldn 24 2 (.t 23)⟩] [⟨none, .bin 25 .neq (.ag [0, 0]) (.t 20) (.t 24)⟩])
   (.cnd (.t 25)
    (.seq (.ops [⟨none, .asg 4 (.c (.v (.bool false)))⟩])
    (.seq (.scr r19) .ret))
    .skip))) (.scr x19_1))
 (.ops [⟨none, .mv 15 (.t 5)⟩,
  ⟨none, .bin 16 .add .num (.t 15) (.c (.v (.int .i64 1)))⟩,
  ⟨none, .asg 5 (.t 16)⟩])))
def c19 : MF := ⟨(.seq (.ops [⟨none, .asg 4 (.c (.v (.bool false)))⟩])
 (.seq (.seq (.ops [⟨none, .mv 6 (.t 0)⟩,
    ⟨none, .len 7 false (.t 6)⟩,
    ⟨none, .mv 8 (.t 1)⟩,
    ⟨none, .len 9 false (.t 8)⟩,
    ⟨none, .bin 10 .neq .num (.t 7) (.t 9)⟩])
  (.cnd (.t 10)
   (.seq (.ops [⟨none, .asg 4 (.c (.v (.bool false)))⟩])
   (.seq (.scr r19) .ret))
   .skip))
 (.seq (.seq (.ops [⟨none, .asg 5 (.c (.v (.int .i64 0)))⟩])
  (.seq (.blk 0 (.lop b19_0)) (.scr x19_0)))
 (.seq (.ops [⟨none, .asg 4 (.c (.v (.bool true)))⟩])
 (.seq (.scr r19) .ret))))),
  26, [4]⟩


theorem comp3 : compF Go.Proofs.Try.prog hints3 3 = some c3 := by kernel_rfl
theorem comp4 : compF Go.Proofs.Try.prog hints4 4 = some c4 := by kernel_rfl
theorem comp5 : compF Go.Proofs.Try.prog hints5 5 = some c5 := by kernel_rfl
theorem comp6 : compF Go.Proofs.Try.prog hints6 6 = some c6 := by kernel_rfl
theorem comp7 : compF Go.Proofs.Try.prog hints7 7 = some c7 := by kernel_rfl
theorem comp8 : compF Go.Proofs.Try.prog hints8 8 = some c8 := by kernel_rfl
theorem comp9 : compF Go.Proofs.Try.prog hints9 9 = some c9 := by kernel_rfl
theorem comp10 : compF Go.Proofs.Try.prog hints10 10 = some c10 := by kernel_rfl
theorem comp11 : compF Go.Proofs.Try.prog hints11 11 = some c11 := by kernel_rfl
theorem comp12 : compF Go.Proofs.Try.prog hints12 12 = some c12 := by kernel_rfl
theorem comp13 : compF Go.Proofs.Try.prog hints13 13 = some c13 := by kernel_rfl
theorem comp14 : compF Go.Proofs.Try.prog hints14 14 = some c14 := by kernel_rfl
theorem comp15 : compF Go.Proofs.Try.prog hints15 15 = some c15 := by kernel_rfl
theorem comp16 : compF Go.Proofs.Try.prog hints16 16 = some c16 := by kernel_rfl
theorem comp17 : compF Go.Proofs.Try.prog hints17 17 = some c17 := by kernel_rfl
theorem comp18 : compF Go.Proofs.Try.prog hints18 18 = some c18 := by kernel_rfl
theorem comp19 : compF Go.Proofs.Try.prog hints19 19 = some c19 := by kernel_rfl

end Go.Mx
