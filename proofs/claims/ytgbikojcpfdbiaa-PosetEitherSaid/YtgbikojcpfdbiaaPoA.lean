import Derived.Test.YtgbikojcpfdbiaaMxRa
import Derived.KernelRfl
import Derived.Test.YtgbikojcpfdbiaaChecked
/-
  The functions of this chapter in the machine's code, and that the given program's code is this one. Printed by a program of this repo (gencodes.py).
-/
namespace Go.Mx
set_option linter.unusedVariables false
set_option linter.unusedSimpArgs false
set_option linter.unusedSectionVars false
open Go

/-- coinage/coinagelaw06.PosetOrders -/
abbrev K3 : Nat := 40
def hints3 : List (List Bool) := [bits 63 [4], bits 63 [4]]
@[simp] def r3 : List Bool := bits 63 [4]
@[simp] def R3 (s4 : V) : St := tab 63 40 (fu dd 4 s4) dd
def c3 : MF := ⟨(.seq (.ops [⟨none, .asg 4 (.c (.v (.bool false)))⟩])
 (.seq (.seq (.ops [⟨none, .call (some 13) 9 []⟩,
    ⟨none, .un 14 .not (.t 13)⟩,
    ⟨none, .mv 15 (.t 14)⟩,
    ⟨some (15, false), .mv 16 (.t 1)⟩,
    ⟨some (15, false), .call (some 17) 10 [(.t 16)]⟩,
    ⟨some (15, false), .un 18 .not (.t 17)⟩,
    ⟨none, .pick 19 (.t 15) (.c (.v (.bool true))) (.t 18)⟩])
  (.cnd (.t 19)
   (.seq (.ops [⟨none, .call (some 20) 9 []⟩,
     ⟨none, .asg 4 (.t 20)⟩])
   (.seq (.scr r3) .ret))
   .skip))
 (.seq (.ops [⟨none, .mv 22 (.t 0)⟩,
   ⟨none, .mv 23 (.t 1)⟩,
   ⟨none, .call (some 24) 11 [(.t 22), (.t 23)]⟩,
   ⟨none, .mv 21 (.t 24)⟩,
   ⟨none, .ext 25 (.t 21) 0⟩,
   ⟨none, .ext 26 (.t 21) 1⟩,
   ⟨none, .asg 5 (.t 25)⟩,
   ⟨none, .asg 6 (.t 26)⟩])
 (.seq (.ops [⟨none, .mv 28 (.t 0)⟩,
   ⟨none, .mv 29 (.t 1)⟩,
   ⟨none, .call (some 30) 12 [(.t 28), (.t 29)]⟩,
   ⟨none, .mv 27 (.t 30)⟩,
   ⟨none, .ext 31 (.t 27) 0⟩,
   ⟨none, .ext 32 (.t 27) 1⟩,
   ⟨none, .asg 7 (.t 31)⟩,
   ⟨none, .asg 8 (.t 32)⟩])
 (.seq (.ops [⟨none, .mv 34 (.t 0)⟩,
   ⟨none, .mv 35 (.t 1)⟩,
   ⟨none, .call (some 36) 13 [(.t 34), (.t 35)]⟩,
   ⟨none, .mv 33 (.t 36)⟩,
   ⟨none, .ext 37 (.t 33) 0⟩,
   ⟨none, .ext 38 (.t 33) 1⟩,
   ⟨none, .asg 9 (.t 37)⟩,
   ⟨none, .asg 10 (.t 38)⟩])
 (.seq (.ops [⟨none, .mv 40 (.t 0)⟩,
   ⟨none, .mv 41 (.t 1)⟩,
   ⟨none, .call (some 42) 14 [(.t 40), (.t 41)]⟩,
   ⟨none, .mv 39 (.t 42)⟩,
   ⟨none, .ext 43 (.t 39) 0⟩,
   ⟨none, .ext 44 (.t 39) 1⟩,
   ⟨none, .asg 11 (.t 43)⟩,
   ⟨none, .asg 12 (.t 44)⟩])
 (.seq (.ops (⟨none, .mv 45 (.t 6)⟩ ::
   ⟨none, .mv 46 (.t 10)⟩ ::
   ⟨none, .bin 47 .eql .num (.t 45) (.t 46)⟩ ::
   ⟨none, .mv 48 (.t 47)⟩ ::
   ⟨some (48, true), .mv 49 (.t 8)⟩ ::
   ⟨some (48, true), .mv 50 (.t 12)⟩ ::
   ⟨some (48, true), .bin 51 .eql .num (.t 49) (.t 50)⟩ ::
   ⟨none, .pick 52 (.t 48) (.t 51) (.c (.v (.bool false)))⟩ ::
   ⟨none, .mv 53 (.t 52)⟩ ::
   ⟨some (53, true), .mv 54 (.t 5)⟩ ::
   ⟨some (53, true), .mv 55 (.t 9)⟩ ::
   ⟨some (53, true), .call (some 56) 15 [(.t 54), (.t 55)]⟩ ::
   ⟨none, .pick 57 (.t 53) (.t 56) (.c (.v (.bool false)))⟩ ::
   ⟨none, .mv 58 (.t 57)⟩ ::
   ⟨some (58, true), .mv 59 (.t 7)⟩ ::
   ⟨some (58, true), .mv 60 (.t 11)⟩ ::
   ⟨some (58, true), .call (some 61) 15 [(.t 59), (.t 60)]⟩ ::
   ⟨none, .pick 62 (.t 58) (.t 61) (.c (.v (.bool false)))⟩ ::
   ⟨none, .asg 4 (.t 62)⟩ :: []))
 (.seq (.scr r3) .ret)))))))),
  63, [4]⟩

/-- coinage/coinagelaw06.PosetTransitive -/
abbrev K4 : Nat := 7
def hints4 : List (List Bool) := [bits 42 [6], bits 42 [6]]
@[simp] def r4 : List Bool := bits 42 [6]
@[simp] def R4 (s6 : V) : St := tab 42 7 (fu dd 6 s6) dd
def c4 : MF := ⟨(.seq (.ops [⟨none, .box 5 (.t 2)⟩,
   ⟨none, .asg 6 (.c (.v (.bool false)))⟩])
 (.seq (.seq (.ops [⟨none, .call (some 7) 9 []⟩,
    ⟨none, .un 8 .not (.t 7)⟩,
    ⟨none, .mv 9 (.t 8)⟩,
    ⟨some (9, false), .mv 10 (.t 1)⟩,
    ⟨some (9, false), .call (some 11) 10 [(.t 10)]⟩,
    ⟨some (9, false), .un 12 .not (.t 11)⟩,
    ⟨none, .pick 13 (.t 9) (.c (.v (.bool true))) (.t 12)⟩])
  (.cnd (.t 13)
   (.seq (.ops [⟨none, .call (some 14) 9 []⟩,
     ⟨none, .asg 6 (.t 14)⟩])
   (.seq (.scr r4) .ret))
   .skip))
 (.seq (.ops (⟨none, .mv 15 (.t 0)⟩ ::
   ⟨none, .mv 16 (.t 1)⟩ ::
   ⟨none, .ixa 17 1 3 (.t 5) (.c (.v (.int .i64 0)))⟩ ::
   ⟨none, .ld1 18 (.t 17)⟩ ::
   ⟨none, .ixa 19 1 3 (.t 5) (.c (.v (.int .i64 1)))⟩ ::
   ⟨none, .ld1 20 (.t 19)⟩ ::
   ⟨none, .call (some 21) 16 [(.t 15), (.t 16), (.t 18), (.t 20)]⟩ ::
   ⟨none, .un 22 .not (.t 21)⟩ ::
   ⟨none, .mv 23 (.t 22)⟩ ::
   ⟨some (23, false), .mv 24 (.t 0)⟩ ::
   ⟨some (23, false), .mv 25 (.t 1)⟩ ::
   ⟨some (23, false), .ixa 26 1 3 (.t 5) (.c (.v (.int .i64 1)))⟩ ::
   ⟨some (23, false), .ld1 27 (.t 26)⟩ ::
   ⟨some (23, false), .ixa 28 1 3 (.t 5) (.c (.v (.int .i64 2)))⟩ ::
   ⟨some (23, false), .ld1 29 (.t 28)⟩ ::
   ⟨some (23, false), .call (some 30) 16 [(.t 24), (.t 25), (.t 27), (.t 29)]⟩ ::
   ⟨some (23, false), .un 31 .not (.t 30)⟩ ::
   ⟨none, .pick 32 (.t 23) (.c (.v (.bool true))) (.t 31)⟩ ::
   ⟨none, .mv 33 (.t 32)⟩ ::
   ⟨some (33, false), .mv 34 (.t 0)⟩ ::
   ⟨some (33, false), .mv 35 (.t 1)⟩ ::
   ⟨some (33, false), .ixa 36 1 3 (.t 5) (.c (.v (.int .i64 0)))⟩ ::
   ⟨some (33, false), .ld1 37 (.t 36)⟩ ::
   ⟨some (33, false), .ixa 38 1 3 (.t 5) (.c (.v (.int .i64 2)))⟩ ::
   ⟨some (33, false), .ld1 39 (.t 38)⟩ ::
   ⟨some (33, false), .call (some 40) 16 [(.t 34), (.t 35), (.t 37), (.t 39)]⟩ ::
   ⟨none, .pick 41 (.t 33) (.c (.v (.bool true))) (.t 40)⟩ ::
   ⟨none, .asg 6 (.t 41)⟩ :: []))
 (.seq (.scr r4) .ret)))),
  42, [6]⟩

/-- coinage/coinagelaw06.PosetInduces -/
abbrev K5 : Nat := 32
def hints5 : List (List Bool) := [bits 46 [6], bits 46 [6]]
@[simp] def r5 : List Bool := bits 46 [6]
@[simp] def R5 (s6 : V) : St := tab 46 32 (fu dd 6 s6) dd
def c5 : MF := ⟨(.seq (.ops [⟨none, .asg 6 (.c (.v (.bool false)))⟩])
 (.seq (.seq (.ops [⟨none, .call (some 11) 9 []⟩,
    ⟨none, .un 12 .not (.t 11)⟩,
    ⟨none, .mv 13 (.t 12)⟩,
    ⟨some (13, false), .mv 14 (.t 1)⟩,
    ⟨some (13, false), .call (some 15) 10 [(.t 14)]⟩,
    ⟨some (13, false), .un 16 .not (.t 15)⟩,
    ⟨none, .pick 17 (.t 13) (.c (.v (.bool true))) (.t 16)⟩,
    ⟨none, .mv 18 (.t 17)⟩,
    ⟨some (18, false), .mv 19 (.t 2)⟩,
    ⟨some (18, false), .len 20 false (.t 19)⟩,
    ⟨some (18, false), .bin 21 .gtr .num (.t 20) (.c (.v (.int .i64 60)))⟩,
    ⟨none, .pick 22 (.t 18) (.c (.v (.bool true))) (.t 21)⟩])
  (.cnd (.t 22)
   (.seq (.ops [⟨none, .call (some 23) 9 []⟩,
     ⟨none, .asg 6 (.t 23)⟩])
   (.seq (.scr r5) .ret))
   .skip))
 (.seq (.ops [⟨none, .mv 25 (.t 0)⟩,
   ⟨none, .mv 26 (.t 1)⟩,
   ⟨none, .mv 27 (.t 2)⟩,
   ⟨none, .call (some 28) 17 [(.t 25), (.t 26), (.t 27)]⟩,
   ⟨none, .mv 24 (.t 28)⟩,
   ⟨none, .ext 29 (.t 24) 0⟩,
   ⟨none, .ext 30 (.t 24) 1⟩,
   ⟨none, .asg 7 (.t 29)⟩,
   ⟨none, .asg 8 (.t 30)⟩])
 (.seq (.ops [⟨none, .mv 32 (.t 0)⟩,
   ⟨none, .mv 33 (.t 1)⟩,
   ⟨none, .mv 34 (.t 2)⟩,
   ⟨none, .call (some 35) 18 [(.t 32), (.t 33), (.t 34)]⟩,
   ⟨none, .mv 31 (.t 35)⟩,
   ⟨none, .ext 36 (.t 31) 0⟩,
   ⟨none, .ext 37 (.t 31) 1⟩,
   ⟨none, .asg 9 (.t 36)⟩,
   ⟨none, .asg 10 (.t 37)⟩])
 (.seq (.ops [⟨none, .mv 38 (.t 8)⟩,
   ⟨none, .mv 39 (.t 10)⟩,
   ⟨none, .bin 40 .eql .num (.t 38) (.t 39)⟩,
   ⟨none, .mv 41 (.t 40)⟩,
   ⟨some (41, true), .mv 42 (.t 7)⟩,
   ⟨some (41, true), .mv 43 (.t 9)⟩,
   ⟨some (41, true), .call (some 44) 19 [(.t 42), (.t 43)]⟩,
   ⟨none, .pick 45 (.t 41) (.t 44) (.c (.v (.bool false)))⟩,
   ⟨none, .asg 6 (.t 45)⟩])
 (.seq (.scr r5) .ret)))))),
  46, [6]⟩

/-- coinage/coinagelaw06.PosetValid -/
abbrev K6 : Nat := 8
def hints6 : List (List Bool) := [bits 57 [6], bits 57 [6]]
@[simp] def r6 : List Bool := bits 57 [6]
@[simp] def R6 (s6 : V) : St := tab 57 8 (fu dd 6 s6) dd
def c6 : MF := ⟨(.seq (.ops [⟨none, .box 5 (.t 2)⟩,
   ⟨none, .asg 6 (.c (.v (.bool false)))⟩])
 (.seq (.seq (.ops [⟨none, .call (some 8) 9 []⟩,
    ⟨none, .un 9 .not (.t 8)⟩,
    ⟨none, .mv 10 (.t 9)⟩,
    ⟨some (10, false), .mv 11 (.t 1)⟩,
    ⟨some (10, false), .call (some 12) 10 [(.t 11)]⟩,
    ⟨some (10, false), .un 13 .not (.t 12)⟩,
    ⟨none, .pick 14 (.t 10) (.c (.v (.bool true))) (.t 13)⟩])
  (.cnd (.t 14)
   (.seq (.ops [⟨none, .call (some 15) 9 []⟩,
     ⟨none, .asg 6 (.t 15)⟩])
   (.seq (.scr r6) .ret))
   .skip))
 (.seq (.ops [⟨none, .bs 16 2 0 [] []⟩,
   ⟨none, .mv 17 (.t 1)⟩,
   ⟨none, .app 18 2 (.t 16) (.t 17)⟩,
   ⟨none, .asg 7 (.t 18)⟩])
 (.seq (.drw (⟨none, .mv 19 (.t 0)⟩ ::
   ⟨none, .mv 20 (.t 7)⟩ ::
   ⟨none, .call (some 21) 20 [(.t 19), (.t 20)]⟩ ::
   ⟨none, .mv 22 (.t 0)⟩ ::
   ⟨none, .mv 23 (.t 1)⟩ ::
   ⟨none, .call (some 24) 21 [(.t 22), (.t 23)]⟩ ::
   ⟨none, .bin 25 .eql .bool (.t 21) (.t 24)⟩ ::
   ⟨none, .mv 26 (.t 25)⟩ ::
   ⟨some (26, true), .mv 27 (.t 0)⟩ ::
   ⟨some (26, true), .mv 28 (.t 7)⟩ ::
   ⟨some (26, true), .call (some 29) 22 [(.t 27), (.t 28)]⟩ ::
   ⟨some (26, true), .mv 30 (.t 0)⟩ ::
   ⟨some (26, true), .mv 31 (.t 1)⟩ ::
   ⟨some (26, true), .call (some 32) 23 [(.t 30), (.t 31)]⟩ ::
   ⟨some (26, true), .bin 33 .eql .bool (.t 29) (.t 32)⟩ ::
   ⟨none, .pick 34 (.t 26) (.t 33) (.c (.v (.bool false)))⟩ ::
   ⟨none, .mv 35 (.t 34)⟩ ::
   ⟨some (35, true), .mv 36 (.t 0)⟩ ::
   ⟨some (35, true), .mv 37 (.t 7)⟩ ::
   ⟨some (35, true), .ixa 38 1 2 (.t 5) (.c (.v (.int .i64 0)))⟩ ::
   ⟨some (35, true), .ld1 39 (.t 38)⟩ ::
   ⟨some (35, true), .ixa 40 1 2 (.t 5) (.c (.v (.int .i64 1)))⟩ ::
   ⟨some (35, true), .ld1 41 (.t 40)⟩ ::
   ⟨some (35, true), .call (some 42) 16 [(.t 36), (.t 37), (.t 39), (.t 41)]⟩ ::
   ⟨some (35, true), .mv 43 (.t 0)⟩ ::
   ⟨some (35, true), .mv 44 (.t 1)⟩ ::
   ⟨some (35, true), .ixa 45 1 2 (.t 5) (.c (.v (.int .i64 0)))⟩ ::
   ⟨some (35, true), .ld1 46 (.t 45)⟩ ::
   ⟨some (35, true), .ixa 47 1 2 (.t 5) (.c (.v (.int .i64 1)))⟩ ::
   ⟨some (35, true), .ld1 48 (.t 47)⟩ ::
   ⟨some (35, true), .call (some 49) 24 [(.t 43), (.t 44), (.t 46), (.t 48)]⟩ ::
   ⟨some (35, true), .bin 50 .eql .bool (.t 42) (.t 49)⟩ ::
   ⟨none, .pick 51 (.t 35) (.t 50) (.c (.v (.bool false)))⟩ ::
   ⟨none, .mv 52 (.t 51)⟩ ::
   ⟨some (52, true), .mv 53 (.t 7)⟩ ::
   ⟨some (52, true), .mv 54 (.t 1)⟩ :: []) [⟨some (52, true), .call (some 55) 19 [(.t 53), (.t 54)]⟩,
   ⟨none, .pick 56 (.t 52) (.t 55) (.c (.v (.bool false)))⟩,
   ⟨none, .asg 6 (.t 56)⟩])
 (.seq (.scr r6) .ret))))),
  57, [6]⟩

/-- coinage/coinagelaw06.PosetCycles -/
abbrev K7 : Nat := 24
def hints7 : List (List Bool) := [bits 37 [4], bits 37 [4]]
@[simp] def r7 : List Bool := bits 37 [4]
@[simp] def R7 (s4 : V) : St := tab 37 24 (fu dd 4 s4) dd
def c7 : MF := ⟨(.seq (.ops [⟨none, .asg 4 (.c (.v (.bool false)))⟩])
 (.seq (.seq (.ops [⟨none, .call (some 9) 9 []⟩,
    ⟨none, .un 10 .not (.t 9)⟩,
    ⟨none, .mv 11 (.t 10)⟩,
    ⟨some (11, false), .mv 12 (.t 1)⟩,
    ⟨some (11, false), .call (some 13) 10 [(.t 12)]⟩,
    ⟨some (11, false), .un 14 .not (.t 13)⟩,
    ⟨none, .pick 15 (.t 11) (.c (.v (.bool true))) (.t 14)⟩])
  (.cnd (.t 15)
   (.seq (.ops [⟨none, .call (some 16) 9 []⟩,
     ⟨none, .asg 4 (.t 16)⟩])
   (.seq (.scr r7) .ret))
   .skip))
 (.seq (.ops [⟨none, .mv 18 (.t 0)⟩,
   ⟨none, .mv 19 (.t 1)⟩,
   ⟨none, .call (some 20) 25 [(.t 18), (.t 19)]⟩,
   ⟨none, .mv 17 (.t 20)⟩,
   ⟨none, .ext 21 (.t 17) 0⟩,
   ⟨none, .ext 22 (.t 17) 1⟩,
   ⟨none, .asg 5 (.t 21)⟩,
   ⟨none, .asg 6 (.t 22)⟩])
 (.seq (.ops [⟨none, .mv 24 (.t 0)⟩,
   ⟨none, .mv 25 (.t 1)⟩,
   ⟨none, .call (some 26) 26 [(.t 24), (.t 25)]⟩,
   ⟨none, .mv 23 (.t 26)⟩,
   ⟨none, .ext 27 (.t 23) 0⟩,
   ⟨none, .ext 28 (.t 23) 1⟩,
   ⟨none, .asg 7 (.t 27)⟩,
   ⟨none, .asg 8 (.t 28)⟩])
 (.seq (.ops [⟨none, .mv 29 (.t 6)⟩,
   ⟨none, .mv 30 (.t 8)⟩,
   ⟨none, .bin 31 .eql .num (.t 29) (.t 30)⟩,
   ⟨none, .mv 32 (.t 31)⟩,
   ⟨some (32, true), .mv 33 (.t 5)⟩,
   ⟨some (32, true), .mv 34 (.t 7)⟩,
   ⟨some (32, true), .call (some 35) 15 [(.t 33), (.t 34)]⟩,
   ⟨none, .pick 36 (.t 32) (.t 35) (.c (.v (.bool false)))⟩,
   ⟨none, .asg 4 (.t 36)⟩])
 (.seq (.scr r7) .ret)))))),
  37, [4]⟩

/-- coinage/coinagelaw06.PosetEither -/
abbrev K8 : Nat := 55
def hints8 : List (List Bool) := [bits 219 [4], bits 219 [4], bits 219 [4], bits 219 [], bits 219 [0, 1, 5, 9, 11], bits 219 [], bits 219 [0, 1, 5, 9, 11], bits 219 [4], bits 219 [4], bits 219 [4], bits 219 [], bits 219 [1, 7, 14], bits 219 [], bits 219 [1, 7, 14], bits 219 [1, 7, 14, 15], bits 219 [1, 7, 14, 15, 16], bits 219 [1, 7, 14, 15], bits 219 [1, 7, 14, 15, 16], bits 219 [4], bits 219 [4]]
@[simp] def r8 : List Bool := bits 219 [4]
@[simp] def R8 (s4 : V) : St := tab 219 55 (fu dd 4 s4) dd
@[simp] def x8_0 : List Bool := bits 219 []
@[simp] def X8_0 : St := tab 219 55 dd dd
@[simp] def h8_0 : List Bool := bits 219 [0, 1, 5, 9, 11]
@[simp] def L8_0 (s0 s1 s5 s9 s11 : V) : St := tab 219 55 (fu (fu (fu (fu (fu dd 11 s11) 9 s9) 5 s5) 1 s1) 0 s0) dd
@[simp] def x8_1 : List Bool := bits 219 [0, 1, 5, 9, 11]
@[simp] def X8_1 (s0 s1 s5 s9 s11 : V) : St := tab 219 55 (fu (fu (fu (fu (fu dd 11 s11) 9 s9) 5 s5) 1 s1) 0 s0) dd
def b8_0 : MC := .seq (.scr h8_0)
 (.seq (.seq (.ops [⟨none, .mv 90 (.t 11)⟩,
    ⟨none, .mv 91 (.t 1)⟩,
    ⟨none, .len 92 false (.t 91)⟩,
    ⟨none, .bin 93 .lss .num (.t 90) (.t 92)⟩])
  (.cnd (.t 93)
   .skip
   (.seq (.scr x8_0) (.ex 0))))
 (.seq (.seq (.blk 1 (.seq (.drw [⟨none, .mv 96 (.t 5)⟩,
     ⟨none, .mv 97 (.t 1)⟩,
     ⟨none, .mv 98 (.t 11)⟩,
     ⟨none, .ixs 99 2 (.t 97) (.t 98)⟩,
     ⟨none, .fa 100 0 (.t 99)⟩,
     ⟨none, .ld1 101 (.t 100)⟩,
     ⟨none, .call (some 102) 27 [(.t 96), (.t 101)]⟩,
     ⟨none, .mv 103 (.t 5)⟩,
     ⟨none, .mv 104 (.t 1)⟩,
     ⟨none, .mv 105 (.t 11)⟩,
     ⟨none, .ixs 106 2 (.t 104) (.t 105)⟩,
     ⟨none, .fa 107 1 (.t 106)⟩,
     ⟨none, .ld1 108 (.t 107)⟩] [⟨none, .call (some 109) 27 [(.t 103), (.t 108)]⟩,
     ⟨none, .asg 12 (.t 102)⟩,
     ⟨none, .asg 13 (.t 109)⟩])
   (.seq (.drw (⟨none, .mv 110 (.t 12)⟩ ::
     ⟨none, .bin 111 .lss .num (.t 110) (.c (.v (.int .i64 0)))⟩ ::
     ⟨none, .mv 112 (.t 111)⟩ ::
     ⟨some (112, false), .mv 113 (.t 13)⟩ ::
     ⟨some (112, false), .mv 114 (.t 12)⟩ ::
     ⟨some (112, false), .bin 115 .leq .num (.t 113) (.t 114)⟩ ::
     ⟨none, .pick 116 (.t 112) (.c (.v (.bool true))) (.t 115)⟩ ::
     ⟨none, .mv 117 (.t 116)⟩ ::
     ⟨some (117, false), .mv 118 (.t 1)⟩ ::
     ⟨some (117, false), .mv 119 (.t 11)⟩ ::
     ⟨some (117, false), .ixs 120 2 (.t 118) (.t 119)⟩ ::
     ⟨some (117, false), .fa 121 0 (.t 120)⟩ ::
     ⟨some (117, false), .ld1 122 (.t 121)⟩ ::
     ⟨some (117, false), .mv 123 (.t 0)⟩ ::
     ⟨some (117, false), .bin 124 .geq .num (.t 122) (.t 123)⟩ ::
     ⟨none, .pick 125 (.t 117) (.c (.v (.bool true))) (.t 124)⟩ ::
     ⟨none, .mv 126 (.t 125)⟩ ::
     ⟨some (126, false), .mv 127 (.t 1)⟩ ::
     ⟨some (126, false), .mv 128 (.t 11)⟩ ::
     ⟨some (126, false), .ixs 129 2 (.t 127) (.t 128)⟩ ::
     ⟨some (126, false), .fa 130 1 (.t 129)⟩ ::
     ⟨some (126, false), .ld1 131 (.t 130)⟩ ::
     ⟨some (126, false), .mv 132 (.t 0)⟩ ::
     ⟨some (126, false), .bin 133 .geq .num (.t 131) (.t 132)⟩ ::
     ⟨none, .pick 134 (.t 126) (.c (.v (.bool true))) (.t 133)⟩ ::
     ⟨none, .mv 135 (.t 134)⟩ ::
     ⟨some (135, false), .mv 136 (.t 9)⟩ ::
     ⟨some (135, false), .mv 137 (.t 1)⟩ ::
     ⟨some (135, false), .mv 138 (.t 11)⟩ ::
     ⟨some (135, false), .ixs 139 2 (.t 137) (.t 138)⟩ ::
     ⟨some (135, false), .fa 140 0 (.t 139)⟩ ::
     ⟨some (135, false), .ld1 141 (.t 140)⟩ ::
     ⟨some (135, false), .ixs 142 1 (.t 136) (.t 141)⟩ ::
     ⟨some (135, false), .ld1 143 (.t 142)⟩ ::
     ⟨some (135, false), .mv 144 (.t 9)⟩ ::
     ⟨some (135, false), .mv 145 (.t 1)⟩ ::
     ⟨some (135, false), .mv 146 (.t 11)⟩ ::
     ⟨some (135, false), .ixs 147 2 (.t 145) (.t 146)⟩ ::
     ⟨some (135, false), .fa 148 1 (.t 147)⟩ ::
     ⟨some (135, false), .ld1 149 (.t 148)⟩ ::
     ⟨some (135, false), .ixs 150 1 (.t 144) (.t 149)⟩ ::
     ⟨some (135, false), .ld1 151 (.t 150)⟩ :: []) [⟨some (135, false), .bin 152 .geq .num (.t 143) (.t 151)⟩,
     ⟨none, .pick 153 (.t 135) (.c (.v (.bool true))) (.t 152)⟩])
   (.cnd (.t 153)
    (.seq (.ops [⟨none, .asg 4 (.c (.v (.bool false)))⟩])
    (.seq (.scr r8) .ret))
    .skip)))) (.scr x8_1))
 (.ops [⟨none, .mv 94 (.t 11)⟩,
  ⟨none, .bin 95 .add .num (.t 94) (.c (.v (.int .i64 1)))⟩,
  ⟨none, .asg 11 (.t 95)⟩])))
@[simp] def x8_2 : List Bool := bits 219 []
@[simp] def X8_2 : St := tab 219 55 dd dd
@[simp] def h8_1 : List Bool := bits 219 [1, 7, 14]
@[simp] def L8_1 (s1 s7 s14 : V) : St := tab 219 55 (fu (fu (fu dd 14 s14) 7 s7) 1 s1) dd
@[simp] def x8_3 : List Bool := bits 219 [1, 7, 14]
@[simp] def X8_3 (s1 s7 s14 : V) : St := tab 219 55 (fu (fu (fu dd 14 s14) 7 s7) 1 s1) dd
@[simp] def x8_4 : List Bool := bits 219 [1, 7, 14, 15]
@[simp] def X8_4 (s1 s7 s14 s15 : V) : St := tab 219 55 (fu (fu (fu (fu dd 15 s15) 14 s14) 7 s7) 1 s1) dd
@[simp] def h8_2 : List Bool := bits 219 [1, 7, 14, 15, 16]
@[simp] def L8_2 (s1 s7 s14 s15 s16 : V) : St := tab 219 55 (fu (fu (fu (fu (fu dd 16 s16) 15 s15) 14 s14) 7 s7) 1 s1) dd
@[simp] def x8_5 : List Bool := bits 219 [1, 7, 14, 15, 16]
@[simp] def X8_5 (s1 s7 s14 s15 s16 : V) : St := tab 219 55 (fu (fu (fu (fu (fu dd 16 s16) 15 s15) 14 s14) 7 s7) 1 s1) dd
def b8_2 : MC := .seq (.scr h8_2)
 (.seq (.seq (.ops [⟨none, .mv 176 (.t 16)⟩,
    ⟨none, .mv 177 (.t 1)⟩,
    ⟨none, .len 178 false (.t 177)⟩,
    ⟨none, .bin 179 .lss .num (.t 176) (.t 178)⟩])
  (.cnd (.t 179)
   .skip
   (.seq (.scr x8_4) (.ex 4))))
 (.seq (.seq (.blk 5 (.drw (⟨none, .mv 182 (.t 15)⟩ ::
    ⟨none, .mv 183 (.t 182)⟩ ::
    ⟨some (183, false), .mv 184 (.t 1)⟩ ::
    ⟨some (183, false), .mv 185 (.t 16)⟩ ::
    ⟨some (183, false), .ixs 186 2 (.t 184) (.t 185)⟩ ::
    ⟨some (183, false), .ldn 187 2 (.t 186)⟩ ::
    ⟨some (183, false), .mv 188 (.t 7)⟩ ::
    ⟨some (183, false), .mv 189 (.t 14)⟩ ::
    ⟨some (183, false), .ixs 190 1 (.t 188) (.t 189)⟩ ::
    ⟨some (183, false), .ld1 191 (.t 190)⟩ ::
    ⟨some (183, false), .mv 192 (.t 7)⟩ ::
    ⟨some (183, false), .mv 193 (.t 14)⟩ ::
    ⟨some (183, false), .bin 194 .add .num (.t 193) (.c (.v (.int .i64 1)))⟩ ::
    ⟨some (183, false), .mv 195 (.t 7)⟩ ::
    ⟨some (183, false), .len 196 false (.t 195)⟩ ::
    ⟨some (183, false), .bin 197 .rem .num (.t 194) (.t 196)⟩ ::
    ⟨some (183, false), .ixs 198 1 (.t 192) (.t 197)⟩ ::
    ⟨some (183, false), .ld1 199 (.t 198)⟩ ::
    ⟨some (183, false), .bld 200 [(.v (.int .i64 0)), (.v (.int .i64 0))] [(0, 1, (.t 191)), (1, 1, (.t 199))]⟩ :: []) [⟨some (183, false), .bin 201 .eql (.ag [0, 0]) (.t 187) (.t 200)⟩,
    ⟨none, .pick 202 (.t 183) (.c (.v (.bool true))) (.t 201)⟩,
    ⟨none, .asg 15 (.t 202)⟩])) (.scr x8_5))
 (.ops [⟨none, .mv 180 (.t 16)⟩,
  ⟨none, .bin 181 .add .num (.t 180) (.c (.v (.int .i64 1)))⟩,
  ⟨none, .asg 16 (.t 181)⟩])))
def b8_1 : MC := .seq (.scr h8_1)
 (.seq (.seq (.ops [⟨none, .mv 170 (.t 14)⟩,
    ⟨none, .mv 171 (.t 7)⟩,
    ⟨none, .len 172 false (.t 171)⟩,
    ⟨none, .bin 173 .lss .num (.t 170) (.t 172)⟩])
  (.cnd (.t 173)
   .skip
   (.seq (.scr x8_2) (.ex 2))))
 (.seq (.seq (.blk 3 (.seq (.ops [⟨none, .asg 15 (.c (.v (.bool false)))⟩])
   (.seq (.seq (.ops [⟨none, .asg 16 (.c (.v (.int .i64 0)))⟩])
    (.seq (.blk 4 (.lop b8_2)) (.scr x8_4)))
   (.seq (.drw [⟨none, .mv 203 (.t 15)⟩,
     ⟨none, .un 204 .not (.t 203)⟩,
     ⟨none, .mv 205 (.t 204)⟩,
     ⟨some (205, false), .mv 206 (.t 14)⟩,
     ⟨some (205, false), .bin 207 .gtr .num (.t 206) (.c (.v (.int .i64 0)))⟩,
     ⟨some (205, false), .mv 208 (.t 207)⟩,
     ⟨some (208, true), .mv 209 (.t 7)⟩,
     ⟨some (208, true), .mv 210 (.t 14)⟩,
     ⟨some (208, true), .ixs 211 1 (.t 209) (.t 210)⟩,
     ⟨some (208, true), .ld1 212 (.t 211)⟩,
     ⟨some (208, true), .mv 213 (.t 7)⟩,
     ⟨some (208, true), .ixs 214 1 (.t 213) (.c (.v (.int .i64 0)))⟩,
     ⟨some (208, true), .ld1 215 (.t 214)⟩] [⟨some (208, true), .bin 216 .leq .num (.t 212) (.t 215)⟩,
     ⟨some (205, false), .pick 217 (.t 208) (.t 216) (.c (.v (.bool false)))⟩,
     ⟨none, .pick 218 (.t 205) (.c (.v (.bool true))) (.t 217)⟩])
   (.cnd (.t 218)
    (.seq (.ops [⟨none, .asg 4 (.c (.v (.bool false)))⟩])
    (.seq (.scr r8) .ret))
    .skip))))) (.scr x8_3))
 (.ops [⟨none, .mv 174 (.t 14)⟩,
  ⟨none, .bin 175 .add .num (.t 174) (.c (.v (.int .i64 1)))⟩,
  ⟨none, .asg 14 (.t 175)⟩])))
def c8 : MF := ⟨(.seq (.ops [⟨none, .asg 4 (.c (.v (.bool false)))⟩])
 (.seq (.seq (.ops [⟨none, .call (some 17) 9 []⟩,
    ⟨none, .un 18 .not (.t 17)⟩,
    ⟨none, .mv 19 (.t 18)⟩,
    ⟨some (19, false), .mv 20 (.t 1)⟩,
    ⟨some (19, false), .call (some 21) 10 [(.t 20)]⟩,
    ⟨some (19, false), .un 22 .not (.t 21)⟩,
    ⟨none, .pick 23 (.t 19) (.c (.v (.bool true))) (.t 22)⟩])
  (.cnd (.t 23)
   (.seq (.ops [⟨none, .call (some 24) 9 []⟩,
     ⟨none, .asg 4 (.t 24)⟩])
   (.seq (.scr r8) .ret))
   .skip))
 (.seq (.ops [⟨none, .mv 26 (.t 0)⟩,
   ⟨none, .mv 27 (.t 1)⟩,
   ⟨none, .call (some 28) 11 [(.t 26), (.t 27)]⟩,
   ⟨none, .mv 25 (.t 28)⟩,
   ⟨none, .ext 29 (.t 25) 0⟩,
   ⟨none, .ext 30 (.t 25) 1⟩,
   ⟨none, .asg 5 (.t 29)⟩,
   ⟨none, .asg 6 (.t 30)⟩])
 (.seq (.ops [⟨none, .mv 32 (.t 0)⟩,
   ⟨none, .mv 33 (.t 1)⟩,
   ⟨none, .call (some 34) 25 [(.t 32), (.t 33)]⟩,
   ⟨none, .mv 31 (.t 34)⟩,
   ⟨none, .ext 35 (.t 31) 0⟩,
   ⟨none, .ext 36 (.t 31) 1⟩,
   ⟨none, .asg 7 (.t 35)⟩,
   ⟨none, .asg 8 (.t 36)⟩])
 (.seq (.seq (.ops [⟨none, .mv 37 (.t 6)⟩,
    ⟨none, .bin 38 .eql .num (.t 37) (.c (.v (.int .i64 1)))⟩,
    ⟨none, .mv 39 (.t 38)⟩,
    ⟨some (39, false), .mv 40 (.t 8)⟩,
    ⟨some (39, false), .bin 41 .eql .num (.t 40) (.c (.v (.int .i64 1)))⟩,
    ⟨none, .pick 42 (.t 39) (.c (.v (.bool true))) (.t 41)⟩])
  (.cnd (.t 42)
   (.seq (.ops [⟨none, .mv 43 (.t 6)⟩,
     ⟨none, .mv 44 (.t 8)⟩,
     ⟨none, .bin 45 .eql .num (.t 43) (.t 44)⟩,
     ⟨none, .mv 46 (.t 45)⟩,
     ⟨some (46, true), .mv 47 (.t 0)⟩,
     ⟨some (46, true), .mv 48 (.t 1)⟩,
     ⟨some (46, true), .call (some 49) 20 [(.t 47), (.t 48)]⟩,
     ⟨some (46, true), .un 50 .not (.t 49)⟩,
     ⟨none, .pick 51 (.t 46) (.t 50) (.c (.v (.bool false)))⟩,
     ⟨none, .asg 4 (.t 51)⟩])
   (.seq (.scr r8) .ret))
   .skip))
 (.seq (.seq (.ops [⟨none, .mv 52 (.t 6)⟩,
    ⟨none, .bin 53 .eql .num (.t 52) (.c (.v (.int .i64 0)))⟩])
  (.cnd (.t 53)
   (.seq (.ops [⟨none, .mv 55 (.t 0)⟩,
     ⟨none, .mv 56 (.t 1)⟩,
     ⟨none, .call (some 57) 12 [(.t 55), (.t 56)]⟩,
     ⟨none, .mv 54 (.t 57)⟩,
     ⟨none, .ext 58 (.t 54) 0⟩,
     ⟨none, .ext 59 (.t 54) 1⟩,
     ⟨none, .asg 9 (.t 58)⟩,
     ⟨none, .asg 10 (.t 59)⟩])
   (.seq (.seq (.ops (⟨none, .mv 60 (.t 0)⟩ ::
      ⟨none, .mv 61 (.t 1)⟩ ::
      ⟨none, .call (some 62) 21 [(.t 60), (.t 61)]⟩ ::
      ⟨none, .un 63 .not (.t 62)⟩ ::
      ⟨none, .mv 64 (.t 63)⟩ ::
      ⟨some (64, false), .mv 65 (.t 8)⟩ ::
      ⟨some (64, false), .bin 66 .neq .num (.t 65) (.c (.v (.int .i64 7)))⟩ ::
      ⟨none, .pick 67 (.t 64) (.c (.v (.bool true))) (.t 66)⟩ ::
      ⟨none, .mv 68 (.t 67)⟩ ::
      ⟨some (68, false), .mv 69 (.t 10)⟩ ::
      ⟨some (68, false), .bin 70 .neq .num (.t 69) (.c (.v (.int .i64 0)))⟩ ::
      ⟨none, .pick 71 (.t 68) (.c (.v (.bool true))) (.t 70)⟩ ::
      ⟨none, .mv 72 (.t 71)⟩ ::
      ⟨some (72, false), .mv 73 (.t 5)⟩ ::
      ⟨some (72, false), .len 74 false (.t 73)⟩ ::
      ⟨some (72, false), .mv 75 (.t 0)⟩ ::
      ⟨some (72, false), .bin 76 .neq .num (.t 74) (.t 75)⟩ ::
      ⟨none, .pick 77 (.t 72) (.c (.v (.bool true))) (.t 76)⟩ ::
      ⟨none, .mv 78 (.t 77)⟩ ::
      ⟨some (78, false), .mv 79 (.t 9)⟩ ::
      ⟨some (78, false), .len 80 false (.t 79)⟩ ::
      ⟨some (78, false), .mv 81 (.t 0)⟩ ::
      ⟨some (78, false), .bin 82 .neq .num (.t 80) (.t 81)⟩ ::
      ⟨none, .pick 83 (.t 78) (.c (.v (.bool true))) (.t 82)⟩ ::
      ⟨none, .mv 84 (.t 83)⟩ ::
      ⟨some (84, false), .mv 85 (.t 0)⟩ ::
      ⟨some (84, false), .mv 86 (.t 1)⟩ ::
      ⟨some (84, false), .call (some 87) 22 [(.t 85), (.t 86)]⟩ ::
      ⟨some (84, false), .un 88 .not (.t 87)⟩ ::
      ⟨none, .pick 89 (.t 84) (.c (.v (.bool true))) (.t 88)⟩ :: []))
    (.cnd (.t 89)
     (.seq (.ops [⟨none, .asg 4 (.c (.v (.bool false)))⟩])
     (.seq (.scr r8) .ret))
     .skip))
   (.seq (.seq (.ops [⟨none, .asg 11 (.c (.v (.int .i64 0)))⟩])
    (.seq (.blk 0 (.lop b8_0)) (.scr x8_0)))
   (.seq (.ops [⟨none, .asg 4 (.c (.v (.bool true)))⟩])
   (.seq (.scr r8) .ret)))))
   .skip))
 (.seq (.seq (.ops [⟨none, .mv 154 (.t 6)⟩,
    ⟨none, .bin 155 .neq .num (.t 154) (.c (.v (.int .i64 11)))⟩,
    ⟨none, .mv 156 (.t 155)⟩,
    ⟨some (156, false), .mv 157 (.t 8)⟩,
    ⟨some (156, false), .bin 158 .neq .num (.t 157) (.c (.v (.int .i64 0)))⟩,
    ⟨none, .pick 159 (.t 156) (.c (.v (.bool true))) (.t 158)⟩,
    ⟨none, .mv 160 (.t 159)⟩,
    ⟨some (160, false), .mv 161 (.t 7)⟩,
    ⟨some (160, false), .len 162 false (.t 161)⟩,
    ⟨some (160, false), .bin 163 .lss .num (.t 162) (.c (.v (.int .i64 2)))⟩,
    ⟨none, .pick 164 (.t 160) (.c (.v (.bool true))) (.t 163)⟩,
    ⟨none, .mv 165 (.t 164)⟩,
    ⟨some (165, false), .mv 166 (.t 0)⟩,
    ⟨some (165, false), .mv 167 (.t 1)⟩,
    ⟨some (165, false), .call (some 168) 22 [(.t 166), (.t 167)]⟩,
    ⟨none, .pick 169 (.t 165) (.c (.v (.bool true))) (.t 168)⟩])
  (.cnd (.t 169)
   (.seq (.ops [⟨none, .asg 4 (.c (.v (.bool false)))⟩])
   (.seq (.scr r8) .ret))
   .skip))
 (.seq (.seq (.ops [⟨none, .asg 14 (.c (.v (.int .i64 0)))⟩])
  (.seq (.blk 2 (.lop b8_1)) (.scr x8_2)))
 (.seq (.ops [⟨none, .asg 4 (.c (.v (.bool true)))⟩])
 (.seq (.scr r8) .ret)))))))))),
  219, [4]⟩

/-- coinage/coinagelaw06.awake -/
abbrev K9 : Nat := 16
def hints9 : List (List Bool) := [bits 36 [0]]
@[simp] def r9 : List Bool := bits 36 [0]
@[simp] def R9 (s0 : V) : St := tab 36 16 (fu dd 0 s0) dd
def c9 : MF := ⟨(.seq (.ops [⟨none, .asg 0 (.c (.v (.bool false)))⟩])
 (.seq (.ops [⟨none, .bld 6 [(.v (.int .i64 0)), (.v (.int .i64 0))] [(0, 1, (.c (.v (.int .i64 0)))), (1, 1, (.c (.v (.int .i64 2))))]⟩,
   ⟨none, .bld 7 [(.v (.int .i64 0)), (.v (.int .i64 0))] [(0, 1, (.c (.v (.int .i64 1)))), (1, 1, (.c (.v (.int .i64 2))))]⟩,
   ⟨none, .bld 8 [(.v (.int .i64 0)), (.v (.int .i64 0))] [(0, 1, (.c (.v (.int .i64 2)))), (1, 1, (.c (.v (.int .i64 3))))]⟩,
   ⟨none, .bs 9 2 3 [(.v (.int .i64 0)), (.v (.int .i64 0))] [(0, 2, (.t 6)), (2, 2, (.t 7)), (4, 2, (.t 8))]⟩,
   ⟨none, .asg 1 (.t 9)⟩])
 (.seq (.ops [⟨none, .mv 11 (.t 1)⟩,
   ⟨none, .call (some 12) 11 [(.c (.v (.int .i64 4))), (.t 11)]⟩,
   ⟨none, .mv 10 (.t 12)⟩,
   ⟨none, .ext 13 (.t 10) 0⟩,
   ⟨none, .ext 14 (.t 10) 1⟩,
   ⟨none, .asg 2 (.t 13)⟩,
   ⟨none, .asg 3 (.t 14)⟩])
 (.seq (.ops [⟨none, .mv 16 (.t 1)⟩,
   ⟨none, .call (some 17) 12 [(.c (.v (.int .i64 4))), (.t 16)]⟩,
   ⟨none, .mv 15 (.t 17)⟩,
   ⟨none, .ext 18 (.t 15) 0⟩,
   ⟨none, .ext 19 (.t 15) 1⟩,
   ⟨none, .asg 4 (.t 18)⟩,
   ⟨none, .asg 5 (.t 19)⟩])
 (.seq (.ops (⟨none, .mv 20 (.t 3)⟩ ::
   ⟨none, .bin 21 .eql .num (.t 20) (.c (.v (.int .i64 0)))⟩ ::
   ⟨none, .mv 22 (.t 21)⟩ ::
   ⟨some (22, true), .mv 23 (.t 2)⟩ ::
   ⟨some (22, true), .bs 24 1 4 [(.v (.int .i64 0))] [(0, 1, (.c (.v (.int .i64 0)))), (1, 1, (.c (.v (.int .i64 1)))), (2, 1, (.c (.v (.int .i64 2)))), (3, 1, (.c (.v (.int .i64 3))))]⟩ ::
   ⟨some (22, true), .call (some 25) 15 [(.t 23), (.t 24)]⟩ ::
   ⟨none, .pick 26 (.t 22) (.t 25) (.c (.v (.bool false)))⟩ ::
   ⟨none, .mv 27 (.t 26)⟩ ::
   ⟨some (27, true), .mv 28 (.t 5)⟩ ::
   ⟨some (27, true), .bin 29 .eql .num (.t 28) (.c (.v (.int .i64 0)))⟩ ::
   ⟨none, .pick 30 (.t 27) (.t 29) (.c (.v (.bool false)))⟩ ::
   ⟨none, .mv 31 (.t 30)⟩ ::
   ⟨some (31, true), .mv 32 (.t 4)⟩ ::
   ⟨some (31, true), .bs 33 1 4 [(.v (.int .i64 0))] [(0, 1, (.c (.v (.int .i64 0)))), (1, 1, (.c (.v (.int .i64 0)))), (2, 1, (.c (.v (.int .i64 1)))), (3, 1, (.c (.v (.int .i64 2))))]⟩ ::
   ⟨some (31, true), .call (some 34) 15 [(.t 32), (.t 33)]⟩ ::
   ⟨none, .pick 35 (.t 31) (.t 34) (.c (.v (.bool false)))⟩ ::
   ⟨none, .asg 0 (.t 35)⟩ :: []))
 (.seq (.scr r9) .ret)))))),
  36, [0]⟩

/-- coinage/coinagelaw06.few -/
abbrev K10 : Nat := 3
def hints10 : List (List Bool) := [bits 6 [2]]
@[simp] def r10 : List Bool := bits 6 [2]
@[simp] def R10 (s2 : V) : St := tab 6 3 (fu dd 2 s2) dd
def c10 : MF := ⟨(.seq (.ops [⟨none, .asg 2 (.c (.v (.bool false)))⟩])
 (.seq (.ops [⟨none, .mv 3 (.t 0)⟩,
   ⟨none, .len 4 false (.t 3)⟩,
   ⟨none, .bin 5 .leq .num (.t 4) (.c (.v (.int .i64 150)))⟩,
   ⟨none, .asg 2 (.t 5)⟩])
 (.seq (.scr r10) .ret))),
  6, [2]⟩

/-- coinage/poset.Order -/
abbrev K11 : Nat := 21
def hints11 : List (List Bool) := [bits 70 [4, 5], bits 70 [0, 6], bits 70 [0, 1, 6, 18, 19, 20], bits 70 [0, 6], bits 70 [0, 1, 6, 18, 19, 20], bits 70 [10], bits 70 [0, 6, 9, 10], bits 70 [10], bits 70 [0, 6, 9, 10], bits 70 [0, 6, 9, 10, 11], bits 70 [0, 6, 9, 10, 11], bits 70 [0, 6, 9, 10, 11], bits 70 [0, 6, 9, 10, 11], bits 70 [4, 5], bits 70 [4, 5]]
@[simp] def r11 : List Bool := bits 70 [4, 5]
@[simp] def R11 (s4 s5 : V) : St := tab 70 21 (fu (fu dd 5 s5) 4 s4) dd
@[simp] def x11_0 : List Bool := bits 70 [0, 6]
@[simp] def X11_0 (s0 s6 : V) : St := tab 70 21 (fu (fu dd 6 s6) 0 s0) dd
@[simp] def h11_0 : List Bool := bits 70 [0, 1, 6, 18, 19, 20]
@[simp] def L11_0 (s0 s1 s6 s18 s19 s20 : V) : St := tab 70 21 (fu (fu (fu (fu (fu (fu dd 20 s20) 19 s19) 18 s18) 6 s6) 1 s1) 0 s0) dd
@[simp] def x11_1 : List Bool := bits 70 [0, 1, 6, 18, 19, 20]
@[simp] def X11_1 (s0 s1 s6 s18 s19 s20 : V) : St := tab 70 21 (fu (fu (fu (fu (fu (fu dd 20 s20) 19 s19) 18 s18) 6 s6) 1 s1) 0 s0) dd
def b11_0 : MC := .seq (.scr h11_0)
 (.seq (.ops [⟨none, .bin 21 .lss .num (.t 20) (.t 19)⟩])
 (.seq (.cnd (.t 21)
   .skip
   (.seq (.scr x11_0) (.ex 0)))
 (.seq (.seq (.blk 1 (.seq (.ops [⟨none, .ixs 22 2 (.t 18) (.t 20)⟩,
     ⟨none, .ldn 23 2 (.t 22)⟩,
     ⟨none, .alc 8 [(.v (.int .i64 0)), (.v (.int .i64 0))]⟩,
     ⟨none, .stn none 2 (.t 8) (.t 23)⟩])
   (.drw [⟨none, .mv 24 (.t 6)⟩,
    ⟨none, .fa 25 1 (.t 8)⟩,
    ⟨none, .ld1 26 (.t 25)⟩,
    ⟨none, .ixs 27 1 (.t 24) (.t 26)⟩,
    ⟨none, .ld1 28 (.t 27)⟩,
    ⟨none, .fa 29 0 (.t 8)⟩,
    ⟨none, .ld1 30 (.t 29)⟩,
    ⟨none, .bin 31 .shl .num (.c (.v (.int .u32 1))) (.t 30)⟩] [⟨none, .bin 32 .or .num (.t 28) (.t 31)⟩,
    ⟨none, .ixs 33 1 (.t 24) (.t 26)⟩,
    ⟨none, .stn none 1 (.t 33) (.t 32)⟩]))) (.scr x11_1))
 (.ops [⟨none, .bin 34 .add .num (.t 20) (.c (.v (.int .i64 1)))⟩,
  ⟨none, .mv 20 (.t 34)⟩]))))
@[simp] def x11_2 : List Bool := bits 70 [10]
@[simp] def X11_2 (s10 : V) : St := tab 70 21 (fu dd 10 s10) dd
@[simp] def h11_1 : List Bool := bits 70 [0, 6, 9, 10]
@[simp] def L11_1 (s0 s6 s9 s10 : V) : St := tab 70 21 (fu (fu (fu (fu dd 10 s10) 9 s9) 6 s6) 0 s0) dd
@[simp] def x11_3 : List Bool := bits 70 [0, 6, 9, 10]
@[simp] def X11_3 (s0 s6 s9 s10 : V) : St := tab 70 21 (fu (fu (fu (fu dd 10 s10) 9 s9) 6 s6) 0 s0) dd
@[simp] def x11_4 : List Bool := bits 70 [0, 6, 9, 10, 11]
@[simp] def X11_4 (s0 s6 s9 s10 s11 : V) : St := tab 70 21 (fu (fu (fu (fu (fu dd 11 s11) 10 s10) 9 s9) 6 s6) 0 s0) dd
@[simp] def h11_2 : List Bool := bits 70 [0, 6, 9, 10, 11]
@[simp] def L11_2 (s0 s6 s9 s10 s11 : V) : St := tab 70 21 (fu (fu (fu (fu (fu dd 11 s11) 10 s10) 9 s9) 6 s6) 0 s0) dd
@[simp] def x11_5 : List Bool := bits 70 [0, 6, 9, 10, 11]
@[simp] def X11_5 (s0 s6 s9 s10 s11 : V) : St := tab 70 21 (fu (fu (fu (fu (fu dd 11 s11) 10 s10) 9 s9) 6 s6) 0 s0) dd
def b11_2 : MC := .seq (.scr h11_2)
 (.seq (.seq (.ops (⟨none, .mv 39 (.t 11)⟩ ::
    ⟨none, .mv 40 (.t 0)⟩ ::
    ⟨none, .bin 41 .lss .num (.t 39) (.t 40)⟩ ::
    ⟨none, .mv 42 (.t 41)⟩ ::
    ⟨some (42, true), .mv 43 (.t 9)⟩ ::
    ⟨some (42, true), .mv 44 (.t 11)⟩ ::
    ⟨some (42, true), .call (some 45) 28 [(.t 43), (.t 44)]⟩ ::
    ⟨some (42, true), .mv 46 (.t 45)⟩ ::
    ⟨some (46, false), .mv 47 (.t 6)⟩ ::
    ⟨some (46, false), .mv 48 (.t 11)⟩ ::
    ⟨some (46, false), .ixs 49 1 (.t 47) (.t 48)⟩ ::
    ⟨some (46, false), .ld1 50 (.t 49)⟩ ::
    ⟨some (46, false), .mv 51 (.t 9)⟩ ::
    ⟨some (46, false), .bin 52 .andNot .num (.t 50) (.t 51)⟩ ::
    ⟨some (46, false), .bin 53 .neq .num (.t 52) (.c (.v (.int .u32 0)))⟩ ::
    ⟨some (42, true), .pick 54 (.t 46) (.c (.v (.bool true))) (.t 53)⟩ ::
    ⟨none, .pick 55 (.t 42) (.t 54) (.c (.v (.bool false)))⟩ :: []))
  (.cnd (.t 55)
   .skip
   (.seq (.scr x11_4) (.ex 4))))
 (.seq (.blk 5 (.ops [⟨none, .mv 56 (.t 11)⟩,
   ⟨none, .bin 57 .add .num (.t 56) (.c (.v (.int .i64 1)))⟩,
   ⟨none, .asg 11 (.t 57)⟩])) (.scr x11_5)))
def b11_1 : MC := .seq (.scr h11_1)
 (.seq (.seq (.ops [⟨none, .mv 35 (.t 10)⟩,
    ⟨none, .len 36 false (.t 35)⟩,
    ⟨none, .mv 37 (.t 0)⟩,
    ⟨none, .bin 38 .lss .num (.t 36) (.t 37)⟩])
  (.cnd (.t 38)
   .skip
   (.seq (.scr x11_2) (.ex 2))))
 (.seq (.blk 3 (.seq (.ops [⟨none, .asg 11 (.c (.v (.int .i64 0)))⟩])
  (.seq (.seq (.blk 4 (.lop b11_2)) (.scr x11_4))
  (.seq (.seq (.ops [⟨none, .mv 58 (.t 11)⟩,
     ⟨none, .mv 59 (.t 0)⟩,
     ⟨none, .bin 60 .eql .num (.t 58) (.t 59)⟩])
   (.cnd (.t 60)
    (.seq (.ops [⟨none, .asg 4 (.c (.nd (.sl true 1 0) []))⟩,
      ⟨none, .asg 5 (.c (.v (.int .i64 11)))⟩])
    (.seq (.scr r11) .ret))
    .skip))
  (.seq (.ops [⟨none, .mv 61 (.t 9)⟩,
    ⟨none, .mv 62 (.t 11)⟩,
    ⟨none, .bin 63 .shl .num (.c (.v (.int .u32 1))) (.t 62)⟩,
    ⟨none, .bin 64 .or .num (.t 61) (.t 63)⟩,
    ⟨none, .asg 9 (.t 64)⟩])
  (.ops [⟨none, .mv 65 (.t 10)⟩,
   ⟨none, .mv 66 (.t 11)⟩,
   ⟨none, .bs 67 1 1 [(.v (.int .i64 0))] [(0, 1, (.t 66))]⟩,
   ⟨none, .app 68 1 (.t 65) (.t 67)⟩,
   ⟨none, .asg 10 (.t 68)⟩])))))) (.scr x11_3)))
def c11 : MF := ⟨(.seq (.ops [⟨none, .asg 4 (.c (.nd (.sl true 1 0) []))⟩,
   ⟨none, .asg 5 (.c (.v (.int .i64 0)))⟩])
 (.seq (.seq (.ops [⟨none, .mv 12 (.t 0)⟩,
    ⟨none, .mv 13 (.t 1)⟩,
    ⟨none, .call (some 14) 20 [(.t 12), (.t 13)]⟩,
    ⟨none, .un 15 .not (.t 14)⟩])
  (.cnd (.t 15)
   (.seq (.ops [⟨none, .asg 4 (.c (.nd (.sl true 1 0) []))⟩,
     ⟨none, .asg 5 (.c (.v (.int .i64 1)))⟩])
   (.seq (.scr r11) .ret))
   .skip))
 (.seq (.ops [⟨none, .mv 16 (.t 0)⟩,
   ⟨none, .mks 17 1 [(.v (.int .u32 0))] (.t 16) (.t 16)⟩,
   ⟨none, .asg 6 (.t 17)⟩])
 (.seq (.seq (.ops [⟨none, .mv 18 (.t 1)⟩,
    ⟨none, .len 19 false (.t 18)⟩,
    ⟨none, .mv 20 (.c (.v (.int .i64 0)))⟩])
  (.seq (.blk 0 (.lop b11_0)) (.scr x11_0)))
 (.seq (.ops [⟨none, .asg 9 (.c (.v (.int .u32 0)))⟩])
 (.seq (.ops [⟨none, .asg 10 (.c (.nd (.sl true 1 0) []))⟩])
 (.seq (.seq (.blk 2 (.lop b11_1)) (.scr x11_2))
 (.seq (.ops [⟨none, .mv 69 (.t 10)⟩,
   ⟨none, .asg 4 (.t 69)⟩,
   ⟨none, .asg 5 (.c (.v (.int .i64 0)))⟩])
 (.seq (.scr r11) .ret))))))))),
  70, [4, 5]⟩

/-- coinage/poset.Levels -/
abbrev K12 : Nat := 35
def hints12 : List (List Bool) := [bits 59 [4, 5], bits 59 [9], bits 59 [0, 6, 8, 9, 27, 28, 29], bits 59 [9], bits 59 [0, 6, 8, 9, 27, 28, 29], bits 59 [0, 6, 8, 9, 27, 28, 29], bits 59 [0, 6, 8, 9, 11, 27, 28, 29, 33, 34], bits 59 [0, 6, 8, 9, 27, 28, 29], bits 59 [0, 6, 8, 9, 11, 27, 28, 29, 33, 34], bits 59 [4, 5]]
@[simp] def r12 : List Bool := bits 59 [4, 5]
@[simp] def R12 (s4 s5 : V) : St := tab 59 35 (fu (fu dd 5 s5) 4 s4) dd
@[simp] def x12_0 : List Bool := bits 59 [9]
@[simp] def X12_0 (s9 : V) : St := tab 59 35 (fu dd 9 s9) dd
@[simp] def h12_0 : List Bool := bits 59 [0, 6, 8, 9, 27, 28, 29]
@[simp] def L12_0 (s0 s6 s8 s9 s27 s28 s29 : V) : St := tab 59 35 (fu (fu (fu (fu (fu (fu (fu dd 29 s29) 28 s28) 27 s27) 9 s9) 8 s8) 6 s6) 0 s0) dd
@[simp] def x12_1 : List Bool := bits 59 [0, 6, 8, 9, 27, 28, 29]
@[simp] def X12_1 (s0 s6 s8 s9 s27 s28 s29 : V) : St := tab 59 35 (fu (fu (fu (fu (fu (fu (fu dd 29 s29) 28 s28) 27 s27) 9 s9) 8 s8) 6 s6) 0 s0) dd
@[simp] def x12_2 : List Bool := bits 59 [0, 6, 8, 9, 27, 28, 29]
@[simp] def X12_2 (s0 s6 s8 s9 s27 s28 s29 : V) : St := tab 59 35 (fu (fu (fu (fu (fu (fu (fu dd 29 s29) 28 s28) 27 s27) 9 s9) 8 s8) 6 s6) 0 s0) dd
@[simp] def h12_1 : List Bool := bits 59 [0, 6, 8, 9, 11, 27, 28, 29, 33, 34]
@[simp] def L12_1 (s0 s6 s8 s9 s11 s27 s28 s29 s33 s34 : V) : St := tab 59 35 (fu (fu (fu (fu (fu (fu (fu (fu (fu (fu dd 34 s34) 33 s33) 29 s29) 28 s28) 27 s27) 11 s11) 9 s9) 8 s8) 6 s6) 0 s0) dd
@[simp] def x12_3 : List Bool := bits 59 [0, 6, 8, 9, 11, 27, 28, 29, 33, 34]
@[simp] def X12_3 (s0 s6 s8 s9 s11 s27 s28 s29 s33 s34 : V) : St := tab 59 35 (fu (fu (fu (fu (fu (fu (fu (fu (fu (fu dd 34 s34) 33 s33) 29 s29) 28 s28) 27 s27) 11 s11) 9 s9) 8 s8) 6 s6) 0 s0) dd
def b12_1 : MC := .seq (.scr h12_1)
 (.seq (.ops [⟨none, .bin 35 .lss .num (.t 34) (.t 33)⟩])
 (.seq (.cnd (.t 35)
   .skip
   (.seq (.scr x12_2) (.ex 2)))
 (.seq (.seq (.blk 3 (.seq (.ops [⟨none, .mv 36 (.t 34)⟩,
     ⟨none, .asg 12 (.t 36)⟩])
   (.seq (.ops [⟨none, .mv 37 (.t 8)⟩,
     ⟨none, .mv 38 (.t 11)⟩,
     ⟨none, .ixs 39 1 (.t 37) (.t 38)⟩,
     ⟨none, .ld1 40 (.t 39)⟩,
     ⟨none, .mv 41 (.t 12)⟩,
     ⟨none, .call (some 42) 28 [(.t 40), (.t 41)]⟩])
   (.cnd (.t 42)
    (.drw [⟨none, .mv 43 (.t 9)⟩,
     ⟨none, .mv 44 (.t 12)⟩,
     ⟨none, .mv 45 (.t 9)⟩,
     ⟨none, .mv 46 (.t 12)⟩,
     ⟨none, .ixs 47 1 (.t 45) (.t 46)⟩,
     ⟨none, .ld1 48 (.t 47)⟩,
     ⟨none, .mv 49 (.t 9)⟩,
     ⟨none, .mv 50 (.t 11)⟩,
     ⟨none, .ixs 51 1 (.t 49) (.t 50)⟩,
     ⟨none, .ld1 52 (.t 51)⟩,
     ⟨none, .bin 53 .add .num (.t 52) (.c (.v (.int .i64 1)))⟩,
     ⟨none, .mm 54 true (.t 48) (.t 53)⟩] [⟨none, .ixs 55 1 (.t 43) (.t 44)⟩,
     ⟨none, .stn none 1 (.t 55) (.t 54)⟩])
    .skip)))) (.scr x12_3))
 (.ops [⟨none, .bin 56 .add .num (.t 34) (.c (.v (.int .i64 1)))⟩,
  ⟨none, .mv 34 (.t 56)⟩]))))
def b12_0 : MC := .seq (.scr h12_0)
 (.seq (.ops [⟨none, .bin 30 .lss .num (.t 29) (.t 28)⟩])
 (.seq (.cnd (.t 30)
   .skip
   (.seq (.scr x12_0) (.ex 0)))
 (.seq (.seq (.blk 1 (.seq (.ops [⟨none, .ixs 31 1 (.t 27) (.t 29)⟩,
     ⟨none, .ld1 32 (.t 31)⟩,
     ⟨none, .asg 11 (.t 32)⟩])
   (.seq (.ops [⟨none, .mv 33 (.t 0)⟩,
     ⟨none, .mv 34 (.c (.v (.int .i64 0)))⟩])
   (.seq (.blk 2 (.lop b12_1)) (.scr x12_2))))) (.scr x12_1))
 (.ops [⟨none, .bin 57 .add .num (.t 29) (.c (.v (.int .i64 1)))⟩,
  ⟨none, .mv 29 (.t 57)⟩]))))
def c12 : MF := ⟨(.seq (.ops [⟨none, .asg 4 (.c (.nd (.sl true 1 0) []))⟩,
   ⟨none, .asg 5 (.c (.v (.int .i64 0)))⟩])
 (.seq (.ops [⟨none, .mv 14 (.t 0)⟩,
   ⟨none, .mv 15 (.t 1)⟩,
   ⟨none, .call (some 16) 11 [(.t 14), (.t 15)]⟩,
   ⟨none, .mv 13 (.t 16)⟩,
   ⟨none, .ext 17 (.t 13) 0⟩,
   ⟨none, .ext 18 (.t 13) 1⟩,
   ⟨none, .asg 6 (.t 17)⟩,
   ⟨none, .asg 7 (.t 18)⟩])
 (.seq (.seq (.ops [⟨none, .mv 19 (.t 7)⟩,
    ⟨none, .bin 20 .neq .num (.t 19) (.c (.v (.int .i64 0)))⟩])
  (.cnd (.t 20)
   (.seq (.ops [⟨none, .mv 21 (.t 7)⟩,
     ⟨none, .asg 4 (.c (.nd (.sl true 1 0) []))⟩,
     ⟨none, .asg 5 (.t 21)⟩])
   (.seq (.scr r12) .ret))
   .skip))
 (.seq (.ops [⟨none, .mv 22 (.t 0)⟩,
   ⟨none, .mv 23 (.t 1)⟩,
   ⟨none, .call (some 24) 29 [(.t 22), (.t 23)]⟩,
   ⟨none, .asg 8 (.t 24)⟩])
 (.seq (.ops [⟨none, .mv 25 (.t 0)⟩,
   ⟨none, .mks 26 1 [(.v (.int .i64 0))] (.t 25) (.t 25)⟩,
   ⟨none, .asg 9 (.t 26)⟩])
 (.seq (.seq (.ops [⟨none, .mv 27 (.t 6)⟩,
    ⟨none, .len 28 false (.t 27)⟩,
    ⟨none, .mv 29 (.c (.v (.int .i64 0)))⟩])
  (.seq (.blk 0 (.lop b12_0)) (.scr x12_0)))
 (.seq (.ops [⟨none, .mv 58 (.t 9)⟩,
   ⟨none, .asg 4 (.t 58)⟩,
   ⟨none, .asg 5 (.c (.v (.int .i64 0)))⟩])
 (.seq (.scr r12) .ret)))))))),
  59, [4, 5]⟩

/-- coinage/coinageref06.Order -/
abbrev K13 : Nat := 11
def hints13 : List (List Bool) := [bits 63 [4, 5], bits 63 [6], bits 63 [0, 1, 6], bits 63 [6], bits 63 [0, 1, 6], bits 63 [0, 1, 6, 7], bits 63 [0, 1, 6, 7, 8], bits 63 [0, 1, 6, 7], bits 63 [0, 1, 6, 7, 8], bits 63 [0, 1, 6, 7, 8, 9], bits 63 [0, 1, 6, 7, 8, 9, 10], bits 63 [0, 1, 6, 7, 8, 9], bits 63 [0, 1, 6, 7, 8, 9, 10], bits 63 [4, 5], bits 63 [4, 5]]
@[simp] def r13 : List Bool := bits 63 [4, 5]
@[simp] def R13 (s4 s5 : V) : St := tab 63 11 (fu (fu dd 5 s5) 4 s4) dd
@[simp] def x13_0 : List Bool := bits 63 [6]
@[simp] def X13_0 (s6 : V) : St := tab 63 11 (fu dd 6 s6) dd
@[simp] def h13_0 : List Bool := bits 63 [0, 1, 6]
@[simp] def L13_0 (s0 s1 s6 : V) : St := tab 63 11 (fu (fu (fu dd 6 s6) 1 s1) 0 s0) dd
@[simp] def x13_1 : List Bool := bits 63 [0, 1, 6]
@[simp] def X13_1 (s0 s1 s6 : V) : St := tab 63 11 (fu (fu (fu dd 6 s6) 1 s1) 0 s0) dd
@[simp] def x13_2 : List Bool := bits 63 [0, 1, 6, 7]
@[simp] def X13_2 (s0 s1 s6 s7 : V) : St := tab 63 11 (fu (fu (fu (fu dd 7 s7) 6 s6) 1 s1) 0 s0) dd
@[simp] def h13_1 : List Bool := bits 63 [0, 1, 6, 7, 8]
@[simp] def L13_1 (s0 s1 s6 s7 s8 : V) : St := tab 63 11 (fu (fu (fu (fu (fu dd 8 s8) 7 s7) 6 s6) 1 s1) 0 s0) dd
@[simp] def x13_3 : List Bool := bits 63 [0, 1, 6, 7, 8]
@[simp] def X13_3 (s0 s1 s6 s7 s8 : V) : St := tab 63 11 (fu (fu (fu (fu (fu dd 8 s8) 7 s7) 6 s6) 1 s1) 0 s0) dd
@[simp] def x13_4 : List Bool := bits 63 [0, 1, 6, 7, 8, 9]
@[simp] def X13_4 (s0 s1 s6 s7 s8 s9 : V) : St := tab 63 11 (fu (fu (fu (fu (fu (fu dd 9 s9) 8 s8) 7 s7) 6 s6) 1 s1) 0 s0) dd
@[simp] def h13_2 : List Bool := bits 63 [0, 1, 6, 7, 8, 9, 10]
@[simp] def L13_2 (s0 s1 s6 s7 s8 s9 s10 : V) : St := tab 63 11 (fu (fu (fu (fu (fu (fu (fu dd 10 s10) 9 s9) 8 s8) 7 s7) 6 s6) 1 s1) 0 s0) dd
@[simp] def x13_5 : List Bool := bits 63 [0, 1, 6, 7, 8, 9, 10]
@[simp] def X13_5 (s0 s1 s6 s7 s8 s9 s10 : V) : St := tab 63 11 (fu (fu (fu (fu (fu (fu (fu dd 10 s10) 9 s9) 8 s8) 7 s7) 6 s6) 1 s1) 0 s0) dd
def b13_2 : MC := .seq (.scr h13_2)
 (.seq (.seq (.ops [⟨none, .mv 29 (.t 10)⟩,
    ⟨none, .mv 30 (.t 1)⟩,
    ⟨none, .len 31 false (.t 30)⟩,
    ⟨none, .bin 32 .lss .num (.t 29) (.t 31)⟩])
  (.cnd (.t 32)
   .skip
   (.seq (.scr x13_4) (.ex 4))))
 (.seq (.seq (.blk 5 (.ops (⟨none, .mv 35 (.t 9)⟩ ::
    ⟨none, .mv 36 (.t 35)⟩ ::
    ⟨some (36, true), .mv 37 (.t 1)⟩ ::
    ⟨some (36, true), .mv 38 (.t 10)⟩ ::
    ⟨some (36, true), .ixs 39 2 (.t 37) (.t 38)⟩ ::
    ⟨some (36, true), .fa 40 1 (.t 39)⟩ ::
    ⟨some (36, true), .ld1 41 (.t 40)⟩ ::
    ⟨some (36, true), .mv 42 (.t 8)⟩ ::
    ⟨some (36, true), .bin 43 .neq .num (.t 41) (.t 42)⟩ ::
    ⟨some (36, true), .mv 44 (.t 43)⟩ ::
    ⟨some (44, false), .mv 45 (.t 6)⟩ ::
    ⟨some (44, false), .mv 46 (.t 1)⟩ ::
    ⟨some (44, false), .mv 47 (.t 10)⟩ ::
    ⟨some (44, false), .ixs 48 2 (.t 46) (.t 47)⟩ ::
    ⟨some (44, false), .fa 49 0 (.t 48)⟩ ::
    ⟨some (44, false), .ld1 50 (.t 49)⟩ ::
    ⟨some (44, false), .call (some 51) 30 [(.t 45), (.t 50)]⟩ ::
    ⟨some (36, true), .pick 52 (.t 44) (.c (.v (.bool true))) (.t 51)⟩ ::
    ⟨none, .pick 53 (.t 36) (.t 52) (.c (.v (.bool false)))⟩ ::
    ⟨none, .asg 9 (.t 53)⟩ :: []))) (.scr x13_5))
 (.ops [⟨none, .mv 33 (.t 10)⟩,
  ⟨none, .bin 34 .add .num (.t 33) (.c (.v (.int .i64 1)))⟩,
  ⟨none, .asg 10 (.t 34)⟩])))
def b13_1 : MC := .seq (.scr h13_1)
 (.seq (.seq (.ops [⟨none, .mv 21 (.t 8)⟩,
    ⟨none, .bin 22 .geq .num (.t 21) (.c (.v (.int .i64 0)))⟩])
  (.cnd (.t 22)
   .skip
   (.seq (.scr x13_2) (.ex 2))))
 (.seq (.seq (.blk 3 (.seq (.ops [⟨none, .mv 25 (.t 6)⟩,
     ⟨none, .mv 26 (.t 8)⟩,
     ⟨none, .call (some 27) 30 [(.t 25), (.t 26)]⟩,
     ⟨none, .un 28 .not (.t 27)⟩,
     ⟨none, .asg 9 (.t 28)⟩])
   (.seq (.seq (.ops [⟨none, .asg 10 (.c (.v (.int .i64 0)))⟩])
    (.seq (.blk 4 (.lop b13_2)) (.scr x13_4)))
   (.seq (.ops [⟨none, .mv 54 (.t 9)⟩])
   (.cnd (.t 54)
    (.ops [⟨none, .mv 55 (.t 8)⟩,
     ⟨none, .asg 7 (.t 55)⟩])
    .skip))))) (.scr x13_3))
 (.ops [⟨none, .mv 23 (.t 8)⟩,
  ⟨none, .bin 24 .sub .num (.t 23) (.c (.v (.int .i64 1)))⟩,
  ⟨none, .asg 8 (.t 24)⟩])))
def b13_0 : MC := .seq (.scr h13_0)
 (.seq (.seq (.ops [⟨none, .mv 15 (.t 6)⟩,
    ⟨none, .len 16 false (.t 15)⟩,
    ⟨none, .mv 17 (.t 0)⟩,
    ⟨none, .bin 18 .lss .num (.t 16) (.t 17)⟩])
  (.cnd (.t 18)
   .skip
   (.seq (.scr x13_0) (.ex 0))))
 (.seq (.blk 1 (.seq (.ops [⟨none, .asg 7 (.c (.v (.int .i64 (-1))))⟩])
  (.seq (.seq (.ops [⟨none, .mv 19 (.t 0)⟩,
     ⟨none, .bin 20 .sub .num (.t 19) (.c (.v (.int .i64 1)))⟩,
     ⟨none, .asg 8 (.t 20)⟩])
   (.seq (.blk 2 (.lop b13_1)) (.scr x13_2)))
  (.seq (.seq (.ops [⟨none, .mv 56 (.t 7)⟩,
     ⟨none, .bin 57 .lss .num (.t 56) (.c (.v (.int .i64 0)))⟩])
   (.cnd (.t 57)
    (.seq (.ops [⟨none, .asg 4 (.c (.nd (.sl true 1 0) []))⟩,
      ⟨none, .asg 5 (.c (.v (.int .i64 11)))⟩])
    (.seq (.scr r13) .ret))
    .skip))
  (.ops [⟨none, .mv 58 (.t 6)⟩,
   ⟨none, .mv 59 (.t 7)⟩,
   ⟨none, .bs 60 1 1 [(.v (.int .i64 0))] [(0, 1, (.t 59))]⟩,
   ⟨none, .app 61 1 (.t 58) (.t 60)⟩,
   ⟨none, .asg 6 (.t 61)⟩]))))) (.scr x13_1)))
def c13 : MF := ⟨(.seq (.ops [⟨none, .asg 4 (.c (.nd (.sl true 1 0) []))⟩,
   ⟨none, .asg 5 (.c (.v (.int .i64 0)))⟩])
 (.seq (.seq (.ops [⟨none, .mv 11 (.t 0)⟩,
    ⟨none, .mv 12 (.t 1)⟩,
    ⟨none, .call (some 13) 21 [(.t 11), (.t 12)]⟩,
    ⟨none, .un 14 .not (.t 13)⟩])
  (.cnd (.t 14)
   (.seq (.ops [⟨none, .asg 4 (.c (.nd (.sl true 1 0) []))⟩,
     ⟨none, .asg 5 (.c (.v (.int .i64 1)))⟩])
   (.seq (.scr r13) .ret))
   .skip))
 (.seq (.ops [⟨none, .asg 6 (.c (.nd (.sl true 1 0) []))⟩])
 (.seq (.seq (.blk 0 (.lop b13_0)) (.scr x13_0))
 (.seq (.ops [⟨none, .mv 62 (.t 6)⟩,
   ⟨none, .asg 4 (.t 62)⟩,
   ⟨none, .asg 5 (.c (.v (.int .i64 0)))⟩])
 (.seq (.scr r13) .ret)))))),
  63, [4, 5]⟩

/-- coinage/coinageref06.Levels -/
abbrev K14 : Nat := 9
def hints14 : List (List Bool) := [bits 56 [4, 5], bits 56 [4, 5], bits 56 [6], bits 56 [0, 1, 6, 7], bits 56 [6], bits 56 [0, 1, 6, 7], bits 56 [0, 1, 6, 7], bits 56 [0, 1, 6, 7, 8], bits 56 [0, 1, 6, 7], bits 56 [0, 1, 6, 7, 8], bits 56 [4, 5]]
@[simp] def r14 : List Bool := bits 56 [4, 5]
@[simp] def R14 (s4 s5 : V) : St := tab 56 9 (fu (fu dd 5 s5) 4 s4) dd
@[simp] def x14_0 : List Bool := bits 56 [6]
@[simp] def X14_0 (s6 : V) : St := tab 56 9 (fu dd 6 s6) dd
@[simp] def h14_0 : List Bool := bits 56 [0, 1, 6, 7]
@[simp] def L14_0 (s0 s1 s6 s7 : V) : St := tab 56 9 (fu (fu (fu (fu dd 7 s7) 6 s6) 1 s1) 0 s0) dd
@[simp] def x14_1 : List Bool := bits 56 [0, 1, 6, 7]
@[simp] def X14_1 (s0 s1 s6 s7 : V) : St := tab 56 9 (fu (fu (fu (fu dd 7 s7) 6 s6) 1 s1) 0 s0) dd
@[simp] def x14_2 : List Bool := bits 56 [0, 1, 6, 7]
@[simp] def X14_2 (s0 s1 s6 s7 : V) : St := tab 56 9 (fu (fu (fu (fu dd 7 s7) 6 s6) 1 s1) 0 s0) dd
@[simp] def h14_1 : List Bool := bits 56 [0, 1, 6, 7, 8]
@[simp] def L14_1 (s0 s1 s6 s7 s8 : V) : St := tab 56 9 (fu (fu (fu (fu (fu dd 8 s8) 7 s7) 6 s6) 1 s1) 0 s0) dd
@[simp] def x14_3 : List Bool := bits 56 [0, 1, 6, 7, 8]
@[simp] def X14_3 (s0 s1 s6 s7 s8 : V) : St := tab 56 9 (fu (fu (fu (fu (fu dd 8 s8) 7 s7) 6 s6) 1 s1) 0 s0) dd
def b14_1 : MC := .seq (.scr h14_1)
 (.seq (.seq (.ops [⟨none, .mv 24 (.t 8)⟩,
    ⟨none, .mv 25 (.t 1)⟩,
    ⟨none, .len 26 false (.t 25)⟩,
    ⟨none, .bin 27 .lss .num (.t 24) (.t 26)⟩])
  (.cnd (.t 27)
   .skip
   (.seq (.scr x14_2) (.ex 2))))
 (.seq (.seq (.blk 3 (.drw (⟨none, .mv 30 (.t 6)⟩ ::
    ⟨none, .mv 31 (.t 1)⟩ ::
    ⟨none, .mv 32 (.t 8)⟩ ::
    ⟨none, .ixs 33 2 (.t 31) (.t 32)⟩ ::
    ⟨none, .fa 34 1 (.t 33)⟩ ::
    ⟨none, .ld1 35 (.t 34)⟩ ::
    ⟨none, .mv 36 (.t 6)⟩ ::
    ⟨none, .mv 37 (.t 1)⟩ ::
    ⟨none, .mv 38 (.t 8)⟩ ::
    ⟨none, .ixs 39 2 (.t 37) (.t 38)⟩ ::
    ⟨none, .fa 40 1 (.t 39)⟩ ::
    ⟨none, .ld1 41 (.t 40)⟩ ::
    ⟨none, .ixs 42 1 (.t 36) (.t 41)⟩ ::
    ⟨none, .ld1 43 (.t 42)⟩ ::
    ⟨none, .mv 44 (.t 6)⟩ ::
    ⟨none, .mv 45 (.t 1)⟩ ::
    ⟨none, .mv 46 (.t 8)⟩ ::
    ⟨none, .ixs 47 2 (.t 45) (.t 46)⟩ ::
    ⟨none, .fa 48 0 (.t 47)⟩ ::
    ⟨none, .ld1 49 (.t 48)⟩ ::
    ⟨none, .ixs 50 1 (.t 44) (.t 49)⟩ ::
    ⟨none, .ld1 51 (.t 50)⟩ ::
    ⟨none, .bin 52 .add .num (.t 51) (.c (.v (.int .i64 1)))⟩ ::
    ⟨none, .mm 53 true (.t 43) (.t 52)⟩ :: []) [⟨none, .ixs 54 1 (.t 30) (.t 35)⟩,
    ⟨none, .stn none 1 (.t 54) (.t 53)⟩])) (.scr x14_3))
 (.ops [⟨none, .mv 28 (.t 8)⟩,
  ⟨none, .bin 29 .add .num (.t 28) (.c (.v (.int .i64 1)))⟩,
  ⟨none, .asg 8 (.t 29)⟩])))
def b14_0 : MC := .seq (.scr h14_0)
 (.seq (.seq (.ops [⟨none, .mv 19 (.t 7)⟩,
    ⟨none, .mv 20 (.t 0)⟩,
    ⟨none, .bin 21 .lss .num (.t 19) (.t 20)⟩])
  (.cnd (.t 21)
   .skip
   (.seq (.scr x14_0) (.ex 0))))
 (.seq (.seq (.blk 1 (.seq (.ops [⟨none, .asg 8 (.c (.v (.int .i64 0)))⟩])
   (.seq (.blk 2 (.lop b14_1)) (.scr x14_2)))) (.scr x14_1))
 (.ops [⟨none, .mv 22 (.t 7)⟩,
  ⟨none, .bin 23 .add .num (.t 22) (.c (.v (.int .i64 1)))⟩,
  ⟨none, .asg 7 (.t 23)⟩])))
def c14 : MF := ⟨(.seq (.ops [⟨none, .asg 4 (.c (.nd (.sl true 1 0) []))⟩,
   ⟨none, .asg 5 (.c (.v (.int .i64 0)))⟩])
 (.seq (.seq (.ops [⟨none, .mv 9 (.t 0)⟩,
    ⟨none, .mv 10 (.t 1)⟩,
    ⟨none, .call (some 11) 21 [(.t 9), (.t 10)]⟩,
    ⟨none, .un 12 .not (.t 11)⟩])
  (.cnd (.t 12)
   (.seq (.ops [⟨none, .asg 4 (.c (.nd (.sl true 1 0) []))⟩,
     ⟨none, .asg 5 (.c (.v (.int .i64 1)))⟩])
   (.seq (.scr r14) .ret))
   .skip))
 (.seq (.seq (.ops [⟨none, .mv 13 (.t 0)⟩,
    ⟨none, .mv 14 (.t 1)⟩,
    ⟨none, .call (some 15) 23 [(.t 13), (.t 14)]⟩,
    ⟨none, .un 16 .not (.t 15)⟩])
  (.cnd (.t 16)
   (.seq (.ops [⟨none, .asg 4 (.c (.nd (.sl true 1 0) []))⟩,
     ⟨none, .asg 5 (.c (.v (.int .i64 11)))⟩])
   (.seq (.scr r14) .ret))
   .skip))
 (.seq (.ops [⟨none, .mv 17 (.t 0)⟩,
   ⟨none, .mks 18 1 [(.v (.int .i64 0))] (.t 17) (.t 17)⟩,
   ⟨none, .asg 6 (.t 18)⟩])
 (.seq (.seq (.ops [⟨none, .asg 7 (.c (.v (.int .i64 0)))⟩])
  (.seq (.blk 0 (.lop b14_0)) (.scr x14_0)))
 (.seq (.ops [⟨none, .mv 55 (.t 6)⟩,
   ⟨none, .asg 4 (.t 55)⟩,
   ⟨none, .asg 5 (.c (.v (.int .i64 0)))⟩])
 (.seq (.scr r14) .ret))))))),
  56, [4, 5]⟩

/-- coinage/coinagebase.Ints -/
abbrev K15 : Nat := 6
def hints15 : List (List Bool) := [bits 26 [4], bits 26 [], bits 26 [0, 1, 5], bits 26 [], bits 26 [0, 1, 5], bits 26 [4], bits 26 [4]]
@[simp] def r15 : List Bool := bits 26 [4]
@[simp] def R15 (s4 : V) : St := tab 26 6 (fu dd 4 s4) dd
@[simp] def x15_0 : List Bool := bits 26 []
@[simp] def X15_0 : St := tab 26 6 dd dd
@[simp] def h15_0 : List Bool := bits 26 [0, 1, 5]
@[simp] def L15_0 (s0 s1 s5 : V) : St := tab 26 6 (fu (fu (fu dd 5 s5) 1 s1) 0 s0) dd
@[simp] def x15_1 : List Bool := bits 26 [0, 1, 5]
@[simp] def X15_1 (s0 s1 s5 : V) : St := tab 26 6 (fu (fu (fu dd 5 s5) 1 s1) 0 s0) dd
def b15_0 : MC := .seq (.scr h15_0)
 (.seq (.seq (.ops [⟨none, .mv 11 (.t 5)⟩,
    ⟨none, .mv 12 (.t 0)⟩,
    ⟨none, .len 13 false (.t 12)⟩,
    ⟨none, .bin 14 .lss .num (.t 11) (.t 13)⟩])
  (.cnd (.t 14)
   .skip
   (.seq (.scr x15_0) (.ex 0))))
 (.seq (.seq (.blk 1 (.seq (.drw [⟨none, .mv 17 (.t 0)⟩,
     ⟨none, .mv 18 (.t 5)⟩,
     ⟨none, .ixs 19 1 (.t 17) (.t 18)⟩,
     ⟨none, .ld1 20 (.t 19)⟩,
     ⟨none, .mv 21 (.t 1)⟩,
     ⟨none, .mv 22 (.t 5)⟩,
     ⟨none, .ixs 23 1 (.t 21) (.t 22)⟩,
     ⟨none, .ld1 24 (.t 23)⟩] [⟨none, .bin 25 .neq .num (.t 20) (.t 24)⟩])
   (.cnd (.t 25)
    (.seq (.ops [⟨none, .asg 4 (.c (.v (.bool false)))⟩])
    (.seq (.scr r15) .ret))
    .skip))) (.scr x15_1))
 (.ops [⟨none, .mv 15 (.t 5)⟩,
  ⟨none, .bin 16 .add .num (.t 15) (.c (.v (.int .i64 1)))⟩,
  ⟨none, .asg 5 (.t 16)⟩])))
def c15 : MF := ⟨(.seq (.ops [⟨none, .asg 4 (.c (.v (.bool false)))⟩])
 (.seq (.seq (.ops [⟨none, .mv 6 (.t 0)⟩,
    ⟨none, .len 7 false (.t 6)⟩,
    ⟨none, .mv 8 (.t 1)⟩,
    ⟨none, .len 9 false (.t 8)⟩,
    ⟨none, .bin 10 .neq .num (.t 7) (.t 9)⟩])
  (.cnd (.t 10)
   (.seq (.ops [⟨none, .asg 4 (.c (.v (.bool false)))⟩])
   (.seq (.scr r15) .ret))
   .skip))
 (.seq (.seq (.ops [⟨none, .asg 5 (.c (.v (.int .i64 0)))⟩])
  (.seq (.blk 0 (.lop b15_0)) (.scr x15_0)))
 (.seq (.ops [⟨none, .asg 4 (.c (.v (.bool true)))⟩])
 (.seq (.scr r15) .ret))))),
  26, [4]⟩

/-- coinage/poset.Reaches -/
abbrev K16 : Nat := 9
def hints16 : List (List Bool) := [bits 40 [8]]
@[simp] def r16 : List Bool := bits 40 [8]
@[simp] def R16 (s8 : V) : St := tab 40 9 (fu dd 8 s8) dd
def c16 : MF := ⟨(.seq (.ops [⟨none, .asg 8 (.c (.v (.bool false)))⟩])
 (.seq (.ops (⟨none, .mv 9 (.t 0)⟩ ::
   ⟨none, .mv 10 (.t 1)⟩ ::
   ⟨none, .call (some 11) 20 [(.t 9), (.t 10)]⟩ ::
   ⟨none, .mv 12 (.t 11)⟩ ::
   ⟨some (12, true), .mv 13 (.t 2)⟩ ::
   ⟨some (12, true), .bin 14 .geq .num (.t 13) (.c (.v (.int .i64 0)))⟩ ::
   ⟨none, .pick 15 (.t 12) (.t 14) (.c (.v (.bool false)))⟩ ::
   ⟨none, .mv 16 (.t 15)⟩ ::
   ⟨some (16, true), .mv 17 (.t 2)⟩ ::
   ⟨some (16, true), .mv 18 (.t 0)⟩ ::
   ⟨some (16, true), .bin 19 .lss .num (.t 17) (.t 18)⟩ ::
   ⟨none, .pick 20 (.t 16) (.t 19) (.c (.v (.bool false)))⟩ ::
   ⟨none, .mv 21 (.t 20)⟩ ::
   ⟨some (21, true), .mv 22 (.t 3)⟩ ::
   ⟨some (21, true), .bin 23 .geq .num (.t 22) (.c (.v (.int .i64 0)))⟩ ::
   ⟨none, .pick 24 (.t 21) (.t 23) (.c (.v (.bool false)))⟩ ::
   ⟨none, .mv 25 (.t 24)⟩ ::
   ⟨some (25, true), .mv 26 (.t 3)⟩ ::
   ⟨some (25, true), .mv 27 (.t 0)⟩ ::
   ⟨some (25, true), .bin 28 .lss .num (.t 26) (.t 27)⟩ ::
   ⟨none, .pick 29 (.t 25) (.t 28) (.c (.v (.bool false)))⟩ ::
   ⟨none, .mv 30 (.t 29)⟩ ::
   ⟨some (30, true), .mv 31 (.t 0)⟩ ::
   ⟨some (30, true), .mv 32 (.t 1)⟩ ::
   ⟨some (30, true), .call (some 33) 31 [(.t 31), (.t 32)]⟩ ::
   ⟨some (30, true), .mv 34 (.t 2)⟩ ::
   ⟨some (30, true), .ixs 35 1 (.t 33) (.t 34)⟩ ::
   ⟨some (30, true), .ld1 36 (.t 35)⟩ ::
   ⟨some (30, true), .mv 37 (.t 3)⟩ ::
   ⟨some (30, true), .call (some 38) 28 [(.t 36), (.t 37)]⟩ ::
   ⟨none, .pick 39 (.t 30) (.t 38) (.c (.v (.bool false)))⟩ ::
   ⟨none, .asg 8 (.t 39)⟩ :: []))
 (.seq (.scr r16) .ret))),
  40, [8]⟩

/-- coinage/poset.Induced -/
abbrev K17 : Nat := 65
def hints17 : List (List Bool) := [bits 98 [6, 7], bits 98 [0, 1, 2, 8], bits 98 [0, 1, 2, 8, 22, 23], bits 98 [0, 1, 2, 8], bits 98 [0, 1, 2, 8, 22, 23], bits 98 [1, 8], bits 98 [0, 1, 2, 8, 30, 31, 32], bits 98 [1, 8], bits 98 [0, 1, 2, 8, 30, 31, 32], bits 98 [6, 7], bits 98 [12], bits 98 [1, 8, 12, 62, 63, 64], bits 98 [12], bits 98 [1, 8, 12, 62, 63, 64], bits 98 [6, 7]]
@[simp] def r17 : List Bool := bits 98 [6, 7]
@[simp] def R17 (s6 s7 : V) : St := tab 98 65 (fu (fu dd 7 s7) 6 s6) dd
@[simp] def x17_0 : List Bool := bits 98 [0, 1, 2, 8]
@[simp] def X17_0 (s0 s1 s2 s8 : V) : St := tab 98 65 (fu (fu (fu (fu dd 8 s8) 2 s2) 1 s1) 0 s0) dd
@[simp] def h17_0 : List Bool := bits 98 [0, 1, 2, 8, 22, 23]
@[simp] def L17_0 (s0 s1 s2 s8 s22 s23 : V) : St := tab 98 65 (fu (fu (fu (fu (fu (fu dd 23 s23) 22 s22) 8 s8) 2 s2) 1 s1) 0 s0) dd
@[simp] def x17_1 : List Bool := bits 98 [0, 1, 2, 8, 22, 23]
@[simp] def X17_1 (s0 s1 s2 s8 s22 s23 : V) : St := tab 98 65 (fu (fu (fu (fu (fu (fu dd 23 s23) 22 s22) 8 s8) 2 s2) 1 s1) 0 s0) dd
def b17_0 : MC := .seq (.scr h17_0)
 (.seq (.ops [⟨none, .bin 24 .lss .num (.t 23) (.t 22)⟩])
 (.seq (.cnd (.t 24)
   .skip
   (.seq (.scr x17_0) (.ex 0)))
 (.seq (.seq (.blk 1 (.seq (.ops [⟨none, .mv 25 (.t 23)⟩,
     ⟨none, .asg 9 (.t 25)⟩])
   (.ops [⟨none, .mv 26 (.t 8)⟩,
    ⟨none, .mv 27 (.t 9)⟩,
    ⟨none, .ixs 28 1 (.t 26) (.t 27)⟩,
    ⟨none, .stn none 1 (.t 28) (.c (.v (.int .i64 (-1))))⟩]))) (.scr x17_1))
 (.ops [⟨none, .bin 29 .add .num (.t 23) (.c (.v (.int .i64 1)))⟩,
  ⟨none, .mv 23 (.t 29)⟩]))))
@[simp] def x17_2 : List Bool := bits 98 [1, 8]
@[simp] def X17_2 (s1 s8 : V) : St := tab 98 65 (fu (fu dd 8 s8) 1 s1) dd
@[simp] def h17_1 : List Bool := bits 98 [0, 1, 2, 8, 30, 31, 32]
@[simp] def L17_1 (s0 s1 s2 s8 s30 s31 s32 : V) : St := tab 98 65 (fu (fu (fu (fu (fu (fu (fu dd 32 s32) 31 s31) 30 s30) 8 s8) 2 s2) 1 s1) 0 s0) dd
@[simp] def x17_3 : List Bool := bits 98 [0, 1, 2, 8, 30, 31, 32]
@[simp] def X17_3 (s0 s1 s2 s8 s30 s31 s32 : V) : St := tab 98 65 (fu (fu (fu (fu (fu (fu (fu dd 32 s32) 31 s31) 30 s30) 8 s8) 2 s2) 1 s1) 0 s0) dd
def b17_1 : MC := .seq (.scr h17_1)
 (.seq (.ops [⟨none, .bin 33 .lss .num (.t 32) (.t 31)⟩])
 (.seq (.cnd (.t 33)
   .skip
   (.seq (.scr x17_2) (.ex 2)))
 (.seq (.seq (.blk 3 (.seq (.ops [⟨none, .mv 34 (.t 32)⟩,
     ⟨none, .ixs 35 1 (.t 30) (.t 32)⟩,
     ⟨none, .ld1 36 (.t 35)⟩,
     ⟨none, .asg 10 (.t 34)⟩,
     ⟨none, .asg 11 (.t 36)⟩])
   (.seq (.seq (.ops (⟨none, .mv 37 (.t 11)⟩ ::
      ⟨none, .bin 38 .lss .num (.t 37) (.c (.v (.int .i64 0)))⟩ ::
      ⟨none, .mv 39 (.t 38)⟩ ::
      ⟨some (39, false), .mv 40 (.t 11)⟩ ::
      ⟨some (39, false), .mv 41 (.t 0)⟩ ::
      ⟨some (39, false), .bin 42 .geq .num (.t 40) (.t 41)⟩ ::
      ⟨none, .pick 43 (.t 39) (.c (.v (.bool true))) (.t 42)⟩ ::
      ⟨none, .mv 44 (.t 43)⟩ ::
      ⟨some (44, false), .mv 45 (.t 10)⟩ ::
      ⟨some (44, false), .bin 46 .gtr .num (.t 45) (.c (.v (.int .i64 0)))⟩ ::
      ⟨some (44, false), .mv 47 (.t 46)⟩ ::
      ⟨some (47, true), .mv 48 (.t 11)⟩ ::
      ⟨some (47, true), .mv 49 (.t 2)⟩ ::
      ⟨some (47, true), .mv 50 (.t 10)⟩ ::
      ⟨some (47, true), .bin 51 .sub .num (.t 50) (.c (.v (.int .i64 1)))⟩ ::
      ⟨some (47, true), .ixs 52 1 (.t 49) (.t 51)⟩ ::
      ⟨some (47, true), .ld1 53 (.t 52)⟩ ::
      ⟨some (47, true), .bin 54 .leq .num (.t 48) (.t 53)⟩ ::
      ⟨some (44, false), .pick 55 (.t 47) (.t 54) (.c (.v (.bool false)))⟩ ::
      ⟨none, .pick 56 (.t 44) (.c (.v (.bool true))) (.t 55)⟩ :: []))
    (.cnd (.t 56)
     (.seq (.ops [⟨none, .asg 6 (.c (.nd (.sl true 2 0) []))⟩,
       ⟨none, .asg 7 (.c (.v (.int .i64 1)))⟩])
     (.seq (.scr r17) .ret))
     .skip))
   (.ops [⟨none, .mv 57 (.t 8)⟩,
    ⟨none, .mv 58 (.t 11)⟩,
    ⟨none, .mv 59 (.t 10)⟩,
    ⟨none, .ixs 60 1 (.t 57) (.t 58)⟩,
    ⟨none, .stn none 1 (.t 60) (.t 59)⟩])))) (.scr x17_3))
 (.ops [⟨none, .bin 61 .add .num (.t 32) (.c (.v (.int .i64 1)))⟩,
  ⟨none, .mv 32 (.t 61)⟩]))))
@[simp] def x17_4 : List Bool := bits 98 [12]
@[simp] def X17_4 (s12 : V) : St := tab 98 65 (fu dd 12 s12) dd
@[simp] def h17_2 : List Bool := bits 98 [1, 8, 12, 62, 63, 64]
@[simp] def L17_2 (s1 s8 s12 s62 s63 s64 : V) : St := tab 98 65 (fu (fu (fu (fu (fu (fu dd 64 s64) 63 s63) 62 s62) 12 s12) 8 s8) 1 s1) dd
@[simp] def x17_5 : List Bool := bits 98 [1, 8, 12, 62, 63, 64]
@[simp] def X17_5 (s1 s8 s12 s62 s63 s64 : V) : St := tab 98 65 (fu (fu (fu (fu (fu (fu dd 64 s64) 63 s63) 62 s62) 12 s12) 8 s8) 1 s1) dd
def b17_2 : MC := .seq (.scr h17_2)
 (.seq (.ops [⟨none, .bin 65 .lss .num (.t 64) (.t 63)⟩])
 (.seq (.cnd (.t 65)
   .skip
   (.seq (.scr x17_4) (.ex 4)))
 (.seq (.seq (.blk 5 (.seq (.ops [⟨none, .ixs 66 2 (.t 62) (.t 64)⟩,
     ⟨none, .ldn 67 2 (.t 66)⟩,
     ⟨none, .alc 14 [(.v (.int .i64 0)), (.v (.int .i64 0))]⟩,
     ⟨none, .stn none 2 (.t 14) (.t 67)⟩])
   (.seq (.ops [⟨none, .mv 68 (.t 8)⟩,
     ⟨none, .fa 69 0 (.t 14)⟩,
     ⟨none, .ld1 70 (.t 69)⟩,
     ⟨none, .ixs 71 1 (.t 68) (.t 70)⟩,
     ⟨none, .ld1 72 (.t 71)⟩,
     ⟨none, .bin 73 .geq .num (.t 72) (.c (.v (.int .i64 0)))⟩,
     ⟨none, .mv 74 (.t 73)⟩,
     ⟨some (74, true), .mv 75 (.t 8)⟩,
     ⟨some (74, true), .fa 76 1 (.t 14)⟩,
     ⟨some (74, true), .ld1 77 (.t 76)⟩,
     ⟨some (74, true), .ixs 78 1 (.t 75) (.t 77)⟩,
     ⟨some (74, true), .ld1 79 (.t 78)⟩,
     ⟨some (74, true), .bin 80 .geq .num (.t 79) (.c (.v (.int .i64 0)))⟩,
     ⟨none, .pick 81 (.t 74) (.t 80) (.c (.v (.bool false)))⟩])
   (.cnd (.t 81)
    (.drw [⟨none, .mv 82 (.t 12)⟩,
     ⟨none, .mv 83 (.t 8)⟩,
     ⟨none, .fa 84 0 (.t 14)⟩,
     ⟨none, .ld1 85 (.t 84)⟩,
     ⟨none, .ixs 86 1 (.t 83) (.t 85)⟩,
     ⟨none, .ld1 87 (.t 86)⟩,
     ⟨none, .mv 88 (.t 8)⟩,
     ⟨none, .fa 89 1 (.t 14)⟩,
     ⟨none, .ld1 90 (.t 89)⟩,
     ⟨none, .ixs 91 1 (.t 88) (.t 90)⟩,
     ⟨none, .ld1 92 (.t 91)⟩,
     ⟨none, .bld 93 [(.v (.int .i64 0)), (.v (.int .i64 0))] [(0, 1, (.t 87)), (1, 1, (.t 92))]⟩,
     ⟨none, .bs 94 2 1 [(.v (.int .i64 0)), (.v (.int .i64 0))] [(0, 2, (.t 93))]⟩] [⟨none, .app 95 2 (.t 82) (.t 94)⟩,
     ⟨none, .asg 12 (.t 95)⟩])
    .skip)))) (.scr x17_5))
 (.ops [⟨none, .bin 96 .add .num (.t 64) (.c (.v (.int .i64 1)))⟩,
  ⟨none, .mv 64 (.t 96)⟩]))))
def c17 : MF := ⟨(.seq (.ops [⟨none, .asg 6 (.c (.nd (.sl true 2 0) []))⟩,
   ⟨none, .asg 7 (.c (.v (.int .i64 0)))⟩])
 (.seq (.seq (.ops [⟨none, .mv 15 (.t 0)⟩,
    ⟨none, .mv 16 (.t 1)⟩,
    ⟨none, .call (some 17) 20 [(.t 15), (.t 16)]⟩,
    ⟨none, .un 18 .not (.t 17)⟩])
  (.cnd (.t 18)
   (.seq (.ops [⟨none, .asg 6 (.c (.nd (.sl true 2 0) []))⟩,
     ⟨none, .asg 7 (.c (.v (.int .i64 1)))⟩])
   (.seq (.scr r17) .ret))
   .skip))
 (.seq (.ops [⟨none, .mv 19 (.t 0)⟩,
   ⟨none, .mks 20 1 [(.v (.int .i64 0))] (.t 19) (.t 19)⟩,
   ⟨none, .asg 8 (.t 20)⟩])
 (.seq (.seq (.ops [⟨none, .mv 21 (.t 8)⟩,
    ⟨none, .len 22 false (.t 21)⟩,
    ⟨none, .mv 23 (.c (.v (.int .i64 0)))⟩])
  (.seq (.blk 0 (.lop b17_0)) (.scr x17_0)))
 (.seq (.seq (.ops [⟨none, .mv 30 (.t 2)⟩,
    ⟨none, .len 31 false (.t 30)⟩,
    ⟨none, .mv 32 (.c (.v (.int .i64 0)))⟩])
  (.seq (.blk 2 (.lop b17_1)) (.scr x17_2)))
 (.seq (.ops [⟨none, .asg 12 (.c (.nd (.sl true 2 0) []))⟩])
 (.seq (.seq (.ops [⟨none, .mv 62 (.t 1)⟩,
    ⟨none, .len 63 false (.t 62)⟩,
    ⟨none, .mv 64 (.c (.v (.int .i64 0)))⟩])
  (.seq (.blk 4 (.lop b17_2)) (.scr x17_4)))
 (.seq (.ops [⟨none, .mv 97 (.t 12)⟩,
   ⟨none, .asg 6 (.t 97)⟩,
   ⟨none, .asg 7 (.c (.v (.int .i64 0)))⟩])
 (.seq (.scr r17) .ret))))))))),
  98, [6, 7]⟩

/-- coinage/coinageref06.Induced -/
abbrev K18 : Nat := 12
def hints18 : List (List Bool) := [bits 70 [6, 7], bits 70 [8], bits 70 [1, 2, 8, 9], bits 70 [8], bits 70 [1, 2, 8, 9], bits 70 [1, 2, 8, 9], bits 70 [1, 2, 8, 9, 10], bits 70 [1, 2, 8, 9], bits 70 [1, 2, 8, 9, 10], bits 70 [1, 2, 8, 9, 10], bits 70 [1, 2, 8, 9, 10, 11], bits 70 [1, 2, 8, 9, 10], bits 70 [1, 2, 8, 9, 10, 11], bits 70 [6, 7]]
@[simp] def r18 : List Bool := bits 70 [6, 7]
@[simp] def R18 (s6 s7 : V) : St := tab 70 12 (fu (fu dd 7 s7) 6 s6) dd
@[simp] def x18_0 : List Bool := bits 70 [8]
@[simp] def X18_0 (s8 : V) : St := tab 70 12 (fu dd 8 s8) dd
@[simp] def h18_0 : List Bool := bits 70 [1, 2, 8, 9]
@[simp] def L18_0 (s1 s2 s8 s9 : V) : St := tab 70 12 (fu (fu (fu (fu dd 9 s9) 8 s8) 2 s2) 1 s1) dd
@[simp] def x18_1 : List Bool := bits 70 [1, 2, 8, 9]
@[simp] def X18_1 (s1 s2 s8 s9 : V) : St := tab 70 12 (fu (fu (fu (fu dd 9 s9) 8 s8) 2 s2) 1 s1) dd
@[simp] def x18_2 : List Bool := bits 70 [1, 2, 8, 9]
@[simp] def X18_2 (s1 s2 s8 s9 : V) : St := tab 70 12 (fu (fu (fu (fu dd 9 s9) 8 s8) 2 s2) 1 s1) dd
@[simp] def h18_1 : List Bool := bits 70 [1, 2, 8, 9, 10]
@[simp] def L18_1 (s1 s2 s8 s9 s10 : V) : St := tab 70 12 (fu (fu (fu (fu (fu dd 10 s10) 9 s9) 8 s8) 2 s2) 1 s1) dd
@[simp] def x18_3 : List Bool := bits 70 [1, 2, 8, 9, 10]
@[simp] def X18_3 (s1 s2 s8 s9 s10 : V) : St := tab 70 12 (fu (fu (fu (fu (fu dd 10 s10) 9 s9) 8 s8) 2 s2) 1 s1) dd
@[simp] def x18_4 : List Bool := bits 70 [1, 2, 8, 9, 10]
@[simp] def X18_4 (s1 s2 s8 s9 s10 : V) : St := tab 70 12 (fu (fu (fu (fu (fu dd 10 s10) 9 s9) 8 s8) 2 s2) 1 s1) dd
@[simp] def h18_2 : List Bool := bits 70 [1, 2, 8, 9, 10, 11]
@[simp] def L18_2 (s1 s2 s8 s9 s10 s11 : V) : St := tab 70 12 (fu (fu (fu (fu (fu (fu dd 11 s11) 10 s10) 9 s9) 8 s8) 2 s2) 1 s1) dd
@[simp] def x18_5 : List Bool := bits 70 [1, 2, 8, 9, 10, 11]
@[simp] def X18_5 (s1 s2 s8 s9 s10 s11 : V) : St := tab 70 12 (fu (fu (fu (fu (fu (fu dd 11 s11) 10 s10) 9 s9) 8 s8) 2 s2) 1 s1) dd
def b18_2 : MC := .seq (.scr h18_2)
 (.seq (.seq (.ops [⟨none, .mv 35 (.t 11)⟩,
    ⟨none, .mv 36 (.t 1)⟩,
    ⟨none, .len 37 false (.t 36)⟩,
    ⟨none, .bin 38 .lss .num (.t 35) (.t 37)⟩])
  (.cnd (.t 38)
   .skip
   (.seq (.scr x18_4) (.ex 4))))
 (.seq (.seq (.blk 5 (.seq (.drw (⟨none, .mv 41 (.t 1)⟩ ::
     ⟨none, .mv 42 (.t 11)⟩ ::
     ⟨none, .ixs 43 2 (.t 41) (.t 42)⟩ ::
     ⟨none, .fa 44 0 (.t 43)⟩ ::
     ⟨none, .ld1 45 (.t 44)⟩ ::
     ⟨none, .mv 46 (.t 2)⟩ ::
     ⟨none, .mv 47 (.t 9)⟩ ::
     ⟨none, .ixs 48 1 (.t 46) (.t 47)⟩ ::
     ⟨none, .ld1 49 (.t 48)⟩ ::
     ⟨none, .bin 50 .eql .num (.t 45) (.t 49)⟩ ::
     ⟨none, .mv 51 (.t 50)⟩ ::
     ⟨some (51, true), .mv 52 (.t 1)⟩ ::
     ⟨some (51, true), .mv 53 (.t 11)⟩ ::
     ⟨some (51, true), .ixs 54 2 (.t 52) (.t 53)⟩ ::
     ⟨some (51, true), .fa 55 1 (.t 54)⟩ ::
     ⟨some (51, true), .ld1 56 (.t 55)⟩ ::
     ⟨some (51, true), .mv 57 (.t 2)⟩ ::
     ⟨some (51, true), .mv 58 (.t 10)⟩ ::
     ⟨some (51, true), .ixs 59 1 (.t 57) (.t 58)⟩ ::
     ⟨some (51, true), .ld1 60 (.t 59)⟩ :: []) [⟨some (51, true), .bin 61 .eql .num (.t 56) (.t 60)⟩,
     ⟨none, .pick 62 (.t 51) (.t 61) (.c (.v (.bool false)))⟩])
   (.cnd (.t 62)
    (.ops [⟨none, .mv 63 (.t 8)⟩,
     ⟨none, .mv 64 (.t 9)⟩,
     ⟨none, .mv 65 (.t 10)⟩,
     ⟨none, .bld 66 [(.v (.int .i64 0)), (.v (.int .i64 0))] [(0, 1, (.t 64)), (1, 1, (.t 65))]⟩,
     ⟨none, .bs 67 2 1 [(.v (.int .i64 0)), (.v (.int .i64 0))] [(0, 2, (.t 66))]⟩,
     ⟨none, .app 68 2 (.t 63) (.t 67)⟩,
     ⟨none, .asg 8 (.t 68)⟩])
    .skip))) (.scr x18_5))
 (.ops [⟨none, .mv 39 (.t 11)⟩,
  ⟨none, .bin 40 .add .num (.t 39) (.c (.v (.int .i64 1)))⟩,
  ⟨none, .asg 11 (.t 40)⟩])))
def b18_1 : MC := .seq (.scr h18_1)
 (.seq (.seq (.ops [⟨none, .mv 29 (.t 10)⟩,
    ⟨none, .mv 30 (.t 2)⟩,
    ⟨none, .len 31 false (.t 30)⟩,
    ⟨none, .bin 32 .lss .num (.t 29) (.t 31)⟩])
  (.cnd (.t 32)
   .skip
   (.seq (.scr x18_2) (.ex 2))))
 (.seq (.seq (.blk 3 (.seq (.ops [⟨none, .asg 11 (.c (.v (.int .i64 0)))⟩])
   (.seq (.blk 4 (.lop b18_2)) (.scr x18_4)))) (.scr x18_3))
 (.ops [⟨none, .mv 33 (.t 10)⟩,
  ⟨none, .bin 34 .add .num (.t 33) (.c (.v (.int .i64 1)))⟩,
  ⟨none, .asg 10 (.t 34)⟩])))
def b18_0 : MC := .seq (.scr h18_0)
 (.seq (.seq (.ops [⟨none, .mv 23 (.t 9)⟩,
    ⟨none, .mv 24 (.t 2)⟩,
    ⟨none, .len 25 false (.t 24)⟩,
    ⟨none, .bin 26 .lss .num (.t 23) (.t 25)⟩])
  (.cnd (.t 26)
   .skip
   (.seq (.scr x18_0) (.ex 0))))
 (.seq (.seq (.blk 1 (.seq (.ops [⟨none, .asg 10 (.c (.v (.int .i64 0)))⟩])
   (.seq (.blk 2 (.lop b18_1)) (.scr x18_2)))) (.scr x18_1))
 (.ops [⟨none, .mv 27 (.t 9)⟩,
  ⟨none, .bin 28 .add .num (.t 27) (.c (.v (.int .i64 1)))⟩,
  ⟨none, .asg 9 (.t 28)⟩])))
def c18 : MF := ⟨(.seq (.ops [⟨none, .asg 6 (.c (.nd (.sl true 2 0) []))⟩,
   ⟨none, .asg 7 (.c (.v (.int .i64 0)))⟩])
 (.seq (.seq (.ops [⟨none, .mv 12 (.t 0)⟩,
    ⟨none, .mv 13 (.t 1)⟩,
    ⟨none, .call (some 14) 21 [(.t 12), (.t 13)]⟩,
    ⟨none, .un 15 .not (.t 14)⟩,
    ⟨none, .mv 16 (.t 15)⟩,
    ⟨some (16, false), .mv 17 (.t 2)⟩,
    ⟨some (16, false), .mv 18 (.t 0)⟩,
    ⟨some (16, false), .bin 19 .sub .num (.t 18) (.c (.v (.int .i64 1)))⟩,
    ⟨some (16, false), .call (some 20) 32 [(.t 17), (.c (.v (.int .i64 0))), (.t 19)]⟩,
    ⟨some (16, false), .un 21 .not (.t 20)⟩,
    ⟨none, .pick 22 (.t 16) (.c (.v (.bool true))) (.t 21)⟩])
  (.cnd (.t 22)
   (.seq (.ops [⟨none, .asg 6 (.c (.nd (.sl true 2 0) []))⟩,
     ⟨none, .asg 7 (.c (.v (.int .i64 1)))⟩])
   (.seq (.scr r18) .ret))
   .skip))
 (.seq (.ops [⟨none, .asg 8 (.c (.nd (.sl true 2 0) []))⟩])
 (.seq (.seq (.ops [⟨none, .asg 9 (.c (.v (.int .i64 0)))⟩])
  (.seq (.blk 0 (.lop b18_0)) (.scr x18_0)))
 (.seq (.ops [⟨none, .mv 69 (.t 8)⟩,
   ⟨none, .asg 6 (.t 69)⟩,
   ⟨none, .asg 7 (.c (.v (.int .i64 0)))⟩])
 (.seq (.scr r18) .ret)))))),
  70, [6, 7]⟩

/-- coinage/coinagebase.Arcs -/
abbrev K19 : Nat := 6
def hints19 : List (List Bool) := [bits 26 [4], bits 26 [], bits 26 [0, 1, 5], bits 26 [], bits 26 [0, 1, 5], bits 26 [4], bits 26 [4]]
@[simp] def r19 : List Bool := bits 26 [4]
@[simp] def R19 (s4 : V) : St := tab 26 6 (fu dd 4 s4) dd
@[simp] def x19_0 : List Bool := bits 26 []
@[simp] def X19_0 : St := tab 26 6 dd dd
@[simp] def h19_0 : List Bool := bits 26 [0, 1, 5]
@[simp] def L19_0 (s0 s1 s5 : V) : St := tab 26 6 (fu (fu (fu dd 5 s5) 1 s1) 0 s0) dd
@[simp] def x19_1 : List Bool := bits 26 [0, 1, 5]
@[simp] def X19_1 (s0 s1 s5 : V) : St := tab 26 6 (fu (fu (fu dd 5 s5) 1 s1) 0 s0) dd
def b19_0 : MC := .seq (.scr h19_0)
 (.seq (.seq (.ops [⟨none, .mv 11 (.t 5)⟩,
    ⟨none, .mv 12 (.t 0)⟩,
    ⟨none, .len 13 false (.t 12)⟩,
    ⟨none, .bin 14 .lss .num (.t 11) (.t 13)⟩])
  (.cnd (.t 14)
   .skip
   (.seq (.scr x19_0) (.ex 0))))
 (.seq (.seq (.blk 1 (.seq (.drw [⟨none, .mv 17 (.t 0)⟩,
     ⟨none, .mv 18 (.t 5)⟩,
     ⟨none, .ixs 19 2 (.t 17) (.t 18)⟩,
     ⟨none, .ldn 20 2 (.t 19)⟩,
     ⟨none, .mv 21 (.t 1)⟩,
     ⟨none, .mv 22 (.t 5)⟩,
     ⟨none, .ixs 23 2 (.t 21) (.t 22)⟩,
     ⟨none, .ldn 24 2 (.t 23)⟩] [⟨none, .bin 25 .neq (.ag [0, 0]) (.t 20) (.t 24)⟩])
   (.cnd (.t 25)
    (.seq (.ops [⟨none, .asg 4 (.c (.v (.bool false)))⟩])
    (.seq (.scr r19) .ret))
    .skip))) (.scr x19_1))
 (.ops [⟨none, .mv 15 (.t 5)⟩,
  ⟨none, .bin 16 .add .num (.t 15) (.c (.v (.int .i64 1)))⟩,
  ⟨none, .asg 5 (.t 16)⟩])))
def c19 : MF := ⟨(.seq (.ops [⟨none, .asg 4 (.c (.v (.bool false)))⟩])
 (.seq (.seq (.ops [⟨none, .mv 6 (.t 0)⟩,
    ⟨none, .len 7 false (.t 6)⟩,
    ⟨none, .mv 8 (.t 1)⟩,
    ⟨none, .len 9 false (.t 8)⟩,
    ⟨none, .bin 10 .neq .num (.t 7) (.t 9)⟩])
  (.cnd (.t 10)
   (.seq (.ops [⟨none, .asg 4 (.c (.v (.bool false)))⟩])
   (.seq (.scr r19) .ret))
   .skip))
 (.seq (.seq (.ops [⟨none, .asg 5 (.c (.v (.int .i64 0)))⟩])
  (.seq (.blk 0 (.lop b19_0)) (.scr x19_0)))
 (.seq (.ops [⟨none, .asg 4 (.c (.v (.bool true)))⟩])
 (.seq (.scr r19) .ret))))),
  26, [4]⟩

/-- coinage/poset.Valid -/
abbrev K20 : Nat := 16
def hints20 : List (List Bool) := [bits 83 [4], bits 83 [], bits 83 [0, 1, 13, 14, 15], bits 83 [], bits 83 [0, 1, 13, 14, 15], bits 83 [4], bits 83 [4], bits 83 [4]]
@[simp] def r20 : List Bool := bits 83 [4]
@[simp] def R20 (s4 : V) : St := tab 83 16 (fu dd 4 s4) dd
@[simp] def x20_0 : List Bool := bits 83 []
@[simp] def X20_0 : St := tab 83 16 dd dd
@[simp] def h20_0 : List Bool := bits 83 [0, 1, 13, 14, 15]
@[simp] def L20_0 (s0 s1 s13 s14 s15 : V) : St := tab 83 16 (fu (fu (fu (fu (fu dd 15 s15) 14 s14) 13 s13) 1 s1) 0 s0) dd
@[simp] def x20_1 : List Bool := bits 83 [0, 1, 13, 14, 15]
@[simp] def X20_1 (s0 s1 s13 s14 s15 : V) : St := tab 83 16 (fu (fu (fu (fu (fu dd 15 s15) 14 s14) 13 s13) 1 s1) 0 s0) dd
def b20_0 : MC := .seq (.scr h20_0)
 (.seq (.ops [⟨none, .bin 16 .lss .num (.t 15) (.t 14)⟩])
 (.seq (.cnd (.t 16)
   .skip
   (.seq (.scr x20_0) (.ex 0)))
 (.seq (.seq (.blk 1 (.seq (.ops [⟨none, .mv 17 (.t 15)⟩,
     ⟨none, .ixs 18 2 (.t 13) (.t 15)⟩,
     ⟨none, .ldn 19 2 (.t 18)⟩,
     ⟨none, .alc 6 [(.v (.int .i64 0)), (.v (.int .i64 0))]⟩,
     ⟨none, .asg 5 (.t 17)⟩,
     ⟨none, .stn none 2 (.t 6) (.t 19)⟩])
   (.seq (.seq (.ops (⟨none, .fa 20 0 (.t 6)⟩ ::
      ⟨none, .ld1 21 (.t 20)⟩ ::
      ⟨none, .bin 22 .lss .num (.t 21) (.c (.v (.int .i64 0)))⟩ ::
      ⟨none, .mv 23 (.t 22)⟩ ::
      ⟨some (23, false), .fa 24 0 (.t 6)⟩ ::
      ⟨some (23, false), .ld1 25 (.t 24)⟩ ::
      ⟨some (23, false), .mv 26 (.t 0)⟩ ::
      ⟨some (23, false), .bin 27 .geq .num (.t 25) (.t 26)⟩ ::
      ⟨none, .pick 28 (.t 23) (.c (.v (.bool true))) (.t 27)⟩ ::
      ⟨none, .mv 29 (.t 28)⟩ ::
      ⟨some (29, false), .fa 30 1 (.t 6)⟩ ::
      ⟨some (29, false), .ld1 31 (.t 30)⟩ ::
      ⟨some (29, false), .bin 32 .lss .num (.t 31) (.c (.v (.int .i64 0)))⟩ ::
      ⟨none, .pick 33 (.t 29) (.c (.v (.bool true))) (.t 32)⟩ ::
      ⟨none, .mv 34 (.t 33)⟩ ::
      ⟨some (34, false), .fa 35 1 (.t 6)⟩ ::
      ⟨some (34, false), .ld1 36 (.t 35)⟩ ::
      ⟨some (34, false), .mv 37 (.t 0)⟩ ::
      ⟨some (34, false), .bin 38 .geq .num (.t 36) (.t 37)⟩ ::
      ⟨none, .pick 39 (.t 34) (.c (.v (.bool true))) (.t 38)⟩ ::
      ⟨none, .mv 40 (.t 39)⟩ ::
      ⟨some (40, false), .fa 41 0 (.t 6)⟩ ::
      ⟨some (40, false), .ld1 42 (.t 41)⟩ ::
      ⟨some (40, false), .fa 43 1 (.t 6)⟩ ::
      ⟨some (40, false), .ld1 44 (.t 43)⟩ ::
      ⟨some (40, false), .bin 45 .eql .num (.t 42) (.t 44)⟩ ::
      ⟨none, .pick 46 (.t 40) (.c (.v (.bool true))) (.t 45)⟩ :: []))
    (.cnd (.t 46)
     (.seq (.ops [⟨none, .asg 4 (.c (.v (.bool false)))⟩])
     (.seq (.scr r20) .ret))
     .skip))
   (.seq (.drw (⟨none, .mv 47 (.t 5)⟩ ::
     ⟨none, .bin 48 .gtr .num (.t 47) (.c (.v (.int .i64 0)))⟩ ::
     ⟨none, .mv 49 (.t 48)⟩ ::
     ⟨some (49, true), .fa 50 0 (.t 6)⟩ ::
     ⟨some (49, true), .ld1 51 (.t 50)⟩ ::
     ⟨some (49, true), .mv 52 (.t 1)⟩ ::
     ⟨some (49, true), .mv 53 (.t 5)⟩ ::
     ⟨some (49, true), .bin 54 .sub .num (.t 53) (.c (.v (.int .i64 1)))⟩ ::
     ⟨some (49, true), .ixs 55 2 (.t 52) (.t 54)⟩ ::
     ⟨some (49, true), .fa 56 0 (.t 55)⟩ ::
     ⟨some (49, true), .ld1 57 (.t 56)⟩ ::
     ⟨some (49, true), .bin 58 .lss .num (.t 51) (.t 57)⟩ ::
     ⟨some (49, true), .mv 59 (.t 58)⟩ ::
     ⟨some (59, false), .fa 60 0 (.t 6)⟩ ::
     ⟨some (59, false), .ld1 61 (.t 60)⟩ ::
     ⟨some (59, false), .mv 62 (.t 1)⟩ ::
     ⟨some (59, false), .mv 63 (.t 5)⟩ ::
     ⟨some (59, false), .bin 64 .sub .num (.t 63) (.c (.v (.int .i64 1)))⟩ ::
     ⟨some (59, false), .ixs 65 2 (.t 62) (.t 64)⟩ ::
     ⟨some (59, false), .fa 66 0 (.t 65)⟩ ::
     ⟨some (59, false), .ld1 67 (.t 66)⟩ ::
     ⟨some (59, false), .bin 68 .eql .num (.t 61) (.t 67)⟩ ::
     ⟨some (59, false), .mv 69 (.t 68)⟩ ::
     ⟨some (69, true), .fa 70 1 (.t 6)⟩ ::
     ⟨some (69, true), .ld1 71 (.t 70)⟩ ::
     ⟨some (69, true), .mv 72 (.t 1)⟩ ::
     ⟨some (69, true), .mv 73 (.t 5)⟩ ::
     ⟨some (69, true), .bin 74 .sub .num (.t 73) (.c (.v (.int .i64 1)))⟩ ::
     ⟨some (69, true), .ixs 75 2 (.t 72) (.t 74)⟩ ::
     ⟨some (69, true), .fa 76 1 (.t 75)⟩ ::
     ⟨some (69, true), .ld1 77 (.t 76)⟩ :: []) [⟨some (69, true), .bin 78 .leq .num (.t 71) (.t 77)⟩,
     ⟨some (59, false), .pick 79 (.t 69) (.t 78) (.c (.v (.bool false)))⟩,
     ⟨some (49, true), .pick 80 (.t 59) (.c (.v (.bool true))) (.t 79)⟩,
     ⟨none, .pick 81 (.t 49) (.t 80) (.c (.v (.bool false)))⟩])
   (.cnd (.t 81)
    (.seq (.ops [⟨none, .asg 4 (.c (.v (.bool false)))⟩])
    (.seq (.scr r20) .ret))
    .skip))))) (.scr x20_1))
 (.ops [⟨none, .bin 82 .add .num (.t 15) (.c (.v (.int .i64 1)))⟩,
  ⟨none, .mv 15 (.t 82)⟩]))))
def c20 : MF := ⟨(.seq (.ops [⟨none, .asg 4 (.c (.v (.bool false)))⟩])
 (.seq (.seq (.ops [⟨none, .mv 7 (.t 0)⟩,
    ⟨none, .bin 8 .lss .num (.t 7) (.c (.v (.int .i64 0)))⟩,
    ⟨none, .mv 9 (.t 8)⟩,
    ⟨some (9, false), .mv 10 (.t 0)⟩,
    ⟨some (9, false), .bin 11 .gtr .num (.t 10) (.c (.v (.int .i64 24)))⟩,
    ⟨none, .pick 12 (.t 9) (.c (.v (.bool true))) (.t 11)⟩])
  (.cnd (.t 12)
   (.seq (.ops [⟨none, .asg 4 (.c (.v (.bool false)))⟩])
   (.seq (.scr r20) .ret))
   .skip))
 (.seq (.seq (.ops [⟨none, .mv 13 (.t 1)⟩,
    ⟨none, .len 14 false (.t 13)⟩,
    ⟨none, .mv 15 (.c (.v (.int .i64 0)))⟩])
  (.seq (.blk 0 (.lop b20_0)) (.scr x20_0)))
 (.seq (.ops [⟨none, .asg 4 (.c (.v (.bool true)))⟩])
 (.seq (.scr r20) .ret))))),
  83, [4]⟩

/-- coinage/coinageref06.Valid -/
abbrev K21 : Nat := 5
def hints21 : List (List Bool) := [bits 8 [4]]
@[simp] def r21 : List Bool := bits 8 [4]
@[simp] def R21 (s4 : V) : St := tab 8 5 (fu dd 4 s4) dd
def c21 : MF := ⟨(.seq (.ops [⟨none, .asg 4 (.c (.v (.bool false)))⟩])
 (.seq (.ops [⟨none, .mv 5 (.t 0)⟩,
   ⟨none, .mv 6 (.t 1)⟩,
   ⟨none, .call (some 7) 33 [(.t 5), (.t 6)]⟩,
   ⟨none, .asg 4 (.t 7)⟩])
 (.seq (.scr r21) .ret))),
  8, [4]⟩

/-- coinage/poset.Acyclic -/
abbrev K22 : Nat := 5
def hints22 : List (List Bool) := [bits 14 [4]]
@[simp] def r22 : List Bool := bits 14 [4]
@[simp] def R22 (s4 : V) : St := tab 14 5 (fu dd 4 s4) dd
def c22 : MF := ⟨(.seq (.ops [⟨none, .asg 4 (.c (.v (.bool false)))⟩])
 (.seq (.ops [⟨none, .mv 5 (.t 0)⟩,
   ⟨none, .mv 6 (.t 1)⟩,
   ⟨none, .call (some 7) 20 [(.t 5), (.t 6)]⟩,
   ⟨none, .mv 8 (.t 7)⟩,
   ⟨some (8, true), .mv 9 (.t 0)⟩,
   ⟨some (8, true), .mv 10 (.t 1)⟩,
   ⟨some (8, true), .call (some 11) 31 [(.t 9), (.t 10)]⟩,
   ⟨some (8, true), .call (some 12) 34 [(.t 11)]⟩,
   ⟨none, .pick 13 (.t 8) (.t 12) (.c (.v (.bool false)))⟩,
   ⟨none, .asg 4 (.t 13)⟩])
 (.seq (.scr r22) .ret))),
  14, [4]⟩

/-- coinage/coinageref06.Acyclic -/
abbrev K23 : Nat := 7
def hints23 : List (List Bool) := [bits 24 [4], bits 24 [], bits 24 [0, 5, 6], bits 24 [], bits 24 [0, 5, 6], bits 24 [4], bits 24 [4]]
@[simp] def r23 : List Bool := bits 24 [4]
@[simp] def R23 (s4 : V) : St := tab 24 7 (fu dd 4 s4) dd
@[simp] def x23_0 : List Bool := bits 24 []
@[simp] def X23_0 : St := tab 24 7 dd dd
@[simp] def h23_0 : List Bool := bits 24 [0, 5, 6]
@[simp] def L23_0 (s0 s5 s6 : V) : St := tab 24 7 (fu (fu (fu dd 6 s6) 5 s5) 0 s0) dd
@[simp] def x23_1 : List Bool := bits 24 [0, 5, 6]
@[simp] def X23_1 (s0 s5 s6 : V) : St := tab 24 7 (fu (fu (fu dd 6 s6) 5 s5) 0 s0) dd
def b23_0 : MC := .seq (.scr h23_0)
 (.seq (.seq (.ops [⟨none, .mv 14 (.t 6)⟩,
    ⟨none, .mv 15 (.t 0)⟩,
    ⟨none, .bin 16 .lss .num (.t 14) (.t 15)⟩])
  (.cnd (.t 16)
   .skip
   (.seq (.scr x23_0) (.ex 0))))
 (.seq (.seq (.blk 1 (.seq (.ops [⟨none, .mv 19 (.t 6)⟩,
     ⟨none, .mv 20 (.t 6)⟩,
     ⟨none, .ixa 21 24 24 (.t 5) (.t 19)⟩,
     ⟨none, .ixa 22 1 24 (.t 21) (.t 20)⟩,
     ⟨none, .ld1 23 (.t 22)⟩])
   (.cnd (.t 23)
    (.seq (.ops [⟨none, .asg 4 (.c (.v (.bool false)))⟩])
    (.seq (.scr r23) .ret))
    .skip))) (.scr x23_1))
 (.ops [⟨none, .mv 17 (.t 6)⟩,
  ⟨none, .bin 18 .add .num (.t 17) (.c (.v (.int .i64 1)))⟩,
  ⟨none, .asg 6 (.t 18)⟩])))
def c23 : MF := ⟨(.seq (.ops [⟨none, .asg 4 (.c (.v (.bool false)))⟩])
 (.seq (.seq (.ops [⟨none, .mv 7 (.t 0)⟩,
    ⟨none, .mv 8 (.t 1)⟩,
    ⟨none, .call (some 9) 21 [(.t 7), (.t 8)]⟩,
    ⟨none, .un 10 .not (.t 9)⟩])
  (.cnd (.t 10)
   (.seq (.ops [⟨none, .asg 4 (.c (.v (.bool false)))⟩])
   (.seq (.scr r23) .ret))
   .skip))
 (.seq (.ops [⟨none, .mv 11 (.t 0)⟩,
   ⟨none, .mv 12 (.t 1)⟩,
   ⟨none, .call (some 13) 35 [(.t 11), (.t 12)]⟩,
   ⟨none, .alc 5 (rp 576 (.v (.bool false)))⟩,
   ⟨none, .stn none 576 (.t 5) (.t 13)⟩])
 (.seq (.seq (.ops [⟨none, .asg 6 (.c (.v (.int .i64 0)))⟩])
  (.seq (.blk 0 (.lop b23_0)) (.scr x23_0)))
 (.seq (.ops [⟨none, .asg 4 (.c (.v (.bool true)))⟩])
 (.seq (.scr r23) .ret)))))),
  24, [4]⟩

/-- coinage/coinageref06.Reaches -/
abbrev K24 : Nat := 9
def hints24 : List (List Bool) := [bits 40 [8], bits 40 [8]]
@[simp] def r24 : List Bool := bits 40 [8]
@[simp] def R24 (s8 : V) : St := tab 40 9 (fu dd 8 s8) dd
def c24 : MF := ⟨(.seq (.ops [⟨none, .asg 8 (.c (.v (.bool false)))⟩])
 (.seq (.seq (.ops (⟨none, .mv 10 (.t 0)⟩ ::
    ⟨none, .mv 11 (.t 1)⟩ ::
    ⟨none, .call (some 12) 21 [(.t 10), (.t 11)]⟩ ::
    ⟨none, .un 13 .not (.t 12)⟩ ::
    ⟨none, .mv 14 (.t 13)⟩ ::
    ⟨some (14, false), .mv 15 (.t 2)⟩ ::
    ⟨some (14, false), .bin 16 .lss .num (.t 15) (.c (.v (.int .i64 0)))⟩ ::
    ⟨none, .pick 17 (.t 14) (.c (.v (.bool true))) (.t 16)⟩ ::
    ⟨none, .mv 18 (.t 17)⟩ ::
    ⟨some (18, false), .mv 19 (.t 2)⟩ ::
    ⟨some (18, false), .mv 20 (.t 0)⟩ ::
    ⟨some (18, false), .bin 21 .geq .num (.t 19) (.t 20)⟩ ::
    ⟨none, .pick 22 (.t 18) (.c (.v (.bool true))) (.t 21)⟩ ::
    ⟨none, .mv 23 (.t 22)⟩ ::
    ⟨some (23, false), .mv 24 (.t 3)⟩ ::
    ⟨some (23, false), .bin 25 .lss .num (.t 24) (.c (.v (.int .i64 0)))⟩ ::
    ⟨none, .pick 26 (.t 23) (.c (.v (.bool true))) (.t 25)⟩ ::
    ⟨none, .mv 27 (.t 26)⟩ ::
    ⟨some (27, false), .mv 28 (.t 3)⟩ ::
    ⟨some (27, false), .mv 29 (.t 0)⟩ ::
    ⟨some (27, false), .bin 30 .geq .num (.t 28) (.t 29)⟩ ::
    ⟨none, .pick 31 (.t 27) (.c (.v (.bool true))) (.t 30)⟩ :: []))
  (.cnd (.t 31)
   (.seq (.ops [⟨none, .asg 8 (.c (.v (.bool false)))⟩])
   (.seq (.scr r24) .ret))
   .skip))
 (.seq (.ops [⟨none, .mv 32 (.t 0)⟩,
   ⟨none, .mv 33 (.t 1)⟩,
   ⟨none, .call (some 34) 35 [(.t 32), (.t 33)]⟩,
   ⟨none, .alc 9 (rp 576 (.v (.bool false)))⟩,
   ⟨none, .stn none 576 (.t 9) (.t 34)⟩])
 (.seq (.ops [⟨none, .mv 35 (.t 2)⟩,
   ⟨none, .mv 36 (.t 3)⟩,
   ⟨none, .ixa 37 24 24 (.t 9) (.t 35)⟩,
   ⟨none, .ixa 38 1 24 (.t 37) (.t 36)⟩,
   ⟨none, .ld1 39 (.t 38)⟩,
   ⟨none, .asg 8 (.t 39)⟩])
 (.seq (.scr r24) .ret))))),
  40, [8]⟩

/-- coinage/poset.Cycle -/
abbrev K25 : Nat := 26
def hints25 : List (List Bool) := [bits 90 [4, 5], bits 90 [0, 6, 7, 8], bits 90 [0, 6, 7, 8, 24, 25], bits 90 [0, 6, 7, 8], bits 90 [0, 6, 7, 8, 24, 25], bits 90 [4, 5], bits 90 [12], bits 90 [0, 6, 7, 8, 11, 12], bits 90 [12], bits 90 [0, 6, 7, 8, 11, 12], bits 90 [0, 6, 7, 8, 11, 12], bits 90 [0, 6, 7, 8, 11, 12, 13, 14], bits 90 [0, 6, 7, 8, 11, 12], bits 90 [0, 6, 7, 8, 11, 12, 13, 14], bits 90 [0, 6, 7, 8, 11, 12], bits 90 [4, 5]]
@[simp] def r25 : List Bool := bits 90 [4, 5]
@[simp] def R25 (s4 s5 : V) : St := tab 90 26 (fu (fu dd 5 s5) 4 s4) dd
@[simp] def x25_0 : List Bool := bits 90 [0, 6, 7, 8]
@[simp] def X25_0 (s0 s6 s7 s8 : V) : St := tab 90 26 (fu (fu (fu (fu dd 8 s8) 7 s7) 6 s6) 0 s0) dd
@[simp] def h25_0 : List Bool := bits 90 [0, 6, 7, 8, 24, 25]
@[simp] def L25_0 (s0 s6 s7 s8 s24 s25 : V) : St := tab 90 26 (fu (fu (fu (fu (fu (fu dd 25 s25) 24 s24) 8 s8) 7 s7) 6 s6) 0 s0) dd
@[simp] def x25_1 : List Bool := bits 90 [0, 6, 7, 8, 24, 25]
@[simp] def X25_1 (s0 s6 s7 s8 s24 s25 : V) : St := tab 90 26 (fu (fu (fu (fu (fu (fu dd 25 s25) 24 s24) 8 s8) 7 s7) 6 s6) 0 s0) dd
def b25_0 : MC := .seq (.scr h25_0)
 (.seq (.ops [⟨none, .bin 26 .lss .num (.t 25) (.t 24)⟩])
 (.seq (.cnd (.t 26)
   .skip
   (.seq (.scr x25_0) (.ex 0)))
 (.seq (.seq (.blk 1 (.seq (.ops [⟨none, .mv 27 (.t 25)⟩,
     ⟨none, .asg 9 (.t 27)⟩])
   (.seq (.ops [⟨none, .mv 28 (.t 6)⟩,
     ⟨none, .mv 29 (.t 9)⟩,
     ⟨none, .call (some 30) 36 [(.t 28), (.t 29)]⟩,
     ⟨none, .mv 31 (.t 9)⟩,
     ⟨none, .ixs 32 1 (.t 30) (.t 31)⟩,
     ⟨none, .ld1 33 (.t 32)⟩,
     ⟨none, .asg 10 (.t 33)⟩])
   (.seq (.ops [⟨none, .mv 34 (.t 10)⟩,
     ⟨none, .bin 35 .gtr .num (.t 34) (.c (.v (.int .i64 0)))⟩,
     ⟨none, .mv 36 (.t 35)⟩,
     ⟨some (36, true), .mv 37 (.t 10)⟩,
     ⟨some (36, true), .mv 38 (.t 8)⟩,
     ⟨some (36, true), .bin 39 .lss .num (.t 37) (.t 38)⟩,
     ⟨none, .pick 40 (.t 36) (.t 39) (.c (.v (.bool false)))⟩])
   (.cnd (.t 40)
    (.ops [⟨none, .mv 41 (.t 9)⟩,
     ⟨none, .mv 42 (.t 10)⟩,
     ⟨none, .asg 7 (.t 41)⟩,
     ⟨none, .asg 8 (.t 42)⟩])
    .skip))))) (.scr x25_1))
 (.ops [⟨none, .bin 43 .add .num (.t 25) (.c (.v (.int .i64 1)))⟩,
  ⟨none, .mv 25 (.t 43)⟩]))))
@[simp] def x25_2 : List Bool := bits 90 [12]
@[simp] def X25_2 (s12 : V) : St := tab 90 26 (fu dd 12 s12) dd
@[simp] def h25_1 : List Bool := bits 90 [0, 6, 7, 8, 11, 12]
@[simp] def L25_1 (s0 s6 s7 s8 s11 s12 : V) : St := tab 90 26 (fu (fu (fu (fu (fu (fu dd 12 s12) 11 s11) 8 s8) 7 s7) 6 s6) 0 s0) dd
@[simp] def x25_3 : List Bool := bits 90 [0, 6, 7, 8, 11, 12]
@[simp] def X25_3 (s0 s6 s7 s8 s11 s12 : V) : St := tab 90 26 (fu (fu (fu (fu (fu (fu dd 12 s12) 11 s11) 8 s8) 7 s7) 6 s6) 0 s0) dd
@[simp] def x25_4 : List Bool := bits 90 [0, 6, 7, 8, 11, 12]
@[simp] def X25_4 (s0 s6 s7 s8 s11 s12 : V) : St := tab 90 26 (fu (fu (fu (fu (fu (fu dd 12 s12) 11 s11) 8 s8) 7 s7) 6 s6) 0 s0) dd
@[simp] def h25_2 : List Bool := bits 90 [0, 6, 7, 8, 11, 12, 13, 14]
@[simp] def L25_2 (s0 s6 s7 s8 s11 s12 s13 s14 : V) : St := tab 90 26 (fu (fu (fu (fu (fu (fu (fu (fu dd 14 s14) 13 s13) 12 s12) 11 s11) 8 s8) 7 s7) 6 s6) 0 s0) dd
@[simp] def x25_5 : List Bool := bits 90 [0, 6, 7, 8, 11, 12, 13, 14]
@[simp] def X25_5 (s0 s6 s7 s8 s11 s12 s13 s14 : V) : St := tab 90 26 (fu (fu (fu (fu (fu (fu (fu (fu dd 14 s14) 13 s13) 12 s12) 11 s11) 8 s8) 7 s7) 6 s6) 0 s0) dd
def b25_2 : MC := .seq (.scr h25_2)
 (.seq (.seq (.ops [⟨none, .mv 63 (.t 14)⟩,
    ⟨none, .mv 64 (.t 0)⟩,
    ⟨none, .bin 65 .lss .num (.t 63) (.t 64)⟩])
  (.cnd (.t 65)
   .skip
   (.seq (.scr x25_4) (.ex 4))))
 (.seq (.seq (.blk 5 (.seq (.ops (⟨none, .mv 68 (.t 6)⟩ ::
     ⟨none, .mv 69 (.t 13)⟩ ::
     ⟨none, .ixs 70 1 (.t 68) (.t 69)⟩ ::
     ⟨none, .ld1 71 (.t 70)⟩ ::
     ⟨none, .mv 72 (.t 14)⟩ ::
     ⟨none, .call (some 73) 28 [(.t 71), (.t 72)]⟩ ::
     ⟨none, .mv 74 (.t 73)⟩ ::
     ⟨some (74, true), .mv 75 (.t 11)⟩ ::
     ⟨some (74, true), .mv 76 (.t 14)⟩ ::
     ⟨some (74, true), .ixs 77 1 (.t 75) (.t 76)⟩ ::
     ⟨some (74, true), .ld1 78 (.t 77)⟩ ::
     ⟨some (74, true), .mv 79 (.t 8)⟩ ::
     ⟨some (74, true), .mv 80 (.t 12)⟩ ::
     ⟨some (74, true), .len 81 false (.t 80)⟩ ::
     ⟨some (74, true), .bin 82 .sub .num (.t 79) (.t 81)⟩ ::
     ⟨some (74, true), .bin 83 .eql .num (.t 78) (.t 82)⟩ ::
     ⟨none, .pick 84 (.t 74) (.t 83) (.c (.v (.bool false)))⟩ :: []))
   (.cnd (.t 84)
    (.seq (.ops [⟨none, .mv 85 (.t 12)⟩,
      ⟨none, .mv 86 (.t 14)⟩,
      ⟨none, .bs 87 1 1 [(.v (.int .i64 0))] [(0, 1, (.t 86))]⟩,
      ⟨none, .app 88 1 (.t 85) (.t 87)⟩,
      ⟨none, .asg 12 (.t 88)⟩])
    (.seq (.scr x25_4) (.ex 4)))
    .skip))) (.scr x25_5))
 (.ops [⟨none, .mv 66 (.t 14)⟩,
  ⟨none, .bin 67 .add .num (.t 66) (.c (.v (.int .i64 1)))⟩,
  ⟨none, .asg 14 (.t 67)⟩])))
def b25_1 : MC := .seq (.scr h25_1)
 (.seq (.seq (.ops [⟨none, .mv 51 (.t 12)⟩,
    ⟨none, .len 52 false (.t 51)⟩,
    ⟨none, .mv 53 (.t 8)⟩,
    ⟨none, .bin 54 .lss .num (.t 52) (.t 53)⟩])
  (.cnd (.t 54)
   .skip
   (.seq (.scr x25_2) (.ex 2))))
 (.seq (.blk 3 (.seq (.ops [⟨none, .mv 55 (.t 12)⟩,
    ⟨none, .mv 56 (.t 12)⟩,
    ⟨none, .len 57 false (.t 56)⟩,
    ⟨none, .bin 58 .sub .num (.t 57) (.c (.v (.int .i64 1)))⟩,
    ⟨none, .ixs 59 1 (.t 55) (.t 58)⟩,
    ⟨none, .ld1 60 (.t 59)⟩,
    ⟨none, .asg 13 (.t 60)⟩])
  (.seq (.ops [⟨none, .mv 61 (.t 7)⟩,
    ⟨none, .bin 62 .add .num (.t 61) (.c (.v (.int .i64 1)))⟩,
    ⟨none, .asg 14 (.t 62)⟩])
  (.seq (.blk 4 (.lop b25_2)) (.scr x25_4))))) (.scr x25_3)))
def c25 : MF := ⟨(.seq (.ops [⟨none, .asg 4 (.c (.nd (.sl true 1 0) []))⟩,
   ⟨none, .asg 5 (.c (.v (.int .i64 0)))⟩])
 (.seq (.seq (.ops [⟨none, .mv 15 (.t 0)⟩,
    ⟨none, .mv 16 (.t 1)⟩,
    ⟨none, .call (some 17) 20 [(.t 15), (.t 16)]⟩,
    ⟨none, .un 18 .not (.t 17)⟩])
  (.cnd (.t 18)
   (.seq (.ops [⟨none, .asg 4 (.c (.nd (.sl true 1 0) []))⟩,
     ⟨none, .asg 5 (.c (.v (.int .i64 1)))⟩])
   (.seq (.scr r25) .ret))
   .skip))
 (.seq (.ops [⟨none, .mv 19 (.t 0)⟩,
   ⟨none, .mv 20 (.t 1)⟩,
   ⟨none, .call (some 21) 29 [(.t 19), (.t 20)]⟩,
   ⟨none, .asg 6 (.t 21)⟩])
 (.seq (.ops [⟨none, .mv 22 (.t 0)⟩,
   ⟨none, .bin 23 .add .num (.t 22) (.c (.v (.int .i64 1)))⟩,
   ⟨none, .asg 7 (.c (.v (.int .i64 (-1))))⟩,
   ⟨none, .asg 8 (.t 23)⟩])
 (.seq (.seq (.ops [⟨none, .mv 24 (.t 0)⟩,
    ⟨none, .mv 25 (.c (.v (.int .i64 0)))⟩])
  (.seq (.blk 0 (.lop b25_0)) (.scr x25_0)))
 (.seq (.seq (.ops [⟨none, .mv 44 (.t 7)⟩,
    ⟨none, .bin 45 .lss .num (.t 44) (.c (.v (.int .i64 0)))⟩])
  (.cnd (.t 45)
   (.seq (.ops [⟨none, .asg 4 (.c (.nd (.sl true 1 0) []))⟩,
     ⟨none, .asg 5 (.c (.v (.int .i64 7)))⟩])
   (.seq (.scr r25) .ret))
   .skip))
 (.seq (.ops [⟨none, .mv 46 (.t 6)⟩,
   ⟨none, .mv 47 (.t 7)⟩,
   ⟨none, .call (some 48) 36 [(.t 46), (.t 47)]⟩,
   ⟨none, .asg 11 (.t 48)⟩])
 (.seq (.ops [⟨none, .mv 49 (.t 7)⟩,
   ⟨none, .bs 50 1 1 [(.v (.int .i64 0))] [(0, 1, (.t 49))]⟩,
   ⟨none, .asg 12 (.t 50)⟩])
 (.seq (.seq (.blk 2 (.lop b25_1)) (.scr x25_2))
 (.seq (.ops [⟨none, .mv 89 (.t 12)⟩,
   ⟨none, .asg 4 (.t 89)⟩,
   ⟨none, .asg 5 (.c (.v (.int .i64 0)))⟩])
 (.seq (.scr r25) .ret))))))))))),
  90, [4, 5]⟩

/-- coinage/coinageref06.Cycle -/
abbrev K26 : Nat := 14
def hints26 : List (List Bool) := [bits 156 [4, 5], bits 156 [6], bits 156 [0, 1, 6, 7], bits 156 [6], bits 156 [0, 1, 6, 7], bits 156 [0, 1, 6, 7, 8, 9], bits 156 [0, 1, 6, 7, 8, 9, 10], bits 156 [0, 1, 6, 7, 8, 9], bits 156 [0, 1, 6, 7, 8, 9, 10], bits 156 [0, 1, 6, 7], bits 156 [0, 1, 6, 7], bits 156 [0, 1, 6, 7, 8, 11, 12], bits 156 [0, 1, 6, 7], bits 156 [0, 1, 6, 7, 8, 11, 12], bits 156 [0, 1, 6, 7, 8, 11, 12], bits 156 [0, 1, 6, 7, 8, 11, 12, 13], bits 156 [0, 1, 6, 7, 8, 11, 12], bits 156 [0, 1, 6, 7, 8, 11, 12, 13], bits 156 [0, 1, 6, 7, 8, 11, 12], bits 156 [4, 5], bits 156 [4, 5]]
@[simp] def r26 : List Bool := bits 156 [4, 5]
@[simp] def R26 (s4 s5 : V) : St := tab 156 14 (fu (fu dd 5 s5) 4 s4) dd
@[simp] def x26_0 : List Bool := bits 156 [6]
@[simp] def X26_0 (s6 : V) : St := tab 156 14 (fu dd 6 s6) dd
@[simp] def h26_0 : List Bool := bits 156 [0, 1, 6, 7]
@[simp] def L26_0 (s0 s1 s6 s7 : V) : St := tab 156 14 (fu (fu (fu (fu dd 7 s7) 6 s6) 1 s1) 0 s0) dd
@[simp] def x26_1 : List Bool := bits 156 [0, 1, 6, 7]
@[simp] def X26_1 (s0 s1 s6 s7 : V) : St := tab 156 14 (fu (fu (fu (fu dd 7 s7) 6 s6) 1 s1) 0 s0) dd
@[simp] def x26_2 : List Bool := bits 156 [0, 1, 6, 7, 8, 9]
@[simp] def X26_2 (s0 s1 s6 s7 s8 s9 : V) : St := tab 156 14 (fu (fu (fu (fu (fu (fu dd 9 s9) 8 s8) 7 s7) 6 s6) 1 s1) 0 s0) dd
@[simp] def h26_1 : List Bool := bits 156 [0, 1, 6, 7, 8, 9, 10]
@[simp] def L26_1 (s0 s1 s6 s7 s8 s9 s10 : V) : St := tab 156 14 (fu (fu (fu (fu (fu (fu (fu dd 10 s10) 9 s9) 8 s8) 7 s7) 6 s6) 1 s1) 0 s0) dd
@[simp] def x26_3 : List Bool := bits 156 [0, 1, 6, 7, 8, 9, 10]
@[simp] def X26_3 (s0 s1 s6 s7 s8 s9 s10 : V) : St := tab 156 14 (fu (fu (fu (fu (fu (fu (fu dd 10 s10) 9 s9) 8 s8) 7 s7) 6 s6) 1 s1) 0 s0) dd
def b26_1 : MC := .seq (.scr h26_1)
 (.seq (.seq (.ops [⟨none, .mv 28 (.t 10)⟩,
    ⟨none, .mv 29 (.t 1)⟩,
    ⟨none, .len 30 false (.t 29)⟩,
    ⟨none, .bin 31 .lss .num (.t 28) (.t 30)⟩])
  (.cnd (.t 31)
   .skip
   (.seq (.scr x26_2) (.ex 2))))
 (.seq (.seq (.blk 3 (.seq (.ops (⟨none, .mv 34 (.t 1)⟩ ::
     ⟨none, .mv 35 (.t 10)⟩ ::
     ⟨none, .ixs 36 2 (.t 34) (.t 35)⟩ ::
     ⟨none, .fa 37 0 (.t 36)⟩ ::
     ⟨none, .ld1 38 (.t 37)⟩ ::
     ⟨none, .mv 39 (.t 7)⟩ ::
     ⟨none, .bin 40 .eql .num (.t 38) (.t 39)⟩ ::
     ⟨none, .mv 41 (.t 40)⟩ ::
     ⟨some (41, true), .mv 42 (.t 1)⟩ ::
     ⟨some (41, true), .mv 43 (.t 10)⟩ ::
     ⟨some (41, true), .ixs 44 2 (.t 42) (.t 43)⟩ ::
     ⟨some (41, true), .fa 45 1 (.t 44)⟩ ::
     ⟨some (41, true), .ld1 46 (.t 45)⟩ ::
     ⟨some (41, true), .mv 47 (.t 7)⟩ ::
     ⟨some (41, true), .bin 48 .gtr .num (.t 46) (.t 47)⟩ ::
     ⟨none, .pick 49 (.t 41) (.t 48) (.c (.v (.bool false)))⟩ ::
     ⟨none, .mv 50 (.t 49)⟩ ::
     ⟨some (50, true), .mv 51 (.t 8)⟩ ::
     ⟨some (50, true), .mv 52 (.t 1)⟩ ::
     ⟨some (50, true), .mv 53 (.t 10)⟩ ::
     ⟨some (50, true), .ixs 54 2 (.t 52) (.t 53)⟩ ::
     ⟨some (50, true), .fa 55 1 (.t 54)⟩ ::
     ⟨some (50, true), .ld1 56 (.t 55)⟩ ::
     ⟨some (50, true), .ixs 57 1 (.t 51) (.t 56)⟩ ::
     ⟨some (50, true), .ld1 58 (.t 57)⟩ ::
     ⟨some (50, true), .bin 59 .gtr .num (.t 58) (.c (.v (.int .i64 0)))⟩ ::
     ⟨none, .pick 60 (.t 50) (.t 59) (.c (.v (.bool false)))⟩ ::
     ⟨none, .mv 61 (.t 60)⟩ ::
     ⟨some (61, true), .mv 62 (.t 9)⟩ ::
     ⟨some (61, true), .bin 63 .lss .num (.t 62) (.c (.v (.int .i64 0)))⟩ ::
     ⟨some (61, true), .mv 64 (.t 63)⟩ ::
     ⟨some (64, false), .mv 65 (.t 8)⟩ ::
     ⟨some (64, false), .mv 66 (.t 1)⟩ ::
     ⟨some (64, false), .mv 67 (.t 10)⟩ ::
     ⟨some (64, false), .ixs 68 2 (.t 66) (.t 67)⟩ ::
     ⟨some (64, false), .fa 69 1 (.t 68)⟩ ::
     ⟨some (64, false), .ld1 70 (.t 69)⟩ ::
     ⟨some (64, false), .ixs 71 1 (.t 65) (.t 70)⟩ ::
     ⟨some (64, false), .ld1 72 (.t 71)⟩ ::
     ⟨some (64, false), .bin 73 .add .num (.t 72) (.c (.v (.int .i64 1)))⟩ ::
     ⟨some (64, false), .mv 74 (.t 9)⟩ ::
     ⟨some (64, false), .bin 75 .lss .num (.t 73) (.t 74)⟩ ::
     ⟨some (61, true), .pick 76 (.t 64) (.c (.v (.bool true))) (.t 75)⟩ ::
     ⟨none, .pick 77 (.t 61) (.t 76) (.c (.v (.bool false)))⟩ :: []))
   (.cnd (.t 77)
    (.ops [⟨none, .mv 78 (.t 8)⟩,
     ⟨none, .mv 79 (.t 1)⟩,
     ⟨none, .mv 80 (.t 10)⟩,
     ⟨none, .ixs 81 2 (.t 79) (.t 80)⟩,
     ⟨none, .fa 82 1 (.t 81)⟩,
     ⟨none, .ld1 83 (.t 82)⟩,
     ⟨none, .ixs 84 1 (.t 78) (.t 83)⟩,
     ⟨none, .ld1 85 (.t 84)⟩,
     ⟨none, .bin 86 .add .num (.t 85) (.c (.v (.int .i64 1)))⟩,
     ⟨none, .asg 9 (.t 86)⟩])
    .skip))) (.scr x26_3))
 (.ops [⟨none, .mv 32 (.t 10)⟩,
  ⟨none, .bin 33 .add .num (.t 32) (.c (.v (.int .i64 1)))⟩,
  ⟨none, .asg 10 (.t 33)⟩])))
@[simp] def x26_4 : List Bool := bits 156 [0, 1, 6, 7]
@[simp] def X26_4 (s0 s1 s6 s7 : V) : St := tab 156 14 (fu (fu (fu (fu dd 7 s7) 6 s6) 1 s1) 0 s0) dd
@[simp] def h26_2 : List Bool := bits 156 [0, 1, 6, 7, 8, 11, 12]
@[simp] def L26_2 (s0 s1 s6 s7 s8 s11 s12 : V) : St := tab 156 14 (fu (fu (fu (fu (fu (fu (fu dd 12 s12) 11 s11) 8 s8) 7 s7) 6 s6) 1 s1) 0 s0) dd
@[simp] def x26_5 : List Bool := bits 156 [0, 1, 6, 7, 8, 11, 12]
@[simp] def X26_5 (s0 s1 s6 s7 s8 s11 s12 : V) : St := tab 156 14 (fu (fu (fu (fu (fu (fu (fu dd 12 s12) 11 s11) 8 s8) 7 s7) 6 s6) 1 s1) 0 s0) dd
@[simp] def x26_6 : List Bool := bits 156 [0, 1, 6, 7, 8, 11, 12]
@[simp] def X26_6 (s0 s1 s6 s7 s8 s11 s12 : V) : St := tab 156 14 (fu (fu (fu (fu (fu (fu (fu dd 12 s12) 11 s11) 8 s8) 7 s7) 6 s6) 1 s1) 0 s0) dd
@[simp] def h26_3 : List Bool := bits 156 [0, 1, 6, 7, 8, 11, 12, 13]
@[simp] def L26_3 (s0 s1 s6 s7 s8 s11 s12 s13 : V) : St := tab 156 14 (fu (fu (fu (fu (fu (fu (fu (fu dd 13 s13) 12 s12) 11 s11) 8 s8) 7 s7) 6 s6) 1 s1) 0 s0) dd
@[simp] def x26_7 : List Bool := bits 156 [0, 1, 6, 7, 8, 11, 12, 13]
@[simp] def X26_7 (s0 s1 s6 s7 s8 s11 s12 s13 : V) : St := tab 156 14 (fu (fu (fu (fu (fu (fu (fu (fu dd 13 s13) 12 s12) 11 s11) 8 s8) 7 s7) 6 s6) 1 s1) 0 s0) dd
def b26_3 : MC := .seq (.scr h26_3)
 (.seq (.seq (.ops [⟨none, .mv 109 (.t 13)⟩,
    ⟨none, .mv 110 (.t 1)⟩,
    ⟨none, .len 111 false (.t 110)⟩,
    ⟨none, .bin 112 .lss .num (.t 109) (.t 111)⟩])
  (.cnd (.t 112)
   .skip
   (.seq (.scr x26_6) (.ex 6))))
 (.seq (.seq (.blk 7 (.seq (.ops (⟨none, .mv 115 (.t 1)⟩ ::
     ⟨none, .mv 116 (.t 13)⟩ ::
     ⟨none, .ixs 117 2 (.t 115) (.t 116)⟩ ::
     ⟨none, .fa 118 0 (.t 117)⟩ ::
     ⟨none, .ld1 119 (.t 118)⟩ ::
     ⟨none, .mv 120 (.t 11)⟩ ::
     ⟨none, .bin 121 .eql .num (.t 119) (.t 120)⟩ ::
     ⟨none, .mv 122 (.t 121)⟩ ::
     ⟨some (122, true), .mv 123 (.t 1)⟩ ::
     ⟨some (122, true), .mv 124 (.t 13)⟩ ::
     ⟨some (122, true), .ixs 125 2 (.t 123) (.t 124)⟩ ::
     ⟨some (122, true), .fa 126 1 (.t 125)⟩ ::
     ⟨some (122, true), .ld1 127 (.t 126)⟩ ::
     ⟨some (122, true), .mv 128 (.t 7)⟩ ::
     ⟨some (122, true), .bin 129 .gtr .num (.t 127) (.t 128)⟩ ::
     ⟨none, .pick 130 (.t 122) (.t 129) (.c (.v (.bool false)))⟩ ::
     ⟨none, .mv 131 (.t 130)⟩ ::
     ⟨some (131, true), .mv 132 (.t 8)⟩ ::
     ⟨some (131, true), .mv 133 (.t 1)⟩ ::
     ⟨some (131, true), .mv 134 (.t 13)⟩ ::
     ⟨some (131, true), .ixs 135 2 (.t 133) (.t 134)⟩ ::
     ⟨some (131, true), .fa 136 1 (.t 135)⟩ ::
     ⟨some (131, true), .ld1 137 (.t 136)⟩ ::
     ⟨some (131, true), .ixs 138 1 (.t 132) (.t 137)⟩ ::
     ⟨some (131, true), .ld1 139 (.t 138)⟩ ::
     ⟨some (131, true), .mv 140 (.t 12)⟩ ::
     ⟨some (131, true), .bin 141 .eql .num (.t 139) (.t 140)⟩ ::
     ⟨none, .pick 142 (.t 131) (.t 141) (.c (.v (.bool false)))⟩ :: []))
   (.cnd (.t 142)
    (.seq (.ops [⟨none, .mv 143 (.t 1)⟩,
      ⟨none, .mv 144 (.t 13)⟩,
      ⟨none, .ixs 145 2 (.t 143) (.t 144)⟩,
      ⟨none, .fa 146 1 (.t 145)⟩,
      ⟨none, .ld1 147 (.t 146)⟩,
      ⟨none, .asg 11 (.t 147)⟩])
    (.seq (.scr x26_6) (.ex 6)))
    .skip))) (.scr x26_7))
 (.ops [⟨none, .mv 113 (.t 13)⟩,
  ⟨none, .bin 114 .add .num (.t 113) (.c (.v (.int .i64 1)))⟩,
  ⟨none, .asg 13 (.t 114)⟩])))
def b26_2 : MC := .seq (.scr h26_2)
 (.seq (.seq (.ops [⟨none, .mv 105 (.t 12)⟩,
    ⟨none, .bin 106 .gtr .num (.t 105) (.c (.v (.int .i64 0)))⟩])
  (.cnd (.t 106)
   .skip
   (.seq (.scr x26_4) (.ex 4))))
 (.seq (.seq (.blk 5 (.seq (.seq (.ops [⟨none, .asg 13 (.c (.v (.int .i64 0)))⟩])
    (.seq (.blk 6 (.lop b26_3)) (.scr x26_6)))
   (.ops [⟨none, .mv 148 (.t 6)⟩,
    ⟨none, .mv 149 (.t 11)⟩,
    ⟨none, .bs 150 1 1 [(.v (.int .i64 0))] [(0, 1, (.t 149))]⟩,
    ⟨none, .app 151 1 (.t 148) (.t 150)⟩,
    ⟨none, .asg 6 (.t 151)⟩]))) (.scr x26_5))
 (.ops [⟨none, .mv 107 (.t 12)⟩,
  ⟨none, .bin 108 .sub .num (.t 107) (.c (.v (.int .i64 1)))⟩,
  ⟨none, .asg 12 (.t 108)⟩])))
def b26_0 : MC := .seq (.scr h26_0)
 (.seq (.seq (.ops [⟨none, .mv 18 (.t 7)⟩,
    ⟨none, .mv 19 (.t 0)⟩,
    ⟨none, .bin 20 .lss .num (.t 18) (.t 19)⟩])
  (.cnd (.t 20)
   .skip
   (.seq (.scr x26_0) (.ex 0))))
 (.seq (.seq (.blk 1 (.seq (.ops [⟨none, .mv 23 (.t 0)⟩,
     ⟨none, .mv 24 (.t 1)⟩,
     ⟨none, .mv 25 (.t 7)⟩,
     ⟨none, .mv 26 (.t 7)⟩,
     ⟨none, .call (some 27) 37 [(.t 23), (.t 24), (.t 25), (.t 26)]⟩,
     ⟨none, .asg 8 (.t 27)⟩])
   (.seq (.ops [⟨none, .asg 9 (.c (.v (.int .i64 (-1))))⟩])
   (.seq (.seq (.ops [⟨none, .asg 10 (.c (.v (.int .i64 0)))⟩])
    (.seq (.blk 2 (.lop b26_1)) (.scr x26_2)))
   (.seq (.seq (.ops [⟨none, .mv 87 (.t 9)⟩,
      ⟨none, .bin 88 .lss .num (.t 87) (.c (.v (.int .i64 0)))⟩,
      ⟨none, .mv 89 (.t 88)⟩,
      ⟨some (89, false), .mv 90 (.t 6)⟩,
      ⟨some (89, false), .len 91 false (.t 90)⟩,
      ⟨some (89, false), .bin 92 .gtr .num (.t 91) (.c (.v (.int .i64 0)))⟩,
      ⟨some (89, false), .mv 93 (.t 92)⟩,
      ⟨some (93, true), .mv 94 (.t 9)⟩,
      ⟨some (93, true), .mv 95 (.t 6)⟩,
      ⟨some (93, true), .len 96 false (.t 95)⟩,
      ⟨some (93, true), .bin 97 .geq .num (.t 94) (.t 96)⟩,
      ⟨some (89, false), .pick 98 (.t 93) (.t 97) (.c (.v (.bool false)))⟩,
      ⟨none, .pick 99 (.t 89) (.c (.v (.bool true))) (.t 98)⟩])
    (.cnd (.t 99)
     (.seq (.scr x26_1) (.ex 1))
     .skip))
   (.seq (.ops [⟨none, .mv 100 (.t 7)⟩,
     ⟨none, .bs 101 1 1 [(.v (.int .i64 0))] [(0, 1, (.t 100))]⟩,
     ⟨none, .asg 6 (.t 101)⟩])
   (.seq (.ops [⟨none, .mv 102 (.t 7)⟩,
     ⟨none, .asg 11 (.t 102)⟩])
   (.seq (.ops [⟨none, .mv 103 (.t 9)⟩,
     ⟨none, .bin 104 .sub .num (.t 103) (.c (.v (.int .i64 1)))⟩,
     ⟨none, .asg 12 (.t 104)⟩])
   (.seq (.blk 4 (.lop b26_2)) (.scr x26_4)))))))))) (.scr x26_1))
 (.ops [⟨none, .mv 21 (.t 7)⟩,
  ⟨none, .bin 22 .add .num (.t 21) (.c (.v (.int .i64 1)))⟩,
  ⟨none, .asg 7 (.t 22)⟩])))
def c26 : MF := ⟨(.seq (.ops [⟨none, .asg 4 (.c (.nd (.sl true 1 0) []))⟩,
   ⟨none, .asg 5 (.c (.v (.int .i64 0)))⟩])
 (.seq (.seq (.ops [⟨none, .mv 14 (.t 0)⟩,
    ⟨none, .mv 15 (.t 1)⟩,
    ⟨none, .call (some 16) 21 [(.t 14), (.t 15)]⟩,
    ⟨none, .un 17 .not (.t 16)⟩])
  (.cnd (.t 17)
   (.seq (.ops [⟨none, .asg 4 (.c (.nd (.sl true 1 0) []))⟩,
     ⟨none, .asg 5 (.c (.v (.int .i64 1)))⟩])
   (.seq (.scr r26) .ret))
   .skip))
 (.seq (.ops [⟨none, .asg 6 (.c (.nd (.sl true 1 0) []))⟩])
 (.seq (.seq (.ops [⟨none, .asg 7 (.c (.v (.int .i64 0)))⟩])
  (.seq (.blk 0 (.lop b26_0)) (.scr x26_0)))
 (.seq (.seq (.ops [⟨none, .mv 152 (.t 6)⟩,
    ⟨none, .len 153 false (.t 152)⟩,
    ⟨none, .bin 154 .eql .num (.t 153) (.c (.v (.int .i64 0)))⟩])
  (.cnd (.t 154)
   (.seq (.ops [⟨none, .asg 4 (.c (.nd (.sl true 1 0) []))⟩,
     ⟨none, .asg 5 (.c (.v (.int .i64 7)))⟩])
   (.seq (.scr r26) .ret))
   .skip))
 (.seq (.ops [⟨none, .mv 155 (.t 6)⟩,
   ⟨none, .asg 4 (.t 155)⟩,
   ⟨none, .asg 5 (.c (.v (.int .i64 0)))⟩])
 (.seq (.scr r26) .ret))))))),
  156, [4, 5]⟩

/-- coinage/coinagelaw06.index -/
abbrev K27 : Nat := 6
def hints27 : List (List Bool) := [bits 19 [], bits 19 [0, 1, 5], bits 19 [], bits 19 [0, 1, 5], bits 19 [4], bits 19 [4]]
@[simp] def r27 : List Bool := bits 19 [4]
@[simp] def R27 (s4 : V) : St := tab 19 6 (fu dd 4 s4) dd
@[simp] def x27_0 : List Bool := bits 19 []
@[simp] def X27_0 : St := tab 19 6 dd dd
@[simp] def h27_0 : List Bool := bits 19 [0, 1, 5]
@[simp] def L27_0 (s0 s1 s5 : V) : St := tab 19 6 (fu (fu (fu dd 5 s5) 1 s1) 0 s0) dd
@[simp] def x27_1 : List Bool := bits 19 [0, 1, 5]
@[simp] def X27_1 (s0 s1 s5 : V) : St := tab 19 6 (fu (fu (fu dd 5 s5) 1 s1) 0 s0) dd
def b27_0 : MC := .seq (.scr h27_0)
 (.seq (.seq (.ops [⟨none, .mv 6 (.t 5)⟩,
    ⟨none, .mv 7 (.t 0)⟩,
    ⟨none, .len 8 false (.t 7)⟩,
    ⟨none, .bin 9 .lss .num (.t 6) (.t 8)⟩])
  (.cnd (.t 9)
   .skip
   (.seq (.scr x27_0) (.ex 0))))
 (.seq (.seq (.blk 1 (.seq (.ops [⟨none, .mv 12 (.t 0)⟩,
     ⟨none, .mv 13 (.t 5)⟩,
     ⟨none, .ixs 14 1 (.t 12) (.t 13)⟩,
     ⟨none, .ld1 15 (.t 14)⟩,
     ⟨none, .mv 16 (.t 1)⟩,
     ⟨none, .bin 17 .eql .num (.t 15) (.t 16)⟩])
   (.cnd (.t 17)
    (.seq (.ops [⟨none, .mv 18 (.t 5)⟩,
      ⟨none, .asg 4 (.t 18)⟩])
    (.seq (.scr r27) .ret))
    .skip))) (.scr x27_1))
 (.ops [⟨none, .mv 10 (.t 5)⟩,
  ⟨none, .bin 11 .add .num (.t 10) (.c (.v (.int .i64 1)))⟩,
  ⟨none, .asg 5 (.t 11)⟩])))
def c27 : MF := ⟨(.seq (.ops [⟨none, .asg 4 (.c (.v (.int .i64 0)))⟩])
 (.seq (.seq (.ops [⟨none, .asg 5 (.c (.v (.int .i64 0)))⟩])
  (.seq (.blk 0 (.lop b27_0)) (.scr x27_0)))
 (.seq (.ops [⟨none, .asg 4 (.c (.v (.int .i64 (-1))))⟩])
 (.seq (.scr r27) .ret)))),
  19, [4]⟩

/-- (coinage/poset.set).has -/
abbrev K28 : Nat := 5
def hints28 : List (List Bool) := [bits 10 [4]]
@[simp] def r28 : List Bool := bits 10 [4]
@[simp] def R28 (s4 : V) : St := tab 10 5 (fu dd 4 s4) dd
def c28 : MF := ⟨(.seq (.ops [⟨none, .asg 4 (.c (.v (.bool false)))⟩])
 (.seq (.ops [⟨none, .mv 5 (.t 0)⟩,
   ⟨none, .mv 6 (.t 1)⟩,
   ⟨none, .bin 7 .shr .num (.t 5) (.t 6)⟩,
   ⟨none, .bin 8 .and .num (.t 7) (.c (.v (.int .u32 1)))⟩,
   ⟨none, .bin 9 .neq .num (.t 8) (.c (.v (.int .u32 0)))⟩,
   ⟨none, .asg 4 (.t 9)⟩])
 (.seq (.scr r28) .ret))),
  10, [4]⟩

/-- coinage/poset.next -/
abbrev K29 : Nat := 13
def hints29 : List (List Bool) := [bits 28 [5], bits 28 [1, 5, 10, 11, 12], bits 28 [5], bits 28 [1, 5, 10, 11, 12], bits 28 [4]]
@[simp] def r29 : List Bool := bits 28 [4]
@[simp] def R29 (s4 : V) : St := tab 28 13 (fu dd 4 s4) dd
@[simp] def x29_0 : List Bool := bits 28 [5]
@[simp] def X29_0 (s5 : V) : St := tab 28 13 (fu dd 5 s5) dd
@[simp] def h29_0 : List Bool := bits 28 [1, 5, 10, 11, 12]
@[simp] def L29_0 (s1 s5 s10 s11 s12 : V) : St := tab 28 13 (fu (fu (fu (fu (fu dd 12 s12) 11 s11) 10 s10) 5 s5) 1 s1) dd
@[simp] def x29_1 : List Bool := bits 28 [1, 5, 10, 11, 12]
@[simp] def X29_1 (s1 s5 s10 s11 s12 : V) : St := tab 28 13 (fu (fu (fu (fu (fu dd 12 s12) 11 s11) 10 s10) 5 s5) 1 s1) dd
def b29_0 : MC := .seq (.scr h29_0)
 (.seq (.ops [⟨none, .bin 13 .lss .num (.t 12) (.t 11)⟩])
 (.seq (.cnd (.t 13)
   .skip
   (.seq (.scr x29_0) (.ex 0)))
 (.seq (.seq (.blk 1 (.seq (.ops [⟨none, .ixs 14 2 (.t 10) (.t 12)⟩,
     ⟨none, .ldn 15 2 (.t 14)⟩,
     ⟨none, .alc 7 [(.v (.int .i64 0)), (.v (.int .i64 0))]⟩,
     ⟨none, .stn none 2 (.t 7) (.t 15)⟩])
   (.drw [⟨none, .mv 16 (.t 5)⟩,
    ⟨none, .fa 17 0 (.t 7)⟩,
    ⟨none, .ld1 18 (.t 17)⟩,
    ⟨none, .ixs 19 1 (.t 16) (.t 18)⟩,
    ⟨none, .ld1 20 (.t 19)⟩,
    ⟨none, .fa 21 1 (.t 7)⟩,
    ⟨none, .ld1 22 (.t 21)⟩,
    ⟨none, .bin 23 .shl .num (.c (.v (.int .u32 1))) (.t 22)⟩] [⟨none, .bin 24 .or .num (.t 20) (.t 23)⟩,
    ⟨none, .ixs 25 1 (.t 16) (.t 18)⟩,
    ⟨none, .stn none 1 (.t 25) (.t 24)⟩]))) (.scr x29_1))
 (.ops [⟨none, .bin 26 .add .num (.t 12) (.c (.v (.int .i64 1)))⟩,
  ⟨none, .mv 12 (.t 26)⟩]))))
def c29 : MF := ⟨(.seq (.ops [⟨none, .asg 4 (.c (.nd (.sl true 1 0) []))⟩])
 (.seq (.ops [⟨none, .mv 8 (.t 0)⟩,
   ⟨none, .mks 9 1 [(.v (.int .u32 0))] (.t 8) (.t 8)⟩,
   ⟨none, .asg 5 (.t 9)⟩])
 (.seq (.seq (.ops [⟨none, .mv 10 (.t 1)⟩,
    ⟨none, .len 11 false (.t 10)⟩,
    ⟨none, .mv 12 (.c (.v (.int .i64 0)))⟩])
  (.seq (.blk 0 (.lop b29_0)) (.scr x29_0)))
 (.seq (.ops [⟨none, .mv 27 (.t 5)⟩,
   ⟨none, .asg 4 (.t 27)⟩])
 (.seq (.scr r29) .ret))))),
  28, [4]⟩

/-- coinage/coinagebase.Has -/
abbrev K30 : Nat := 6
def hints30 : List (List Bool) := [bits 18 [], bits 18 [0, 1, 5], bits 18 [], bits 18 [0, 1, 5], bits 18 [4], bits 18 [4]]
@[simp] def r30 : List Bool := bits 18 [4]
@[simp] def R30 (s4 : V) : St := tab 18 6 (fu dd 4 s4) dd
@[simp] def x30_0 : List Bool := bits 18 []
@[simp] def X30_0 : St := tab 18 6 dd dd
@[simp] def h30_0 : List Bool := bits 18 [0, 1, 5]
@[simp] def L30_0 (s0 s1 s5 : V) : St := tab 18 6 (fu (fu (fu dd 5 s5) 1 s1) 0 s0) dd
@[simp] def x30_1 : List Bool := bits 18 [0, 1, 5]
@[simp] def X30_1 (s0 s1 s5 : V) : St := tab 18 6 (fu (fu (fu dd 5 s5) 1 s1) 0 s0) dd
def b30_0 : MC := .seq (.scr h30_0)
 (.seq (.seq (.ops [⟨none, .mv 6 (.t 5)⟩,
    ⟨none, .mv 7 (.t 0)⟩,
    ⟨none, .len 8 false (.t 7)⟩,
    ⟨none, .bin 9 .lss .num (.t 6) (.t 8)⟩])
  (.cnd (.t 9)
   .skip
   (.seq (.scr x30_0) (.ex 0))))
 (.seq (.seq (.blk 1 (.seq (.ops [⟨none, .mv 12 (.t 0)⟩,
     ⟨none, .mv 13 (.t 5)⟩,
     ⟨none, .ixs 14 1 (.t 12) (.t 13)⟩,
     ⟨none, .ld1 15 (.t 14)⟩,
     ⟨none, .mv 16 (.t 1)⟩,
     ⟨none, .bin 17 .eql .num (.t 15) (.t 16)⟩])
   (.cnd (.t 17)
    (.seq (.ops [⟨none, .asg 4 (.c (.v (.bool true)))⟩])
    (.seq (.scr r30) .ret))
    .skip))) (.scr x30_1))
 (.ops [⟨none, .mv 10 (.t 5)⟩,
  ⟨none, .bin 11 .add .num (.t 10) (.c (.v (.int .i64 1)))⟩,
  ⟨none, .asg 5 (.t 11)⟩])))
def c30 : MF := ⟨(.seq (.ops [⟨none, .asg 4 (.c (.v (.bool false)))⟩])
 (.seq (.seq (.ops [⟨none, .asg 5 (.c (.v (.int .i64 0)))⟩])
  (.seq (.blk 0 (.lop b30_0)) (.scr x30_0)))
 (.seq (.ops [⟨none, .asg 4 (.c (.v (.bool false)))⟩])
 (.seq (.scr r30) .ret)))),
  18, [4]⟩

/-- coinage/poset.reach -/
abbrev K31 : Nat := 17
def hints31 : List (List Bool) := [bits 38 [5], bits 38 [0, 5, 11, 12], bits 38 [5], bits 38 [0, 5, 11, 12], bits 38 [0, 5, 11, 12], bits 38 [0, 5, 6, 11, 12, 15, 16], bits 38 [0, 5, 11, 12], bits 38 [0, 5, 6, 11, 12, 15, 16], bits 38 [4]]
@[simp] def r31 : List Bool := bits 38 [4]
@[simp] def R31 (s4 : V) : St := tab 38 17 (fu dd 4 s4) dd
@[simp] def x31_0 : List Bool := bits 38 [5]
@[simp] def X31_0 (s5 : V) : St := tab 38 17 (fu dd 5 s5) dd
@[simp] def h31_0 : List Bool := bits 38 [0, 5, 11, 12]
@[simp] def L31_0 (s0 s5 s11 s12 : V) : St := tab 38 17 (fu (fu (fu (fu dd 12 s12) 11 s11) 5 s5) 0 s0) dd
@[simp] def x31_1 : List Bool := bits 38 [0, 5, 11, 12]
@[simp] def X31_1 (s0 s5 s11 s12 : V) : St := tab 38 17 (fu (fu (fu (fu dd 12 s12) 11 s11) 5 s5) 0 s0) dd
@[simp] def x31_2 : List Bool := bits 38 [0, 5, 11, 12]
@[simp] def X31_2 (s0 s5 s11 s12 : V) : St := tab 38 17 (fu (fu (fu (fu dd 12 s12) 11 s11) 5 s5) 0 s0) dd
@[simp] def h31_1 : List Bool := bits 38 [0, 5, 6, 11, 12, 15, 16]
@[simp] def L31_1 (s0 s5 s6 s11 s12 s15 s16 : V) : St := tab 38 17 (fu (fu (fu (fu (fu (fu (fu dd 16 s16) 15 s15) 12 s12) 11 s11) 6 s6) 5 s5) 0 s0) dd
@[simp] def x31_3 : List Bool := bits 38 [0, 5, 6, 11, 12, 15, 16]
@[simp] def X31_3 (s0 s5 s6 s11 s12 s15 s16 : V) : St := tab 38 17 (fu (fu (fu (fu (fu (fu (fu dd 16 s16) 15 s15) 12 s12) 11 s11) 6 s6) 5 s5) 0 s0) dd
def b31_1 : MC := .seq (.scr h31_1)
 (.seq (.ops [⟨none, .bin 17 .lss .num (.t 16) (.t 15)⟩])
 (.seq (.cnd (.t 17)
   .skip
   (.seq (.scr x31_2) (.ex 2)))
 (.seq (.seq (.blk 3 (.seq (.ops [⟨none, .mv 18 (.t 16)⟩,
     ⟨none, .asg 7 (.t 18)⟩])
   (.seq (.ops [⟨none, .mv 19 (.t 5)⟩,
     ⟨none, .mv 20 (.t 7)⟩,
     ⟨none, .ixs 21 1 (.t 19) (.t 20)⟩,
     ⟨none, .ld1 22 (.t 21)⟩,
     ⟨none, .mv 23 (.t 6)⟩,
     ⟨none, .call (some 24) 28 [(.t 22), (.t 23)]⟩])
   (.cnd (.t 24)
    (.drw [⟨none, .mv 25 (.t 5)⟩,
     ⟨none, .mv 26 (.t 7)⟩,
     ⟨none, .ixs 27 1 (.t 25) (.t 26)⟩,
     ⟨none, .ld1 28 (.t 27)⟩,
     ⟨none, .mv 29 (.t 5)⟩,
     ⟨none, .mv 30 (.t 6)⟩,
     ⟨none, .ixs 31 1 (.t 29) (.t 30)⟩,
     ⟨none, .ld1 32 (.t 31)⟩] [⟨none, .bin 33 .or .num (.t 28) (.t 32)⟩,
     ⟨none, .ixs 34 1 (.t 25) (.t 26)⟩,
     ⟨none, .stn none 1 (.t 34) (.t 33)⟩])
    .skip)))) (.scr x31_3))
 (.ops [⟨none, .bin 35 .add .num (.t 16) (.c (.v (.int .i64 1)))⟩,
  ⟨none, .mv 16 (.t 35)⟩]))))
def b31_0 : MC := .seq (.scr h31_0)
 (.seq (.ops [⟨none, .bin 13 .lss .num (.t 12) (.t 11)⟩])
 (.seq (.cnd (.t 13)
   .skip
   (.seq (.scr x31_0) (.ex 0)))
 (.seq (.seq (.blk 1 (.seq (.ops [⟨none, .mv 14 (.t 12)⟩,
     ⟨none, .asg 6 (.t 14)⟩])
   (.seq (.ops [⟨none, .mv 15 (.t 0)⟩,
     ⟨none, .mv 16 (.c (.v (.int .i64 0)))⟩])
   (.seq (.blk 2 (.lop b31_1)) (.scr x31_2))))) (.scr x31_1))
 (.ops [⟨none, .bin 36 .add .num (.t 12) (.c (.v (.int .i64 1)))⟩,
  ⟨none, .mv 12 (.t 36)⟩]))))
def c31 : MF := ⟨(.seq (.ops [⟨none, .asg 4 (.c (.nd (.sl true 1 0) []))⟩])
 (.seq (.ops [⟨none, .mv 8 (.t 0)⟩,
   ⟨none, .mv 9 (.t 1)⟩,
   ⟨none, .call (some 10) 29 [(.t 8), (.t 9)]⟩,
   ⟨none, .asg 5 (.t 10)⟩])
 (.seq (.seq (.ops [⟨none, .mv 11 (.t 0)⟩,
    ⟨none, .mv 12 (.c (.v (.int .i64 0)))⟩])
  (.seq (.blk 0 (.lop b31_0)) (.scr x31_0)))
 (.seq (.ops [⟨none, .mv 37 (.t 5)⟩,
   ⟨none, .asg 4 (.t 37)⟩])
 (.seq (.scr r31) .ret))))),
  38, [4]⟩

/-- coinage/coinagebase.Ascending -/
abbrev K32 : Nat := 8
def hints32 : List (List Bool) := [bits 44 [], bits 44 [0, 1, 2, 7], bits 44 [], bits 44 [0, 1, 2, 7], bits 44 [6], bits 44 [6]]
@[simp] def r32 : List Bool := bits 44 [6]
@[simp] def R32 (s6 : V) : St := tab 44 8 (fu dd 6 s6) dd
@[simp] def x32_0 : List Bool := bits 44 []
@[simp] def X32_0 : St := tab 44 8 dd dd
@[simp] def h32_0 : List Bool := bits 44 [0, 1, 2, 7]
@[simp] def L32_0 (s0 s1 s2 s7 : V) : St := tab 44 8 (fu (fu (fu (fu dd 7 s7) 2 s2) 1 s1) 0 s0) dd
@[simp] def x32_1 : List Bool := bits 44 [0, 1, 2, 7]
@[simp] def X32_1 (s0 s1 s2 s7 : V) : St := tab 44 8 (fu (fu (fu (fu dd 7 s7) 2 s2) 1 s1) 0 s0) dd
def b32_0 : MC := .seq (.scr h32_0)
 (.seq (.seq (.ops [⟨none, .mv 8 (.t 7)⟩,
    ⟨none, .mv 9 (.t 0)⟩,
    ⟨none, .len 10 false (.t 9)⟩,
    ⟨none, .bin 11 .lss .num (.t 8) (.t 10)⟩])
  (.cnd (.t 11)
   .skip
   (.seq (.scr x32_0) (.ex 0))))
 (.seq (.seq (.blk 1 (.seq (.drw (⟨none, .mv 14 (.t 0)⟩ ::
     ⟨none, .mv 15 (.t 7)⟩ ::
     ⟨none, .ixs 16 1 (.t 14) (.t 15)⟩ ::
     ⟨none, .ld1 17 (.t 16)⟩ ::
     ⟨none, .mv 18 (.t 1)⟩ ::
     ⟨none, .bin 19 .lss .num (.t 17) (.t 18)⟩ ::
     ⟨none, .mv 20 (.t 19)⟩ ::
     ⟨some (20, false), .mv 21 (.t 0)⟩ ::
     ⟨some (20, false), .mv 22 (.t 7)⟩ ::
     ⟨some (20, false), .ixs 23 1 (.t 21) (.t 22)⟩ ::
     ⟨some (20, false), .ld1 24 (.t 23)⟩ ::
     ⟨some (20, false), .mv 25 (.t 2)⟩ ::
     ⟨some (20, false), .bin 26 .gtr .num (.t 24) (.t 25)⟩ ::
     ⟨none, .pick 27 (.t 20) (.c (.v (.bool true))) (.t 26)⟩ ::
     ⟨none, .mv 28 (.t 27)⟩ ::
     ⟨some (28, false), .mv 29 (.t 7)⟩ ::
     ⟨some (28, false), .bin 30 .gtr .num (.t 29) (.c (.v (.int .i64 0)))⟩ ::
     ⟨some (28, false), .mv 31 (.t 30)⟩ ::
     ⟨some (31, true), .mv 32 (.t 0)⟩ ::
     ⟨some (31, true), .mv 33 (.t 7)⟩ ::
     ⟨some (31, true), .ixs 34 1 (.t 32) (.t 33)⟩ ::
     ⟨some (31, true), .ld1 35 (.t 34)⟩ ::
     ⟨some (31, true), .mv 36 (.t 0)⟩ ::
     ⟨some (31, true), .mv 37 (.t 7)⟩ ::
     ⟨some (31, true), .bin 38 .sub .num (.t 37) (.c (.v (.int .i64 1)))⟩ ::
     ⟨some (31, true), .ixs 39 1 (.t 36) (.t 38)⟩ ::
     ⟨some (31, true), .ld1 40 (.t 39)⟩ :: []) [⟨some (31, true), .bin 41 .leq .num (.t 35) (.t 40)⟩,
     ⟨some (28, false), .pick 42 (.t 31) (.t 41) (.c (.v (.bool false)))⟩,
     ⟨none, .pick 43 (.t 28) (.c (.v (.bool true))) (.t 42)⟩])
   (.cnd (.t 43)
    (.seq (.ops [⟨none, .asg 6 (.c (.v (.bool false)))⟩])
    (.seq (.scr r32) .ret))
    .skip))) (.scr x32_1))
 (.ops [⟨none, .mv 12 (.t 7)⟩,
  ⟨none, .bin 13 .add .num (.t 12) (.c (.v (.int .i64 1)))⟩,
  ⟨none, .asg 7 (.t 13)⟩])))
def c32 : MF := ⟨(.seq (.ops [⟨none, .asg 6 (.c (.v (.bool false)))⟩])
 (.seq (.seq (.ops [⟨none, .asg 7 (.c (.v (.int .i64 0)))⟩])
  (.seq (.blk 0 (.lop b32_0)) (.scr x32_0)))
 (.seq (.ops [⟨none, .asg 6 (.c (.v (.bool true)))⟩])
 (.seq (.scr r32) .ret)))),
  44, [6]⟩

/-- coinage/coinagebase.Digraph -/
abbrev K33 : Nat := 6
def hints33 : List (List Bool) := [bits 115 [4], bits 115 [], bits 115 [0, 1, 5], bits 115 [], bits 115 [0, 1, 5], bits 115 [4], bits 115 [4], bits 115 [4]]
@[simp] def r33 : List Bool := bits 115 [4]
@[simp] def R33 (s4 : V) : St := tab 115 6 (fu dd 4 s4) dd
@[simp] def x33_0 : List Bool := bits 115 []
@[simp] def X33_0 : St := tab 115 6 dd dd
@[simp] def h33_0 : List Bool := bits 115 [0, 1, 5]
@[simp] def L33_0 (s0 s1 s5 : V) : St := tab 115 6 (fu (fu (fu dd 5 s5) 1 s1) 0 s0) dd
@[simp] def x33_1 : List Bool := bits 115 [0, 1, 5]
@[simp] def X33_1 (s0 s1 s5 : V) : St := tab 115 6 (fu (fu (fu dd 5 s5) 1 s1) 0 s0) dd
def b33_0 : MC := .seq (.scr h33_0)
 (.seq (.seq (.ops [⟨none, .mv 20 (.t 5)⟩,
    ⟨none, .mv 21 (.t 1)⟩,
    ⟨none, .len 22 false (.t 21)⟩,
    ⟨none, .bin 23 .lss .num (.t 20) (.t 22)⟩])
  (.cnd (.t 23)
   .skip
   (.seq (.scr x33_0) (.ex 0))))
 (.seq (.seq (.blk 1 (.seq (.seq (.drw (⟨none, .mv 26 (.t 1)⟩ ::
      ⟨none, .mv 27 (.t 5)⟩ ::
      ⟨none, .ixs 28 2 (.t 26) (.t 27)⟩ ::
      ⟨none, .fa 29 0 (.t 28)⟩ ::
      ⟨none, .ld1 30 (.t 29)⟩ ::
      ⟨none, .bin 31 .lss .num (.t 30) (.c (.v (.int .i64 0)))⟩ ::
      ⟨none, .mv 32 (.t 31)⟩ ::
      ⟨some (32, false), .mv 33 (.t 1)⟩ ::
      ⟨some (32, false), .mv 34 (.t 5)⟩ ::
      ⟨some (32, false), .ixs 35 2 (.t 33) (.t 34)⟩ ::
      ⟨some (32, false), .fa 36 0 (.t 35)⟩ ::
      ⟨some (32, false), .ld1 37 (.t 36)⟩ ::
      ⟨some (32, false), .mv 38 (.t 0)⟩ ::
      ⟨some (32, false), .bin 39 .geq .num (.t 37) (.t 38)⟩ ::
      ⟨none, .pick 40 (.t 32) (.c (.v (.bool true))) (.t 39)⟩ ::
      ⟨none, .mv 41 (.t 40)⟩ ::
      ⟨some (41, false), .mv 42 (.t 1)⟩ ::
      ⟨some (41, false), .mv 43 (.t 5)⟩ ::
      ⟨some (41, false), .ixs 44 2 (.t 42) (.t 43)⟩ ::
      ⟨some (41, false), .fa 45 1 (.t 44)⟩ ::
      ⟨some (41, false), .ld1 46 (.t 45)⟩ ::
      ⟨some (41, false), .bin 47 .lss .num (.t 46) (.c (.v (.int .i64 0)))⟩ ::
      ⟨none, .pick 48 (.t 41) (.c (.v (.bool true))) (.t 47)⟩ ::
      ⟨none, .mv 49 (.t 48)⟩ ::
      ⟨some (49, false), .mv 50 (.t 1)⟩ ::
      ⟨some (49, false), .mv 51 (.t 5)⟩ ::
      ⟨some (49, false), .ixs 52 2 (.t 50) (.t 51)⟩ ::
      ⟨some (49, false), .fa 53 1 (.t 52)⟩ ::
      ⟨some (49, false), .ld1 54 (.t 53)⟩ ::
      ⟨some (49, false), .mv 55 (.t 0)⟩ ::
      ⟨some (49, false), .bin 56 .geq .num (.t 54) (.t 55)⟩ ::
      ⟨none, .pick 57 (.t 49) (.c (.v (.bool true))) (.t 56)⟩ ::
      ⟨none, .mv 58 (.t 57)⟩ ::
      ⟨some (58, false), .mv 59 (.t 1)⟩ ::
      ⟨some (58, false), .mv 60 (.t 5)⟩ ::
      ⟨some (58, false), .ixs 61 2 (.t 59) (.t 60)⟩ ::
      ⟨some (58, false), .fa 62 0 (.t 61)⟩ ::
      ⟨some (58, false), .ld1 63 (.t 62)⟩ ::
      ⟨some (58, false), .mv 64 (.t 1)⟩ ::
      ⟨some (58, false), .mv 65 (.t 5)⟩ ::
      ⟨some (58, false), .ixs 66 2 (.t 64) (.t 65)⟩ ::
      ⟨some (58, false), .fa 67 1 (.t 66)⟩ ::
      ⟨some (58, false), .ld1 68 (.t 67)⟩ :: []) [⟨some (58, false), .bin 69 .eql .num (.t 63) (.t 68)⟩,
      ⟨none, .pick 70 (.t 58) (.c (.v (.bool true))) (.t 69)⟩])
    (.cnd (.t 70)
     (.seq (.ops [⟨none, .asg 4 (.c (.v (.bool false)))⟩])
     (.seq (.scr r33) .ret))
     .skip))
   (.seq (.drw (⟨none, .mv 71 (.t 5)⟩ ::
     ⟨none, .bin 72 .gtr .num (.t 71) (.c (.v (.int .i64 0)))⟩ ::
     ⟨none, .mv 73 (.t 72)⟩ ::
     ⟨some (73, true), .mv 74 (.t 1)⟩ ::
     ⟨some (73, true), .mv 75 (.t 5)⟩ ::
     ⟨some (73, true), .ixs 76 2 (.t 74) (.t 75)⟩ ::
     ⟨some (73, true), .fa 77 0 (.t 76)⟩ ::
     ⟨some (73, true), .ld1 78 (.t 77)⟩ ::
     ⟨some (73, true), .mv 79 (.t 1)⟩ ::
     ⟨some (73, true), .mv 80 (.t 5)⟩ ::
     ⟨some (73, true), .bin 81 .sub .num (.t 80) (.c (.v (.int .i64 1)))⟩ ::
     ⟨some (73, true), .ixs 82 2 (.t 79) (.t 81)⟩ ::
     ⟨some (73, true), .fa 83 0 (.t 82)⟩ ::
     ⟨some (73, true), .ld1 84 (.t 83)⟩ ::
     ⟨some (73, true), .bin 85 .lss .num (.t 78) (.t 84)⟩ ::
     ⟨some (73, true), .mv 86 (.t 85)⟩ ::
     ⟨some (86, false), .mv 87 (.t 1)⟩ ::
     ⟨some (86, false), .mv 88 (.t 5)⟩ ::
     ⟨some (86, false), .ixs 89 2 (.t 87) (.t 88)⟩ ::
     ⟨some (86, false), .fa 90 0 (.t 89)⟩ ::
     ⟨some (86, false), .ld1 91 (.t 90)⟩ ::
     ⟨some (86, false), .mv 92 (.t 1)⟩ ::
     ⟨some (86, false), .mv 93 (.t 5)⟩ ::
     ⟨some (86, false), .bin 94 .sub .num (.t 93) (.c (.v (.int .i64 1)))⟩ ::
     ⟨some (86, false), .ixs 95 2 (.t 92) (.t 94)⟩ ::
     ⟨some (86, false), .fa 96 0 (.t 95)⟩ ::
     ⟨some (86, false), .ld1 97 (.t 96)⟩ ::
     ⟨some (86, false), .bin 98 .eql .num (.t 91) (.t 97)⟩ ::
     ⟨some (86, false), .mv 99 (.t 98)⟩ ::
     ⟨some (99, true), .mv 100 (.t 1)⟩ ::
     ⟨some (99, true), .mv 101 (.t 5)⟩ ::
     ⟨some (99, true), .ixs 102 2 (.t 100) (.t 101)⟩ ::
     ⟨some (99, true), .fa 103 1 (.t 102)⟩ ::
     ⟨some (99, true), .ld1 104 (.t 103)⟩ ::
     ⟨some (99, true), .mv 105 (.t 1)⟩ ::
     ⟨some (99, true), .mv 106 (.t 5)⟩ ::
     ⟨some (99, true), .bin 107 .sub .num (.t 106) (.c (.v (.int .i64 1)))⟩ ::
     ⟨some (99, true), .ixs 108 2 (.t 105) (.t 107)⟩ ::
     ⟨some (99, true), .fa 109 1 (.t 108)⟩ ::
     ⟨some (99, true), .ld1 110 (.t 109)⟩ :: []) [⟨some (99, true), .bin 111 .leq .num (.t 104) (.t 110)⟩,
     ⟨some (86, false), .pick 112 (.t 99) (.t 111) (.c (.v (.bool false)))⟩,
     ⟨some (73, true), .pick 113 (.t 86) (.c (.v (.bool true))) (.t 112)⟩,
     ⟨none, .pick 114 (.t 73) (.t 113) (.c (.v (.bool false)))⟩])
   (.cnd (.t 114)
    (.seq (.ops [⟨none, .asg 4 (.c (.v (.bool false)))⟩])
    (.seq (.scr r33) .ret))
    .skip)))) (.scr x33_1))
 (.ops [⟨none, .mv 24 (.t 5)⟩,
  ⟨none, .bin 25 .add .num (.t 24) (.c (.v (.int .i64 1)))⟩,
  ⟨none, .asg 5 (.t 25)⟩])))
def c33 : MF := ⟨(.seq (.ops [⟨none, .asg 4 (.c (.v (.bool false)))⟩])
 (.seq (.seq (.ops [⟨none, .mv 6 (.t 0)⟩,
    ⟨none, .bin 7 .lss .num (.t 6) (.c (.v (.int .i64 0)))⟩,
    ⟨none, .mv 8 (.t 7)⟩,
    ⟨some (8, false), .mv 9 (.t 0)⟩,
    ⟨some (8, false), .bin 10 .gtr .num (.t 9) (.c (.v (.int .i64 24)))⟩,
    ⟨none, .pick 11 (.t 8) (.c (.v (.bool true))) (.t 10)⟩,
    ⟨none, .mv 12 (.t 11)⟩,
    ⟨some (12, false), .mv 13 (.t 1)⟩,
    ⟨some (12, false), .len 14 false (.t 13)⟩,
    ⟨some (12, false), .mv 15 (.t 0)⟩,
    ⟨some (12, false), .mv 16 (.t 0)⟩,
    ⟨some (12, false), .bin 17 .mul .num (.t 15) (.t 16)⟩,
    ⟨some (12, false), .bin 18 .gtr .num (.t 14) (.t 17)⟩,
    ⟨none, .pick 19 (.t 12) (.c (.v (.bool true))) (.t 18)⟩])
  (.cnd (.t 19)
   (.seq (.ops [⟨none, .asg 4 (.c (.v (.bool false)))⟩])
   (.seq (.scr r33) .ret))
   .skip))
 (.seq (.seq (.ops [⟨none, .asg 5 (.c (.v (.int .i64 0)))⟩])
  (.seq (.blk 0 (.lop b33_0)) (.scr x33_0)))
 (.seq (.ops [⟨none, .asg 4 (.c (.v (.bool true)))⟩])
 (.seq (.scr r33) .ret))))),
  115, [4]⟩

/-- coinage/poset.acyclic -/
abbrev K34 : Nat := 8
def hints34 : List (List Bool) := [bits 16 [], bits 16 [0, 5, 6, 7], bits 16 [], bits 16 [0, 5, 6, 7], bits 16 [2], bits 16 [2]]
@[simp] def r34 : List Bool := bits 16 [2]
@[simp] def R34 (s2 : V) : St := tab 16 8 (fu dd 2 s2) dd
@[simp] def x34_0 : List Bool := bits 16 []
@[simp] def X34_0 : St := tab 16 8 dd dd
@[simp] def h34_0 : List Bool := bits 16 [0, 5, 6, 7]
@[simp] def L34_0 (s0 s5 s6 s7 : V) : St := tab 16 8 (fu (fu (fu (fu dd 7 s7) 6 s6) 5 s5) 0 s0) dd
@[simp] def x34_1 : List Bool := bits 16 [0, 5, 6, 7]
@[simp] def X34_1 (s0 s5 s6 s7 : V) : St := tab 16 8 (fu (fu (fu (fu dd 7 s7) 6 s6) 5 s5) 0 s0) dd
def b34_0 : MC := .seq (.scr h34_0)
 (.seq (.ops [⟨none, .bin 8 .lss .num (.t 7) (.t 6)⟩])
 (.seq (.cnd (.t 8)
   .skip
   (.seq (.scr x34_0) (.ex 0)))
 (.seq (.seq (.blk 1 (.seq (.ops [⟨none, .mv 9 (.t 7)⟩,
     ⟨none, .ixs 10 1 (.t 5) (.t 7)⟩,
     ⟨none, .ld1 11 (.t 10)⟩,
     ⟨none, .asg 3 (.t 9)⟩,
     ⟨none, .asg 4 (.t 11)⟩])
   (.seq (.ops [⟨none, .mv 12 (.t 4)⟩,
     ⟨none, .mv 13 (.t 3)⟩,
     ⟨none, .call (some 14) 28 [(.t 12), (.t 13)]⟩])
   (.cnd (.t 14)
    (.seq (.ops [⟨none, .asg 2 (.c (.v (.bool false)))⟩])
    (.seq (.scr r34) .ret))
    .skip)))) (.scr x34_1))
 (.ops [⟨none, .bin 15 .add .num (.t 7) (.c (.v (.int .i64 1)))⟩,
  ⟨none, .mv 7 (.t 15)⟩]))))
def c34 : MF := ⟨(.seq (.ops [⟨none, .asg 2 (.c (.v (.bool false)))⟩])
 (.seq (.seq (.ops [⟨none, .mv 5 (.t 0)⟩,
    ⟨none, .len 6 false (.t 5)⟩,
    ⟨none, .mv 7 (.c (.v (.int .i64 0)))⟩])
  (.seq (.blk 0 (.lop b34_0)) (.scr x34_0)))
 (.seq (.ops [⟨none, .asg 2 (.c (.v (.bool true)))⟩])
 (.seq (.scr r34) .ret)))),
  16, [2]⟩

/-- coinage/coinageref06.Table -/
abbrev K35 : Nat := 60
def hints35 : List (List Bool) := [bits 60 [0, 4, 5], bits 60 [0, 1, 4, 5, 6], bits 60 [0, 4, 5], bits 60 [0, 1, 4, 5, 6], bits 60 [4, 5], bits 60 [0, 4, 5, 7], bits 60 [4, 5], bits 60 [0, 4, 5, 7], bits 60 [0, 4, 5, 7], bits 60 [0, 4, 5, 7, 8], bits 60 [0, 4, 5, 7], bits 60 [0, 4, 5, 7, 8], bits 60 [0, 4, 5, 7, 8], bits 60 [0, 4, 5, 7, 8, 9], bits 60 [0, 4, 5, 7, 8], bits 60 [0, 4, 5, 7, 8, 9], bits 60 [4]]
@[simp] def r35 : List Bool := bits 60 [4]
@[simp] def R35 (s4 : V) : St := tab 60 60 (fu dd 4 s4) dd
@[simp] def x35_0 : List Bool := bits 60 [0, 4, 5]
@[simp] def X35_0 (s0 s4 s5 : V) : St := tab 60 60 (fu (fu (fu dd 5 s5) 4 s4) 0 s0) dd
@[simp] def h35_0 : List Bool := bits 60 [0, 1, 4, 5, 6]
@[simp] def L35_0 (s0 s1 s4 s5 s6 : V) : St := tab 60 60 (fu (fu (fu (fu (fu dd 6 s6) 5 s5) 4 s4) 1 s1) 0 s0) dd
@[simp] def x35_1 : List Bool := bits 60 [0, 1, 4, 5, 6]
@[simp] def X35_1 (s0 s1 s4 s5 s6 : V) : St := tab 60 60 (fu (fu (fu (fu (fu dd 6 s6) 5 s5) 4 s4) 1 s1) 0 s0) dd
def b35_0 : MC := .seq (.scr h35_0)
 (.seq (.seq (.ops [⟨none, .mv 10 (.t 6)⟩,
    ⟨none, .mv 11 (.t 1)⟩,
    ⟨none, .len 12 false (.t 11)⟩,
    ⟨none, .bin 13 .lss .num (.t 10) (.t 12)⟩])
  (.cnd (.t 13)
   .skip
   (.seq (.scr x35_0) (.ex 0))))
 (.seq (.seq (.blk 1 (.drw [⟨none, .mv 16 (.t 1)⟩,
    ⟨none, .mv 17 (.t 6)⟩,
    ⟨none, .ixs 18 2 (.t 16) (.t 17)⟩,
    ⟨none, .fa 19 0 (.t 18)⟩,
    ⟨none, .ld1 20 (.t 19)⟩,
    ⟨none, .mv 21 (.t 1)⟩,
    ⟨none, .mv 22 (.t 6)⟩,
    ⟨none, .ixs 23 2 (.t 21) (.t 22)⟩,
    ⟨none, .fa 24 1 (.t 23)⟩,
    ⟨none, .ld1 25 (.t 24)⟩,
    ⟨none, .ixa 26 24 24 (.t 5) (.t 20)⟩] [⟨none, .ixa 27 1 24 (.t 26) (.t 25)⟩,
    ⟨none, .stn none 1 (.t 27) (.c (.v (.bool true)))⟩])) (.scr x35_1))
 (.ops [⟨none, .mv 14 (.t 6)⟩,
  ⟨none, .bin 15 .add .num (.t 14) (.c (.v (.int .i64 1)))⟩,
  ⟨none, .asg 6 (.t 15)⟩])))
@[simp] def x35_2 : List Bool := bits 60 [4, 5]
@[simp] def X35_2 (s4 s5 : V) : St := tab 60 60 (fu (fu dd 5 s5) 4 s4) dd
@[simp] def h35_1 : List Bool := bits 60 [0, 4, 5, 7]
@[simp] def L35_1 (s0 s4 s5 s7 : V) : St := tab 60 60 (fu (fu (fu (fu dd 7 s7) 5 s5) 4 s4) 0 s0) dd
@[simp] def x35_3 : List Bool := bits 60 [0, 4, 5, 7]
@[simp] def X35_3 (s0 s4 s5 s7 : V) : St := tab 60 60 (fu (fu (fu (fu dd 7 s7) 5 s5) 4 s4) 0 s0) dd
@[simp] def x35_4 : List Bool := bits 60 [0, 4, 5, 7]
@[simp] def X35_4 (s0 s4 s5 s7 : V) : St := tab 60 60 (fu (fu (fu (fu dd 7 s7) 5 s5) 4 s4) 0 s0) dd
@[simp] def h35_2 : List Bool := bits 60 [0, 4, 5, 7, 8]
@[simp] def L35_2 (s0 s4 s5 s7 s8 : V) : St := tab 60 60 (fu (fu (fu (fu (fu dd 8 s8) 7 s7) 5 s5) 4 s4) 0 s0) dd
@[simp] def x35_5 : List Bool := bits 60 [0, 4, 5, 7, 8]
@[simp] def X35_5 (s0 s4 s5 s7 s8 : V) : St := tab 60 60 (fu (fu (fu (fu (fu dd 8 s8) 7 s7) 5 s5) 4 s4) 0 s0) dd
@[simp] def x35_6 : List Bool := bits 60 [0, 4, 5, 7, 8]
@[simp] def X35_6 (s0 s4 s5 s7 s8 : V) : St := tab 60 60 (fu (fu (fu (fu (fu dd 8 s8) 7 s7) 5 s5) 4 s4) 0 s0) dd
@[simp] def h35_3 : List Bool := bits 60 [0, 4, 5, 7, 8, 9]
@[simp] def L35_3 (s0 s4 s5 s7 s8 s9 : V) : St := tab 60 60 (fu (fu (fu (fu (fu (fu dd 9 s9) 8 s8) 7 s7) 5 s5) 4 s4) 0 s0) dd
@[simp] def x35_7 : List Bool := bits 60 [0, 4, 5, 7, 8, 9]
@[simp] def X35_7 (s0 s4 s5 s7 s8 s9 : V) : St := tab 60 60 (fu (fu (fu (fu (fu (fu dd 9 s9) 8 s8) 7 s7) 5 s5) 4 s4) 0 s0) dd
def b35_3 : MC := .seq (.scr h35_3)
 (.seq (.seq (.ops [⟨none, .mv 38 (.t 9)⟩,
    ⟨none, .mv 39 (.t 0)⟩,
    ⟨none, .bin 40 .lss .num (.t 38) (.t 39)⟩])
  (.cnd (.t 40)
   .skip
   (.seq (.scr x35_6) (.ex 6))))
 (.seq (.seq (.blk 7 (.seq (.ops [⟨none, .mv 43 (.t 8)⟩,
     ⟨none, .mv 44 (.t 7)⟩,
     ⟨none, .ixa 45 24 24 (.t 5) (.t 43)⟩,
     ⟨none, .ixa 46 1 24 (.t 45) (.t 44)⟩,
     ⟨none, .ld1 47 (.t 46)⟩,
     ⟨none, .mv 48 (.t 47)⟩,
     ⟨some (48, true), .mv 49 (.t 7)⟩,
     ⟨some (48, true), .mv 50 (.t 9)⟩,
     ⟨some (48, true), .ixa 51 24 24 (.t 5) (.t 49)⟩,
     ⟨some (48, true), .ixa 52 1 24 (.t 51) (.t 50)⟩,
     ⟨some (48, true), .ld1 53 (.t 52)⟩,
     ⟨none, .pick 54 (.t 48) (.t 53) (.c (.v (.bool false)))⟩])
   (.cnd (.t 54)
    (.ops [⟨none, .mv 55 (.t 8)⟩,
     ⟨none, .mv 56 (.t 9)⟩,
     ⟨none, .ixa 57 24 24 (.t 5) (.t 55)⟩,
     ⟨none, .ixa 58 1 24 (.t 57) (.t 56)⟩,
     ⟨none, .stn none 1 (.t 58) (.c (.v (.bool true)))⟩])
    .skip))) (.scr x35_7))
 (.ops [⟨none, .mv 41 (.t 9)⟩,
  ⟨none, .bin 42 .add .num (.t 41) (.c (.v (.int .i64 1)))⟩,
  ⟨none, .asg 9 (.t 42)⟩])))
def b35_2 : MC := .seq (.scr h35_2)
 (.seq (.seq (.ops [⟨none, .mv 33 (.t 8)⟩,
    ⟨none, .mv 34 (.t 0)⟩,
    ⟨none, .bin 35 .lss .num (.t 33) (.t 34)⟩])
  (.cnd (.t 35)
   .skip
   (.seq (.scr x35_4) (.ex 4))))
 (.seq (.seq (.blk 5 (.seq (.ops [⟨none, .asg 9 (.c (.v (.int .i64 0)))⟩])
   (.seq (.blk 6 (.lop b35_3)) (.scr x35_6)))) (.scr x35_5))
 (.ops [⟨none, .mv 36 (.t 8)⟩,
  ⟨none, .bin 37 .add .num (.t 36) (.c (.v (.int .i64 1)))⟩,
  ⟨none, .asg 8 (.t 37)⟩])))
def b35_1 : MC := .seq (.scr h35_1)
 (.seq (.seq (.ops [⟨none, .mv 28 (.t 7)⟩,
    ⟨none, .mv 29 (.t 0)⟩,
    ⟨none, .bin 30 .lss .num (.t 28) (.t 29)⟩])
  (.cnd (.t 30)
   .skip
   (.seq (.scr x35_2) (.ex 2))))
 (.seq (.seq (.blk 3 (.seq (.ops [⟨none, .asg 8 (.c (.v (.int .i64 0)))⟩])
   (.seq (.blk 4 (.lop b35_2)) (.scr x35_4)))) (.scr x35_3))
 (.ops [⟨none, .mv 31 (.t 7)⟩,
  ⟨none, .bin 32 .add .num (.t 31) (.c (.v (.int .i64 1)))⟩,
  ⟨none, .asg 7 (.t 32)⟩])))
def c35 : MF := ⟨(.seq (.ops [⟨none, .alc 4 (rp 576 (.v (.bool false)))⟩])
 (.seq (.ops [⟨none, .alc 5 (rp 576 (.v (.bool false)))⟩])
 (.seq (.seq (.ops [⟨none, .asg 6 (.c (.v (.int .i64 0)))⟩])
  (.seq (.blk 0 (.lop b35_0)) (.scr x35_0)))
 (.seq (.seq (.ops [⟨none, .asg 7 (.c (.v (.int .i64 0)))⟩])
  (.seq (.blk 2 (.lop b35_1)) (.scr x35_2)))
 (.seq (.ops [⟨none, .ldn 59 576 (.t 5)⟩,
   ⟨none, .stn none 576 (.t 4) (.t 59)⟩])
 (.seq (.scr r35) .ret)))))),
  60, [4, 576, 1000000]⟩

/-- coinage/poset.home -/
abbrev K36 : Nat := 10
def hints36 : List (List Bool) := [bits 53 [5], bits 53 [0, 1, 5, 6, 7], bits 53 [5], bits 53 [0, 1, 5, 6, 7], bits 53 [0, 1, 5, 7, 8], bits 53 [0, 1, 5, 6, 7, 8, 9], bits 53 [0, 1, 5, 7, 8], bits 53 [0, 1, 5, 6, 7, 8, 9], bits 53 [4]]
@[simp] def r36 : List Bool := bits 53 [4]
@[simp] def R36 (s4 : V) : St := tab 53 10 (fu dd 4 s4) dd
@[simp] def x36_0 : List Bool := bits 53 [5]
@[simp] def X36_0 (s5 : V) : St := tab 53 10 (fu dd 5 s5) dd
@[simp] def h36_0 : List Bool := bits 53 [0, 1, 5, 6, 7]
@[simp] def L36_0 (s0 s1 s5 s6 s7 : V) : St := tab 53 10 (fu (fu (fu (fu (fu dd 7 s7) 6 s6) 5 s5) 1 s1) 0 s0) dd
@[simp] def x36_1 : List Bool := bits 53 [0, 1, 5, 6, 7]
@[simp] def X36_1 (s0 s1 s5 s6 s7 : V) : St := tab 53 10 (fu (fu (fu (fu (fu dd 7 s7) 6 s6) 5 s5) 1 s1) 0 s0) dd
@[simp] def x36_2 : List Bool := bits 53 [0, 1, 5, 7, 8]
@[simp] def X36_2 (s0 s1 s5 s7 s8 : V) : St := tab 53 10 (fu (fu (fu (fu (fu dd 8 s8) 7 s7) 5 s5) 1 s1) 0 s0) dd
@[simp] def h36_1 : List Bool := bits 53 [0, 1, 5, 6, 7, 8, 9]
@[simp] def L36_1 (s0 s1 s5 s6 s7 s8 s9 : V) : St := tab 53 10 (fu (fu (fu (fu (fu (fu (fu dd 9 s9) 8 s8) 7 s7) 6 s6) 5 s5) 1 s1) 0 s0) dd
@[simp] def x36_3 : List Bool := bits 53 [0, 1, 5, 6, 7, 8, 9]
@[simp] def X36_3 (s0 s1 s5 s6 s7 s8 s9 : V) : St := tab 53 10 (fu (fu (fu (fu (fu (fu (fu dd 9 s9) 8 s8) 7 s7) 6 s6) 5 s5) 1 s1) 0 s0) dd
def b36_1 : MC := .seq (.scr h36_1)
 (.seq (.seq (.ops [⟨none, .mv 20 (.t 9)⟩,
    ⟨none, .mv 21 (.t 0)⟩,
    ⟨none, .len 22 false (.t 21)⟩,
    ⟨none, .bin 23 .lss .num (.t 20) (.t 22)⟩])
  (.cnd (.t 23)
   .skip
   (.seq (.scr x36_2) (.ex 2))))
 (.seq (.seq (.blk 3 (.seq (.ops [⟨none, .mv 26 (.t 5)⟩,
     ⟨none, .mv 27 (.t 9)⟩,
     ⟨none, .ixs 28 1 (.t 26) (.t 27)⟩,
     ⟨none, .ld1 29 (.t 28)⟩,
     ⟨none, .bin 30 .eql .num (.t 29) (.c (.v (.int .i64 0)))⟩,
     ⟨none, .mv 31 (.t 30)⟩,
     ⟨some (31, true), .mv 32 (.t 0)⟩,
     ⟨some (31, true), .mv 33 (.t 9)⟩,
     ⟨some (31, true), .ixs 34 1 (.t 32) (.t 33)⟩,
     ⟨some (31, true), .ld1 35 (.t 34)⟩,
     ⟨some (31, true), .mv 36 (.t 6)⟩,
     ⟨some (31, true), .bin 37 .and .num (.t 35) (.t 36)⟩,
     ⟨some (31, true), .bin 38 .neq .num (.t 37) (.c (.v (.int .u32 0)))⟩,
     ⟨none, .pick 39 (.t 31) (.t 38) (.c (.v (.bool false)))⟩])
   (.cnd (.t 39)
    (.seq (.ops [⟨none, .mv 40 (.t 5)⟩,
      ⟨none, .mv 41 (.t 9)⟩,
      ⟨none, .mv 42 (.t 7)⟩,
      ⟨none, .ixs 43 1 (.t 40) (.t 41)⟩,
      ⟨none, .stn none 1 (.t 43) (.t 42)⟩])
    (.ops [⟨none, .mv 44 (.t 8)⟩,
     ⟨none, .mv 45 (.t 9)⟩,
     ⟨none, .bin 46 .shl .num (.c (.v (.int .u32 1))) (.t 45)⟩,
     ⟨none, .bin 47 .or .num (.t 44) (.t 46)⟩,
     ⟨none, .asg 8 (.t 47)⟩]))
    .skip))) (.scr x36_3))
 (.ops [⟨none, .mv 24 (.t 9)⟩,
  ⟨none, .bin 25 .add .num (.t 24) (.c (.v (.int .i64 1)))⟩,
  ⟨none, .asg 9 (.t 25)⟩])))
def b36_0 : MC := .seq (.scr h36_0)
 (.seq (.seq (.ops [⟨none, .mv 15 (.t 6)⟩,
    ⟨none, .bin 16 .neq .num (.t 15) (.c (.v (.int .u32 0)))⟩])
  (.cnd (.t 16)
   .skip
   (.seq (.scr x36_0) (.ex 0))))
 (.seq (.seq (.blk 1 (.seq (.ops [⟨none, .asg 8 (.c (.v (.int .u32 0)))⟩])
   (.seq (.seq (.ops [⟨none, .mv 19 (.t 1)⟩,
      ⟨none, .asg 9 (.t 19)⟩])
    (.seq (.blk 2 (.lop b36_1)) (.scr x36_2)))
   (.ops [⟨none, .mv 48 (.t 8)⟩,
    ⟨none, .mv 49 (.t 1)⟩,
    ⟨none, .bin 50 .shl .num (.c (.v (.int .u32 1))) (.t 49)⟩,
    ⟨none, .bin 51 .andNot .num (.t 48) (.t 50)⟩,
    ⟨none, .asg 6 (.t 51)⟩])))) (.scr x36_1))
 (.ops [⟨none, .mv 17 (.t 7)⟩,
  ⟨none, .bin 18 .add .num (.t 17) (.c (.v (.int .i64 1)))⟩,
  ⟨none, .asg 7 (.t 18)⟩])))
def c36 : MF := ⟨(.seq (.ops [⟨none, .asg 4 (.c (.nd (.sl true 1 0) []))⟩])
 (.seq (.ops [⟨none, .mv 10 (.t 0)⟩,
   ⟨none, .len 11 false (.t 10)⟩,
   ⟨none, .mks 12 1 [(.v (.int .i64 0))] (.t 11) (.t 11)⟩,
   ⟨none, .asg 5 (.t 12)⟩])
 (.seq (.seq (.ops [⟨none, .mv 13 (.t 1)⟩,
    ⟨none, .bin 14 .shl .num (.c (.v (.int .u32 1))) (.t 13)⟩,
    ⟨none, .asg 6 (.t 14)⟩,
    ⟨none, .asg 7 (.c (.v (.int .i64 1)))⟩])
  (.seq (.blk 0 (.lop b36_0)) (.scr x36_0)))
 (.seq (.ops [⟨none, .mv 52 (.t 5)⟩,
   ⟨none, .asg 4 (.t 52)⟩])
 (.seq (.scr r36) .ret))))),
  53, [4]⟩

/-- coinage/coinageref06.far -/
abbrev K37 : Nat := 13
def hints37 : List (List Bool) := [bits 86 [0, 1, 2, 3, 9], bits 86 [0, 1, 2, 3, 9, 10], bits 86 [0, 1, 2, 3, 9], bits 86 [0, 1, 2, 3, 9, 10], bits 86 [9], bits 86 [0, 1, 3, 9, 11], bits 86 [9], bits 86 [0, 1, 3, 9, 11], bits 86 [0, 1, 3, 9, 11], bits 86 [0, 1, 3, 9, 11, 12], bits 86 [0, 1, 3, 9, 11], bits 86 [0, 1, 3, 9, 11, 12], bits 86 [8]]
@[simp] def r37 : List Bool := bits 86 [8]
@[simp] def R37 (s8 : V) : St := tab 86 13 (fu dd 8 s8) dd
@[simp] def x37_0 : List Bool := bits 86 [0, 1, 2, 3, 9]
@[simp] def X37_0 (s0 s1 s2 s3 s9 : V) : St := tab 86 13 (fu (fu (fu (fu (fu dd 9 s9) 3 s3) 2 s2) 1 s1) 0 s0) dd
@[simp] def h37_0 : List Bool := bits 86 [0, 1, 2, 3, 9, 10]
@[simp] def L37_0 (s0 s1 s2 s3 s9 s10 : V) : St := tab 86 13 (fu (fu (fu (fu (fu (fu dd 10 s10) 9 s9) 3 s3) 2 s2) 1 s1) 0 s0) dd
@[simp] def x37_1 : List Bool := bits 86 [0, 1, 2, 3, 9, 10]
@[simp] def X37_1 (s0 s1 s2 s3 s9 s10 : V) : St := tab 86 13 (fu (fu (fu (fu (fu (fu dd 10 s10) 9 s9) 3 s3) 2 s2) 1 s1) 0 s0) dd
def b37_0 : MC := .seq (.scr h37_0)
 (.seq (.seq (.ops [⟨none, .mv 15 (.t 10)⟩,
    ⟨none, .mv 16 (.t 0)⟩,
    ⟨none, .bin 17 .lss .num (.t 15) (.t 16)⟩])
  (.cnd (.t 17)
   .skip
   (.seq (.scr x37_0) (.ex 0))))
 (.seq (.seq (.blk 1 (.ops [⟨none, .mv 20 (.t 9)⟩,
    ⟨none, .mv 21 (.t 10)⟩,
    ⟨none, .ixs 22 1 (.t 20) (.t 21)⟩,
    ⟨none, .stn none 1 (.t 22) (.c (.v (.int .i64 (-1))))⟩])) (.scr x37_1))
 (.ops [⟨none, .mv 18 (.t 10)⟩,
  ⟨none, .bin 19 .add .num (.t 18) (.c (.v (.int .i64 1)))⟩,
  ⟨none, .asg 10 (.t 19)⟩])))
@[simp] def x37_2 : List Bool := bits 86 [9]
@[simp] def X37_2 (s9 : V) : St := tab 86 13 (fu dd 9 s9) dd
@[simp] def h37_1 : List Bool := bits 86 [0, 1, 3, 9, 11]
@[simp] def L37_1 (s0 s1 s3 s9 s11 : V) : St := tab 86 13 (fu (fu (fu (fu (fu dd 11 s11) 9 s9) 3 s3) 1 s1) 0 s0) dd
@[simp] def x37_3 : List Bool := bits 86 [0, 1, 3, 9, 11]
@[simp] def X37_3 (s0 s1 s3 s9 s11 : V) : St := tab 86 13 (fu (fu (fu (fu (fu dd 11 s11) 9 s9) 3 s3) 1 s1) 0 s0) dd
@[simp] def x37_4 : List Bool := bits 86 [0, 1, 3, 9, 11]
@[simp] def X37_4 (s0 s1 s3 s9 s11 : V) : St := tab 86 13 (fu (fu (fu (fu (fu dd 11 s11) 9 s9) 3 s3) 1 s1) 0 s0) dd
@[simp] def h37_2 : List Bool := bits 86 [0, 1, 3, 9, 11, 12]
@[simp] def L37_2 (s0 s1 s3 s9 s11 s12 : V) : St := tab 86 13 (fu (fu (fu (fu (fu (fu dd 12 s12) 11 s11) 9 s9) 3 s3) 1 s1) 0 s0) dd
@[simp] def x37_5 : List Bool := bits 86 [0, 1, 3, 9, 11, 12]
@[simp] def X37_5 (s0 s1 s3 s9 s11 s12 : V) : St := tab 86 13 (fu (fu (fu (fu (fu (fu dd 12 s12) 11 s11) 9 s9) 3 s3) 1 s1) 0 s0) dd
def b37_2 : MC := .seq (.scr h37_2)
 (.seq (.seq (.ops [⟨none, .mv 31 (.t 12)⟩,
    ⟨none, .mv 32 (.t 1)⟩,
    ⟨none, .len 33 false (.t 32)⟩,
    ⟨none, .bin 34 .lss .num (.t 31) (.t 33)⟩])
  (.cnd (.t 34)
   .skip
   (.seq (.scr x37_4) (.ex 4))))
 (.seq (.seq (.blk 5 (.seq (.ops (⟨none, .mv 37 (.t 1)⟩ ::
     ⟨none, .mv 38 (.t 12)⟩ ::
     ⟨none, .ixs 39 2 (.t 37) (.t 38)⟩ ::
     ⟨none, .fa 40 0 (.t 39)⟩ ::
     ⟨none, .ld1 41 (.t 40)⟩ ::
     ⟨none, .mv 42 (.t 3)⟩ ::
     ⟨none, .bin 43 .geq .num (.t 41) (.t 42)⟩ ::
     ⟨none, .mv 44 (.t 43)⟩ ::
     ⟨some (44, true), .mv 45 (.t 1)⟩ ::
     ⟨some (44, true), .mv 46 (.t 12)⟩ ::
     ⟨some (44, true), .ixs 47 2 (.t 45) (.t 46)⟩ ::
     ⟨some (44, true), .fa 48 1 (.t 47)⟩ ::
     ⟨some (44, true), .ld1 49 (.t 48)⟩ ::
     ⟨some (44, true), .mv 50 (.t 3)⟩ ::
     ⟨some (44, true), .bin 51 .geq .num (.t 49) (.t 50)⟩ ::
     ⟨none, .pick 52 (.t 44) (.t 51) (.c (.v (.bool false)))⟩ ::
     ⟨none, .mv 53 (.t 52)⟩ ::
     ⟨some (53, true), .mv 54 (.t 9)⟩ ::
     ⟨some (53, true), .mv 55 (.t 1)⟩ ::
     ⟨some (53, true), .mv 56 (.t 12)⟩ ::
     ⟨some (53, true), .ixs 57 2 (.t 55) (.t 56)⟩ ::
     ⟨some (53, true), .fa 58 0 (.t 57)⟩ ::
     ⟨some (53, true), .ld1 59 (.t 58)⟩ ::
     ⟨some (53, true), .ixs 60 1 (.t 54) (.t 59)⟩ ::
     ⟨some (53, true), .ld1 61 (.t 60)⟩ ::
     ⟨some (53, true), .bin 62 .lss .num (.t 61) (.c (.v (.int .i64 0)))⟩ ::
     ⟨none, .pick 63 (.t 53) (.t 62) (.c (.v (.bool false)))⟩ ::
     ⟨none, .mv 64 (.t 63)⟩ ::
     ⟨some (64, true), .mv 65 (.t 9)⟩ ::
     ⟨some (64, true), .mv 66 (.t 1)⟩ ::
     ⟨some (64, true), .mv 67 (.t 12)⟩ ::
     ⟨some (64, true), .ixs 68 2 (.t 66) (.t 67)⟩ ::
     ⟨some (64, true), .fa 69 1 (.t 68)⟩ ::
     ⟨some (64, true), .ld1 70 (.t 69)⟩ ::
     ⟨some (64, true), .ixs 71 1 (.t 65) (.t 70)⟩ ::
     ⟨some (64, true), .ld1 72 (.t 71)⟩ ::
     ⟨some (64, true), .mv 73 (.t 11)⟩ ::
     ⟨some (64, true), .bin 74 .sub .num (.t 73) (.c (.v (.int .i64 1)))⟩ ::
     ⟨some (64, true), .bin 75 .eql .num (.t 72) (.t 74)⟩ ::
     ⟨none, .pick 76 (.t 64) (.t 75) (.c (.v (.bool false)))⟩ :: []))
   (.cnd (.t 76)
    (.ops [⟨none, .mv 77 (.t 9)⟩,
     ⟨none, .mv 78 (.t 1)⟩,
     ⟨none, .mv 79 (.t 12)⟩,
     ⟨none, .ixs 80 2 (.t 78) (.t 79)⟩,
     ⟨none, .fa 81 0 (.t 80)⟩,
     ⟨none, .ld1 82 (.t 81)⟩,
     ⟨none, .mv 83 (.t 11)⟩,
     ⟨none, .ixs 84 1 (.t 77) (.t 82)⟩,
     ⟨none, .stn none 1 (.t 84) (.t 83)⟩])
    .skip))) (.scr x37_5))
 (.ops [⟨none, .mv 35 (.t 12)⟩,
  ⟨none, .bin 36 .add .num (.t 35) (.c (.v (.int .i64 1)))⟩,
  ⟨none, .asg 12 (.t 36)⟩])))
def b37_1 : MC := .seq (.scr h37_1)
 (.seq (.seq (.ops [⟨none, .mv 26 (.t 11)⟩,
    ⟨none, .mv 27 (.t 0)⟩,
    ⟨none, .bin 28 .leq .num (.t 26) (.t 27)⟩])
  (.cnd (.t 28)
   .skip
   (.seq (.scr x37_2) (.ex 2))))
 (.seq (.seq (.blk 3 (.seq (.ops [⟨none, .asg 12 (.c (.v (.int .i64 0)))⟩])
   (.seq (.blk 4 (.lop b37_2)) (.scr x37_4)))) (.scr x37_3))
 (.ops [⟨none, .mv 29 (.t 11)⟩,
  ⟨none, .bin 30 .add .num (.t 29) (.c (.v (.int .i64 1)))⟩,
  ⟨none, .asg 11 (.t 30)⟩])))
def c37 : MF := ⟨(.seq (.ops [⟨none, .asg 8 (.c (.nd (.sl true 1 0) []))⟩])
 (.seq (.ops [⟨none, .mv 13 (.t 0)⟩,
   ⟨none, .mks 14 1 [(.v (.int .i64 0))] (.t 13) (.t 13)⟩,
   ⟨none, .asg 9 (.t 14)⟩])
 (.seq (.seq (.ops [⟨none, .asg 10 (.c (.v (.int .i64 0)))⟩])
  (.seq (.blk 0 (.lop b37_0)) (.scr x37_0)))
 (.seq (.ops [⟨none, .mv 23 (.t 9)⟩,
   ⟨none, .mv 24 (.t 2)⟩,
   ⟨none, .ixs 25 1 (.t 23) (.t 24)⟩,
   ⟨none, .stn none 1 (.t 25) (.c (.v (.int .i64 0)))⟩])
 (.seq (.seq (.ops [⟨none, .asg 11 (.c (.v (.int .i64 1)))⟩])
  (.seq (.blk 2 (.lop b37_1)) (.scr x37_2)))
 (.seq (.ops [⟨none, .mv 85 (.t 9)⟩,
   ⟨none, .asg 8 (.t 85)⟩])
 (.seq (.scr r37) .ret))))))),
  86, [8]⟩


theorem comp3 : compF Go.Proofs.Try.prog hints3 3 = some c3 := by kernel_rfl
theorem comp4 : compF Go.Proofs.Try.prog hints4 4 = some c4 := by kernel_rfl
theorem comp5 : compF Go.Proofs.Try.prog hints5 5 = some c5 := by kernel_rfl
theorem comp6 : compF Go.Proofs.Try.prog hints6 6 = some c6 := by kernel_rfl
theorem comp7 : compF Go.Proofs.Try.prog hints7 7 = some c7 := by kernel_rfl
theorem comp8 : compF Go.Proofs.Try.prog hints8 8 = some c8 := by kernel_rfl
theorem comp9 : compF Go.Proofs.Try.prog hints9 9 = some c9 := by kernel_rfl
theorem comp10 : compF Go.Proofs.Try.prog hints10 10 = some c10 := by kernel_rfl
theorem comp11 : compF Go.Proofs.Try.prog hints11 11 = some c11 := by kernel_rfl
theorem comp12 : compF Go.Proofs.Try.prog hints12 12 = some c12 := by kernel_rfl
theorem comp13 : compF Go.Proofs.Try.prog hints13 13 = some c13 := by kernel_rfl
theorem comp14 : compF Go.Proofs.Try.prog hints14 14 = some c14 := by kernel_rfl
theorem comp15 : compF Go.Proofs.Try.prog hints15 15 = some c15 := by kernel_rfl
theorem comp16 : compF Go.Proofs.Try.prog hints16 16 = some c16 := by kernel_rfl
theorem comp17 : compF Go.Proofs.Try.prog hints17 17 = some c17 := by kernel_rfl
theorem comp18 : compF Go.Proofs.Try.prog hints18 18 = some c18 := by kernel_rfl
theorem comp19 : compF Go.Proofs.Try.prog hints19 19 = some c19 := by kernel_rfl
theorem comp20 : compF Go.Proofs.Try.prog hints20 20 = some c20 := by kernel_rfl
theorem comp21 : compF Go.Proofs.Try.prog hints21 21 = some c21 := by kernel_rfl
theorem comp22 : compF Go.Proofs.Try.prog hints22 22 = some c22 := by kernel_rfl
theorem comp23 : compF Go.Proofs.Try.prog hints23 23 = some c23 := by kernel_rfl
theorem comp24 : compF Go.Proofs.Try.prog hints24 24 = some c24 := by kernel_rfl
theorem comp25 : compF Go.Proofs.Try.prog hints25 25 = some c25 := by kernel_rfl
theorem comp26 : compF Go.Proofs.Try.prog hints26 26 = some c26 := by kernel_rfl
theorem comp27 : compF Go.Proofs.Try.prog hints27 27 = some c27 := by kernel_rfl
theorem comp28 : compF Go.Proofs.Try.prog hints28 28 = some c28 := by kernel_rfl
theorem comp29 : compF Go.Proofs.Try.prog hints29 29 = some c29 := by kernel_rfl
theorem comp30 : compF Go.Proofs.Try.prog hints30 30 = some c30 := by kernel_rfl
theorem comp31 : compF Go.Proofs.Try.prog hints31 31 = some c31 := by kernel_rfl
theorem comp32 : compF Go.Proofs.Try.prog hints32 32 = some c32 := by kernel_rfl
theorem comp33 : compF Go.Proofs.Try.prog hints33 33 = some c33 := by kernel_rfl
theorem comp34 : compF Go.Proofs.Try.prog hints34 34 = some c34 := by kernel_rfl
theorem comp35 : compF Go.Proofs.Try.prog hints35 35 = some c35 := by kernel_rfl
theorem comp36 : compF Go.Proofs.Try.prog hints36 36 = some c36 := by kernel_rfl
theorem comp37 : compF Go.Proofs.Try.prog hints37 37 = some c37 := by kernel_rfl

def tbl : FuncId → Option MF
  | 3 => some c3
  | 4 => some c4
  | 5 => some c5
  | 6 => some c6
  | 7 => some c7
  | 8 => some c8
  | 9 => some c9
  | 10 => some c10
  | 11 => some c11
  | 12 => some c12
  | 13 => some c13
  | 14 => some c14
  | 15 => some c15
  | 16 => some c16
  | 17 => some c17
  | 18 => some c18
  | 19 => some c19
  | 20 => some c20
  | 21 => some c21
  | 22 => some c22
  | 23 => some c23
  | 24 => some c24
  | 25 => some c25
  | 26 => some c26
  | 27 => some c27
  | 28 => some c28
  | 29 => some c29
  | 30 => some c30
  | 31 => some c31
  | 32 => some c32
  | 33 => some c33
  | 34 => some c34
  | 35 => some c35
  | 36 => some c36
  | 37 => some c37
  | _ => none

theorem tbl_ok (f : FuncId) (mf : MF) (h : tbl f = some mf) : ∃ hints, compF Go.Proofs.Try.prog hints f = some mf := by
  unfold tbl at h
  split at h
  · cases h; exact ⟨_, comp3⟩
  · cases h; exact ⟨_, comp4⟩
  · cases h; exact ⟨_, comp5⟩
  · cases h; exact ⟨_, comp6⟩
  · cases h; exact ⟨_, comp7⟩
  · cases h; exact ⟨_, comp8⟩
  · cases h; exact ⟨_, comp9⟩
  · cases h; exact ⟨_, comp10⟩
  · cases h; exact ⟨_, comp11⟩
  · cases h; exact ⟨_, comp12⟩
  · cases h; exact ⟨_, comp13⟩
  · cases h; exact ⟨_, comp14⟩
  · cases h; exact ⟨_, comp15⟩
  · cases h; exact ⟨_, comp16⟩
  · cases h; exact ⟨_, comp17⟩
  · cases h; exact ⟨_, comp18⟩
  · cases h; exact ⟨_, comp19⟩
  · cases h; exact ⟨_, comp20⟩
  · cases h; exact ⟨_, comp21⟩
  · cases h; exact ⟨_, comp22⟩
  · cases h; exact ⟨_, comp23⟩
  · cases h; exact ⟨_, comp24⟩
  · cases h; exact ⟨_, comp25⟩
  · cases h; exact ⟨_, comp26⟩
  · cases h; exact ⟨_, comp27⟩
  · cases h; exact ⟨_, comp28⟩
  · cases h; exact ⟨_, comp29⟩
  · cases h; exact ⟨_, comp30⟩
  · cases h; exact ⟨_, comp31⟩
  · cases h; exact ⟨_, comp32⟩
  · cases h; exact ⟨_, comp33⟩
  · cases h; exact ⟨_, comp34⟩
  · cases h; exact ⟨_, comp35⟩
  · cases h; exact ⟨_, comp36⟩
  · cases h; exact ⟨_, comp37⟩
  · cases h

end Go.Mx
