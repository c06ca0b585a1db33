import Derived.Test.YtgbikojcpfdbiaaPoA1
/-
  The functions of this chapter in the machine's code, and that the given program's code is this one. Printed by a program of this repo (gencodes.py).
-/
namespace Go.Mx
set_option linter.unusedVariables false
set_option linter.unusedSimpArgs false
set_option linter.unusedSectionVars false
open Go

/-- coinage/poset.Valid -/
def hints20 : List (List Bool) := [[false, false, false, false, true, false, false, false, false, false, false, false, false, false, false, false, false, false, false, false, false, false, false, false, false, false, false, false, false, false, false, false, false, false, false, false, false, false, false, false, false, false, false, false, false, false, false, false, false, false, false, false, false, false, false, false, false, false, false, false, false, false, false, false, false, false, false, false, false, false, false, false, false, false, false, false, false, false, false, false, false, false, false], [false, false, false, false, false, false, false, false, false, false, false, false, false, false, false, false, false, false, false, false, false, false, false, false, false, false, false, false, false, false, false, false, false, false, false, false, false, false, false, false, false, false, false, false, false, false, false, false, false, false, false, false, false, false, false, false, false, false, false, false, false, false, false, false, false, false, false, false, false, false, false, false, false, false, false, false, false, false, false, false, false, false, false], [true, true, false, false, false, false, false, false, false, false, false, false, false, true, true, true, false, false, false, false, false, false, false, false, false, false, false, false, false, false, false, false, false, false, false, false, false, false, false, false, false, false, false, false, false, false, false, false, false, false, false, false, false, false, false, false, false, false, false, false, false, false, false, false, false, false, false, false, false, false, false, false, false, false, false, false, false, false, false, false, false, false, false], [false, false, false, false, false, false, false, false, false, false, false, false, false, false, false, false, false, false, false, false, false, false, false, false, false, false, false, false, false, false, false, false, false, false, false, false, false, false, false, false, false, false, false, false, false, false, false, false, false, false, false, false, false, false, false, false, false, false, false, false, false, false, false, false, false, false, false, false, false, false, false, false, false, false, false, false, false, false, false, false, false, false, false], [true, true, false, false, false, false, false, false, false, false, false, false, false, true, true, true, false, false, false, false, false, false, false, false, false, false, false, false, false, false, false, false, false, false, false, false, false, false, false, false, false, false, false, false, false, false, false, false, false, false, false, false, false, false, false, false, false, false, false, false, false, false, false, false, false, false, false, false, false, false, false, false, false, false, false, false, false, false, false, false, false, false, false], [false, false, false, false, true, false, false, false, false, false, false, false, false, false, false, false, false, false, false, false, false, false, false, false, false, false, false, false, false, false, false, false, false, false, false, false, false, false, false, false, false, false, false, false, false, false, false, false, false, false, false, false, false, false, false, false, false, false, false, false, false, false, false, false, false, false, false, false, false, false, false, false, false, false, false, false, false, false, false, false, false, false, false], [false, false, false, false, true, false, false, false, false, false, false, false, false, false, false, false, false, false, false, false, false, false, false, false, false, false, false, false, false, false, false, false, false, false, false, false, false, false, false, false, false, false, false, false, false, false, false, false, false, false, false, false, false, false, false, false, false, false, false, false, false, false, false, false, false, false, false, false, false, false, false, false, false, false, false, false, false, false, false, false, false, false, false], [false, false, false, false, true, false, false, false, false, false, false, false, false, false, false, false, false, false, false, false, false, false, false, false, false, false, false, false, false, false, false, false, false, false, false, false, false, false, false, false, false, false, false, false, false, false, false, false, false, false, false, false, false, false, false, false, false, false, false, false, false, false, false, false, false, false, false, false, false, false, false, false, false, false, false, false, false, false, false, false, false, false, false]]
@[simp] def r20 : List Bool := [false, false, false, false, true, false, false, false, false, false, false, false, false, false, false, false, false, false, false, false, false, false, false, false, false, false, false, false, false, false, false, false, false, false, false, false, false, false, false, false, false, false, false, false, false, false, false, false, false, false, false, false, false, false, false, false, false, false, false, false, false, false, false, false, false, false, false, false, false, false, false, false, false, false, false, false, false, false, false, false, false, false, false]
@[simp] def R20 (s4 : V) : St := [.dead, .dead, .dead, .dead, s4, .dead, .dead, .dead, .dead, .dead, .dead, .dead, .dead, .dead, .dead, .dead, .dead, .dead, .dead, .dead, .dead, .dead, .dead, .dead, .dead, .dead, .dead, .dead, .dead, .dead, .dead, .dead, .dead, .dead, .dead, .dead, .dead, .dead, .dead, .dead, .dead, .dead, .dead, .dead, .dead, .dead, .dead, .dead, .dead, .dead, .dead, .dead, .dead, .dead, .dead, .dead, .dead, .dead, .dead, .dead, .dead, .dead, .dead, .dead, .dead, .dead, .dead, .dead, .dead, .dead, .dead, .dead, .dead, .dead, .dead, .dead, .dead, .dead, .dead, .dead, .dead, .dead, .dead]
@[simp] def x20_0 : List Bool := [false, false, false, false, false, false, false, false, false, false, false, false, false, false, false, false, false, false, false, false, false, false, false, false, false, false, false, false, false, false, false, false, false, false, false, false, false, false, false, false, false, false, false, false, false, false, false, false, false, false, false, false, false, false, false, false, false, false, false, false, false, false, false, false, false, false, false, false, false, false, false, false, false, false, false, false, false, false, false, false, false, false, false]
@[simp] def X20_0 : St := [.dead, .dead, .dead, .dead, .dead, .dead, .dead, .dead, .dead, .dead, .dead, .dead, .dead, .dead, .dead, .dead, .dead, .dead, .dead, .dead, .dead, .dead, .dead, .dead, .dead, .dead, .dead, .dead, .dead, .dead, .dead, .dead, .dead, .dead, .dead, .dead, .dead, .dead, .dead, .dead, .dead, .dead, .dead, .dead, .dead, .dead, .dead, .dead, .dead, .dead, .dead, .dead, .dead, .dead, .dead, .dead, .dead, .dead, .dead, .dead, .dead, .dead, .dead, .dead, .dead, .dead, .dead, .dead, .dead, .dead, .dead, .dead, .dead, .dead, .dead, .dead, .dead, .dead, .dead, .dead, .dead, .dead, .dead]
@[simp] def h20_0 : List Bool := [true, true, false, false, false, false, false, false, false, false, false, false, false, true, true, true, false, false, false, false, false, false, false, false, false, false, false, false, false, false, false, false, false, false, false, false, false, false, false, false, false, false, false, false, false, false, false, false, false, false, false, false, false, false, false, false, false, false, false, false, false, false, false, false, false, false, false, false, false, false, false, false, false, false, false, false, false, false, false, false, false, false, false]
@[simp] def L20_0 (s0 s1 s13 s14 s15 : V) : St := [s0, s1, .dead, .dead, .dead, .dead, .dead, .dead, .dead, .dead, .dead, .dead, .dead, s13, s14, s15, .dead, .dead, .dead, .dead, .dead, .dead, .dead, .dead, .dead, .dead, .dead, .dead, .dead, .dead, .dead, .dead, .dead, .dead, .dead, .dead, .dead, .dead, .dead, .dead, .dead, .dead, .dead, .dead, .dead, .dead, .dead, .dead, .dead, .dead, .dead, .dead, .dead, .dead, .dead, .dead, .dead, .dead, .dead, .dead, .dead, .dead, .dead, .dead, .dead, .dead, .dead, .dead, .dead, .dead, .dead, .dead, .dead, .dead, .dead, .dead, .dead, .dead, .dead, .dead, .dead, .dead, .dead]
@[simp] def x20_1 : List Bool := [true, true, false, false, false, false, false, false, false, false, false, false, false, true, true, true, false, false, false, false, false, false, false, false, false, false, false, false, false, false, false, false, false, false, false, false, false, false, false, false, false, false, false, false, false, false, false, false, false, false, false, false, false, false, false, false, false, false, false, false, false, false, false, false, false, false, false, false, false, false, false, false, false, false, false, false, false, false, false, false, false, false, false]
@[simp] def X20_1 (s0 s1 s13 s14 s15 : V) : St := [s0, s1, .dead, .dead, .dead, .dead, .dead, .dead, .dead, .dead, .dead, .dead, .dead, s13, s14, s15, .dead, .dead, .dead, .dead, .dead, .dead, .dead, .dead, .dead, .dead, .dead, .dead, .dead, .dead, .dead, .dead, .dead, .dead, .dead, .dead, .dead, .dead, .dead, .dead, .dead, .dead, .dead, .dead, .dead, .dead, .dead, .dead, .dead, .dead, .dead, .dead, .dead, .dead, .dead, .dead, .dead, .dead, .dead, .dead, .dead, .dead, .dead, .dead, .dead, .dead, .dead, .dead, .dead, .dead, .dead, .dead, .dead, .dead, .dead, .dead, .dead, .dead, .dead, .dead, .dead, .dead, .dead]
def b20_0 : MC := .seq (.scr h20_0)
 (.seq (.ops [⟨none, .bin 16 .lss .num (.t 15) (.t 14)⟩])
 (.seq (.cnd (.t 16)
   .skip
   (.seq (.scr x20_0) (.ex 0)))
 (.seq (.seq (.blk 1 (.seq (.ops [⟨none, .mv 17 (.t 15)⟩,
     ⟨none, .ixs 18 2 (.t 13) (.t 15)⟩,
     ⟨none, .ldn 19 2 (.t 18)⟩,
     ⟨none, .alc 6 [(.v (.int .i64 0)), (.v (.int .i64 0))]⟩,
     ⟨none, .asg 5 (.t 17)⟩,
     ⟨none, .stn none 2 (.t 6) (.t 19)⟩])
   (.seq (.seq (.ops [⟨none, .fa 20 0 (.t 6)⟩,
      ⟨none, .ld1 21 (.t 20)⟩,
      ⟨none, .bin 22 .lss .num (.t 21) (.c (.v (.int .i64 0)))⟩,
      ⟨none, .mv 23 (.t 22)⟩,
      ⟨some (23, false), .fa 24 0 (.t 6)⟩,
      ⟨some (23, false), .ld1 25 (.t 24)⟩,
      ⟨some (23, false), .mv 26 (.t 0)⟩,
      ⟨some (23, false), .bin 27 .geq .num (.t 25) (.t 26)⟩,
      ⟨none, .pick 28 (.t 23) (.c (.v (.bool true))) (.t 27)⟩,
      ⟨none, .mv 29 (.t 28)⟩,
      ⟨some (29, false), .fa 30 1 (.t 6)⟩,
      ⟨some (29, false), .ld1 31 (.t 30)⟩,
      ⟨some (29, false), .bin 32 .lss .num (.t 31) (.c (.v (.int .i64 0)))⟩,
      ⟨none, .pick 33 (.t 29) (.c (.v (.bool true))) (.t 32)⟩,
      ⟨none, .mv 34 (.t 33)⟩,
      ⟨some (34, false), .fa 35 1 (.t 6)⟩,
      ⟨some (34, false), .ld1 36 (.t 35)⟩,
      ⟨some (34, false), .mv 37 (.t 0)⟩,
      ⟨some (34, false), .bin 38 .geq .num (.t 36) (.t 37)⟩,
      ⟨none, .pick 39 (.t 34) (.c (.v (.bool true))) (.t 38)⟩,
      ⟨none, .mv 40 (.t 39)⟩,
      ⟨some (40, false), .fa 41 0 (.t 6)⟩,
      ⟨some (40, false), .ld1 42 (.t 41)⟩,
      ⟨some (40, false), .fa 43 1 (.t 6)⟩,
      ⟨some (40, false), .ld1 44 (.t 43)⟩,
      ⟨some (40, false), .bin 45 .eql .num (.t 42) (.t 44)⟩,
      ⟨none, .pick 46 (.t 40) (.c (.v (.bool true))) (.t 45)⟩])
    (.cnd (.t 46)
     (.seq (.ops [⟨none, .asg 4 (.c (.v (.bool false)))⟩])
     (.seq (.scr r20) .ret))
     .skip))
   (.seq (.drw [⟨none, .mv 47 (.t 5)⟩,
     ⟨none, .bin 48 .gtr .num (.t 47) (.c (.v (.int .i64 0)))⟩,
     ⟨none, .mv 49 (.t 48)⟩,
     ⟨some (49, true), .fa 50 0 (.t 6)⟩,
     ⟨some (49, true), .ld1 51 (.t 50)⟩,
     ⟨some (49, true), .mv 52 (.t 1)⟩,
     ⟨some (49, true), .mv 53 (.t 5)⟩,
     ⟨some (49, true), .bin 54 .sub .num (.t 53) (.c (.v (.int .i64 1)))⟩,
     ⟨some (49, true), .ixs 55 2 (.t 52) (.t 54)⟩,
     ⟨some (49, true), .fa 56 0 (.t 55)⟩,
     ⟨some (49, true), .ld1 57 (.t 56)⟩,
     ⟨some (49, true), .bin 58 .lss .num (.t 51) (.t 57)⟩,
     ⟨some (49, true), .mv 59 (.t 58)⟩,
     ⟨some (59, false), .fa 60 0 (.t 6)⟩,
     ⟨some (59, false), .ld1 61 (.t 60)⟩,
     ⟨some (59, false), .mv 62 (.t 1)⟩,
     ⟨some (59, false), .mv 63 (.t 5)⟩,
     ⟨some (59, false), .bin 64 .sub .num (.t 63) (.c (.v (.int .i64 1)))⟩,
     ⟨some (59, false), .ixs 65 2 (.t 62) (.t 64)⟩,
     ⟨some (59, false), .fa 66 0 (.t 65)⟩,
     ⟨some (59, false), .ld1 67 (.t 66)⟩,
     ⟨some (59, false), .bin 68 .eql .num (.t 61) (.t 67)⟩,
     ⟨some (59, false), .mv 69 (.t 68)⟩,
     ⟨some (69, true), .fa 70 1 (.t 6)⟩,
     ⟨some (69, true), .ld1 71 (.t 70)⟩,
     ⟨some (69, true), .mv 72 (.t 1)⟩,
     ⟨some (69, true), .mv 73 (.t 5)⟩,
     ⟨some (69, true), .bin 74 .sub .num (.t 73) (.c (.v (.int .i64 1)))⟩,
     ⟨some (69, true), .ixs 75 2 (.t 72) (.t 74)⟩,
     ⟨some (69, true), .fa 76 1 (.t 75)⟩,
     ⟨some (69, true), .ld1 77 (.t 76)⟩] [⟨some (69, true), .bin 78 .leq .num (.t 71) (.t 77)⟩,
     ⟨some (59, false), .pick 79 (.t 69) (.t 78) (.c (.v (.bool false)))⟩,
     ⟨some (49, true), .pick 80 (.t 59) (.c (.v (.bool true))) (.t 79)⟩,
     ⟨none, .pick 81 (.t 49) (.t 80) (.c (.v (.bool false)))⟩])
   (.cnd (.t 81)
    (.seq (.ops [⟨none, .asg 4 (.c (.v (.bool false)))⟩])
    (.seq (.scr r20) .ret))
    .skip))))) (.scr x20_1))
 (.ops [⟨none, .bin 82 .add .num (.t 15) (.c (.v (.int .i64 1)))⟩,
  ⟨none, .mv 15 (.t 82)⟩]))))
def c20 : MF := ⟨(.seq (.ops [⟨none, .asg 4 (.c (.v (.bool false)))⟩])
 (.seq (.seq (.ops [⟨none, .mv 7 (.t 0)⟩,
    ⟨none, .bin 8 .lss .num (.t 7) (.c (.v (.int .i64 0)))⟩,
    ⟨none, .mv 9 (.t 8)⟩,
    ⟨some (9, false), .mv 10 (.t 0)⟩,
    ⟨some (9, false), .bin 11 .gtr .num (.t 10) (.c (.v (.int .i64 24)))⟩,
    ⟨none, .pick 12 (.t 9) (.c (.v (.bool true))) (.t 11)⟩])
  (.cnd (.t 12)
   (.seq (.ops [⟨none, .asg 4 (.c (.v (.bool false)))⟩])
   (.seq (.scr r20) .ret))
   .skip))
 (.seq (.seq (.ops [⟨none, .mv 13 (.t 1)⟩,
    ⟨none, .len 14 false (.t 13)⟩,
    ⟨none, .mv 15 (.c (.v (.int .i64 0)))⟩])
  (.seq (.blk 0 (.lop b20_0)) (.scr x20_0)))
 (.seq (.ops [⟨none, .asg 4 (.c (.v (.bool true)))⟩])
 (.seq (.scr r20) .ret))))),
  83, [4]⟩

/-- coinage/coinageref06.Valid -/
def hints21 : List (List Bool) := [[false, false, false, false, true, false, false, false]]
@[simp] def r21 : List Bool := [false, false, false, false, true, false, false, false]
@[simp] def R21 (s4 : V) : St := [.dead, .dead, .dead, .dead, s4, .dead, .dead, .dead]
def c21 : MF := ⟨(.seq (.ops [⟨none, .asg 4 (.c (.v (.bool false)))⟩])
 (.seq (.ops [⟨none, .mv 5 (.t 0)⟩,
   ⟨none, .mv 6 (.t 1)⟩,
   ⟨none, .call (some 7) 33 [(.t 5), (.t 6)]⟩,
   ⟨none, .asg 4 (.t 7)⟩])
 (.seq (.scr r21) .ret))),
  8, [4]⟩

/-- coinage/poset.Acyclic -/
def hints22 : List (List Bool) := [[false, false, false, false, true, false, false, false, false, false, false, false, false, false]]
@[simp] def r22 : List Bool := [false, false, false, false, true, false, false, false, false, false, false, false, false, false]
@[simp] def R22 (s4 : V) : St := [.dead, .dead, .dead, .dead, s4, .dead, .dead, .dead, .dead, .dead, .dead, .dead, .dead, .dead]
def c22 : MF := ⟨(.seq (.ops [⟨none, .asg 4 (.c (.v (.bool false)))⟩])
 (.seq (.ops [⟨none, .mv 5 (.t 0)⟩,
   ⟨none, .mv 6 (.t 1)⟩,
   ⟨none, .call (some 7) 20 [(.t 5), (.t 6)]⟩,
   ⟨none, .mv 8 (.t 7)⟩,
   ⟨some (8, true), .mv 9 (.t 0)⟩,
   ⟨some (8, true), .mv 10 (.t 1)⟩,
   ⟨some (8, true), .call (some 11) 31 [(.t 9), (.t 10)]⟩,
   ⟨some (8, true), .call (some 12) 34 [(.t 11)]⟩,
   ⟨none, .pick 13 (.t 8) (.t 12) (.c (.v (.bool false)))⟩,
   ⟨none, .asg 4 (.t 13)⟩])
 (.seq (.scr r22) .ret))),
  14, [4]⟩

/-- coinage/coinageref06.Acyclic -/
def hints23 : List (List Bool) := [[false, false, false, false, true, false, false, false, false, false, false, false, false, false, false, false, false, false, false, false, false, false, false, false], [false, false, false, false, false, false, false, false, false, false, false, false, false, false, false, false, false, false, false, false, false, false, false, false], [true, false, false, false, false, true, true, false, false, false, false, false, false, false, false, false, false, false, false, false, false, false, false, false], [false, false, false, false, false, false, false, false, false, false, false, false, false, false, false, false, false, false, false, false, false, false, false, false], [true, false, false, false, false, true, true, false, false, false, false, false, false, false, false, false, false, false, false, false, false, false, false, false], [false, false, false, false, true, false, false, false, false, false, false, false, false, false, false, false, false, false, false, false, false, false, false, false], [false, false, false, false, true, false, false, false, false, false, false, false, false, false, false, false, false, false, false, false, false, false, false, false]]
@[simp] def r23 : List Bool := [false, false, false, false, true, false, false, false, false, false, false, false, false, false, false, false, false, false, false, false, false, false, false, false]
@[simp] def R23 (s4 : V) : St := [.dead, .dead, .dead, .dead, s4, .dead, .dead, .dead, .dead, .dead, .dead, .dead, .dead, .dead, .dead, .dead, .dead, .dead, .dead, .dead, .dead, .dead, .dead, .dead]
@[simp] def x23_0 : List Bool := [false, false, false, false, false, false, false, false, false, false, false, false, false, false, false, false, false, false, false, false, false, false, false, false]
@[simp] def X23_0 : St := [.dead, .dead, .dead, .dead, .dead, .dead, .dead, .dead, .dead, .dead, .dead, .dead, .dead, .dead, .dead, .dead, .dead, .dead, .dead, .dead, .dead, .dead, .dead, .dead]
@[simp] def h23_0 : List Bool := [true, false, false, false, false, true, true, false, false, false, false, false, false, false, false, false, false, false, false, false, false, false, false, false]
@[simp] def L23_0 (s0 s5 s6 : V) : St := [s0, .dead, .dead, .dead, .dead, s5, s6, .dead, .dead, .dead, .dead, .dead, .dead, .dead, .dead, .dead, .dead, .dead, .dead, .dead, .dead, .dead, .dead, .dead]
@[simp] def x23_1 : List Bool := [true, false, false, false, false, true, true, false, false, false, false, false, false, false, false, false, false, false, false, false, false, false, false, false]
@[simp] def X23_1 (s0 s5 s6 : V) : St := [s0, .dead, .dead, .dead, .dead, s5, s6, .dead, .dead, .dead, .dead, .dead, .dead, .dead, .dead, .dead, .dead, .dead, .dead, .dead, .dead, .dead, .dead, .dead]
def b23_0 : MC := .seq (.scr h23_0)
 (.seq (.seq (.ops [⟨none, .mv 14 (.t 6)⟩,
    ⟨none, .mv 15 (.t 0)⟩,
    ⟨none, .bin 16 .lss .num (.t 14) (.t 15)⟩])
  (.cnd (.t 16)
   .skip
   (.seq (.scr x23_0) (.ex 0))))
 (.seq (.seq (.blk 1 (.seq (.ops [⟨none, .mv 19 (.t 6)⟩,
     ⟨none, .mv 20 (.t 6)⟩,
     ⟨none, .ixa 21 24 24 (.t 5) (.t 19)⟩,
     ⟨none, .ixa 22 1 24 (.t 21) (.t 20)⟩,
     ⟨none, .ld1 23 (.t 22)⟩])
   (.cnd (.t 23)
    (.seq (.ops [⟨none, .asg 4 (.c (.v (.bool false)))⟩])
    (.seq (.scr r23) .ret))
    .skip))) (.scr x23_1))
 (.ops [⟨none, .mv 17 (.t 6)⟩,
  ⟨none, .bin 18 .add .num (.t 17) (.c (.v (.int .i64 1)))⟩,
  ⟨none, .asg 6 (.t 18)⟩])))
def c23 : MF := ⟨(.seq (.ops [⟨none, .asg 4 (.c (.v (.bool false)))⟩])
 (.seq (.seq (.ops [⟨none, .mv 7 (.t 0)⟩,
    ⟨none, .mv 8 (.t 1)⟩,
    ⟨none, .call (some 9) 21 [(.t 7), (.t 8)]⟩,
    ⟨none, .un 10 .not (.t 9)⟩])
  (.cnd (.t 10)
   (.seq (.ops [⟨none, .asg 4 (.c (.v (.bool false)))⟩])
   (.seq (.scr r23) .ret))
   .skip))
 (.seq (.ops [⟨none, .mv 11 (.t 0)⟩,
   ⟨none, .mv 12 (.t 1)⟩,
   ⟨none, .call (some 13) 35 [(.t 11), (.t 12)]⟩,
   ⟨none, .alc 5 [(.v (.bool false)), (.v (.bool false)), (.v (.bool false)), (.v (.bool false)), (.v (.bool false)), (.v (.bool false)), (.v (.bool false)), (.v (.bool false)), (.v (.bool false)), (.v (.bool false)), (.v (.bool false)), (.v (.bool false)), (.v (.bool false)), (.v (.bool false)), (.v (.bool false)), (.v (.bool false)), (.v (.bool false)), (.v (.bool false)), (.v (.bool false)), (.v (.bool false)), (.v (.bool false)), (.v (.bool false)), (.v (.bool false)), (.v (.bool false)), (.v (.bool false)), (.v (.bool false)), (.v (.bool false)), (.v (.bool false)), (.v (.bool false)), (.v (.bool false)), (.v (.bool false)), (.v (.bool false)), (.v (.bool false)), (.v (.bool false)), (.v (.bool false)), (.v (.bool false)), (.v (.bool false)), (.v (.bool false)), (.v (.bool false)), (.v (.bool false)), (.v (.bool false)), (.v (.bool false)), (.v (.bool false)), (.v (.bool false)), (.v (.bool false)), (.v (.bool false)), (.v (.bool false)), (.v (.bool false)), (.v (.bool false)), (.v (.bool false)), (.v (.bool false)), (.v (.bool false)), (.v (.bool false)), (.v (.bool false)), (.v (.bool false)), (.v (.bool false)), (.v (.bool false)), (.v (.bool false)), (.v (.bool false)), (.v (.bool false)), (.v (.bool false)), (.v (.bool false)), (.v (.bool false)), (.v (.bool false)), (.v (.bool false)), (.v (.bool false)), (.v (.bool false)), (.v (.bool false)), (.v (.bool false)), (.v (.bool false)), (.v (.bool false)), (.v (.bool false)), (.v (.bool false)), (.v (.bool false)), (.v (.bool false)), (.v (.bool false)), (.v (.bool false)), (.v (.bool false)), (.v (.bool false)), (.v (.bool false)), (.v (.bool false)), (.v (.bool false)), (.v (.bool false)), (.v (.bool false)), (.v (.bool false)), (.v (.bool false)), (.v (.bool false)), (.v (.bool false)), (.v (.bool false)), (.v (.bool false)), (.v (.bool false)), (.v (.bool false)), (.v (.bool false)), (.v (.bool false)), (.v (.bool false)), (.v (.bool false)), (.v (.bool false)), (.v (.bool false)), (.v (.bool false)), (.v (.bool false)), (.v (.bool false)), (.v (.bool false)), (.v (.bool false)), (.v (.bool false)), (.v (.bool false)), (.v (.bool false)), (.v (.bool false)), (.v (.bool false)), (.v (.bool false)), (.v (.bool false)), (.v (.bool false)), (.v (.bool false)), (.v (.bool false)), (.v (.bool false)), (.v (.bool false)), (.v (.bool false)), (.v (.bool false)), (.v (.bool false)), (.v (.bool false)), (.v (.bool false)), (.v (.bool false)), (.v (.bool false)), (.v (.bool false)), (.v (.bool false)), (.v (.bool false)), (.v (.bool false)), (.v (.bool false)), (.v (.bool false)), (.v (.bool false)), (.v (.bool false)), (.v (.bool false)), (.v (.bool false)), (.v (.bool false)), (.v (.bool false)), (.v (.bool false)), (.v (.bool false)), (.v (.bool false)), (.v (.bool false)), (.v (.bool false)), (.v (.bool false)), (.v (.bool false)), (.v (.bool false)), (.v (.bool false)), (.v (.bool false)), (.v (.bool false)), (.v (.bool false)), (.v (.bool false)), (.v (.bool false)), (.v (.bool false)), (.v (.bool false)), (.v (.bool false)), (.v (.bool false)), (.v (.bool false)), (.v (.bool false)), (.v (.bool false)), (.v (.bool false)), (.v (.bool false)), (.v (.bool false)), (.v (.bool false)), (.v (.bool false)), (.v (.bool false)), (.v (.bool false)), (.v (.bool false)), (.v (.bool false)), (.v (.bool false)), (.v (.bool false)), (.v (.bool false)), (.v (.bool false)), (.v (.bool false)), (.v (.bool false)), (.v (.bool false)), (.v (.bool false)), (.v (.bool false)), (.v (.bool false)), (.v (.bool false)), (.v (.bool false)), (.v (.bool false)), (.v (.bool false)), (.v (.bool false)), (.v (.bool false)), (.v (.bool false)), (.v (.bool false)), (.v (.bool false)), (.v (.bool false)), (.v (.bool false)), (.v (.bool false)), (.v (.bool false)), (.v (.bool false)), (.v (.bool false)), (.v (.bool false)), (.v (.bool false)), (.v (.bool false)), (.v (.bool false)), (.v (.bool false)), (.v (.bool false)), (.v (.bool false)), (.v (.bool false)), (.v (.bool false)), (.v (.bool false)), (.v (.bool false)), (.v (.bool false)), (.v (.bool false)), (.v (.bool false)), (.v (.bool false)), (.v (.bool false)), (.v (.bool false)), (.v (.bool false)), (.v (.bool false)), (.v (.bool false)), (.v (.bool false)), (.v (.bool false)), (.v (.bool false)), (.v (.bool false)), (.v (.bool false)), (.v (.bool false)), (.v (.bool false)), (.v (.bool false)), (.v (.bool false)), (.v (.bool false)), (.v (.bool false)), (.v (.bool false)), (.v (.bool false)), (.v (.bool false)), (.v (.bool false)), (.v (.bool false)), (.v (.bool false)), (.v (.bool false)), (.v (.bool false)), (.v (.bool false)), (.v (.bool false)), (.v (.bool false)), (.v (.bool false)), (.v (.bool false)), (.v (.bool false)), (.v (.bool false)), (.v (.bool false)), (.v (.bool false)), (.v (.bool false)), (.v (.bool false)), (.v (.bool false)), (.v (.bool false)), (.v (.bool false)), (.v (.bool false)), (.v (.bool false)), (.v (.bool false)), (.v (.bool false)), (.v (.bool false)), (.v (.bool false)), (.v (.bool false)), (.v (.bool false)), (.v (.bool false)), (.v (.bool false)), (.v (.bool false)), (.v (.bool false)), (.v (.bool false)), (.v (.bool false)), (.v (.bool false)), (.v (.bool false)), (.v (.bool false)), (.v (.bool false)), (.v (.bool false)), (.v (.bool false)), (.v (.bool false)), (.v (.bool false)), (.v (.bool false)), (.v (.bool false)), (.v (.bool false)), (.v (.bool false)), (.v (.bool false)), (.v (.bool false)), (.v (.bool false)), (.v (.bool false)), (.v (.bool false)), (.v (.bool false)), (.v (.bool false)), (.v (.bool false)), (.v (.bool false)), (.v (.bool false)), (.v (.bool false)), (.v (.bool false)), (.v (.bool false)), (.v (.bool false)), (.v (.bool false)), (.v (.bool false)), (.v (.bool false)), (.v (.bool false)), (.v (.bool false)), (.v (.bool false)), (.v (.bool false)), (.v (.bool false)), (.v (.bool false)), (.v (.bool false)), (.v (.bool false)), (.v (.bool false)), (.v (.bool false)), (.v (.bool false)), (.v (.bool false)), (.v (.bool false)), (.v (.bool false)), (.v (.bool false)), (.v (.bool false)), (.v (.bool false)), (.v (.bool false)), (.v (.bool false)), (.v (.bool false)), (.v (.bool false)), (.v (.bool false)), (.v (.bool false)), (.v (.bool false)), (.v (.bool false)), (.v (.bool false)), (.v (.bool false)), (.v (.bool false)), (.v (.bool false)), (.v (.bool false)), (.v (.bool false)), (.v (.bool false)), (.v (.bool false)), (.v (.bool false)), (.v (.bool false)), (.v (.bool false)), (.v (.bool false)), (.v (.bool false)), (.v (.bool false)), (.v (.bool false)), (.v (.bool false)), (.v (.bool false)), (.v (.bool false)), (.v (.bool false)), (.v (.bool false)), (.v (.bool false)), (.v (.bool false)), (.v (.bool false)), (.v (.bool false)), (.v (.bool false)), (.v (.bool false)), (.v (.bool false)), (.v (.bool false)), (.v (.bool false)), (.v (.bool false)), (.v (.bool false)), (.v (.bool false)), (.v (.bool false)), (.v (.bool false)), (.v (.bool false)), (.v (.bool false)), (.v (.bool false)), (.v (.bool false)), (.v (.bool false)), (.v (.bool false)), (.v (.bool false)), (.v (.bool false)), (.v (.bool false)), (.v (.bool false)), (.v (.bool false)), (.v (.bool false)), (.v (.bool false)), (.v (.bool false)), (.v (.bool false)), (.v (.bool false)), (.v (.bool false)), (.v (.bool false)), (.v (.bool false)), (.v (.bool false)), (.v (.bool false)), (.v (.bool false)), (.v (.bool false)), (.v (.bool false)), (.v (.bool false)), (.v (.bool false)), (.v (.bool false)), (.v (.bool false)), (.v (.bool false)), (.v (.bool false)), (.v (.bool false)), (.v (.bool false)), (.v (.bool false)), (.v (.bool false)), (.v (.bool false)), (.v (.bool false)), (.v (.bool false)), (.v (.bool false)), (.v (.bool false)), (.v (.bool false)), (.v (.bool false)), (.v (.bool false)), (.v (.bool false)), (.v (.bool false)), (.v (.bool false)), (.v (.bool false)), (.v (.bool false)), (.v (.bool false)), (.v (.bool false)), (.v (.bool false)), (.v (.bool false)), (.v (.bool false)), (.v (.bool false)), (.v (.bool false)), (.v (.bool false)), (.v (.bool false)), (.v (.bool false)), (.v (.bool false)), (.v (.bool false)), (.v (.bool false)), (.v (.bool false)), (.v (.bool false)), (.v (.bool false)), (.v (.bool false)), (.v (.bool false)), (.v (.bool false)), (.v (.bool false)), (.v (.bool false)), (.v (.bool false)), (.v (.bool false)), (.v (.bool false)), (.v (.bool false)), (.v (.bool false)), (.v (.bool false)), (.v (.bool false)), (.v (.bool false)), (.v (.bool false)), (.v (.bool false)), (.v (.bool false)), (.v (.bool false)), (.v (.bool false)), (.v (.bool false)), (.v (.bool false)), (.v (.bool false)), (.v (.bool false)), (.v (.bool false)), (.v (.bool false)), (.v (.bool false)), (.v (.bool false)), (.v (.bool false)), (.v (.bool false)), (.v (.bool false)), (.v (.bool false)), (.v (.bool false)), (.v (.bool false)), (.v (.bool false)), (.v (.bool false)), (.v (.bool false)), (.v (.bool false)), (.v (.bool false)), (.v (.bool false)), (.v (.bool false)), (.v (.bool false)), (.v (.bool false)), (.v (.bool false)), (.v (.bool false)), (.v (.bool false)), (.v (.bool false)), (.v (.bool false)), (.v (.bool false)), (.v (.bool false)), (.v (.bool false)), (.v (.bool false)), (.v (.bool false)), (.v (.bool false)), (.v (.bool false)), (.v (.bool false)), (.v (.bool false)), (.v (.bool false)), (.v (.bool false)), (.v (.bool false)), (.v (.bool false)), (.v (.bool false)), (.v (.bool false)), (.v (.bool false)), (.v (.bool false)), (.v (.bool false)), (.v (.bool false)), (.v (.bool false)), (.v (.bool false)), (.v (.bool false)), (.v (.bool false)), (.v (.bool false)), (.v (.bool false)), (.v (.bool false)), (.v (.bool false)), (.v (.bool false)), (.v (.bool false)), (.v (.bool false)), (.v (.bool false)), (.v (.bool false)), (.v (.bool false)), (.v (.bool false)), (.v (.bool false)), (.v (.bool false)), (.v (.bool false)), (.v (.bool false)), (.v (.bool false)), (.v (.bool false)), (.v (.bool false)), (.v (.bool false)), (.v (.bool false)), (.v (.bool false)), (.v (.bool false)), (.v (.bool false)), (.v (.bool false)), (.v (.bool false)), (.v (.bool false)), (.v (.bool false)), (.v (.bool false)), (.v (.bool false)), (.v (.bool false)), (.v (.bool false)), (.v (.bool false)), (.v (.bool false)), (.v (.bool false)), (.v (.bool false)), (.v (.bool false)), (.v (.bool false)), (.v (.bool false)), (.v (.bool false)), (.v (.bool false)), (.v (.bool false)), (.v (.bool false)), (.v (.bool false)), (.v (.bool false)), (.v (.bool false)), (.v (.bool false)), (.v (.bool false)), (.v (.bool false)), (.v (.bool false)), (.v (.bool false)), (.v (.bool false)), (.v (.bool false)), (.v (.bool false)), (.v (.bool false)), (.v (.bool false)), (.v (.bool false)), (.v (.bool false)), (.v (.bool false)), (.v (.bool false)), (.v (.bool false)), (.v (.bool false)), (.v (.bool false)), (.v (.bool false)), (.v (.bool false)), (.v (.bool false)), (.v (.bool false)), (.v (.bool false)), (.v (.bool false)), (.v (.bool false)), (.v (.bool false)), (.v (.bool false)), (.v (.bool false)), (.v (.bool false)), (.v (.bool false)), (.v (.bool false)), (.v (.bool false)), (.v (.bool false)), (.v (.bool false)), (.v (.bool false)), (.v (.bool false)), (.v (.bool false)), (.v (.bool false)), (.v (.bool false)), (.v (.bool false)), (.v (.bool false)), (.v (.bool false)), (.v (.bool false)), (.v (.bool false)), (.v (.bool false)), (.v (.bool false)), (.v (.bool false)), (.v (.bool false)), (.v (.bool false)), (.v (.bool false)), (.v (.bool false)), (.v (.bool false)), (.v (.bool false)), (.v (.bool false)), (.v (.bool false)), (.v (.bool false))]⟩,
   ⟨none, .stn none 576 (.t 5) (.t 13)⟩])
 (.seq (.seq (.ops [⟨none, .asg 6 (.c (.v (.int .i64 0)))⟩])
  (.seq (.blk 0 (.lop b23_0)) (.scr x23_0)))
 (.seq (.ops [⟨none, .asg 4 (.c (.v (.bool true)))⟩])
 (.seq (.scr r23) .ret)))))),
  24, [4]⟩

/-- coinage/coinageref06.Reaches -/
def hints24 : List (List Bool) := [[false, false, false, false, false, false, false, false, true, false, false, false, false, false, false, false, false, false, false, false, false, false, false, false, false, false, false, false, false, false, false, false, false, false, false, false, false, false, false, false], [false, false, false, false, false, false, false, false, true, false, false, false, false, false, false, false, false, false, false, false, false, false, false, false, false, false, false, false, false, false, false, false, false, false, false, false, false, false, false, false]]
@[simp] def r24 : List Bool := [false, false, false, false, false, false, false, false, true, false, false, false, false, false, false, false, false, false, false, false, false, false, false, false, false, false, false, false, false, false, false, false, false, false, false, false, false, false, false, false]
@[simp] def R24 (s8 : V) : St := [.dead, .dead, .dead, .dead, .dead, .dead, .dead, .dead, s8, .dead, .dead, .dead, .dead, .dead, .dead, .dead, .dead, .dead, .dead, .dead, .dead, .dead, .dead, .dead, .dead, .dead, .dead, .dead, .dead, .dead, .dead, .dead, .dead, .dead, .dead, .dead, .dead, .dead, .dead, .dead]
def c24 : MF := ⟨(.seq (.ops [⟨none, .asg 8 (.c (.v (.bool false)))⟩])
 (.seq (.seq (.ops [⟨none, .mv 10 (.t 0)⟩,
    ⟨none, .mv 11 (.t 1)⟩,
    ⟨none, .call (some 12) 21 [(.t 10), (.t 11)]⟩,
    ⟨none, .un 13 .not (.t 12)⟩,
    ⟨none, .mv 14 (.t 13)⟩,
    ⟨some (14, false), .mv 15 (.t 2)⟩,
    ⟨some (14, false), .bin 16 .lss .num (.t 15) (.c (.v (.int .i64 0)))⟩,
    ⟨none, .pick 17 (.t 14) (.c (.v (.bool true))) (.t 16)⟩,
    ⟨none, .mv 18 (.t 17)⟩,
    ⟨some (18, false), .mv 19 (.t 2)⟩,
    ⟨some (18, false), .mv 20 (.t 0)⟩,
    ⟨some (18, false), .bin 21 .geq .num (.t 19) (.t 20)⟩,
    ⟨none, .pick 22 (.t 18) (.c (.v (.bool true))) (.t 21)⟩,
    ⟨none, .mv 23 (.t 22)⟩,
    ⟨some (23, false), .mv 24 (.t 3)⟩,
    ⟨some (23, false), .bin 25 .lss .num (.t 24) (.c (.v (.int .i64 0)))⟩,
    ⟨none, .pick 26 (.t 23) (.c (.v (.bool true))) (.t 25)⟩,
    ⟨none, .mv 27 (.t 26)⟩,
    ⟨some (27, false), .mv 28 (.t 3)⟩,
    ⟨some (27, false), .mv 29 (.t 0)⟩,
    ⟨some (27, false), .bin 30 .geq .num (.t 28) (.t 29)⟩,
    ⟨none, .pick 31 (.t 27) (.c (.v (.bool true))) (.t 30)⟩])
  (.cnd (.t 31)
   (.seq (.ops [⟨none, .asg 8 (.c (.v (.bool false)))⟩])
   (.seq (.scr r24) .ret))
   .skip))
 (.seq (.ops [⟨none, .mv 32 (.t 0)⟩,
   ⟨none, .mv 33 (.t 1)⟩,
   ⟨none, .call (some 34) 35 [(.t 32), (.t 33)]⟩,
   ⟨none, .alc 9 [(.v (.bool false)), (.v (.bool false)), (.v (.bool false)), (.v (.bool false)), (.v (.bool false)), (.v (.bool false)), (.v (.bool false)), (.v (.bool false)), (.v (.bool false)), (.v (.bool false)), (.v (.bool false)), (.v (.bool false)), (.v (.bool false)), (.v (.bool false)), (.v (.bool false)), (.v (.bool false)), (.v (.bool false)), (.v (.bool false)), (.v (.bool false)), (.v (.bool false)), (.v (.bool false)), (.v (.bool false)), (.v (.bool false)), (.v (.bool false)), (.v (.bool false)), (.v (.bool false)), (.v (.bool false)), (.v (.bool false)), (.v (.bool false)), (.v (.bool false)), (.v (.bool false)), (.v (.bool false)), (.v (.bool false)), (.v (.bool false)), (.v (.bool false)), (.v (.bool false)), (.v (.bool false)), (.v (.bool false)), (.v (.bool false)), (.v (.bool false)), (.v (.bool false)), (.v (.bool false)), (.v (.bool false)), (.v (.bool false)), (.v (.bool false)), (.v (.bool false)), (.v (.bool false)), (.v (.bool false)), (.v (.bool false)), (.v (.bool false)), (.v (.bool false)), (.v (.bool false)), (.v (.bool false)), (.v (.bool false)), (.v (.bool false)), (.v (.bool false)), (.v (.bool false)), (.v (.bool false)), (.v (.bool false)), (.v (.bool false)), (.v (.bool false)), (.v (.bool false)), (.v (.bool false)), (.v (.bool false)), (.v (.bool false)), (.v (.bool false)), (.v (.bool false)), (.v (.bool false)), (.v (.bool false)), (.v (.bool false)), (.v (.bool false)), (.v (.bool false)), (.v (.bool false)), (.v (.bool false)), (.v (.bool false)), (.v (.bool false)), (.v (.bool false)), (.v (.bool false)), (.v (.bool false)), (.v (.bool false)), (.v (.bool false)), (.v (.bool false)), (.v (.bool false)), (.v (.bool false)), (.v (.bool false)), (.v (.bool false)), (.v (.bool false)), (.v (.bool false)), (.v (.bool false)), (.v (.bool false)), (.v (.bool false)), (.v (.bool false)), (.v (.bool false)), (.v (.bool false)), (.v (.bool false)), (.v (.bool false)), (.v (.bool false)), (.v (.bool false)), (.v (.bool false)), (.v (.bool false)), (.v (.bool false)), (.v (.bool false)), (.v (.bool false)), (.v (.bool false)), (.v (.bool false)), (.v (.bool false)), (.v (.bool false)), (.v (.bool false)), (.v (.bool false)), (.v (.bool false)), (.v (.bool false)), (.v (.bool false)), (.v (.bool false)), (.v (.bool false)), (.v (.bool false)), (.v (.bool false)), (.v (.bool false)), (.v (.bool false)), (.v (.bool false)), (.v (.bool false)), (.v (.bool false)), (.v (.bool false)), (.v (.bool false)), (.v (.bool false)), (.v (.bool false)), (.v (.bool false)), (.v (.bool false)), (.v (.bool false)), (.v (.bool false)), (.v (.bool false)), (.v (.bool false)), (.v (.bool false)), (.v (.bool false)), (.v (.bool false)), (.v (.bool false)), (.v (.bool false)), (.v (.bool false)), (.v (.bool false)), (.v (.bool false)), (.v (.bool false)), (.v (.bool false)), (.v (.bool false)), (.v (.bool false)), (.v (.bool false)), (.v (.bool false)), (.v (.bool false)), (.v (.bool false)), (.v (.bool false)), (.v (.bool false)), (.v (.bool false)), (.v (.bool false)), (.v (.bool false)), (.v (.bool false)), (.v (.bool false)), (.v (.bool false)), (.v (.bool false)), (.v (.bool false)), (.v (.bool false)), (.v (.bool false)), (.v (.bool false)), (.v (.bool false)), (.v (.bool false)), (.v (.bool false)), (.v (.bool false)), (.v (.bool false)), (.v (.bool false)), (.v (.bool false)), (.v (.bool false)), (.v (.bool false)), (.v (.bool false)), (.v (.bool false)), (.v (.bool false)), (.v (.bool false)), (.v (.bool false)), (.v (.bool false)), (.v (.bool false)), (.v (.bool false)), (.v (.bool false)), (.v (.bool false)), (.v (.bool false)), (.v (.bool false)), (.v (.bool false)), (.v (.bool false)), (.v (.bool false)), (.v (.bool false)), (.v (.bool false)), (.v (.bool false)), (.v (.bool false)), (.v (.bool false)), (.v (.bool false)), (.v (.bool false)), (.v (.bool false)), (.v (.bool false)), (.v (.bool false)), (.v (.bool false)), (.v (.bool false)), (.v (.bool false)), (.v (.bool false)), (.v (.bool false)), (.v (.bool false)), (.v (.bool false)), (.v (.bool false)), (.v (.bool false)), (.v (.bool false)), (.v (.bool false)), (.v (.bool false)), (.v (.bool false)), (.v (.bool false)), (.v (.bool false)), (.v (.bool false)), (.v (.bool false)), (.v (.bool false)), (.v (.bool false)), (.v (.bool false)), (.v (.bool false)), (.v (.bool false)), (.v (.bool false)), (.v (.bool false)), (.v (.bool false)), (.v (.bool false)), (.v (.bool false)), (.v (.bool false)), (.v (.bool false)), (.v (.bool false)), (.v (.bool false)), (.v (.bool false)), (.v (.bool false)), (.v (.bool false)), (.v (.bool false)), (.v (.bool false)), (.v (.bool false)), (.v (.bool false)), (.v (.bool false)), (.v (.bool false)), (.v (.bool false)), (.v (.bool false)), (.v (.bool false)), (.v (.bool false)), (.v (.bool false)), (.v (.bool false)), (.v (.bool false)), (.v (.bool false)), (.v (.bool false)), (.v (.bool false)), (.v (.bool false)), (.v (.bool false)), (.v (.bool false)), (.v (.bool false)), (.v (.bool false)), (.v (.bool false)), (.v (.bool false)), (.v (.bool false)), (.v (.bool false)), (.v (.bool false)), (.v (.bool false)), (.v (.bool false)), (.v (.bool false)), (.v (.bool false)), (.v (.bool false)), (.v (.bool false)), (.v (.bool false)), (.v (.bool false)), (.v (.bool false)), (.v (.bool false)), (.v (.bool false)), (.v (.bool false)), (.v (.bool false)), (.v (.bool false)), (.v (.bool false)), (.v (.bool false)), (.v (.bool false)), (.v (.bool false)), (.v (.bool false)), (.v (.bool false)), (.v (.bool false)), (.v (.bool false)), (.v (.bool false)), (.v (.bool false)), (.v (.bool false)), (.v (.bool false)), (.v (.bool false)), (.v (.bool false)), (.v (.bool false)), (.v (.bool false)), (.v (.bool false)), (.v (.bool false)), (.v (.bool false)), (.v (.bool false)), (.v (.bool false)), (.v (.bool false)), (.v (.bool false)), (.v (.bool false)), (.v (.bool false)), (.v (.bool false)), (.v (.bool false)), (.v (.bool false)), (.v (.bool false)), (.v (.bool false)), (.v (.bool false)), (.v (.bool false)), (.v (.bool false)), (.v (.bool false)), (.v (.bool false)), (.v (.bool false)), (.v (.bool false)), (.v (.bool false)), (.v (.bool false)), (.v (.bool false)), (.v (.bool false)), (.v (.bool false)), (.v (.bool false)), (.v (.bool false)), (.v (.bool false)), (.v (.bool false)), (.v (.bool false)), (.v (.bool false)), (.v (.bool false)), (.v (.bool false)), (.v (.bool false)), (.v (.bool false)), (.v (.bool false)), (.v (.bool false)), (.v (.bool false)), (.v (.bool false)), (.v (.bool false)), (.v (.bool false)), (.v (.bool false)), (.v (.bool false)), (.v (.bool false)), (.v (.bool false)), (.v (.bool false)), (.v (.bool false)), (.v (.bool false)), (.v (.bool false)), (.v (.bool false)), (.v (.bool false)), (.v (.bool false)), (.v (.bool false)), (.v (.bool false)), (.v (.bool false)), (.v (.bool false)), (.v (.bool false)), (.v (.bool false)), (.v (.bool false)), (.v (.bool false)), (.v (.bool false)), (.v (.bool false)), (.v (.bool false)), (.v (.bool false)), (.v (.bool false)), (.v (.bool false)), (.v (.bool false)), (.v (.bool false)), (.v (.bool false)), (.v (.bool false)), (.v (.bool false)), (.v (.bool false)), (.v (.bool false)), (.v (.bool false)), (.v (.bool false)), (.v (.bool false)), (.v (.bool false)), (.v (.bool false)), (.v (.bool false)), (.v (.bool false)), (.v (.bool false)), (.v (.bool false)), (.v (.bool false)), (.v (.bool false)), (.v (.bool false)), (.v (.bool false)), (.v (.bool false)), (.v (.bool false)), (.v (.bool false)), (.v (.bool false)), (.v (.bool false)), (.v (.bool false)), (.v (.bool false)), (.v (.bool false)), (.v (.bool false)), (.v (.bool false)), (.v (.bool false)), (.v (.bool false)), (.v (.bool false)), (.v (.bool false)), (.v (.bool false)), (.v (.bool false)), (.v (.bool false)), (.v (.bool false)), (.v (.bool false)), (.v (.bool false)), (.v (.bool false)), (.v (.bool false)), (.v (.bool false)), (.v (.bool false)), (.v (.bool false)), (.v (.bool false)), (.v (.bool false)), (.v (.bool false)), (.v (.bool false)), (.v (.bool false)), (.v (.bool false)), (.v (.bool false)), (.v (.bool false)), (.v (.bool false)), (.v (.bool false)), (.v (.bool false)), (.v (.bool false)), (.v (.bool false)), (.v (.bool false)), (.v (.bool false)), (.v (.bool false)), (.v (.bool false)), (.v (.bool false)), (.v (.bool false)), (.v (.bool false)), (.v (.bool false)), (.v (.bool false)), (.v (.bool false)), (.v (.bool false)), (.v (.bool false)), (.v (.bool false)), (.v (.bool false)), (.v (.bool false)), (.v (.bool false)), (.v (.bool false)), (.v (.bool false)), (.v (.bool false)), (.v (.bool false)), (.v (.bool false)), (.v (.bool false)), (.v (.bool false)), (.v (.bool false)), (.v (.bool false)), (.v (.bool false)), (.v (.bool false)), (.v (.bool false)), (.v (.bool false)), (.v (.bool false)), (.v (.bool false)), (.v (.bool false)), (.v (.bool false)), (.v (.bool false)), (.v (.bool false)), (.v (.bool false)), (.v (.bool false)), (.v (.bool false)), (.v (.bool false)), (.v (.bool false)), (.v (.bool false)), (.v (.bool false)), (.v (.bool false)), (.v (.bool false)), (.v (.bool false)), (.v (.bool false)), (.v (.bool false)), (.v (.bool false)), (.v (.bool false)), (.v (.bool false)), (.v (.bool false)), (.v (.bool false)), (.v (.bool false)), (.v (.bool false)), (.v (.bool false)), (.v (.bool false)), (.v (.bool false)), (.v (.bool false)), (.v (.bool false)), (.v (.bool false)), (.v (.bool false)), (.v (.bool false)), (.v (.bool false)), (.v (.bool false)), (.v (.bool false)), (.v (.bool false)), (.v (.bool false)), (.v (.bool false)), (.v (.bool false)), (.v (.bool false)), (.v (.bool false)), (.v (.bool false)), (.v (.bool false)), (.v (.bool false)), (.v (.bool false)), (.v (.bool false)), (.v (.bool false)), (.v (.bool false)), (.v (.bool false)), (.v (.bool false)), (.v (.bool false)), (.v (.bool false)), (.v (.bool false)), (.v (.bool false)), (.v (.bool false)), (.v (.bool false)), (.v (.bool false)), (.v (.bool false)), (.v (.bool false)), (.v (.bool false)), (.v (.bool false)), (.v (.bool false)), (.v (.bool false)), (.v (.bool false)), (.v (.bool false)), (.v (.bool false)), (.v (.bool false)), (.v (.bool false)), (.v (.bool false)), (.v (.bool false)), (.v (.bool false)), (.v (.bool false)), (.v (.bool false)), (.v (.bool false)), (.v (.bool false)), (.v (.bool false)), (.v (.bool false)), (.v (.bool false)), (.v (.bool false)), (.v (.bool false)), (.v (.bool false)), (.v (.bool false)), (.v (.bool false)), (.v (.bool false)), (.v (.bool false)), (.v (.bool false)), (.v (.bool false)), (.v (.bool false)), (.v (.bool false)), (.v (.bool false)), (.v (.bool false)), (.v (.bool false)), (.v (.bool false)), (.v (.bool false)), (.v (.bool false)), (.v (.bool false)), (.v (.bool false)), (.v (.bool false)), (.v (.bool false)), (.v (.bool false)), (.v (.bool false)), (.v (.bool false)), (.v (.bool false)), (.v (.bool false)), (.v (.bool false)), (.v (.bool false)), (.v (.bool false)), (.v (.bool false)), (.v (.bool false)), (.v (.bool false)), (.v (.bool false)), (.v (.bool false)), (.v (.bool false)), (.v (.bool false)), (.v (.bool false)), (.v (.bool false)), (.v (.bool false)), (.v (.bool false)), (.v (.bool false)), (.v (.bool false)), (.v (.bool false)), (.v (.bool false)), (.v (.bool false)), (.v (.bool false)), (.v (.bool false)), (.v (.bool false)), (.v (.bool false)), (.v (.bool false)), (.v (.bool false)), (.v (.bool false)), (.v (.bool false)), (.v (.bool false)), (.v (.bool false)), (.v (.bool false)), (.v (.bool false)), (.v (.bool false)), (.v (.bool false))]⟩,
   ⟨none, .stn none 576 (.t 9) (.t 34)⟩])
 (.seq (.ops [⟨none, .mv 35 (.t 2)⟩,
   ⟨none, .mv 36 (.t 3)⟩,
   ⟨none, .ixa 37 24 24 (.t 9) (.t 35)⟩,
   ⟨none, .ixa 38 1 24 (.t 37) (.t 36)⟩,
   ⟨none, .ld1 39 (.t 38)⟩,
   ⟨none, .asg 8 (.t 39)⟩])
 (.seq (.scr r24) .ret))))),
  40, [8]⟩

/-- coinage/poset.Cycle -/
def hints25 : List (List Bool) := [[false, false, false, false, true, true, false, false, false, false, false, false, false, false, false, false, false, false, false, false, false, false, false, false, false, false, false, false, false, false, false, false, false, false, false, false, false, false, false, false, false, false, false, false, false, false, false, false, false, false, false, false, false, false, false, false, false, false, false, false, false, false, false, false, false, false, false, false, false, false, false, false, false, false, false, false, false, false, false, false, false, false, false, false, false, false, false, false, false, false], [true, false, false, false, false, false, true, true, true, false, false, false, false, false, false, false, false, false, false, false, false, true, false, false, false, false, false, false, false, false, false, false, false, false, false, false, false, false, false, false, false, false, false, false, false, false, false, false, false, false, false, false, false, false, false, false, false, false, false, false, false, false, false, false, false, false, false, false, false, false, false, false, false, false, false, false, false, false, false, false, false, false, false, false, false, false, false, false, true, false], [true, false, false, false, false, false, true, true, true, false, false, false, false, false, false, false, false, false, false, false, false, true, false, false, true, true, false, false, false, false, false, false, false, false, false, false, false, false, false, false, false, false, false, false, false, false, false, false, false, false, false, false, false, false, false, false, false, false, false, false, false, false, false, false, false, false, false, false, false, false, false, false, false, false, false, false, false, false, false, false, false, false, false, false, false, false, false, false, true, false], [true, false, false, false, false, false, true, true, true, false, false, false, false, false, false, false, false, false, false, false, false, true, false, false, false, false, false, false, false, false, false, false, false, false, false, false, false, false, false, false, false, false, false, false, false, false, false, false, false, false, false, false, false, false, false, false, false, false, false, false, false, false, false, false, false, false, false, false, false, false, false, false, false, false, false, false, false, false, false, false, false, false, false, false, false, false, false, false, true, false], [true, false, false, false, false, false, true, true, true, false, false, false, false, false, false, false, false, false, false, false, false, true, false, false, true, true, false, false, false, false, false, false, false, false, false, false, false, false, false, false, false, false, false, false, false, false, false, false, false, false, false, false, false, false, false, false, false, false, false, false, false, false, false, false, false, false, false, false, false, false, false, false, false, false, false, false, false, false, false, false, false, false, false, false, false, false, false, false, true, false], [false, false, false, false, true, true, false, false, false, false, false, false, false, false, false, false, false, false, false, false, false, false, false, false, false, false, false, false, false, false, false, false, false, false, false, false, false, false, false, false, false, false, false, false, false, false, false, false, false, false, false, false, false, false, false, false, false, false, false, false, false, false, false, false, false, false, false, false, false, false, false, false, false, false, false, false, false, false, false, false, false, false, false, false, false, false, false, false, false, false], [false, false, false, false, false, false, false, false, false, false, false, false, true, false, false, false, false, false, false, false, false, false, false, false, false, false, false, false, false, false, false, false, false, false, false, false, false, false, false, false, false, false, false, false, false, false, false, false, false, false, true, false, false, false, false, false, false, false, false, false, false, false, false, false, false, false, false, false, false, false, false, false, false, false, false, false, false, false, false, false, false, false, false, false, false, false, false, false, true, false], [true, false, false, false, false, false, true, true, true, false, false, true, true, false, false, false, false, false, false, false, false, true, false, false, false, false, false, false, false, false, false, false, false, false, false, false, false, false, false, false, false, false, false, false, false, false, false, false, true, false, true, false, false, false, false, false, false, false, false, false, false, false, false, false, false, false, false, false, false, false, false, false, false, false, false, false, false, false, false, false, false, false, false, false, false, false, false, false, true, false], [false, false, false, false, false, false, false, false, false, false, false, false, true, false, false, false, false, false, false, false, false, false, false, false, false, false, false, false, false, false, false, false, false, false, false, false, false, false, false, false, false, false, false, false, false, false, false, false, false, false, true, false, false, false, false, false, false, false, false, false, false, false, false, false, false, false, false, false, false, false, false, false, false, false, false, false, false, false, false, false, false, false, false, false, false, false, false, false, true, false], [true, false, false, false, false, false, true, true, true, false, false, true, true, false, false, false, false, false, false, false, false, true, false, false, false, false, false, false, false, false, false, false, false, false, false, false, false, false, false, false, false, false, false, false, false, false, false, false, true, false, true, false, false, false, false, false, false, false, false, false, false, false, false, false, false, false, false, false, false, false, false, false, false, false, false, false, false, false, false, false, false, false, false, false, false, false, false, false, true, false], [true, false, false, false, false, false, true, true, true, false, false, true, true, false, false, false, false, false, false, false, false, true, false, false, false, false, false, false, false, false, false, false, false, false, false, false, false, false, false, false, false, false, false, false, false, false, false, false, true, false, true, false, false, false, false, false, false, false, false, false, false, false, false, false, false, false, false, false, false, false, false, false, false, false, false, false, false, false, false, false, false, false, false, false, false, false, false, false, true, false], [true, false, false, false, false, false, true, true, true, false, false, true, true, true, true, false, false, false, false, false, false, true, false, false, false, false, false, false, false, false, false, false, false, false, false, false, false, false, false, false, false, false, false, false, false, false, false, false, true, false, true, false, false, false, false, false, false, false, false, false, false, false, false, false, false, false, false, false, false, false, false, false, false, false, false, false, false, false, false, false, false, false, false, false, false, false, false, false, true, false], [true, false, false, false, false, false, true, true, true, false, false, true, true, false, false, false, false, false, false, false, false, true, false, false, false, false, false, false, false, false, false, false, false, false, false, false, false, false, false, false, false, false, false, false, false, false, false, false, true, false, true, false, false, false, false, false, false, false, false, false, false, false, false, false, false, false, false, false, false, false, false, false, false, false, false, false, false, false, false, false, false, false, false, false, false, false, false, false, true, false], [true, false, false, false, false, false, true, true, true, false, false, true, true, true, true, false, false, false, false, false, false, true, false, false, false, false, false, false, false, false, false, false, false, false, false, false, false, false, false, false, false, false, false, false, false, false, false, false, true, false, true, false, false, false, false, false, false, false, false, false, false, false, false, false, false, false, false, false, false, false, false, false, false, false, false, false, false, false, false, false, false, false, false, false, false, false, false, false, true, false], [true, false, false, false, false, false, true, true, true, false, false, true, true, false, false, false, false, false, false, false, false, true, false, false, false, false, false, false, false, false, false, false, false, false, false, false, false, false, false, false, false, false, false, false, false, false, false, false, true, false, true, false, false, false, false, false, false, false, false, false, false, false, false, false, false, false, false, false, false, false, false, false, false, false, false, false, false, false, false, false, false, false, false, false, false, false, false, false, true, false], [false, false, false, false, true, true, false, false, false, false, false, false, false, false, false, false, false, false, false, false, false, false, false, false, false, false, false, false, false, false, false, false, false, false, false, false, false, false, false, false, false, false, false, false, false, false, false, false, false, false, false, false, false, false, false, false, false, false, false, false, false, false, false, false, false, false, false, false, false, false, false, false, false, false, false, false, false, false, false, false, false, false, false, false, false, false, false, false, false, false]]
@[simp] def r25 : List Bool := [false, false, false, false, true, true, false, false, false, false, false, false, false, false, false, false, false, false, false, false, false, false, false, false, false, false, false, false, false, false, false, false, false, false, false, false, false, false, false, false, false, false, false, false, false, false, false, false, false, false, false, false, false, false, false, false, false, false, false, false, false, false, false, false, false, false, false, false, false, false, false, false, false, false, false, false, false, false, false, false, false, false, false, false, false, false, false, false, false, false]
@[simp] def R25 (s4 s5 : V) : St := [.dead, .dead, .dead, .dead, s4, s5, .dead, .dead, .dead, .dead, .dead, .dead, .dead, .dead, .dead, .dead, .dead, .dead, .dead, .dead, .dead, .dead, .dead, .dead, .dead, .dead, .dead, .dead, .dead, .dead, .dead, .dead, .dead, .dead, .dead, .dead, .dead, .dead, .dead, .dead, .dead, .dead, .dead, .dead, .dead, .dead, .dead, .dead, .dead, .dead, .dead, .dead, .dead, .dead, .dead, .dead, .dead, .dead, .dead, .dead, .dead, .dead, .dead, .dead, .dead, .dead, .dead, .dead, .dead, .dead, .dead, .dead, .dead, .dead, .dead, .dead, .dead, .dead, .dead, .dead, .dead, .dead, .dead, .dead, .dead, .dead, .dead, .dead, .dead, .dead]
@[simp] def x25_0 : List Bool := [true, false, false, false, false, false, true, true, true, false, false, false, false, false, false, false, false, false, false, false, false, true, false, false, false, false, false, false, false, false, false, false, false, false, false, false, false, false, false, false, false, false, false, false, false, false, false, false, false, false, false, false, false, false, false, false, false, false, false, false, false, false, false, false, false, false, false, false, false, false, false, false, false, false, false, false, false, false, false, false, false, false, false, false, false, false, false, false, true, false]
@[simp] def X25_0 (s0 s6 s7 s8 s21 s88 : V) : St := [s0, .dead, .dead, .dead, .dead, .dead, s6, s7, s8, .dead, .dead, .dead, .dead, .dead, .dead, .dead, .dead, .dead, .dead, .dead, .dead, s21, .dead, .dead, .dead, .dead, .dead, .dead, .dead, .dead, .dead, .dead, .dead, .dead, .dead, .dead, .dead, .dead, .dead, .dead, .dead, .dead, .dead, .dead, .dead, .dead, .dead, .dead, .dead, .dead, .dead, .dead, .dead, .dead, .dead, .dead, .dead, .dead, .dead, .dead, .dead, .dead, .dead, .dead, .dead, .dead, .dead, .dead, .dead, .dead, .dead, .dead, .dead, .dead, .dead, .dead, .dead, .dead, .dead, .dead, .dead, .dead, .dead, .dead, .dead, .dead, .dead, .dead, s88, .dead]
@[simp] def h25_0 : List Bool := [true, false, false, false, false, false, true, true, true, false, false, false, false, false, false, false, false, false, false, false, false, true, false, false, true, true, false, false, false, false, false, false, false, false, false, false, false, false, false, false, false, false, false, false, false, false, false, false, false, false, false, false, false, false, false, false, false, false, false, false, false, false, false, false, false, false, false, false, false, false, false, false, false, false, false, false, false, false, false, false, false, false, false, false, false, false, false, false, true, false]
@[simp] def L25_0 (s0 s6 s7 s8 s21 s24 s25 s88 : V) : St := [s0, .dead, .dead, .dead, .dead, .dead, s6, s7, s8, .dead, .dead, .dead, .dead, .dead, .dead, .dead, .dead, .dead, .dead, .dead, .dead, s21, .dead, .dead, s24, s25, .dead, .dead, .dead, .dead, .dead, .dead, .dead, .dead, .dead, .dead, .dead, .dead, .dead, .dead, .dead, .dead, .dead, .dead, .dead, .dead, .dead, .dead, .dead, .dead, .dead, .dead, .dead, .dead, .dead, .dead, .dead, .dead, .dead, .dead, .dead, .dead, .dead, .dead, .dead, .dead, .dead, .dead, .dead, .dead, .dead, .dead, .dead, .dead, .dead, .dead, .dead, .dead, .dead, .dead, .dead, .dead, .dead, .dead, .dead, .dead, .dead, .dead, s88, .dead]
@[simp] def x25_1 : List Bool := [true, false, false, false, false, false, true, true, true, false, false, false, false, false, false, false, false, false, false, false, false, true, false, false, true, true, false, false, false, false, false, false, false, false, false, false, false, false, false, false, false, false, false, false, false, false, false, false, false, false, false, false, false, false, false, false, false, false, false, false, false, false, false, false, false, false, false, false, false, false, false, false, false, false, false, false, false, false, false, false, false, false, false, false, false, false, false, false, true, false]
@[simp] def X25_1 (s0 s6 s7 s8 s21 s24 s25 s88 : V) : St := [s0, .dead, .dead, .dead, .dead, .dead, s6, s7, s8, .dead, .dead, .dead, .dead, .dead, .dead, .dead, .dead, .dead, .dead, .dead, .dead, s21, .dead, .dead, s24, s25, .dead, .dead, .dead, .dead, .dead, .dead, .dead, .dead, .dead, .dead, .dead, .dead, .dead, .dead, .dead, .dead, .dead, .dead, .dead, .dead, .dead, .dead, .dead, .dead, .dead, .dead, .dead, .dead, .dead, .dead, .dead, .dead, .dead, .dead, .dead, .dead, .dead, .dead, .dead, .dead, .dead, .dead, .dead, .dead, .dead, .dead, .dead, .dead, .dead, .dead, .dead, .dead, .dead, .dead, .dead, .dead, .dead, .dead, .dead, .dead, .dead, .dead, s88, .dead]
def b25_0 : MC := .seq (.scr h25_0)
 (.seq (.ops [⟨none, .bin 26 .lss .num (.t 25) (.t 24)⟩])
 (.seq (.cnd (.t 26)
   .skip
   (.seq (.scr x25_0) (.ex 0)))
 (.seq (.seq (.blk 1 (.seq (.ops [⟨none, .mv 27 (.t 25)⟩,
     ⟨none, .asg 9 (.t 27)⟩])
   (.seq (.ops [⟨none, .mv 28 (.t 6)⟩,
     ⟨none, .mv 29 (.t 9)⟩,
     ⟨none, .call (some 30) 36 [(.t 28), (.t 29)]⟩,
     ⟨none, .mv 31 (.t 9)⟩,
     ⟨none, .ixs 32 1 (.t 30) (.t 31)⟩,
     ⟨none, .ld1 33 (.t 32)⟩,
     ⟨none, .asg 10 (.t 33)⟩])
   (.seq (.ops [⟨none, .mv 34 (.t 10)⟩,
     ⟨none, .bin 35 .gtr .num (.t 34) (.c (.v (.int .i64 0)))⟩,
     ⟨none, .mv 36 (.t 35)⟩,
     ⟨some (36, true), .mv 37 (.t 10)⟩,
     ⟨some (36, true), .mv 38 (.t 8)⟩,
     ⟨some (36, true), .bin 39 .lss .num (.t 37) (.t 38)⟩,
     ⟨none, .pick 40 (.t 36) (.t 39) (.c (.v (.bool false)))⟩])
   (.cnd (.t 40)
    (.ops [⟨none, .mv 41 (.t 9)⟩,
     ⟨none, .mv 42 (.t 10)⟩,
     ⟨none, .asg 7 (.t 41)⟩,
     ⟨none, .asg 8 (.t 42)⟩])
    .skip))))) (.scr x25_1))
 (.ops [⟨none, .bin 43 .add .num (.t 25) (.c (.v (.int .i64 1)))⟩,
  ⟨none, .mv 25 (.t 43)⟩]))))
@[simp] def x25_2 : List Bool := [false, false, false, false, false, false, false, false, false, false, false, false, true, false, false, false, false, false, false, false, false, false, false, false, false, false, false, false, false, false, false, false, false, false, false, false, false, false, false, false, false, false, false, false, false, false, false, false, false, false, true, false, false, false, false, false, false, false, false, false, false, false, false, false, false, false, false, false, false, false, false, false, false, false, false, false, false, false, false, false, false, false, false, false, false, false, false, false, true, false]
@[simp] def X25_2 (s12 s50 s88 : V) : St := [.dead, .dead, .dead, .dead, .dead, .dead, .dead, .dead, .dead, .dead, .dead, .dead, s12, .dead, .dead, .dead, .dead, .dead, .dead, .dead, .dead, .dead, .dead, .dead, .dead, .dead, .dead, .dead, .dead, .dead, .dead, .dead, .dead, .dead, .dead, .dead, .dead, .dead, .dead, .dead, .dead, .dead, .dead, .dead, .dead, .dead, .dead, .dead, .dead, .dead, s50, .dead, .dead, .dead, .dead, .dead, .dead, .dead, .dead, .dead, .dead, .dead, .dead, .dead, .dead, .dead, .dead, .dead, .dead, .dead, .dead, .dead, .dead, .dead, .dead, .dead, .dead, .dead, .dead, .dead, .dead, .dead, .dead, .dead, .dead, .dead, .dead, .dead, s88, .dead]
@[simp] def h25_1 : List Bool := [true, false, false, false, false, false, true, true, true, false, false, true, true, false, false, false, false, false, false, false, false, true, false, false, false, false, false, false, false, false, false, false, false, false, false, false, false, false, false, false, false, false, false, false, false, false, false, false, true, false, true, false, false, false, false, false, false, false, false, false, false, false, false, false, false, false, false, false, false, false, false, false, false, false, false, false, false, false, false, false, false, false, false, false, false, false, false, false, true, false]
@[simp] def L25_1 (s0 s6 s7 s8 s11 s12 s21 s48 s50 s88 : V) : St := [s0, .dead, .dead, .dead, .dead, .dead, s6, s7, s8, .dead, .dead, s11, s12, .dead, .dead, .dead, .dead, .dead, .dead, .dead, .dead, s21, .dead, .dead, .dead, .dead, .dead, .dead, .dead, .dead, .dead, .dead, .dead, .dead, .dead, .dead, .dead, .dead, .dead, .dead, .dead, .dead, .dead, .dead, .dead, .dead, .dead, .dead, s48, .dead, s50, .dead, .dead, .dead, .dead, .dead, .dead, .dead, .dead, .dead, .dead, .dead, .dead, .dead, .dead, .dead, .dead, .dead, .dead, .dead, .dead, .dead, .dead, .dead, .dead, .dead, .dead, .dead, .dead, .dead, .dead, .dead, .dead, .dead, .dead, .dead, .dead, .dead, s88, .dead]
@[simp] def x25_3 : List Bool := [true, false, false, false, false, false, true, true, true, false, false, true, true, false, false, false, false, false, false, false, false, true, false, false, false, false, false, false, false, false, false, false, false, false, false, false, false, false, false, false, false, false, false, false, false, false, false, false, true, false, true, false, false, false, false, false, false, false, false, false, false, false, false, false, false, false, false, false, false, false, false, false, false, false, false, false, false, false, false, false, false, false, false, false, false, false, false, false, true, false]
@[simp] def X25_3 (s0 s6 s7 s8 s11 s12 s21 s48 s50 s88 : V) : St := [s0, .dead, .dead, .dead, .dead, .dead, s6, s7, s8, .dead, .dead, s11, s12, .dead, .dead, .dead, .dead, .dead, .dead, .dead, .dead, s21, .dead, .dead, .dead, .dead, .dead, .dead, .dead, .dead, .dead, .dead, .dead, .dead, .dead, .dead, .dead, .dead, .dead, .dead, .dead, .dead, .dead, .dead, .dead, .dead, .dead, .dead, s48, .dead, s50, .dead, .dead, .dead, .dead, .dead, .dead, .dead, .dead, .dead, .dead, .dead, .dead, .dead, .dead, .dead, .dead, .dead, .dead, .dead, .dead, .dead, .dead, .dead, .dead, .dead, .dead, .dead, .dead, .dead, .dead, .dead, .dead, .dead, .dead, .dead, .dead, .dead, s88, .dead]
@[simp] def x25_4 : List Bool := [true, false, false, false, false, false, true, true, true, false, false, true, true, false, false, false, false, false, false, false, false, true, false, false, false, false, false, false, false, false, false, false, false, false, false, false, false, false, false, false, false, false, false, false, false, false, false, false, true, false, true, false, false, false, false, false, false, false, false, false, false, false, false, false, false, false, false, false, false, false, false, false, false, false, false, false, false, false, false, false, false, false, false, false, false, false, false, false, true, false]
@[simp] def X25_4 (s0 s6 s7 s8 s11 s12 s21 s48 s50 s88 : V) : St := [s0, .dead, .dead, .dead, .dead, .dead, s6, s7, s8, .dead, .dead, s11, s12, .dead, .dead, .dead, .dead, .dead, .dead, .dead, .dead, s21, .dead, .dead, .dead, .dead, .dead, .dead, .dead, .dead, .dead, .dead, .dead, .dead, .dead, .dead, .dead, .dead, .dead, .dead, .dead, .dead, .dead, .dead, .dead, .dead, .dead, .dead, s48, .dead, s50, .dead, .dead, .dead, .dead, .dead, .dead, .dead, .dead, .dead, .dead, .dead, .dead, .dead, .dead, .dead, .dead, .dead, .dead, .dead, .dead, .dead, .dead, .dead, .dead, .dead, .dead, .dead, .dead, .dead, .dead, .dead, .dead, .dead, .dead, .dead, .dead, .dead, s88, .dead]
@[simp] def h25_2 : List Bool := [true, false, false, false, false, false, true, true, true, false, false, true, true, true, true, false, false, false, false, false, false, true, false, false, false, false, false, false, false, false, false, false, false, false, false, false, false, false, false, false, false, false, false, false, false, false, false, false, true, false, true, false, false, false, false, false, false, false, false, false, false, false, false, false, false, false, false, false, false, false, false, false, false, false, false, false, false, false, false, false, false, false, false, false, false, false, false, false, true, false]
@[simp] def L25_2 (s0 s6 s7 s8 s11 s12 s13 s14 s21 s48 s50 s88 : V) : St := [s0, .dead, .dead, .dead, .dead, .dead, s6, s7, s8, .dead, .dead, s11, s12, s13, s14, .dead, .dead, .dead, .dead, .dead, .dead, s21, .dead, .dead, .dead, .dead, .dead, .dead, .dead, .dead, .dead, .dead, .dead, .dead, .dead, .dead, .dead, .dead, .dead, .dead, .dead, .dead, .dead, .dead, .dead, .dead, .dead, .dead, s48, .dead, s50, .dead, .dead, .dead, .dead, .dead, .dead, .dead, .dead, .dead, .dead, .dead, .dead, .dead, .dead, .dead, .dead, .dead, .dead, .dead, .dead, .dead, .dead, .dead, .dead, .dead, .dead, .dead, .dead, .dead, .dead, .dead, .dead, .dead, .dead, .dead, .dead, .dead, s88, .dead]
@[simp] def x25_5 : List Bool := [true, false, false, false, false, false, true, true, true, false, false, true, true, true, true, false, false, false, false, false, false, true, false, false, false, false, false, false, false, false, false, false, false, false, false, false, false, false, false, false, false, false, false, false, false, false, false, false, true, false, true, false, false, false, false, false, false, false, false, false, false, false, false, false, false, false, false, false, false, false, false, false, false, false, false, false, false, false, false, false, false, false, false, false, false, false, false, false, true, false]
@[simp] def X25_5 (s0 s6 s7 s8 s11 s12 s13 s14 s21 s48 s50 s88 : V) : St := [s0, .dead, .dead, .dead, .dead, .dead, s6, s7, s8, .dead, .dead, s11, s12, s13, s14, .dead, .dead, .dead, .dead, .dead, .dead, s21, .dead, .dead, .dead, .dead, .dead, .dead, .dead, .dead, .dead, .dead, .dead, .dead, .dead, .dead, .dead, .dead, .dead, .dead, .dead, .dead, .dead, .dead, .dead, .dead, .dead, .dead, s48, .dead, s50, .dead, .dead, .dead, .dead, .dead, .dead, .dead, .dead, .dead, .dead, .dead, .dead, .dead, .dead, .dead, .dead, .dead, .dead, .dead, .dead, .dead, .dead, .dead, .dead, .dead, .dead, .dead, .dead, .dead, .dead, .dead, .dead, .dead, .dead, .dead, .dead, .dead, s88, .dead]
def b25_2 : MC := .seq (.scr h25_2)
 (.seq (.seq (.ops [⟨none, .mv 63 (.t 14)⟩,
    ⟨none, .mv 64 (.t 0)⟩,
    ⟨none, .bin 65 .lss .num (.t 63) (.t 64)⟩])
  (.cnd (.t 65)
   .skip
   (.seq (.scr x25_4) (.ex 4))))
 (.seq (.seq (.blk 5 (.seq (.ops [⟨none, .mv 68 (.t 6)⟩,
     ⟨none, .mv 69 (.t 13)⟩,
     ⟨none, .ixs 70 1 (.t 68) (.t 69)⟩,
     ⟨none, .ld1 71 (.t 70)⟩,
     ⟨none, .mv 72 (.t 14)⟩,
     ⟨none, .call (some 73) 28 [(.t 71), (.t 72)]⟩,
     ⟨none, .mv 74 (.t 73)⟩,
     ⟨some (74, true), .mv 75 (.t 11)⟩,
     ⟨some (74, true), .mv 76 (.t 14)⟩,
     ⟨some (74, true), .ixs 77 1 (.t 75) (.t 76)⟩,
     ⟨some (74, true), .ld1 78 (.t 77)⟩,
     ⟨some (74, true), .mv 79 (.t 8)⟩,
     ⟨some (74, true), .mv 80 (.t 12)⟩,
     ⟨some (74, true), .len 81 false (.t 80)⟩,
     ⟨some (74, true), .bin 82 .sub .num (.t 79) (.t 81)⟩,
     ⟨some (74, true), .bin 83 .eql .num (.t 78) (.t 82)⟩,
     ⟨none, .pick 84 (.t 74) (.t 83) (.c (.v (.bool false)))⟩])
   (.cnd (.t 84)
    (.seq (.ops [⟨none, .mv 85 (.t 12)⟩,
      ⟨none, .mv 86 (.t 14)⟩,
      ⟨none, .bs 87 1 1 [(.v (.int .i64 0))] [(0, 1, (.t 86))]⟩,
      ⟨none, .app 88 1 (.t 85) (.t 87)⟩,
      ⟨none, .asg 12 (.t 88)⟩])
    (.seq (.scr x25_4) (.ex 4)))
    .skip))) (.scr x25_5))
 (.ops [⟨none, .mv 66 (.t 14)⟩,
  ⟨none, .bin 67 .add .num (.t 66) (.c (.v (.int .i64 1)))⟩,
  ⟨none, .asg 14 (.t 67)⟩])))
def b25_1 : MC := .seq (.scr h25_1)
 (.seq (.seq (.ops [⟨none, .mv 51 (.t 12)⟩,
    ⟨none, .len 52 false (.t 51)⟩,
    ⟨none, .mv 53 (.t 8)⟩,
    ⟨none, .bin 54 .lss .num (.t 52) (.t 53)⟩])
  (.cnd (.t 54)
   .skip
   (.seq (.scr x25_2) (.ex 2))))
 (.seq (.blk 3 (.seq (.ops [⟨none, .mv 55 (.t 12)⟩,
    ⟨none, .mv 56 (.t 12)⟩,
    ⟨none, .len 57 false (.t 56)⟩,
    ⟨none, .bin 58 .sub .num (.t 57) (.c (.v (.int .i64 1)))⟩,
    ⟨none, .ixs 59 1 (.t 55) (.t 58)⟩,
    ⟨none, .ld1 60 (.t 59)⟩,
    ⟨none, .asg 13 (.t 60)⟩])
  (.seq (.ops [⟨none, .mv 61 (.t 7)⟩,
    ⟨none, .bin 62 .add .num (.t 61) (.c (.v (.int .i64 1)))⟩,
    ⟨none, .asg 14 (.t 62)⟩])
  (.seq (.blk 4 (.lop b25_2)) (.scr x25_4))))) (.scr x25_3)))
def c25 : MF := ⟨(.seq (.ops [⟨none, .asg 4 (.c (.nd (.sl true 1 0) []))⟩,
   ⟨none, .asg 5 (.c (.v (.int .i64 0)))⟩])
 (.seq (.seq (.ops [⟨none, .mv 15 (.t 0)⟩,
    ⟨none, .mv 16 (.t 1)⟩,
    ⟨none, .call (some 17) 20 [(.t 15), (.t 16)]⟩,
    ⟨none, .un 18 .not (.t 17)⟩])
  (.cnd (.t 18)
   (.seq (.ops [⟨none, .asg 4 (.c (.nd (.sl true 1 0) []))⟩,
     ⟨none, .asg 5 (.c (.v (.int .i64 1)))⟩])
   (.seq (.scr r25) .ret))
   .skip))
 (.seq (.ops [⟨none, .mv 19 (.t 0)⟩,
   ⟨none, .mv 20 (.t 1)⟩,
   ⟨none, .call (some 21) 29 [(.t 19), (.t 20)]⟩,
   ⟨none, .asg 6 (.t 21)⟩])
 (.seq (.ops [⟨none, .mv 22 (.t 0)⟩,
   ⟨none, .bin 23 .add .num (.t 22) (.c (.v (.int .i64 1)))⟩,
   ⟨none, .asg 7 (.c (.v (.int .i64 (-1))))⟩,
   ⟨none, .asg 8 (.t 23)⟩])
 (.seq (.seq (.ops [⟨none, .mv 24 (.t 0)⟩,
    ⟨none, .mv 25 (.c (.v (.int .i64 0)))⟩])
  (.seq (.blk 0 (.lop b25_0)) (.scr x25_0)))
 (.seq (.seq (.ops [⟨none, .mv 44 (.t 7)⟩,
    ⟨none, .bin 45 .lss .num (.t 44) (.c (.v (.int .i64 0)))⟩])
  (.cnd (.t 45)
   (.seq (.ops [⟨none, .asg 4 (.c (.nd (.sl true 1 0) []))⟩,
     ⟨none, .asg 5 (.c (.v (.int .i64 7)))⟩])
   (.seq (.scr r25) .ret))
   .skip))
 (.seq (.ops [⟨none, .mv 46 (.t 6)⟩,
   ⟨none, .mv 47 (.t 7)⟩,
   ⟨none, .call (some 48) 36 [(.t 46), (.t 47)]⟩,
   ⟨none, .asg 11 (.t 48)⟩])
 (.seq (.ops [⟨none, .mv 49 (.t 7)⟩,
   ⟨none, .bs 50 1 1 [(.v (.int .i64 0))] [(0, 1, (.t 49))]⟩,
   ⟨none, .asg 12 (.t 50)⟩])
 (.seq (.seq (.blk 2 (.lop b25_1)) (.scr x25_2))
 (.seq (.ops [⟨none, .mv 89 (.t 12)⟩,
   ⟨none, .asg 4 (.t 89)⟩,
   ⟨none, .asg 5 (.c (.v (.int .i64 0)))⟩])
 (.seq (.scr r25) .ret))))))))))),
  90, [4, 5]⟩

/-- coinage/coinageref06.Cycle -/
def hints26 : List (List Bool) := [[false, false, false, false, true, true, false, false, false, false, false, false, false, false, false, false, false, false, false, false, false, false, false, false, false, false, false, false, false, false, false, false, false, false, false, false, false, false, false, false, false, false, false, false, false, false, false, false, false, false, false, false, false, false, false, false, false, false, false, false, false, false, false, false, false, false, false, false, false, false, false, false, false, false, false, false, false, false, false, false, false, false, false, false, false, false, false, false, false, false, false, false, false, false, false, false, false, false, false, false, false, false, false, false, false, false, false, false, false, false, false, false, false, false, false, false, false, false, false, false, false, false, false, false, false, false, false, false, false, false, false, false, false, false, false, false, false, false, false, false, false, false, false, false, false, false, false, false, false, false, false, false, false, false, false, false], [false, false, false, false, false, false, true, false, false, false, false, false, false, false, false, false, false, false, false, false, false, false, false, false, false, false, false, false, false, false, false, false, false, false, false, false, false, false, false, false, false, false, false, false, false, false, false, false, false, false, false, false, false, false, false, false, false, false, false, false, false, false, false, false, false, false, false, false, false, false, false, false, false, false, false, false, false, false, false, false, false, false, false, false, false, false, false, false, false, false, false, false, false, false, false, false, false, false, false, false, false, true, false, false, false, false, false, false, false, false, false, false, false, false, false, false, false, false, false, false, false, false, false, false, false, false, false, false, false, false, false, false, false, false, false, false, false, false, false, false, false, false, false, false, false, false, false, false, false, false, false, true, false, false, false, false], [true, true, false, false, false, false, true, true, false, false, false, false, false, false, false, false, false, false, false, false, false, false, false, false, false, false, false, false, false, false, false, false, false, false, false, false, false, false, false, false, false, false, false, false, false, false, false, false, false, false, false, false, false, false, false, false, false, false, false, false, false, false, false, false, false, false, false, false, false, false, false, false, false, false, false, false, false, false, false, false, false, false, false, false, false, false, false, false, false, false, false, false, false, false, false, false, false, false, false, false, false, true, false, false, false, false, false, false, false, false, false, false, false, false, false, false, false, false, false, false, false, false, false, false, false, false, false, false, false, false, false, false, false, false, false, false, false, false, false, false, false, false, false, false, false, false, false, false, false, false, false, true, false, false, false, false], [false, false, false, false, false, false, true, false, false, false, false, false, false, false, false, false, false, false, false, false, false, false, false, false, false, false, false, false, false, false, false, false, false, false, false, false, false, false, false, false, false, false, false, false, false, false, false, false, false, false, false, false, false, false, false, false, false, false, false, false, false, false, false, false, false, false, false, false, false, false, false, false, false, false, false, false, false, false, false, false, false, false, false, false, false, false, false, false, false, false, false, false, false, false, false, false, false, false, false, false, false, true, false, false, false, false, false, false, false, false, false, false, false, false, false, false, false, false, false, false, false, false, false, false, false, false, false, false, false, false, false, false, false, false, false, false, false, false, false, false, false, false, false, false, false, false, false, false, false, false, false, true, false, false, false, false], [true, true, false, false, false, false, true, true, false, false, false, false, false, false, false, false, false, false, false, false, false, false, false, false, false, false, false, false, false, false, false, false, false, false, false, false, false, false, false, false, false, false, false, false, false, false, false, false, false, false, false, false, false, false, false, false, false, false, false, false, false, false, false, false, false, false, false, false, false, false, false, false, false, false, false, false, false, false, false, false, false, false, false, false, false, false, false, false, false, false, false, false, false, false, false, false, false, false, false, false, false, true, false, false, false, false, false, false, false, false, false, false, false, false, false, false, false, false, false, false, false, false, false, false, false, false, false, false, false, false, false, false, false, false, false, false, false, false, false, false, false, false, false, false, false, false, false, false, false, false, false, true, false, false, false, false], [true, true, false, false, false, false, true, true, true, true, false, false, false, false, false, false, false, false, false, false, false, false, false, false, false, false, false, true, false, false, false, false, false, false, false, false, false, false, false, false, false, false, false, false, false, false, false, false, false, false, false, false, false, false, false, false, false, false, false, false, false, false, false, false, false, false, false, false, false, false, false, false, false, false, false, false, false, false, false, false, false, false, false, false, false, false, false, false, false, false, false, false, false, false, false, false, false, false, false, false, false, true, false, false, false, false, false, false, false, false, false, false, false, false, false, false, false, false, false, false, false, false, false, false, false, false, false, false, false, false, false, false, false, false, false, false, false, false, false, false, false, false, false, false, false, false, false, false, false, false, false, true, false, false, false, false], [true, true, false, false, false, false, true, true, true, true, true, false, false, false, false, false, false, false, false, false, false, false, false, false, false, false, false, true, false, false, false, false, false, false, false, false, false, false, false, false, false, false, false, false, false, false, false, false, false, false, false, false, false, false, false, false, false, false, false, false, false, false, false, false, false, false, false, false, false, false, false, false, false, false, false, false, false, false, false, false, false, false, false, false, false, false, false, false, false, false, false, false, false, false, false, false, false, false, false, false, false, true, false, false, false, false, false, false, false, false, false, false, false, false, false, false, false, false, false, false, false, false, false, false, false, false, false, false, false, false, false, false, false, false, false, false, false, false, false, false, false, false, false, false, false, false, false, false, false, false, false, true, false, false, false, false], [true, true, false, false, false, false, true, true, true, true, false, false, false, false, false, false, false, false, false, false, false, false, false, false, false, false, false, true, false, false, false, false, false, false, false, false, false, false, false, false, false, false, false, false, false, false, false, false, false, false, false, false, false, false, false, false, false, false, false, false, false, false, false, false, false, false, false, false, false, false, false, false, false, false, false, false, false, false, false, false, false, false, false, false, false, false, false, false, false, false, false, false, false, false, false, false, false, false, false, false, false, true, false, false, false, false, false, false, false, false, false, false, false, false, false, false, false, false, false, false, false, false, false, false, false, false, false, false, false, false, false, false, false, false, false, false, false, false, false, false, false, false, false, false, false, false, false, false, false, false, false, true, false, false, false, false], [true, true, false, false, false, false, true, true, true, true, true, false, false, false, false, false, false, false, false, false, false, false, false, false, false, false, false, true, false, false, false, false, false, false, false, false, false, false, false, false, false, false, false, false, false, false, false, false, false, false, false, false, false, false, false, false, false, false, false, false, false, false, false, false, false, false, false, false, false, false, false, false, false, false, false, false, false, false, false, false, false, false, false, false, false, false, false, false, false, false, false, false, false, false, false, false, false, false, false, false, false, true, false, false, false, false, false, false, false, false, false, false, false, false, false, false, false, false, false, false, false, false, false, false, false, false, false, false, false, false, false, false, false, false, false, false, false, false, false, false, false, false, false, false, false, false, false, false, false, false, false, true, false, false, false, false], [true, true, false, false, false, false, true, true, false, false, false, false, false, false, false, false, false, false, false, false, false, false, false, false, false, false, false, false, false, false, false, false, false, false, false, false, false, false, false, false, false, false, false, false, false, false, false, false, false, false, false, false, false, false, false, false, false, false, false, false, false, false, false, false, false, false, false, false, false, false, false, false, false, false, false, false, false, false, false, false, false, false, false, false, false, false, false, false, false, false, false, false, false, false, false, false, false, false, false, false, false, true, false, false, false, false, false, false, false, false, false, false, false, false, false, false, false, false, false, false, false, false, false, false, false, false, false, false, false, false, false, false, false, false, false, false, false, false, false, false, false, false, false, false, false, false, false, false, false, false, false, true, false, false, false, false], [true, true, false, false, false, false, true, true, false, false, false, false, false, false, false, false, false, false, false, false, false, false, false, false, false, false, false, false, false, false, false, false, false, false, false, false, false, false, false, false, false, false, false, false, false, false, false, false, false, false, false, false, false, false, false, false, false, false, false, false, false, false, false, false, false, false, false, false, false, false, false, false, false, false, false, false, false, false, false, false, false, false, false, false, false, false, false, false, false, false, false, false, false, false, false, false, false, false, false, false, false, true, false, false, false, false, false, false, false, false, false, false, false, false, false, false, false, false, false, false, false, false, false, false, false, false, false, false, false, false, false, false, false, false, false, false, false, false, false, false, false, false, false, false, false, false, false, false, false, false, false, true, false, false, false, false], [true, true, false, false, false, false, true, true, true, false, false, true, true, false, false, false, false, false, false, false, false, false, false, false, false, false, false, true, false, false, false, false, false, false, false, false, false, false, false, false, false, false, false, false, false, false, false, false, false, false, false, false, false, false, false, false, false, false, false, false, false, false, false, false, false, false, false, false, false, false, false, false, false, false, false, false, false, false, false, false, false, false, false, false, false, false, false, false, false, false, false, false, false, false, false, false, false, false, false, false, false, true, false, false, false, false, false, false, false, false, false, false, false, false, false, false, false, false, false, false, false, false, false, false, false, false, false, false, false, false, false, false, false, false, false, false, false, false, false, false, false, false, false, false, false, false, false, false, false, false, false, true, false, false, false, false], [true, true, false, false, false, false, true, true, false, false, false, false, false, false, false, false, false, false, false, false, false, false, false, false, false, false, false, false, false, false, false, false, false, false, false, false, false, false, false, false, false, false, false, false, false, false, false, false, false, false, false, false, false, false, false, false, false, false, false, false, false, false, false, false, false, false, false, false, false, false, false, false, false, false, false, false, false, false, false, false, false, false, false, false, false, false, false, false, false, false, false, false, false, false, false, false, false, false, false, false, false, true, false, false, false, false, false, false, false, false, false, false, false, false, false, false, false, false, false, false, false, false, false, false, false, false, false, false, false, false, false, false, false, false, false, false, false, false, false, false, false, false, false, false, false, false, false, false, false, false, false, true, false, false, false, false], [true, true, false, false, false, false, true, true, true, false, false, true, true, false, false, false, false, false, false, false, false, false, false, false, false, false, false, true, false, false, false, false, false, false, false, false, false, false, false, false, false, false, false, false, false, false, false, false, false, false, false, false, false, false, false, false, false, false, false, false, false, false, false, false, false, false, false, false, false, false, false, false, false, false, false, false, false, false, false, false, false, false, false, false, false, false, false, false, false, false, false, false, false, false, false, false, false, false, false, false, false, true, false, false, false, false, false, false, false, false, false, false, false, false, false, false, false, false, false, false, false, false, false, false, false, false, false, false, false, false, false, false, false, false, false, false, false, false, false, false, false, false, false, false, false, false, false, false, false, false, false, true, false, false, false, false], [true, true, false, false, false, false, true, true, true, false, false, true, true, false, false, false, false, false, false, false, false, false, false, false, false, false, false, true, false, false, false, false, false, false, false, false, false, false, false, false, false, false, false, false, false, false, false, false, false, false, false, false, false, false, false, false, false, false, false, false, false, false, false, false, false, false, false, false, false, false, false, false, false, false, false, false, false, false, false, false, false, false, false, false, false, false, false, false, false, false, false, false, false, false, false, false, false, false, false, false, false, true, false, false, false, false, false, false, false, false, false, false, false, false, false, false, false, false, false, false, false, false, false, false, false, false, false, false, false, false, false, false, false, false, false, false, false, false, false, false, false, false, false, false, false, false, false, false, false, false, false, true, false, false, false, false], [true, true, false, false, false, false, true, true, true, false, false, true, true, true, false, false, false, false, false, false, false, false, false, false, false, false, false, true, false, false, false, false, false, false, false, false, false, false, false, false, false, false, false, false, false, false, false, false, false, false, false, false, false, false, false, false, false, false, false, false, false, false, false, false, false, false, false, false, false, false, false, false, false, false, false, false, false, false, false, false, false, false, false, false, false, false, false, false, false, false, false, false, false, false, false, false, false, false, false, false, false, true, false, false, false, false, false, false, false, false, false, false, false, false, false, false, false, false, false, false, false, false, false, false, false, false, false, false, false, false, false, false, false, false, false, false, false, false, false, false, false, false, false, false, false, false, false, false, false, false, false, true, false, false, false, false], [true, true, false, false, false, false, true, true, true, false, false, true, true, false, false, false, false, false, false, false, false, false, false, false, false, false, false, true, false, false, false, false, false, false, false, false, false, false, false, false, false, false, false, false, false, false, false, false, false, false, false, false, false, false, false, false, false, false, false, false, false, false, false, false, false, false, false, false, false, false, false, false, false, false, false, false, false, false, false, false, false, false, false, false, false, false, false, false, false, false, false, false, false, false, false, false, false, false, false, false, false, true, false, false, false, false, false, false, false, false, false, false, false, false, false, false, false, false, false, false, false, false, false, false, false, false, false, false, false, false, false, false, false, false, false, false, false, false, false, false, false, false, false, false, false, false, false, false, false, false, false, true, false, false, false, false], [true, true, false, false, false, false, true, true, true, false, false, true, true, true, false, false, false, false, false, false, false, false, false, false, false, false, false, true, false, false, false, false, false, false, false, false, false, false, false, false, false, false, false, false, false, false, false, false, false, false, false, false, false, false, false, false, false, false, false, false, false, false, false, false, false, false, false, false, false, false, false, false, false, false, false, false, false, false, false, false, false, false, false, false, false, false, false, false, false, false, false, false, false, false, false, false, false, false, false, false, false, true, false, false, false, false, false, false, false, false, false, false, false, false, false, false, false, false, false, false, false, false, false, false, false, false, false, false, false, false, false, false, false, false, false, false, false, false, false, false, false, false, false, false, false, false, false, false, false, false, false, true, false, false, false, false], [true, true, false, false, false, false, true, true, true, false, false, true, true, false, false, false, false, false, false, false, false, false, false, false, false, false, false, true, false, false, false, false, false, false, false, false, false, false, false, false, false, false, false, false, false, false, false, false, false, false, false, false, false, false, false, false, false, false, false, false, false, false, false, false, false, false, false, false, false, false, false, false, false, false, false, false, false, false, false, false, false, false, false, false, false, false, false, false, false, false, false, false, false, false, false, false, false, false, false, false, false, true, false, false, false, false, false, false, false, false, false, false, false, false, false, false, false, false, false, false, false, false, false, false, false, false, false, false, false, false, false, false, false, false, false, false, false, false, false, false, false, false, false, false, false, false, false, false, false, false, false, true, false, false, false, false], [false, false, false, false, true, true, false, false, false, false, false, false, false, false, false, false, false, false, false, false, false, false, false, false, false, false, false, false, false, false, false, false, false, false, false, false, false, false, false, false, false, false, false, false, false, false, false, false, false, false, false, false, false, false, false, false, false, false, false, false, false, false, false, false, false, false, false, false, false, false, false, false, false, false, false, false, false, false, false, false, false, false, false, false, false, false, false, false, false, false, false, false, false, false, false, false, false, false, false, false, false, false, false, false, false, false, false, false, false, false, false, false, false, false, false, false, false, false, false, false, false, false, false, false, false, false, false, false, false, false, false, false, false, false, false, false, false, false, false, false, false, false, false, false, false, false, false, false, false, false, false, false, false, false, false, false], [false, false, false, false, true, true, false, false, false, false, false, false, false, false, false, false, false, false, false, false, false, false, false, false, false, false, false, false, false, false, false, false, false, false, false, false, false, false, false, false, false, false, false, false, false, false, false, false, false, false, false, false, false, false, false, false, false, false, false, false, false, false, false, false, false, false, false, false, false, false, false, false, false, false, false, false, false, false, false, false, false, false, false, false, false, false, false, false, false, false, false, false, false, false, false, false, false, false, false, false, false, false, false, false, false, false, false, false, false, false, false, false, false, false, false, false, false, false, false, false, false, false, false, false, false, false, false, false, false, false, false, false, false, false, false, false, false, false, false, false, false, false, false, false, false, false, false, false, false, false, false, false, false, false, false, false]]
@[simp] def r26 : List Bool := [false, false, false, false, true, true, false, false, false, false, false, false, false, false, false, false, false, false, false, false, false, false, false, false, false, false, false, false, false, false, false, false, false, false, false, false, false, false, false, false, false, false, false, false, false, false, false, false, false, false, false, false, false, false, false, false, false, false, false, false, false, false, false, false, false, false, false, false, false, false, false, false, false, false, false, false, false, false, false, false, false, false, false, false, false, false, false, false, false, false, false, false, false, false, false, false, false, false, false, false, false, false, false, false, false, false, false, false, false, false, false, false, false, false, false, false, false, false, false, false, false, false, false, false, false, false, false, false, false, false, false, false, false, false, false, false, false, false, false, false, false, false, false, false, false, false, false, false, false, false, false, false, false, false, false, false]
@[simp] def R26 (s4 s5 : V) : St := [.dead, .dead, .dead, .dead, s4, s5, .dead, .dead, .dead, .dead, .dead, .dead, .dead, .dead, .dead, .dead, .dead, .dead, .dead, .dead, .dead, .dead, .dead, .dead, .dead, .dead, .dead, .dead, .dead, .dead, .dead, .dead, .dead, .dead, .dead, .dead, .dead, .dead, .dead, .dead, .dead, .dead, .dead, .dead, .dead, .dead, .dead, .dead, .dead, .dead, .dead, .dead, .dead, .dead, .dead, .dead, .dead, .dead, .dead, .dead, .dead, .dead, .dead, .dead, .dead, .dead, .dead, .dead, .dead, .dead, .dead, .dead, .dead, .dead, .dead, .dead, .dead, .dead, .dead, .dead, .dead, .dead, .dead, .dead, .dead, .dead, .dead, .dead, .dead, .dead, .dead, .dead, .dead, .dead, .dead, .dead, .dead, .dead, .dead, .dead, .dead, .dead, .dead, .dead, .dead, .dead, .dead, .dead, .dead, .dead, .dead, .dead, .dead, .dead, .dead, .dead, .dead, .dead, .dead, .dead, .dead, .dead, .dead, .dead, .dead, .dead, .dead, .dead, .dead, .dead, .dead, .dead, .dead, .dead, .dead, .dead, .dead, .dead, .dead, .dead, .dead, .dead, .dead, .dead, .dead, .dead, .dead, .dead, .dead, .dead, .dead, .dead, .dead, .dead, .dead, .dead]
@[simp] def x26_0 : List Bool := [false, false, false, false, false, false, true, false, false, false, false, false, false, false, false, false, false, false, false, false, false, false, false, false, false, false, false, false, false, false, false, false, false, false, false, false, false, false, false, false, false, false, false, false, false, false, false, false, false, false, false, false, false, false, false, false, false, false, false, false, false, false, false, false, false, false, false, false, false, false, false, false, false, false, false, false, false, false, false, false, false, false, false, false, false, false, false, false, false, false, false, false, false, false, false, false, false, false, false, false, false, true, false, false, false, false, false, false, false, false, false, false, false, false, false, false, false, false, false, false, false, false, false, false, false, false, false, false, false, false, false, false, false, false, false, false, false, false, false, false, false, false, false, false, false, false, false, false, false, false, false, true, false, false, false, false]
@[simp] def X26_0 (s6 s101 s151 : V) : St := [.dead, .dead, .dead, .dead, .dead, .dead, s6, .dead, .dead, .dead, .dead, .dead, .dead, .dead, .dead, .dead, .dead, .dead, .dead, .dead, .dead, .dead, .dead, .dead, .dead, .dead, .dead, .dead, .dead, .dead, .dead, .dead, .dead, .dead, .dead, .dead, .dead, .dead, .dead, .dead, .dead, .dead, .dead, .dead, .dead, .dead, .dead, .dead, .dead, .dead, .dead, .dead, .dead, .dead, .dead, .dead, .dead, .dead, .dead, .dead, .dead, .dead, .dead, .dead, .dead, .dead, .dead, .dead, .dead, .dead, .dead, .dead, .dead, .dead, .dead, .dead, .dead, .dead, .dead, .dead, .dead, .dead, .dead, .dead, .dead, .dead, .dead, .dead, .dead, .dead, .dead, .dead, .dead, .dead, .dead, .dead, .dead, .dead, .dead, .dead, .dead, s101, .dead, .dead, .dead, .dead, .dead, .dead, .dead, .dead, .dead, .dead, .dead, .dead, .dead, .dead, .dead, .dead, .dead, .dead, .dead, .dead, .dead, .dead, .dead, .dead, .dead, .dead, .dead, .dead, .dead, .dead, .dead, .dead, .dead, .dead, .dead, .dead, .dead, .dead, .dead, .dead, .dead, .dead, .dead, .dead, .dead, .dead, .dead, .dead, .dead, s151, .dead, .dead, .dead, .dead]
@[simp] def h26_0 : List Bool := [true, true, false, false, false, false, true, true, false, false, false, false, false, false, false, false, false, false, false, false, false, false, false, false, false, false, false, false, false, false, false, false, false, false, false, false, false, false, false, false, false, false, false, false, false, false, false, false, false, false, false, false, false, false, false, false, false, false, false, false, false, false, false, false, false, false, false, false, false, false, false, false, false, false, false, false, false, false, false, false, false, false, false, false, false, false, false, false, false, false, false, false, false, false, false, false, false, false, false, false, false, true, false, false, false, false, false, false, false, false, false, false, false, false, false, false, false, false, false, false, false, false, false, false, false, false, false, false, false, false, false, false, false, false, false, false, false, false, false, false, false, false, false, false, false, false, false, false, false, false, false, true, false, false, false, false]
@[simp] def L26_0 (s0 s1 s6 s7 s101 s151 : V) : St := [s0, s1, .dead, .dead, .dead, .dead, s6, s7, .dead, .dead, .dead, .dead, .dead, .dead, .dead, .dead, .dead, .dead, .dead, .dead, .dead, .dead, .dead, .dead, .dead, .dead, .dead, .dead, .dead, .dead, .dead, .dead, .dead, .dead, .dead, .dead, .dead, .dead, .dead, .dead, .dead, .dead, .dead, .dead, .dead, .dead, .dead, .dead, .dead, .dead, .dead, .dead, .dead, .dead, .dead, .dead, .dead, .dead, .dead, .dead, .dead, .dead, .dead, .dead, .dead, .dead, .dead, .dead, .dead, .dead, .dead, .dead, .dead, .dead, .dead, .dead, .dead, .dead, .dead, .dead, .dead, .dead, .dead, .dead, .dead, .dead, .dead, .dead, .dead, .dead, .dead, .dead, .dead, .dead, .dead, .dead, .dead, .dead, .dead, .dead, .dead, s101, .dead, .dead, .dead, .dead, .dead, .dead, .dead, .dead, .dead, .dead, .dead, .dead, .dead, .dead, .dead, .dead, .dead, .dead, .dead, .dead, .dead, .dead, .dead, .dead, .dead, .dead, .dead, .dead, .dead, .dead, .dead, .dead, .dead, .dead, .dead, .dead, .dead, .dead, .dead, .dead, .dead, .dead, .dead, .dead, .dead, .dead, .dead, .dead, .dead, s151, .dead, .dead, .dead, .dead]
@[simp] def x26_1 : List Bool := [true, true, false, false, false, false, true, true, false, false, false, false, false, false, false, false, false, false, false, false, false, false, false, false, false, false, false, false, false, false, false, false, false, false, false, false, false, false, false, false, false, false, false, false, false, false, false, false, false, false, false, false, false, false, false, false, false, false, false, false, false, false, false, false, false, false, false, false, false, false, false, false, false, false, false, false, false, false, false, false, false, false, false, false, false, false, false, false, false, false, false, false, false, false, false, false, false, false, false, false, false, true, false, false, false, false, false, false, false, false, false, false, false, false, false, false, false, false, false, false, false, false, false, false, false, false, false, false, false, false, false, false, false, false, false, false, false, false, false, false, false, false, false, false, false, false, false, false, false, false, false, true, false, false, false, false]
@[simp] def X26_1 (s0 s1 s6 s7 s101 s151 : V) : St := [s0, s1, .dead, .dead, .dead, .dead, s6, s7, .dead, .dead, .dead, .dead, .dead, .dead, .dead, .dead, .dead, .dead, .dead, .dead, .dead, .dead, .dead, .dead, .dead, .dead, .dead, .dead, .dead, .dead, .dead, .dead, .dead, .dead, .dead, .dead, .dead, .dead, .dead, .dead, .dead, .dead, .dead, .dead, .dead, .dead, .dead, .dead, .dead, .dead, .dead, .dead, .dead, .dead, .dead, .dead, .dead, .dead, .dead, .dead, .dead, .dead, .dead, .dead, .dead, .dead, .dead, .dead, .dead, .dead, .dead, .dead, .dead, .dead, .dead, .dead, .dead, .dead, .dead, .dead, .dead, .dead, .dead, .dead, .dead, .dead, .dead, .dead, .dead, .dead, .dead, .dead, .dead, .dead, .dead, .dead, .dead, .dead, .dead, .dead, .dead, s101, .dead, .dead, .dead, .dead, .dead, .dead, .dead, .dead, .dead, .dead, .dead, .dead, .dead, .dead, .dead, .dead, .dead, .dead, .dead, .dead, .dead, .dead, .dead, .dead, .dead, .dead, .dead, .dead, .dead, .dead, .dead, .dead, .dead, .dead, .dead, .dead, .dead, .dead, .dead, .dead, .dead, .dead, .dead, .dead, .dead, .dead, .dead, .dead, .dead, s151, .dead, .dead, .dead, .dead]
@[simp] def x26_2 : List Bool := [true, true, false, false, false, false, true, true, true, true, false, false, false, false, false, false, false, false, false, false, false, false, false, false, false, false, false, true, false, false, false, false, false, false, false, false, false, false, false, false, false, false, false, false, false, false, false, false, false, false, false, false, false, false, false, false, false, false, false, false, false, false, false, false, false, false, false, false, false, false, false, false, false, false, false, false, false, false, false, false, false, false, false, false, false, false, false, false, false, false, false, false, false, false, false, false, false, false, false, false, false, true, false, false, false, false, false, false, false, false, false, false, false, false, false, false, false, false, false, false, false, false, false, false, false, false, false, false, false, false, false, false, false, false, false, false, false, false, false, false, false, false, false, false, false, false, false, false, false, false, false, true, false, false, false, false]
@[simp] def X26_2 (s0 s1 s6 s7 s8 s9 s27 s101 s151 : V) : St := [s0, s1, .dead, .dead, .dead, .dead, s6, s7, s8, s9, .dead, .dead, .dead, .dead, .dead, .dead, .dead, .dead, .dead, .dead, .dead, .dead, .dead, .dead, .dead, .dead, .dead, s27, .dead, .dead, .dead, .dead, .dead, .dead, .dead, .dead, .dead, .dead, .dead, .dead, .dead, .dead, .dead, .dead, .dead, .dead, .dead, .dead, .dead, .dead, .dead, .dead, .dead, .dead, .dead, .dead, .dead, .dead, .dead, .dead, .dead, .dead, .dead, .dead, .dead, .dead, .dead, .dead, .dead, .dead, .dead, .dead, .dead, .dead, .dead, .dead, .dead, .dead, .dead, .dead, .dead, .dead, .dead, .dead, .dead, .dead, .dead, .dead, .dead, .dead, .dead, .dead, .dead, .dead, .dead, .dead, .dead, .dead, .dead, .dead, .dead, s101, .dead, .dead, .dead, .dead, .dead, .dead, .dead, .dead, .dead, .dead, .dead, .dead, .dead, .dead, .dead, .dead, .dead, .dead, .dead, .dead, .dead, .dead, .dead, .dead, .dead, .dead, .dead, .dead, .dead, .dead, .dead, .dead, .dead, .dead, .dead, .dead, .dead, .dead, .dead, .dead, .dead, .dead, .dead, .dead, .dead, .dead, .dead, .dead, .dead, s151, .dead, .dead, .dead, .dead]
@[simp] def h26_1 : List Bool := [true, true, false, false, false, false, true, true, true, true, true, false, false, false, false, false, false, false, false, false, false, false, false, false, false, false, false, true, false, false, false, false, false, false, false, false, false, false, false, false, false, false, false, false, false, false, false, false, false, false, false, false, false, false, false, false, false, false, false, false, false, false, false, false, false, false, false, false, false, false, false, false, false, false, false, false, false, false, false, false, false, false, false, false, false, false, false, false, false, false, false, false, false, false, false, false, false, false, false, false, false, true, false, false, false, false, false, false, false, false, false, false, false, false, false, false, false, false, false, false, false, false, false, false, false, false, false, false, false, false, false, false, false, false, false, false, false, false, false, false, false, false, false, false, false, false, false, false, false, false, false, true, false, false, false, false]
@[simp] def L26_1 (s0 s1 s6 s7 s8 s9 s10 s27 s101 s151 : V) : St := [s0, s1, .dead, .dead, .dead, .dead, s6, s7, s8, s9, s10, .dead, .dead, .dead, .dead, .dead, .dead, .dead, .dead, .dead, .dead, .dead, .dead, .dead, .dead, .dead, .dead, s27, .dead, .dead, .dead, .dead, .dead, .dead, .dead, .dead, .dead, .dead, .dead, .dead, .dead, .dead, .dead, .dead, .dead, .dead, .dead, .dead, .dead, .dead, .dead, .dead, .dead, .dead, .dead, .dead, .dead, .dead, .dead, .dead, .dead, .dead, .dead, .dead, .dead, .dead, .dead, .dead, .dead, .dead, .dead, .dead, .dead, .dead, .dead, .dead, .dead, .dead, .dead, .dead, .dead, .dead, .dead, .dead, .dead, .dead, .dead, .dead, .dead, .dead, .dead, .dead, .dead, .dead, .dead, .dead, .dead, .dead, .dead, .dead, .dead, s101, .dead, .dead, .dead, .dead, .dead, .dead, .dead, .dead, .dead, .dead, .dead, .dead, .dead, .dead, .dead, .dead, .dead, .dead, .dead, .dead, .dead, .dead, .dead, .dead, .dead, .dead, .dead, .dead, .dead, .dead, .dead, .dead, .dead, .dead, .dead, .dead, .dead, .dead, .dead, .dead, .dead, .dead, .dead, .dead, .dead, .dead, .dead, .dead, .dead, s151, .dead, .dead, .dead, .dead]
@[simp] def x26_3 : List Bool := [true, true, false, false, false, false, true, true, true, true, true, false, false, false, false, false, false, false, false, false, false, false, false, false, false, false, false, true, false, false, false, false, false, false, false, false, false, false, false, false, false, false, false, false, false, false, false, false, false, false, false, false, false, false, false, false, false, false, false, false, false, false, false, false, false, false, false, false, false, false, false, false, false, false, false, false, false, false, false, false, false, false, false, false, false, false, false, false, false, false, false, false, false, false, false, false, false, false, false, false, false, true, false, false, false, false, false, false, false, false, false, false, false, false, false, false, false, false, false, false, false, false, false, false, false, false, false, false, false, false, false, false, false, false, false, false, false, false, false, false, false, false, false, false, false, false, false, false, false, false, false, true, false, false, false, false]
@[simp] def X26_3 (s0 s1 s6 s7 s8 s9 s10 s27 s101 s151 : V) : St := [s0, s1, .dead, .dead, .dead, .dead, s6, s7, s8, s9, s10, .dead, .dead, .dead, .dead, .dead, .dead, .dead, .dead, .dead, .dead, .dead, .dead, .dead, .dead, .dead, .dead, s27, .dead, .dead, .dead, .dead, .dead, .dead, .dead, .dead, .dead, .dead, .dead, .dead, .dead, .dead, .dead, .dead, .dead, .dead, .dead, .dead, .dead, .dead, .dead, .dead, .dead, .dead, .dead, .dead, .dead, .dead, .dead, .dead, .dead, .dead, .dead, .dead, .dead, .dead, .dead, .dead, .dead, .dead, .dead, .dead, .dead, .dead, .dead, .dead, .dead, .dead, .dead, .dead, .dead, .dead, .dead, .dead, .dead, .dead, .dead, .dead, .dead, .dead, .dead, .dead, .dead, .dead, .dead, .dead, .dead, .dead, .dead, .dead, .dead, s101, .dead, .dead, .dead, .dead, .dead, .dead, .dead, .dead, .dead, .dead, .dead, .dead, .dead, .dead, .dead, .dead, .dead, .dead, .dead, .dead, .dead, .dead, .dead, .dead, .dead, .dead, .dead, .dead, .dead, .dead, .dead, .dead, .dead, .dead, .dead, .dead, .dead, .dead, .dead, .dead, .dead, .dead, .dead, .dead, .dead, .dead, .dead, .dead, .dead, s151, .dead, .dead, .dead, .dead]
def b26_1 : MC := .seq (.scr h26_1)
 (.seq (.seq (.ops [⟨none, .mv 28 (.t 10)⟩,
    ⟨none, .mv 29 (.t 1)⟩,
    ⟨none, .len 30 false (.t 29)⟩,
    ⟨none, .bin 31 .lss .num (.t 28) (.t 30)⟩])
  (.cnd (.t 31)
   .skip
   (.seq (.scr x26_2) (.ex 2))))
 (.seq (.seq (.blk 3 (.seq (.ops [⟨none, .mv 34 (.t 1)⟩,
     ⟨none, .mv 35 (.t 10)⟩,
     ⟨none, .ixs 36 2 (.t 34) (.t 35)⟩,
     ⟨none, .fa 37 0 (.t 36)⟩,
     ⟨none, .ld1 38 (.t 37)⟩,
     ⟨none, .mv 39 (.t 7)⟩,
     ⟨none, .bin 40 .eql .num (.t 38) (.t 39)⟩,
     ⟨none, .mv 41 (.t 40)⟩,
     ⟨some (41, true), .mv 42 (.t 1)⟩,
     ⟨some (41, true), .mv 43 (.t 10)⟩,
     ⟨some (41, true), .ixs 44 2 (.t 42) (.t 43)⟩,
     ⟨some (41, true), .fa 45 1 (.t 44)⟩,
     ⟨some (41, true), .ld1 46 (.t 45)⟩,
     ⟨some (41, true), .mv 47 (.t 7)⟩,
     ⟨some (41, true), .bin 48 .gtr .num (.t 46) (.t 47)⟩,
     ⟨none, .pick 49 (.t 41) (.t 48) (.c (.v (.bool false)))⟩,
     ⟨none, .mv 50 (.t 49)⟩,
     ⟨some (50, true), .mv 51 (.t 8)⟩,
     ⟨some (50, true), .mv 52 (.t 1)⟩,
     ⟨some (50, true), .mv 53 (.t 10)⟩,
     ⟨some (50, true), .ixs 54 2 (.t 52) (.t 53)⟩,
     ⟨some (50, true), .fa 55 1 (.t 54)⟩,
     ⟨some (50, true), .ld1 56 (.t 55)⟩,
     ⟨some (50, true), .ixs 57 1 (.t 51) (.t 56)⟩,
     ⟨some (50, true), .ld1 58 (.t 57)⟩,
     ⟨some (50, true), .bin 59 .gtr .num (.t 58) (.c (.v (.int .i64 0)))⟩,
     ⟨none, .pick 60 (.t 50) (.t 59) (.c (.v (.bool false)))⟩,
     ⟨none, .mv 61 (.t 60)⟩,
     ⟨some (61, true), .mv 62 (.t 9)⟩,
     ⟨some (61, true), .bin 63 .lss .num (.t 62) (.c (.v (.int .i64 0)))⟩,
     ⟨some (61, true), .mv 64 (.t 63)⟩,
     ⟨some (64, false), .mv 65 (.t 8)⟩,
     ⟨some (64, false), .mv 66 (.t 1)⟩,
     ⟨some (64, false), .mv 67 (.t 10)⟩,
     ⟨some (64, false), .ixs 68 2 (.t 66) (.t 67)⟩,
     ⟨some (64, false), .fa 69 1 (.t 68)⟩,
     ⟨some (64, false), .ld1 70 (.t 69)⟩,
     ⟨some (64, false), .ixs 71 1 (.t 65) (.t 70)⟩,
     ⟨some (64, false), .ld1 72 (.t 71)⟩,
     ⟨some (64, false), .bin 73 .add .num (.t 72) (.c (.v (.int .i64 1)))⟩,
     ⟨some (64, false), .mv 74 (.t 9)⟩,
     ⟨some (64, false), .bin 75 .lss .num (.t 73) (.t 74)⟩,
     ⟨some (61, true), .pick 76 (.t 64) (.c (.v (.bool true))) (.t 75)⟩,
     ⟨none, .pick 77 (.t 61) (.t 76) (.c (.v (.bool false)))⟩])
   (.cnd (.t 77)
    (.ops [⟨none, .mv 78 (.t 8)⟩,
     ⟨none, .mv 79 (.t 1)⟩,
     ⟨none, .mv 80 (.t 10)⟩,
     ⟨none, .ixs 81 2 (.t 79) (.t 80)⟩,
     ⟨none, .fa 82 1 (.t 81)⟩,
     ⟨none, .ld1 83 (.t 82)⟩,
     ⟨none, .ixs 84 1 (.t 78) (.t 83)⟩,
     ⟨none, .ld1 85 (.t 84)⟩,
     ⟨none, .bin 86 .add .num (.t 85) (.c (.v (.int .i64 1)))⟩,
     ⟨none, .asg 9 (.t 86)⟩])
    .skip))) (.scr x26_3))
 (.ops [⟨none, .mv 32 (.t 10)⟩,
  ⟨none, .bin 33 .add .num (.t 32) (.c (.v (.int .i64 1)))⟩,
  ⟨none, .asg 10 (.t 33)⟩])))
@[simp] def x26_4 : List Bool := [true, true, false, false, false, false, true, true, false, false, false, false, false, false, false, false, false, false, false, false, false, false, false, false, false, false, false, false, false, false, false, false, false, false, false, false, false, false, false, false, false, false, false, false, false, false, false, false, false, false, false, false, false, false, false, false, false, false, false, false, false, false, false, false, false, false, false, false, false, false, false, false, false, false, false, false, false, false, false, false, false, false, false, false, false, false, false, false, false, false, false, false, false, false, false, false, false, false, false, false, false, true, false, false, false, false, false, false, false, false, false, false, false, false, false, false, false, false, false, false, false, false, false, false, false, false, false, false, false, false, false, false, false, false, false, false, false, false, false, false, false, false, false, false, false, false, false, false, false, false, false, true, false, false, false, false]
@[simp] def X26_4 (s0 s1 s6 s7 s101 s151 : V) : St := [s0, s1, .dead, .dead, .dead, .dead, s6, s7, .dead, .dead, .dead, .dead, .dead, .dead, .dead, .dead, .dead, .dead, .dead, .dead, .dead, .dead, .dead, .dead, .dead, .dead, .dead, .dead, .dead, .dead, .dead, .dead, .dead, .dead, .dead, .dead, .dead, .dead, .dead, .dead, .dead, .dead, .dead, .dead, .dead, .dead, .dead, .dead, .dead, .dead, .dead, .dead, .dead, .dead, .dead, .dead, .dead, .dead, .dead, .dead, .dead, .dead, .dead, .dead, .dead, .dead, .dead, .dead, .dead, .dead, .dead, .dead, .dead, .dead, .dead, .dead, .dead, .dead, .dead, .dead, .dead, .dead, .dead, .dead, .dead, .dead, .dead, .dead, .dead, .dead, .dead, .dead, .dead, .dead, .dead, .dead, .dead, .dead, .dead, .dead, .dead, s101, .dead, .dead, .dead, .dead, .dead, .dead, .dead, .dead, .dead, .dead, .dead, .dead, .dead, .dead, .dead, .dead, .dead, .dead, .dead, .dead, .dead, .dead, .dead, .dead, .dead, .dead, .dead, .dead, .dead, .dead, .dead, .dead, .dead, .dead, .dead, .dead, .dead, .dead, .dead, .dead, .dead, .dead, .dead, .dead, .dead, .dead, .dead, .dead, .dead, s151, .dead, .dead, .dead, .dead]
@[simp] def h26_2 : List Bool := [true, true, false, false, false, false, true, true, true, false, false, true, true, false, false, false, false, false, false, false, false, false, false, false, false, false, false, true, false, false, false, false, false, false, false, false, false, false, false, false, false, false, false, false, false, false, false, false, false, false, false, false, false, false, false, false, false, false, false, false, false, false, false, false, false, false, false, false, false, false, false, false, false, false, false, false, false, false, false, false, false, false, false, false, false, false, false, false, false, false, false, false, false, false, false, false, false, false, false, false, false, true, false, false, false, false, false, false, false, false, false, false, false, false, false, false, false, false, false, false, false, false, false, false, false, false, false, false, false, false, false, false, false, false, false, false, false, false, false, false, false, false, false, false, false, false, false, false, false, false, false, true, false, false, false, false]
@[simp] def L26_2 (s0 s1 s6 s7 s8 s11 s12 s27 s101 s151 : V) : St := [s0, s1, .dead, .dead, .dead, .dead, s6, s7, s8, .dead, .dead, s11, s12, .dead, .dead, .dead, .dead, .dead, .dead, .dead, .dead, .dead, .dead, .dead, .dead, .dead, .dead, s27, .dead, .dead, .dead, .dead, .dead, .dead, .dead, .dead, .dead, .dead, .dead, .dead, .dead, .dead, .dead, .dead, .dead, .dead, .dead, .dead, .dead, .dead, .dead, .dead, .dead, .dead, .dead, .dead, .dead, .dead, .dead, .dead, .dead, .dead, .dead, .dead, .dead, .dead, .dead, .dead, .dead, .dead, .dead, .dead, .dead, .dead, .dead, .dead, .dead, .dead, .dead, .dead, .dead, .dead, .dead, .dead, .dead, .dead, .dead, .dead, .dead, .dead, .dead, .dead, .dead, .dead, .dead, .dead, .dead, .dead, .dead, .dead, .dead, s101, .dead, .dead, .dead, .dead, .dead, .dead, .dead, .dead, .dead, .dead, .dead, .dead, .dead, .dead, .dead, .dead, .dead, .dead, .dead, .dead, .dead, .dead, .dead, .dead, .dead, .dead, .dead, .dead, .dead, .dead, .dead, .dead, .dead, .dead, .dead, .dead, .dead, .dead, .dead, .dead, .dead, .dead, .dead, .dead, .dead, .dead, .dead, .dead, .dead, s151, .dead, .dead, .dead, .dead]
@[simp] def x26_5 : List Bool := [true, true, false, false, false, false, true, true, true, false, false, true, true, false, false, false, false, false, false, false, false, false, false, false, false, false, false, true, false, false, false, false, false, false, false, false, false, false, false, false, false, false, false, false, false, false, false, false, false, false, false, false, false, false, false, false, false, false, false, false, false, false, false, false, false, false, false, false, false, false, false, false, false, false, false, false, false, false, false, false, false, false, false, false, false, false, false, false, false, false, false, false, false, false, false, false, false, false, false, false, false, true, false, false, false, false, false, false, false, false, false, false, false, false, false, false, false, false, false, false, false, false, false, false, false, false, false, false, false, false, false, false, false, false, false, false, false, false, false, false, false, false, false, false, false, false, false, false, false, false, false, true, false, false, false, false]
@[simp] def X26_5 (s0 s1 s6 s7 s8 s11 s12 s27 s101 s151 : V) : St := [s0, s1, .dead, .dead, .dead, .dead, s6, s7, s8, .dead, .dead, s11, s12, .dead, .dead, .dead, .dead, .dead, .dead, .dead, .dead, .dead, .dead, .dead, .dead, .dead, .dead, s27, .dead, .dead, .dead, .dead, .dead, .dead, .dead, .dead, .dead, .dead, .dead, .dead, .dead, .dead, .dead, .dead, .dead, .dead, .dead, .dead, .dead, .dead, .dead, .dead, .dead, .dead, .dead, .dead, .dead, .dead, .dead, .dead, .dead, .dead, .dead, .dead, .dead, .dead, .dead, .dead, .dead, .dead, .dead, .dead, .dead, .dead, .dead, .dead, .dead, .dead, .dead, .dead, .dead, .dead, .dead, .dead, .dead, .dead, .dead, .dead, .dead, .dead, .dead, .dead, .dead, .dead, .dead, .dead, .dead, .dead, .dead, .dead, .dead, s101, .dead, .dead, .dead, .dead, .dead, .dead, .dead, .dead, .dead, .dead, .dead, .dead, .dead, .dead, .dead, .dead, .dead, .dead, .dead, .dead, .dead, .dead, .dead, .dead, .dead, .dead, .dead, .dead, .dead, .dead, .dead, .dead, .dead, .dead, .dead, .dead, .dead, .dead, .dead, .dead, .dead, .dead, .dead, .dead, .dead, .dead, .dead, .dead, .dead, s151, .dead, .dead, .dead, .dead]
@[simp] def x26_6 : List Bool := [true, true, false, false, false, false, true, true, true, false, false, true, true, false, false, false, false, false, false, false, false, false, false, false, false, false, false, true, false, false, false, false, false, false, false, false, false, false, false, false, false, false, false, false, false, false, false, false, false, false, false, false, false, false, false, false, false, false, false, false, false, false, false, false, false, false, false, false, false, false, false, false, false, false, false, false, false, false, false, false, false, false, false, false, false, false, false, false, false, false, false, false, false, false, false, false, false, false, false, false, false, true, false, false, false, false, false, false, false, false, false, false, false, false, false, false, false, false, false, false, false, false, false, false, false, false, false, false, false, false, false, false, false, false, false, false, false, false, false, false, false, false, false, false, false, false, false, false, false, false, false, true, false, false, false, false]
@[simp] def X26_6 (s0 s1 s6 s7 s8 s11 s12 s27 s101 s151 : V) : St := [s0, s1, .dead, .dead, .dead, .dead, s6, s7, s8, .dead, .dead, s11, s12, .dead, .dead, .dead, .dead, .dead, .dead, .dead, .dead, .dead, .dead, .dead, .dead, .dead, .dead, s27, .dead, .dead, .dead, .dead, .dead, .dead, .dead, .dead, .dead, .dead, .dead, .dead, .dead, .dead, .dead, .dead, .dead, .dead, .dead, .dead, .dead, .dead, .dead, .dead, .dead, .dead, .dead, .dead, .dead, .dead, .dead, .dead, .dead, .dead, .dead, .dead, .dead, .dead, .dead, .dead, .dead, .dead, .dead, .dead, .dead, .dead, .dead, .dead, .dead, .dead, .dead, .dead, .dead, .dead, .dead, .dead, .dead, .dead, .dead, .dead, .dead, .dead, .dead, .dead, .dead, .dead, .dead, .dead, .dead, .dead, .dead, .dead, .dead, s101, .dead, .dead, .dead, .dead, .dead, .dead, .dead, .dead, .dead, .dead, .dead, .dead, .dead, .dead, .dead, .dead, .dead, .dead, .dead, .dead, .dead, .dead, .dead, .dead, .dead, .dead, .dead, .dead, .dead, .dead, .dead, .dead, .dead, .dead, .dead, .dead, .dead, .dead, .dead, .dead, .dead, .dead, .dead, .dead, .dead, .dead, .dead, .dead, .dead, s151, .dead, .dead, .dead, .dead]
@[simp] def h26_3 : List Bool := [true, true, false, false, false, false, true, true, true, false, false, true, true, true, false, false, false, false, false, false, false, false, false, false, false, false, false, true, false, false, false, false, false, false, false, false, false, false, false, false, false, false, false, false, false, false, false, false, false, false, false, false, false, false, false, false, false, false, false, false, false, false, false, false, false, false, false, false, false, false, false, false, false, false, false, false, false, false, false, false, false, false, false, false, false, false, false, false, false, false, false, false, false, false, false, false, false, false, false, false, false, true, false, false, false, false, false, false, false, false, false, false, false, false, false, false, false, false, false, false, false, false, false, false, false, false, false, false, false, false, false, false, false, false, false, false, false, false, false, false, false, false, false, false, false, false, false, false, false, false, false, true, false, false, false, false]
@[simp] def L26_3 (s0 s1 s6 s7 s8 s11 s12 s13 s27 s101 s151 : V) : St := [s0, s1, .dead, .dead, .dead, .dead, s6, s7, s8, .dead, .dead, s11, s12, s13, .dead, .dead, .dead, .dead, .dead, .dead, .dead, .dead, .dead, .dead, .dead, .dead, .dead, s27, .dead, .dead, .dead, .dead, .dead, .dead, .dead, .dead, .dead, .dead, .dead, .dead, .dead, .dead, .dead, .dead, .dead, .dead, .dead, .dead, .dead, .dead, .dead, .dead, .dead, .dead, .dead, .dead, .dead, .dead, .dead, .dead, .dead, .dead, .dead, .dead, .dead, .dead, .dead, .dead, .dead, .dead, .dead, .dead, .dead, .dead, .dead, .dead, .dead, .dead, .dead, .dead, .dead, .dead, .dead, .dead, .dead, .dead, .dead, .dead, .dead, .dead, .dead, .dead, .dead, .dead, .dead, .dead, .dead, .dead, .dead, .dead, .dead, s101, .dead, .dead, .dead, .dead, .dead, .dead, .dead, .dead, .dead, .dead, .dead, .dead, .dead, .dead, .dead, .dead, .dead, .dead, .dead, .dead, .dead, .dead, .dead, .dead, .dead, .dead, .dead, .dead, .dead, .dead, .dead, .dead, .dead, .dead, .dead, .dead, .dead, .dead, .dead, .dead, .dead, .dead, .dead, .dead, .dead, .dead, .dead, .dead, .dead, s151, .dead, .dead, .dead, .dead]
@[simp] def x26_7 : List Bool := [true, true, false, false, false, false, true, true, true, false, false, true, true, true, false, false, false, false, false, false, false, false, false, false, false, false, false, true, false, false, false, false, false, false, false, false, false, false, false, false, false, false, false, false, false, false, false, false, false, false, false, false, false, false, false, false, false, false, false, false, false, false, false, false, false, false, false, false, false, false, false, false, false, false, false, false, false, false, false, false, false, false, false, false, false, false, false, false, false, false, false, false, false, false, false, false, false, false, false, false, false, true, false, false, false, false, false, false, false, false, false, false, false, false, false, false, false, false, false, false, false, false, false, false, false, false, false, false, false, false, false, false, false, false, false, false, false, false, false, false, false, false, false, false, false, false, false, false, false, false, false, true, false, false, false, false]
@[simp] def X26_7 (s0 s1 s6 s7 s8 s11 s12 s13 s27 s101 s151 : V) : St := [s0, s1, .dead, .dead, .dead, .dead, s6, s7, s8, .dead, .dead, s11, s12, s13, .dead, .dead, .dead, .dead, .dead, .dead, .dead, .dead, .dead, .dead, .dead, .dead, .dead, s27, .dead, .dead, .dead, .dead, .dead, .dead, .dead, .dead, .dead, .dead, .dead, .dead, .dead, .dead, .dead, .dead, .dead, .dead, .dead, .dead, .dead, .dead, .dead, .dead, .dead, .dead, .dead, .dead, .dead, .dead, .dead, .dead, .dead, .dead, .dead, .dead, .dead, .dead, .dead, .dead, .dead, .dead, .dead, .dead, .dead, .dead, .dead, .dead, .dead, .dead, .dead, .dead, .dead, .dead, .dead, .dead, .dead, .dead, .dead, .dead, .dead, .dead, .dead, .dead, .dead, .dead, .dead, .dead, .dead, .dead, .dead, .dead, .dead, s101, .dead, .dead, .dead, .dead, .dead, .dead, .dead, .dead, .dead, .dead, .dead, .dead, .dead, .dead, .dead, .dead, .dead, .dead, .dead, .dead, .dead, .dead, .dead, .dead, .dead, .dead, .dead, .dead, .dead, .dead, .dead, .dead, .dead, .dead, .dead, .dead, .dead, .dead, .dead, .dead, .dead, .dead, .dead, .dead, .dead, .dead, .dead, .dead, .dead, s151, .dead, .dead, .dead, .dead]
def b26_3 : MC := .seq (.scr h26_3)
 (.seq (.seq (.ops [⟨none, .mv 109 (.t 13)⟩,
    ⟨none, .mv 110 (.t 1)⟩,
    ⟨none, .len 111 false (.t 110)⟩,
    ⟨none, .bin 112 .lss .num (.t 109) (.t 111)⟩])
  (.cnd (.t 112)
   .skip
   (.seq (.scr x26_6) (.ex 6))))
 (.seq (.seq (.blk 7 (.seq (.ops [⟨none, .mv 115 (.t 1)⟩,
     ⟨none, .mv 116 (.t 13)⟩,
     ⟨none, .ixs 117 2 (.t 115) (.t 116)⟩,
     ⟨none, .fa 118 0 (.t 117)⟩,
     ⟨none, .ld1 119 (.t 118)⟩,
     ⟨none, .mv 120 (.t 11)⟩,
     ⟨none, .bin 121 .eql .num (.t 119) (.t 120)⟩,
     ⟨none, .mv 122 (.t 121)⟩,
     ⟨some (122, true), .mv 123 (.t 1)⟩,
     ⟨some (122, true), .mv 124 (.t 13)⟩,
     ⟨some (122, true), .ixs 125 2 (.t 123) (.t 124)⟩,
     ⟨some (122, true), .fa 126 1 (.t 125)⟩,
     ⟨some (122, true), .ld1 127 (.t 126)⟩,
     ⟨some (122, true), .mv 128 (.t 7)⟩,
     ⟨some (122, true), .bin 129 .gtr .num (.t 127) (.t 128)⟩,
     ⟨none, .pick 130 (.t 122) (.t 129) (.c (.v (.bool false)))⟩,
     ⟨none, .mv 131 (.t 130)⟩,
     ⟨some (131, true), .mv 132 (.t 8)⟩,
     ⟨some (131, true), .mv 133 (.t 1)⟩,
     ⟨some (131, true), .mv 134 (.t 13)⟩,
     ⟨some (131, true), .ixs 135 2 (.t 133) (.t 134)⟩,
     ⟨some (131, true), .fa 136 1 (.t 135)⟩,
     ⟨some (131, true), .ld1 137 (.t 136)⟩,
     ⟨some (131, true), .ixs 138 1 (.t 132) (.t 137)⟩,
     ⟨some (131, true), .ld1 139 (.t 138)⟩,
     ⟨some (131, true), .mv 140 (.t 12)⟩,
     ⟨some (131, true), .bin 141 .eql .num (.t 139) (.t 140)⟩,
     ⟨none, .pick 142 (.t 131) (.t 141) (.c (.v (.bool false)))⟩])
   (.cnd (.t 142)
    (.seq (.ops [⟨none, .mv 143 (.t 1)⟩,
      ⟨none, .mv 144 (.t 13)⟩,
      ⟨none, .ixs 145 2 (.t 143) (.t 144)⟩,
      ⟨none, .fa 146 1 (.t 145)⟩,
      ⟨none, .ld1 147 (.t 146)⟩,
      ⟨none, .asg 11 (.t 147)⟩])
    (.seq (.scr x26_6) (.ex 6)))
    .skip))) (.scr x26_7))
 (.ops [⟨none, .mv 113 (.t 13)⟩,
  ⟨none, .bin 114 .add .num (.t 113) (.c (.v (.int .i64 1)))⟩,
  ⟨none, .asg 13 (.t 114)⟩])))
def b26_2 : MC := .seq (.scr h26_2)
 (.seq (.seq (.ops [⟨none, .mv 105 (.t 12)⟩,
    ⟨none, .bin 106 .gtr .num (.t 105) (.c (.v (.int .i64 0)))⟩])
  (.cnd (.t 106)
   .skip
   (.seq (.scr x26_4) (.ex 4))))
 (.seq (.seq (.blk 5 (.seq (.seq (.ops [⟨none, .asg 13 (.c (.v (.int .i64 0)))⟩])
    (.seq (.blk 6 (.lop b26_3)) (.scr x26_6)))
   (.ops [⟨none, .mv 148 (.t 6)⟩,
    ⟨none, .mv 149 (.t 11)⟩,
    ⟨none, .bs 150 1 1 [(.v (.int .i64 0))] [(0, 1, (.t 149))]⟩,
    ⟨none, .app 151 1 (.t 148) (.t 150)⟩,
    ⟨none, .asg 6 (.t 151)⟩]))) (.scr x26_5))
 (.ops [⟨none, .mv 107 (.t 12)⟩,
  ⟨none, .bin 108 .sub .num (.t 107) (.c (.v (.int .i64 1)))⟩,
  ⟨none, .asg 12 (.t 108)⟩])))
def b26_0 : MC := .seq (.scr h26_0)
 (.seq (.seq (.ops [⟨none, .mv 18 (.t 7)⟩,
    ⟨none, .mv 19 (.t 0)⟩,
    ⟨none, .bin 20 .lss .num (.t 18) (.t 19)⟩])
  (.cnd (.t 20)
   .skip
   (.seq (.scr x26_0) (.ex 0))))
 (.seq (.seq (.blk 1 (.seq (.ops [⟨none, .mv 23 (.t 0)⟩,
     ⟨none, .mv 24 (.t 1)⟩,
     ⟨none, .mv 25 (.t 7)⟩,
     ⟨none, .mv 26 (.t 7)⟩,
     ⟨none, .call (some 27) 37 [(.t 23), (.t 24), (.t 25), (.t 26)]⟩,
     ⟨none, .asg 8 (.t 27)⟩])
   (.seq (.ops [⟨none, .asg 9 (.c (.v (.int .i64 (-1))))⟩])
   (.seq (.seq (.ops [⟨none, .asg 10 (.c (.v (.int .i64 0)))⟩])
    (.seq (.blk 2 (.lop b26_1)) (.scr x26_2)))
   (.seq (.seq (.ops [⟨none, .mv 87 (.t 9)⟩,
      ⟨none, .bin 88 .lss .num (.t 87) (.c (.v (.int .i64 0)))⟩,
      ⟨none, .mv 89 (.t 88)⟩,
      ⟨some (89, false), .mv 90 (.t 6)⟩,
      ⟨some (89, false), .len 91 false (.t 90)⟩,
      ⟨some (89, false), .bin 92 .gtr .num (.t 91) (.c (.v (.int .i64 0)))⟩,
      ⟨some (89, false), .mv 93 (.t 92)⟩,
      ⟨some (93, true), .mv 94 (.t 9)⟩,
      ⟨some (93, true), .mv 95 (.t 6)⟩,
      ⟨some (93, true), .len 96 false (.t 95)⟩,
      ⟨some (93, true), .bin 97 .geq .num (.t 94) (.t 96)⟩,
      ⟨some (89, false), .pick 98 (.t 93) (.t 97) (.c (.v (.bool false)))⟩,
      ⟨none, .pick 99 (.t 89) (.c (.v (.bool true))) (.t 98)⟩])
    (.cnd (.t 99)
     (.seq (.scr x26_1) (.ex 1))
     .skip))
   (.seq (.ops [⟨none, .mv 100 (.t 7)⟩,
     ⟨none, .bs 101 1 1 [(.v (.int .i64 0))] [(0, 1, (.t 100))]⟩,
     ⟨none, .asg 6 (.t 101)⟩])
   (.seq (.ops [⟨none, .mv 102 (.t 7)⟩,
     ⟨none, .asg 11 (.t 102)⟩])
   (.seq (.ops [⟨none, .mv 103 (.t 9)⟩,
     ⟨none, .bin 104 .sub .num (.t 103) (.c (.v (.int .i64 1)))⟩,
     ⟨none, .asg 12 (.t 104)⟩])
   (.seq (.blk 4 (.lop b26_2)) (.scr x26_4)))))))))) (.scr x26_1))
 (.ops [⟨none, .mv 21 (.t 7)⟩,
  ⟨none, .bin 22 .add .num (.t 21) (.c (.v (.int .i64 1)))⟩,
  ⟨none, .asg 7 (.t 22)⟩])))
def c26 : MF := ⟨(.seq (.ops [⟨none, .asg 4 (.c (.nd (.sl true 1 0) []))⟩,
   ⟨none, .asg 5 (.c (.v (.int .i64 0)))⟩])
 (.seq (.seq (.ops [⟨none, .mv 14 (.t 0)⟩,
    ⟨none, .mv 15 (.t 1)⟩,
    ⟨none, .call (some 16) 21 [(.t 14), (.t 15)]⟩,
    ⟨none, .un 17 .not (.t 16)⟩])
  (.cnd (.t 17)
   (.seq (.ops [⟨none, .asg 4 (.c (.nd (.sl true 1 0) []))⟩,
     ⟨none, .asg 5 (.c (.v (.int .i64 1)))⟩])
   (.seq (.scr r26) .ret))
   .skip))
 (.seq (.ops [⟨none, .asg 6 (.c (.nd (.sl true 1 0) []))⟩])
 (.seq (.seq (.ops [⟨none, .asg 7 (.c (.v (.int .i64 0)))⟩])
  (.seq (.blk 0 (.lop b26_0)) (.scr x26_0)))
 (.seq (.seq (.ops [⟨none, .mv 152 (.t 6)⟩,
    ⟨none, .len 153 false (.t 152)⟩,
    ⟨none, .bin 154 .eql .num (.t 153) (.c (.v (.int .i64 0)))⟩])
  (.cnd (.t 154)
   (.seq (.ops [⟨none, .asg 4 (.c (.nd (.sl true 1 0) []))⟩,
     ⟨none, .asg 5 (.c (.v (.int .i64 7)))⟩])
   (.seq (.scr r26) .ret))
   .skip))
 (.seq (.ops [⟨none, .mv 155 (.t 6)⟩,
   ⟨none, .asg 4 (.t 155)⟩,
   ⟨none, .asg 5 (.c (.v (.int .i64 0)))⟩])
 (.seq (.scr r26) .ret))))))),
  156, [4, 5]⟩

/-- coinage/coinagelaw06.index -/
def hints27 : List (List Bool) := [[false, false, false, false, false, false, false, false, false, false, false, false, false, false, false, false, false, false, false], [true, true, false, false, false, true, false, false, false, false, false, false, false, false, false, false, false, false, false], [false, false, false, false, false, false, false, false, false, false, false, false, false, false, false, false, false, false, false], [true, true, false, false, false, true, false, false, false, false, false, false, false, false, false, false, false, false, false], [false, false, false, false, true, false, false, false, false, false, false, false, false, false, false, false, false, false, false], [false, false, false, false, true, false, false, false, false, false, false, false, false, false, false, false, false, false, false]]
@[simp] def r27 : List Bool := [false, false, false, false, true, false, false, false, false, false, false, false, false, false, false, false, false, false, false]
@[simp] def R27 (s4 : V) : St := [.dead, .dead, .dead, .dead, s4, .dead, .dead, .dead, .dead, .dead, .dead, .dead, .dead, .dead, .dead, .dead, .dead, .dead, .dead]
@[simp] def x27_0 : List Bool := [false, false, false, false, false, false, false, false, false, false, false, false, false, false, false, false, false, false, false]
@[simp] def X27_0 : St := [.dead, .dead, .dead, .dead, .dead, .dead, .dead, .dead, .dead, .dead, .dead, .dead, .dead, .dead, .dead, .dead, .dead, .dead, .dead]
@[simp] def h27_0 : List Bool := [true, true, false, false, false, true, false, false, false, false, false, false, false, false, false, false, false, false, false]
@[simp] def L27_0 (s0 s1 s5 : V) : St := [s0, s1, .dead, .dead, .dead, s5, .dead, .dead, .dead, .dead, .dead, .dead, .dead, .dead, .dead, .dead, .dead, .dead, .dead]
@[simp] def x27_1 : List Bool := [true, true, false, false, false, true, false, false, false, false, false, false, false, false, false, false, false, false, false]
@[simp] def X27_1 (s0 s1 s5 : V) : St := [s0, s1, .dead, .dead, .dead, s5, .dead, .dead, .dead, .dead, .dead, .dead, .dead, .dead, .dead, .dead, .dead, .dead, .dead]
def b27_0 : MC := .seq (.scr h27_0)
 (.seq (.seq (.ops [⟨none, .mv 6 (.t 5)⟩,
    ⟨none, .mv 7 (.t 0)⟩,
    ⟨none, .len 8 false (.t 7)⟩,
    ⟨none, .bin 9 .lss .num (.t 6) (.t 8)⟩])
  (.cnd (.t 9)
   .skip
   (.seq (.scr x27_0) (.ex 0))))
 (.seq (.seq (.blk 1 (.seq (.ops [⟨none, .mv 12 (.t 0)⟩,
     ⟨none, .mv 13 (.t 5)⟩,
     ⟨none, .ixs 14 1 (.t 12) (.t 13)⟩,
     ⟨none, .ld1 15 (.t 14)⟩,
     ⟨none, .mv 16 (.t 1)⟩,
     ⟨none, .bin 17 .eql .num (.t 15) (.t 16)⟩])
   (.cnd (.t 17)
    (.seq (.ops [⟨none, .mv 18 (.t 5)⟩,
      ⟨none, .asg 4 (.t 18)⟩])
    (.seq (.scr r27) .ret))
    .skip))) (.scr x27_1))
 (.ops [⟨none, .mv 10 (.t 5)⟩,
  ⟨none, .bin 11 .add .num (.t 10) (.c (.v (.int .i64 1)))⟩,
  ⟨none, .asg 5 (.t 11)⟩])))
def c27 : MF := ⟨(.seq (.ops [⟨none, .asg 4 (.c (.v (.int .i64 0)))⟩])
 (.seq (.seq (.ops [⟨none, .asg 5 (.c (.v (.int .i64 0)))⟩])
  (.seq (.blk 0 (.lop b27_0)) (.scr x27_0)))
 (.seq (.ops [⟨none, .asg 4 (.c (.v (.int .i64 (-1))))⟩])
 (.seq (.scr r27) .ret)))),
  19, [4]⟩

/-- (coinage/poset.set).has -/
def hints28 : List (List Bool) := [[false, false, false, false, true, false, false, false, false, false]]
@[simp] def r28 : List Bool := [false, false, false, false, true, false, false, false, false, false]
@[simp] def R28 (s4 : V) : St := [.dead, .dead, .dead, .dead, s4, .dead, .dead, .dead, .dead, .dead]
def c28 : MF := ⟨(.seq (.ops [⟨none, .asg 4 (.c (.v (.bool false)))⟩])
 (.seq (.ops [⟨none, .mv 5 (.t 0)⟩,
   ⟨none, .mv 6 (.t 1)⟩,
   ⟨none, .bin 7 .shr .num (.t 5) (.t 6)⟩,
   ⟨none, .bin 8 .and .num (.t 7) (.c (.v (.int .u32 1)))⟩,
   ⟨none, .bin 9 .neq .num (.t 8) (.c (.v (.int .u32 0)))⟩,
   ⟨none, .asg 4 (.t 9)⟩])
 (.seq (.scr r28) .ret))),
  10, [4]⟩

/-- coinage/poset.next -/
def hints29 : List (List Bool) := [[false, false, false, false, false, true, false, false, false, true, false, false, false, false, false, false, false, false, false, false, false, false, false, false, false, false, false, false], [false, true, false, false, false, true, false, false, false, true, true, true, true, false, false, false, false, false, false, false, false, false, false, false, false, false, false, false], [false, false, false, false, false, true, false, false, false, true, false, false, false, false, false, false, false, false, false, false, false, false, false, false, false, false, false, false], [false, true, false, false, false, true, false, false, false, true, true, true, true, false, false, false, false, false, false, false, false, false, false, false, false, false, false, false], [false, false, false, false, true, false, false, false, false, false, false, false, false, false, false, false, false, false, false, false, false, false, false, false, false, false, false, false]]
@[simp] def r29 : List Bool := [false, false, false, false, true, false, false, false, false, false, false, false, false, false, false, false, false, false, false, false, false, false, false, false, false, false, false, false]
@[simp] def R29 (s4 : V) : St := [.dead, .dead, .dead, .dead, s4, .dead, .dead, .dead, .dead, .dead, .dead, .dead, .dead, .dead, .dead, .dead, .dead, .dead, .dead, .dead, .dead, .dead, .dead, .dead, .dead, .dead, .dead, .dead]
@[simp] def x29_0 : List Bool := [false, false, false, false, false, true, false, false, false, true, false, false, false, false, false, false, false, false, false, false, false, false, false, false, false, false, false, false]
@[simp] def X29_0 (s5 s9 : V) : St := [.dead, .dead, .dead, .dead, .dead, s5, .dead, .dead, .dead, s9, .dead, .dead, .dead, .dead, .dead, .dead, .dead, .dead, .dead, .dead, .dead, .dead, .dead, .dead, .dead, .dead, .dead, .dead]
@[simp] def h29_0 : List Bool := [false, true, false, false, false, true, false, false, false, true, true, true, true, false, false, false, false, false, false, false, false, false, false, false, false, false, false, false]
@[simp] def L29_0 (s1 s5 s9 s10 s11 s12 : V) : St := [.dead, s1, .dead, .dead, .dead, s5, .dead, .dead, .dead, s9, s10, s11, s12, .dead, .dead, .dead, .dead, .dead, .dead, .dead, .dead, .dead, .dead, .dead, .dead, .dead, .dead, .dead]
@[simp] def x29_1 : List Bool := [false, true, false, false, false, true, false, false, false, true, true, true, true, false, false, false, false, false, false, false, false, false, false, false, false, false, false, false]
@[simp] def X29_1 (s1 s5 s9 s10 s11 s12 : V) : St := [.dead, s1, .dead, .dead, .dead, s5, .dead, .dead, .dead, s9, s10, s11, s12, .dead, .dead, .dead, .dead, .dead, .dead, .dead, .dead, .dead, .dead, .dead, .dead, .dead, .dead, .dead]
def b29_0 : MC := .seq (.scr h29_0)
 (.seq (.ops [⟨none, .bin 13 .lss .num (.t 12) (.t 11)⟩])
 (.seq (.cnd (.t 13)
   .skip
   (.seq (.scr x29_0) (.ex 0)))
 (.seq (.seq (.blk 1 (.seq (.ops [⟨none, .ixs 14 2 (.t 10) (.t 12)⟩,
     ⟨none, .ldn 15 2 (.t 14)⟩,
     ⟨none, .alc 7 [(.v (.int .i64 0)), (.v (.int .i64 0))]⟩,
     ⟨none, .stn none 2 (.t 7) (.t 15)⟩])
   (.drw [⟨none, .mv 16 (.t 5)⟩,
    ⟨none, .fa 17 0 (.t 7)⟩,
    ⟨none, .ld1 18 (.t 17)⟩,
    ⟨none, .ixs 19 1 (.t 16) (.t 18)⟩,
    ⟨none, .ld1 20 (.t 19)⟩,
    ⟨none, .fa 21 1 (.t 7)⟩,
    ⟨none, .ld1 22 (.t 21)⟩,
    ⟨none, .bin 23 .shl .num (.c (.v (.int .u32 1))) (.t 22)⟩] [⟨none, .bin 24 .or .num (.t 20) (.t 23)⟩,
    ⟨none, .ixs 25 1 (.t 16) (.t 18)⟩,
    ⟨none, .stn none 1 (.t 25) (.t 24)⟩]))) (.scr x29_1))
 (.ops [⟨none, .bin 26 .add .num (.t 12) (.c (.v (.int .i64 1)))⟩,
  ⟨none, .mv 12 (.t 26)⟩]))))
def c29 : MF := ⟨(.seq (.ops [⟨none, .asg 4 (.c (.nd (.sl true 1 0) []))⟩])
 (.seq (.ops [⟨none, .mv 8 (.t 0)⟩,
   ⟨none, .mks 9 1 [(.v (.int .u32 0))] (.t 8) (.t 8)⟩,
   ⟨none, .asg 5 (.t 9)⟩])
 (.seq (.seq (.ops [⟨none, .mv 10 (.t 1)⟩,
    ⟨none, .len 11 false (.t 10)⟩,
    ⟨none, .mv 12 (.c (.v (.int .i64 0)))⟩])
  (.seq (.blk 0 (.lop b29_0)) (.scr x29_0)))
 (.seq (.ops [⟨none, .mv 27 (.t 5)⟩,
   ⟨none, .asg 4 (.t 27)⟩])
 (.seq (.scr r29) .ret))))),
  28, [4]⟩

/-- coinage/coinagebase.Has -/
def hints30 : List (List Bool) := [[false, false, false, false, false, false, false, false, false, false, false, false, false, false, false, false, false, false], [true, true, false, false, false, true, false, false, false, false, false, false, false, false, false, false, false, false], [false, false, false, false, false, false, false, false, false, false, false, false, false, false, false, false, false, false], [true, true, false, false, false, true, false, false, false, false, false, false, false, false, false, false, false, false], [false, false, false, false, true, false, false, false, false, false, false, false, false, false, false, false, false, false], [false, false, false, false, true, false, false, false, false, false, false, false, false, false, false, false, false, false]]
@[simp] def r30 : List Bool := [false, false, false, false, true, false, false, false, false, false, false, false, false, false, false, false, false, false]
@[simp] def R30 (s4 : V) : St := [.dead, .dead, .dead, .dead, s4, .dead, .dead, .dead, .dead, .dead, .dead, .dead, .dead, .dead, .dead, .dead, .dead, .dead]
@[simp] def x30_0 : List Bool := [false, false, false, false, false, false, false, false, false, false, false, false, false, false, false, false, false, false]
@[simp] def X30_0 : St := [.dead, .dead, .dead, .dead, .dead, .dead, .dead, .dead, .dead, .dead, .dead, .dead, .dead, .dead, .dead, .dead, .dead, .dead]
@[simp] def h30_0 : List Bool := [true, true, false, false, false, true, false, false, false, false, false, false, false, false, false, false, false, false]
@[simp] def L30_0 (s0 s1 s5 : V) : St := [s0, s1, .dead, .dead, .dead, s5, .dead, .dead, .dead, .dead, .dead, .dead, .dead, .dead, .dead, .dead, .dead, .dead]
@[simp] def x30_1 : List Bool := [true, true, false, false, false, true, false, false, false, false, false, false, false, false, false, false, false, false]
@[simp] def X30_1 (s0 s1 s5 : V) : St := [s0, s1, .dead, .dead, .dead, s5, .dead, .dead, .dead, .dead, .dead, .dead, .dead, .dead, .dead, .dead, .dead, .dead]
def b30_0 : MC := .seq (.scr h30_0)
 (.seq (.seq (.ops [⟨none, .mv 6 (.t 5)⟩,
    ⟨none, .mv 7 (.t 0)⟩,
    ⟨none, .len 8 false (.t 7)⟩,
    ⟨none, .bin 9 .lss .num (.t 6) (.t 8)⟩])
  (.cnd (.t 9)
   .skip
   (.seq (.scr x30_0) (.ex 0))))
 (.seq (.seq (.blk 1 (.seq (.ops [⟨none, .mv 12 (.t 0)⟩,
     ⟨none, .mv 13 (.t 5)⟩,
     ⟨none, .ixs 14 1 (.t 12) (.t 13)⟩,
     ⟨none, .ld1 15 (.t 14)⟩,
     ⟨none, .mv 16 (.t 1)⟩,
     ⟨none, .bin 17 .eql .num (.t 15) (.t 16)⟩])
   (.cnd (.t 17)
    (.seq (.ops [⟨none, .asg 4 (.c (.v (.bool true)))⟩])
    (.seq (.scr r30) .ret))
    .skip))) (.scr x30_1))
 (.ops [⟨none, .mv 10 (.t 5)⟩,
  ⟨none, .bin 11 .add .num (.t 10) (.c (.v (.int .i64 1)))⟩,
  ⟨none, .asg 5 (.t 11)⟩])))
def c30 : MF := ⟨(.seq (.ops [⟨none, .asg 4 (.c (.v (.bool false)))⟩])
 (.seq (.seq (.ops [⟨none, .asg 5 (.c (.v (.int .i64 0)))⟩])
  (.seq (.blk 0 (.lop b30_0)) (.scr x30_0)))
 (.seq (.ops [⟨none, .asg 4 (.c (.v (.bool false)))⟩])
 (.seq (.scr r30) .ret)))),
  18, [4]⟩

/-- coinage/poset.reach -/
def hints31 : List (List Bool) := [[false, false, false, false, false, true, false, false, false, false, true, false, false, false, false, false, false, false, false, false, false, false, false, false, false, false, false, false, false, false, false, false, false, false, false, false, false, false], [true, false, false, false, false, true, false, false, false, false, true, true, true, false, false, false, false, false, false, false, false, false, false, false, false, false, false, false, false, false, false, false, false, false, false, false, false, false], [false, false, false, false, false, true, false, false, false, false, true, false, false, false, false, false, false, false, false, false, false, false, false, false, false, false, false, false, false, false, false, false, false, false, false, false, false, false], [true, false, false, false, false, true, false, false, false, false, true, true, true, false, false, false, false, false, false, false, false, false, false, false, false, false, false, false, false, false, false, false, false, false, false, false, false, false], [true, false, false, false, false, true, false, false, false, false, true, true, true, false, false, false, false, false, false, false, false, false, false, false, false, false, false, false, false, false, false, false, false, false, false, false, false, false], [true, false, false, false, false, true, true, false, false, false, true, true, true, false, false, true, true, false, false, false, false, false, false, false, false, false, false, false, false, false, false, false, false, false, false, false, false, false], [true, false, false, false, false, true, false, false, false, false, true, true, true, false, false, false, false, false, false, false, false, false, false, false, false, false, false, false, false, false, false, false, false, false, false, false, false, false], [true, false, false, false, false, true, true, false, false, false, true, true, true, false, false, true, true, false, false, false, false, false, false, false, false, false, false, false, false, false, false, false, false, false, false, false, false, false], [false, false, false, false, true, false, false, false, false, false, false, false, false, false, false, false, false, false, false, false, false, false, false, false, false, false, false, false, false, false, false, false, false, false, false, false, false, false]]
@[simp] def r31 : List Bool := [false, false, false, false, true, false, false, false, false, false, false, false, false, false, false, false, false, false, false, false, false, false, false, false, false, false, false, false, false, false, false, false, false, false, false, false, false, false]
@[simp] def R31 (s4 : V) : St := [.dead, .dead, .dead, .dead, s4, .dead, .dead, .dead, .dead, .dead, .dead, .dead, .dead, .dead, .dead, .dead, .dead, .dead, .dead, .dead, .dead, .dead, .dead, .dead, .dead, .dead, .dead, .dead, .dead, .dead, .dead, .dead, .dead, .dead, .dead, .dead, .dead, .dead]
@[simp] def x31_0 : List Bool := [false, false, false, false, false, true, false, false, false, false, true, false, false, false, false, false, false, false, false, false, false, false, false, false, false, false, false, false, false, false, false, false, false, false, false, false, false, false]
@[simp] def X31_0 (s5 s10 : V) : St := [.dead, .dead, .dead, .dead, .dead, s5, .dead, .dead, .dead, .dead, s10, .dead, .dead, .dead, .dead, .dead, .dead, .dead, .dead, .dead, .dead, .dead, .dead, .dead, .dead, .dead, .dead, .dead, .dead, .dead, .dead, .dead, .dead, .dead, .dead, .dead, .dead, .dead]
@[simp] def h31_0 : List Bool := [true, false, false, false, false, true, false, false, false, false, true, true, true, false, false, false, false, false, false, false, false, false, false, false, false, false, false, false, false, false, false, false, false, false, false, false, false, false]
@[simp] def L31_0 (s0 s5 s10 s11 s12 : V) : St := [s0, .dead, .dead, .dead, .dead, s5, .dead, .dead, .dead, .dead, s10, s11, s12, .dead, .dead, .dead, .dead, .dead, .dead, .dead, .dead, .dead, .dead, .dead, .dead, .dead, .dead, .dead, .dead, .dead, .dead, .dead, .dead, .dead, .dead, .dead, .dead, .dead]
@[simp] def x31_1 : List Bool := [true, false, false, false, false, true, false, false, false, false, true, true, true, false, false, false, false, false, false, false, false, false, false, false, false, false, false, false, false, false, false, false, false, false, false, false, false, false]
@[simp] def X31_1 (s0 s5 s10 s11 s12 : V) : St := [s0, .dead, .dead, .dead, .dead, s5, .dead, .dead, .dead, .dead, s10, s11, s12, .dead, .dead, .dead, .dead, .dead, .dead, .dead, .dead, .dead, .dead, .dead, .dead, .dead, .dead, .dead, .dead, .dead, .dead, .dead, .dead, .dead, .dead, .dead, .dead, .dead]
@[simp] def x31_2 : List Bool := [true, false, false, false, false, true, false, false, false, false, true, true, true, false, false, false, false, false, false, false, false, false, false, false, false, false, false, false, false, false, false, false, false, false, false, false, false, false]
@[simp] def X31_2 (s0 s5 s10 s11 s12 : V) : St := [s0, .dead, .dead, .dead, .dead, s5, .dead, .dead, .dead, .dead, s10, s11, s12, .dead, .dead, .dead, .dead, .dead, .dead, .dead, .dead, .dead, .dead, .dead, .dead, .dead, .dead, .dead, .dead, .dead, .dead, .dead, .dead, .dead, .dead, .dead, .dead, .dead]
@[simp] def h31_1 : List Bool := [true, false, false, false, false, true, true, false, false, false, true, true, true, false, false, true, true, false, false, false, false, false, false, false, false, false, false, false, false, false, false, false, false, false, false, false, false, false]
@[simp] def L31_1 (s0 s5 s6 s10 s11 s12 s15 s16 : V) : St := [s0, .dead, .dead, .dead, .dead, s5, s6, .dead, .dead, .dead, s10, s11, s12, .dead, .dead, s15, s16, .dead, .dead, .dead, .dead, .dead, .dead, .dead, .dead, .dead, .dead, .dead, .dead, .dead, .dead, .dead, .dead, .dead, .dead, .dead, .dead, .dead]
@[simp] def x31_3 : List Bool := [true, false, false, false, false, true, true, false, false, false, true, true, true, false, false, true, true, false, false, false, false, false, false, false, false, false, false, false, false, false, false, false, false, false, false, false, false, false]
@[simp] def X31_3 (s0 s5 s6 s10 s11 s12 s15 s16 : V) : St := [s0, .dead, .dead, .dead, .dead, s5, s6, .dead, .dead, .dead, s10, s11, s12, .dead, .dead, s15, s16, .dead, .dead, .dead, .dead, .dead, .dead, .dead, .dead, .dead, .dead, .dead, .dead, .dead, .dead, .dead, .dead, .dead, .dead, .dead, .dead, .dead]
def b31_1 : MC := .seq (.scr h31_1)
 (.seq (.ops [⟨none, .bin 17 .lss .num (.t 16) (.t 15)⟩])
 (.seq (.cnd (.t 17)
   .skip
   (.seq (.scr x31_2) (.ex 2)))
 (.seq (.seq (.blk 3 (.seq (.ops [⟨none, .mv 18 (.t 16)⟩,
     ⟨none, .asg 7 (.t 18)⟩])
   (.seq (.ops [⟨none, .mv 19 (.t 5)⟩,
     ⟨none, .mv 20 (.t 7)⟩,
     ⟨none, .ixs 21 1 (.t 19) (.t 20)⟩,
     ⟨none, .ld1 22 (.t 21)⟩,
     ⟨none, .mv 23 (.t 6)⟩,
     ⟨none, .call (some 24) 28 [(.t 22), (.t 23)]⟩])
   (.cnd (.t 24)
    (.drw [⟨none, .mv 25 (.t 5)⟩,
     ⟨none, .mv 26 (.t 7)⟩,
     ⟨none, .ixs 27 1 (.t 25) (.t 26)⟩,
     ⟨none, .ld1 28 (.t 27)⟩,
     ⟨none, .mv 29 (.t 5)⟩,
     ⟨none, .mv 30 (.t 6)⟩,
     ⟨none, .ixs 31 1 (.t 29) (.t 30)⟩,
     ⟨none, .ld1 32 (.t 31)⟩] [⟨none, .bin 33 .or .num (.t 28) (.t 32)⟩,
     ⟨none, .ixs 34 1 (.t 25) (.t 26)⟩,
     ⟨none, .stn none 1 (.t 34) (.t 33)⟩])
    .skip)))) (.scr x31_3))
 (.ops [⟨none, .bin 35 .add .num (.t 16) (.c (.v (.int .i64 1)))⟩,
  ⟨none, .mv 16 (.t 35)⟩]))))
def b31_0 : MC := .seq (.scr h31_0)
 (.seq (.ops [⟨none, .bin 13 .lss .num (.t 12) (.t 11)⟩])
 (.seq (.cnd (.t 13)
   .skip
   (.seq (.scr x31_0) (.ex 0)))
 (.seq (.seq (.blk 1 (.seq (.ops [⟨none, .mv 14 (.t 12)⟩,
     ⟨none, .asg 6 (.t 14)⟩])
   (.seq (.ops [⟨none, .mv 15 (.t 0)⟩,
     ⟨none, .mv 16 (.c (.v (.int .i64 0)))⟩])
   (.seq (.blk 2 (.lop b31_1)) (.scr x31_2))))) (.scr x31_1))
 (.ops [⟨none, .bin 36 .add .num (.t 12) (.c (.v (.int .i64 1)))⟩,
  ⟨none, .mv 12 (.t 36)⟩]))))
def c31 : MF := ⟨(.seq (.ops [⟨none, .asg 4 (.c (.nd (.sl true 1 0) []))⟩])
 (.seq (.ops [⟨none, .mv 8 (.t 0)⟩,
   ⟨none, .mv 9 (.t 1)⟩,
   ⟨none, .call (some 10) 29 [(.t 8), (.t 9)]⟩,
   ⟨none, .asg 5 (.t 10)⟩])
 (.seq (.seq (.ops [⟨none, .mv 11 (.t 0)⟩,
    ⟨none, .mv 12 (.c (.v (.int .i64 0)))⟩])
  (.seq (.blk 0 (.lop b31_0)) (.scr x31_0)))
 (.seq (.ops [⟨none, .mv 37 (.t 5)⟩,
   ⟨none, .asg 4 (.t 37)⟩])
 (.seq (.scr r31) .ret))))),
  38, [4]⟩

/-- coinage/coinagebase.Ascending -/
def hints32 : List (List Bool) := [[false, false, false, false, false, false, false, false, false, false, false, false, false, false, false, false, false, false, false, false, false, false, false, false, false, false, false, false, false, false, false, false, false, false, false, false, false, false, false, false, false, false, false, false], [true, true, true, false, false, false, false, true, false, false, false, false, false, false, false, false, false, false, false, false, false, false, false, false, false, false, false, false, false, false, false, false, false, false, false, false, false, false, false, false, false, false, false, false], [false, false, false, false, false, false, false, false, false, false, false, false, false, false, false, false, false, false, false, false, false, false, false, false, false, false, false, false, false, false, false, false, false, false, false, false, false, false, false, false, false, false, false, false], [true, true, true, false, false, false, false, true, false, false, false, false, false, false, false, false, false, false, false, false, false, false, false, false, false, false, false, false, false, false, false, false, false, false, false, false, false, false, false, false, false, false, false, false], [false, false, false, false, false, false, true, false, false, false, false, false, false, false, false, false, false, false, false, false, false, false, false, false, false, false, false, false, false, false, false, false, false, false, false, false, false, false, false, false, false, false, false, false], [false, false, false, false, false, false, true, false, false, false, false, false, false, false, false, false, false, false, false, false, false, false, false, false, false, false, false, false, false, false, false, false, false, false, false, false, false, false, false, false, false, false, false, false]]
@[simp] def r32 : List Bool := [false, false, false, false, false, false, true, false, false, false, false, false, false, false, false, false, false, false, false, false, false, false, false, false, false, false, false, false, false, false, false, false, false, false, false, false, false, false, false, false, false, false, false, false]
@[simp] def R32 (s6 : V) : St := [.dead, .dead, .dead, .dead, .dead, .dead, s6, .dead, .dead, .dead, .dead, .dead, .dead, .dead, .dead, .dead, .dead, .dead, .dead, .dead, .dead, .dead, .dead, .dead, .dead, .dead, .dead, .dead, .dead, .dead, .dead, .dead, .dead, .dead, .dead, .dead, .dead, .dead, .dead, .dead, .dead, .dead, .dead, .dead]
@[simp] def x32_0 : List Bool := [false, false, false, false, false, false, false, false, false, false, false, false, false, false, false, false, false, false, false, false, false, false, false, false, false, false, false, false, false, false, false, false, false, false, false, false, false, false, false, false, false, false, false, false]
@[simp] def X32_0 : St := [.dead, .dead, .dead, .dead, .dead, .dead, .dead, .dead, .dead, .dead, .dead, .dead, .dead, .dead, .dead, .dead, .dead, .dead, .dead, .dead, .dead, .dead, .dead, .dead, .dead, .dead, .dead, .dead, .dead, .dead, .dead, .dead, .dead, .dead, .dead, .dead, .dead, .dead, .dead, .dead, .dead, .dead, .dead, .dead]
@[simp] def h32_0 : List Bool := [true, true, true, false, false, false, false, true, false, false, false, false, false, false, false, false, false, false, false, false, false, false, false, false, false, false, false, false, false, false, false, false, false, false, false, false, false, false, false, false, false, false, false, false]
@[simp] def L32_0 (s0 s1 s2 s7 : V) : St := [s0, s1, s2, .dead, .dead, .dead, .dead, s7, .dead, .dead, .dead, .dead, .dead, .dead, .dead, .dead, .dead, .dead, .dead, .dead, .dead, .dead, .dead, .dead, .dead, .dead, .dead, .dead, .dead, .dead, .dead, .dead, .dead, .dead, .dead, .dead, .dead, .dead, .dead, .dead, .dead, .dead, .dead, .dead]
@[simp] def x32_1 : List Bool := [true, true, true, false, false, false, false, true, false, false, false, false, false, false, false, false, false, false, false, false, false, false, false, false, false, false, false, false, false, false, false, false, false, false, false, false, false, false, false, false, false, false, false, false]
@[simp] def X32_1 (s0 s1 s2 s7 : V) : St := [s0, s1, s2, .dead, .dead, .dead, .dead, s7, .dead, .dead, .dead, .dead, .dead, .dead, .dead, .dead, .dead, .dead, .dead, .dead, .dead, .dead, .dead, .dead, .dead, .dead, .dead, .dead, .dead, .dead, .dead, .dead, .dead, .dead, .dead, .dead, .dead, .dead, .dead, .dead, .dead, .dead, .dead, .dead]
def b32_0 : MC := .seq (.scr h32_0)
 (.seq (.seq (.ops [⟨none, .mv 8 (.t 7)⟩,
    ⟨none, .mv 9 (.t 0)⟩,
    ⟨none, .len 10 false (.t 9)⟩,
    ⟨none, .bin 11 .lss .num (.t 8) (.t 10)⟩])
  (.cnd (.t 11)
   .skip
   (.seq (.scr x32_0) (.ex 0))))
 (.seq (.seq (.blk 1 (.seq (.drw [⟨none, .mv 14 (.t 0)⟩,
     ⟨none, .mv 15 (.t 7)⟩,
     ⟨none, .ixs 16 1 (.t 14) (.t 15)⟩,
     ⟨none, .ld1 17 (.t 16)⟩,
     ⟨none, .mv 18 (.t 1)⟩,
     ⟨none, .bin 19 .lss .num (.t 17) (.t 18)⟩,
     ⟨none, .mv 20 (.t 19)⟩,
     ⟨some (20, false), .mv 21 (.t 0)⟩,
     ⟨some (20, false), .mv 22 (.t 7)⟩,
     ⟨some (20, false), .ixs 23 1 (.t 21) (.t 22)⟩,
     ⟨some (20, false), .ld1 24 (.t 23)⟩,
     ⟨some (20, false), .mv 25 (.t 2)⟩,
     ⟨some (20, false), .bin 26 .gtr .num (.t 24) (.t 25)⟩,
     ⟨none, .pick 27 (.t 20) (.c (.v (.bool true))) (.t 26)⟩,
     ⟨none, .mv 28 (.t 27)⟩,
     ⟨some (28, false), .mv 29 (.t 7)⟩,
     ⟨some (28, false), .bin 30 .gtr .num (.t 29) (.c (.v (.int .i64 0)))⟩,
     ⟨some (28, false), .mv 31 (.t 30)⟩,
     ⟨some (31, true), .mv 32 (.t 0)⟩,
     ⟨some (31, true), .mv 33 (.t 7)⟩,
     ⟨some (31, true), .ixs 34 1 (.t 32) (.t 33)⟩,
     ⟨some (31, true), .ld1 35 (.t 34)⟩,
     ⟨some (31, true), .mv 36 (.t 0)⟩,
     ⟨some (31, true), .mv 37 (.t 7)⟩,
     ⟨some (31, true), .bin 38 .sub .num (.t 37) (.c (.v (.int .i64 1)))⟩,
     ⟨some (31, true), .ixs 39 1 (.t 36) (.t 38)⟩,
     ⟨some (31, true), .ld1 40 (.t 39)⟩] [⟨some (31, true), .bin 41 .leq .num (.t 35) (.t 40)⟩,
     ⟨some (28, false), .pick 42 (.t 31) (.t 41) (.c (.v (.bool false)))⟩,
     ⟨none, .pick 43 (.t 28) (.c (.v (.bool true))) (.t 42)⟩])
   (.cnd (.t 43)
    (.seq (.ops [⟨none, .asg 6 (.c (.v (.bool false)))⟩])
    (.seq (.scr r32) .ret))
    .skip))) (.scr x32_1))
 (.ops [⟨none, .mv 12 (.t 7)⟩,
  ⟨none, .bin 13 .add .num (.t 12) (.c (.v (.int .i64 1)))⟩,
  ⟨none, .asg 7 (.t 13)⟩])))
def c32 : MF := ⟨(.seq (.ops [⟨none, .asg 6 (.c (.v (.bool false)))⟩])
 (.seq (.seq (.ops [⟨none, .asg 7 (.c (.v (.int .i64 0)))⟩])
  (.seq (.blk 0 (.lop b32_0)) (.scr x32_0)))
 (.seq (.ops [⟨none, .asg 6 (.c (.v (.bool true)))⟩])
 (.seq (.scr r32) .ret)))),
  44, [6]⟩

/-- coinage/coinagebase.Digraph -/
def hints33 : List (List Bool) := [[false, false, false, false, true, false, false, false, false, false, false, false, false, false, false, false, false, false, false, false, false, false, false, false, false, false, false, false, false, false, false, false, false, false, false, false, false, false, false, false, false, false, false, false, false, false, false, false, false, false, false, false, false, false, false, false, false, false, false, false, false, false, false, false, false, false, false, false, false, false, false, false, false, false, false, false, false, false, false, false, false, false, false, false, false, false, false, false, false, false, false, false, false, false, false, false, false, false, false, false, false, false, false, false, false, false, false, false, false, false, false, false, false, false, false], [false, false, false, false, false, false, false, false, false, false, false, false, false, false, false, false, false, false, false, false, false, false, false, false, false, false, false, false, false, false, false, false, false, false, false, false, false, false, false, false, false, false, false, false, false, false, false, false, false, false, false, false, false, false, false, false, false, false, false, false, false, false, false, false, false, false, false, false, false, false, false, false, false, false, false, false, false, false, false, false, false, false, false, false, false, false, false, false, false, false, false, false, false, false, false, false, false, false, false, false, false, false, false, false, false, false, false, false, false, false, false, false, false, false, false], [true, true, false, false, false, true, false, false, false, false, false, false, false, false, false, false, false, false, false, false, false, false, false, false, false, false, false, false, false, false, false, false, false, false, false, false, false, false, false, false, false, false, false, false, false, false, false, false, false, false, false, false, false, false, false, false, false, false, false, false, false, false, false, false, false, false, false, false, false, false, false, false, false, false, false, false, false, false, false, false, false, false, false, false, false, false, false, false, false, false, false, false, false, false, false, false, false, false, false, false, false, false, false, false, false, false, false, false, false, false, false, false, false, false, false], [false, false, false, false, false, false, false, false, false, false, false, false, false, false, false, false, false, false, false, false, false, false, false, false, false, false, false, false, false, false, false, false, false, false, false, false, false, false, false, false, false, false, false, false, false, false, false, false, false, false, false, false, false, false, false, false, false, false, false, false, false, false, false, false, false, false, false, false, false, false, false, false, false, false, false, false, false, false, false, false, false, false, false, false, false, false, false, false, false, false, false, false, false, false, false, false, false, false, false, false, false, false, false, false, false, false, false, false, false, false, false, false, false, false, false], [true, true, false, false, false, true, false, false, false, false, false, false, false, false, false, false, false, false, false, false, false, false, false, false, false, false, false, false, false, false, false, false, false, false, false, false, false, false, false, false, false, false, false, false, false, false, false, false, false, false, false, false, false, false, false, false, false, false, false, false, false, false, false, false, false, false, false, false, false, false, false, false, false, false, false, false, false, false, false, false, false, false, false, false, false, false, false, false, false, false, false, false, false, false, false, false, false, false, false, false, false, false, false, false, false, false, false, false, false, false, false, false, false, false, false], [false, false, false, false, true, false, false, false, false, false, false, false, false, false, false, false, false, false, false, false, false, false, false, false, false, false, false, false, false, false, false, false, false, false, false, false, false, false, false, false, false, false, false, false, false, false, false, false, false, false, false, false, false, false, false, false, false, false, false, false, false, false, false, false, false, false, false, false, false, false, false, false, false, false, false, false, false, false, false, false, false, false, false, false, false, false, false, false, false, false, false, false, false, false, false, false, false, false, false, false, false, false, false, false, false, false, false, false, false, false, false, false, false, false, false], [false, false, false, false, true, false, false, false, false, false, false, false, false, false, false, false, false, false, false, false, false, false, false, false, false, false, false, false, false, false, false, false, false, false, false, false, false, false, false, false, false, false, false, false, false, false, false, false, false, false, false, false, false, false, false, false, false, false, false, false, false, false, false, false, false, false, false, false, false, false, false, false, false, false, false, false, false, false, false, false, false, false, false, false, false, false, false, false, false, false, false, false, false, false, false, false, false, false, false, false, false, false, false, false, false, false, false, false, false, false, false, false, false, false, false], [false, false, false, false, true, false, false, false, false, false, false, false, false, false, false, false, false, false, false, false, false, false, false, false, false, false, false, false, false, false, false, false, false, false, false, false, false, false, false, false, false, false, false, false, false, false, false, false, false, false, false, false, false, false, false, false, false, false, false, false, false, false, false, false, false, false, false, false, false, false, false, false, false, false, false, false, false, false, false, false, false, false, false, false, false, false, false, false, false, false, false, false, false, false, false, false, false, false, false, false, false, false, false, false, false, false, false, false, false, false, false, false, false, false, false]]
@[simp] def r33 : List Bool := [false, false, false, false, true, false, false, false, false, false, false, false, false, false, false, false, false, false, false, false, false, false, false, false, false, false, false, false, false, false, false, false, false, false, false, false, false, false, false, false, false, false, false, false, false, false, false, false, false, false, false, false, false, false, false, false, false, false, false, false, false, false, false, false, false, false, false, false, false, false, false, false, false, false, false, false, false, false, false, false, false, false, false, false, false, false, false, false, false, false, false, false, false, false, false, false, false, false, false, false, false, false, false, false, false, false, false, false, false, false, false, false, false, false, false]
@[simp] def R33 (s4 : V) : St := [.dead, .dead, .dead, .dead, s4, .dead, .dead, .dead, .dead, .dead, .dead, .dead, .dead, .dead, .dead, .dead, .dead, .dead, .dead, .dead, .dead, .dead, .dead, .dead, .dead, .dead, .dead, .dead, .dead, .dead, .dead, .dead, .dead, .dead, .dead, .dead, .dead, .dead, .dead, .dead, .dead, .dead, .dead, .dead, .dead, .dead, .dead, .dead, .dead, .dead, .dead, .dead, .dead, .dead, .dead, .dead, .dead, .dead, .dead, .dead, .dead, .dead, .dead, .dead, .dead, .dead, .dead, .dead, .dead, .dead, .dead, .dead, .dead, .dead, .dead, .dead, .dead, .dead, .dead, .dead, .dead, .dead, .dead, .dead, .dead, .dead, .dead, .dead, .dead, .dead, .dead, .dead, .dead, .dead, .dead, .dead, .dead, .dead, .dead, .dead, .dead, .dead, .dead, .dead, .dead, .dead, .dead, .dead, .dead, .dead, .dead, .dead, .dead, .dead, .dead]
@[simp] def x33_0 : List Bool := [false, false, false, false, false, false, false, false, false, false, false, false, false, false, false, false, false, false, false, false, false, false, false, false, false, false, false, false, false, false, false, false, false, false, false, false, false, false, false, false, false, false, false, false, false, false, false, false, false, false, false, false, false, false, false, false, false, false, false, false, false, false, false, false, false, false, false, false, false, false, false, false, false, false, false, false, false, false, false, false, false, false, false, false, false, false, false, false, false, false, false, false, false, false, false, false, false, false, false, false, false, false, false, false, false, false, false, false, false, false, false, false, false, false, false]
@[simp] def X33_0 : St := [.dead, .dead, .dead, .dead, .dead, .dead, .dead, .dead, .dead, .dead, .dead, .dead, .dead, .dead, .dead, .dead, .dead, .dead, .dead, .dead, .dead, .dead, .dead, .dead, .dead, .dead, .dead, .dead, .dead, .dead, .dead, .dead, .dead, .dead, .dead, .dead, .dead, .dead, .dead, .dead, .dead, .dead, .dead, .dead, .dead, .dead, .dead, .dead, .dead, .dead, .dead, .dead, .dead, .dead, .dead, .dead, .dead, .dead, .dead, .dead, .dead, .dead, .dead, .dead, .dead, .dead, .dead, .dead, .dead, .dead, .dead, .dead, .dead, .dead, .dead, .dead, .dead, .dead, .dead, .dead, .dead, .dead, .dead, .dead, .dead, .dead, .dead, .dead, .dead, .dead, .dead, .dead, .dead, .dead, .dead, .dead, .dead, .dead, .dead, .dead, .dead, .dead, .dead, .dead, .dead, .dead, .dead, .dead, .dead, .dead, .dead, .dead, .dead, .dead, .dead]
@[simp] def h33_0 : List Bool := [true, true, false, false, false, true, false, false, false, false, false, false, false, false, false, false, false, false, false, false, false, false, false, false, false, false, false, false, false, false, false, false, false, false, false, false, false, false, false, false, false, false, false, false, false, false, false, false, false, false, false, false, false, false, false, false, false, false, false, false, false, false, false, false, false, false, false, false, false, false, false, false, false, false, false, false, false, false, false, false, false, false, false, false, false, false, false, false, false, false, false, false, false, false, false, false, false, false, false, false, false, false, false, false, false, false, false, false, false, false, false, false, false, false, false]
@[simp] def L33_0 (s0 s1 s5 : V) : St := [s0, s1, .dead, .dead, .dead, s5, .dead, .dead, .dead, .dead, .dead, .dead, .dead, .dead, .dead, .dead, .dead, .dead, .dead, .dead, .dead, .dead, .dead, .dead, .dead, .dead, .dead, .dead, .dead, .dead, .dead, .dead, .dead, .dead, .dead, .dead, .dead, .dead, .dead, .dead, .dead, .dead, .dead, .dead, .dead, .dead, .dead, .dead, .dead, .dead, .dead, .dead, .dead, .dead, .dead, .dead, .dead, .dead, .dead, .dead, .dead, .dead, .dead, .dead, .dead, .dead, .dead, .dead, .dead, .dead, .dead, .dead, .dead, .dead, .dead, .dead, .dead, .dead, .dead, .dead, .dead, .dead, .dead, .dead, .dead, .dead, .dead, .dead, .dead, .dead, .dead, .dead, .dead, .dead, .dead, .dead, .dead, .dead, .dead, .dead, .dead, .dead, .dead, .dead, .dead, .dead, .dead, .dead, .dead, .dead, .dead, .dead, .dead, .dead, .dead]
@[simp] def x33_1 : List Bool := [true, true, false, false, false, true, false, false, false, false, false, false, false, false, false, false, false, false, false, false, false, false, false, false, false, false, false, false, false, false, false, false, false, false, false, false, false, false, false, false, false, false, false, false, false, false, false, false, false, false, false, false, false, false, false, false, false, false, false, false, false, false, false, false, false, false, false, false, false, false, false, false, false, false, false, false, false, false, false, false, false, false, false, false, false, false, false, false, false, false, false, false, false, false, false, false, false, false, false, false, false, false, false, false, false, false, false, false, false, false, false, false, false, false, false]
@[simp] def X33_1 (s0 s1 s5 : V) : St := [s0, s1, .dead, .dead, .dead, s5, .dead, .dead, .dead, .dead, .dead, .dead, .dead, .dead, .dead, .dead, .dead, .dead, .dead, .dead, .dead, .dead, .dead, .dead, .dead, .dead, .dead, .dead, .dead, .dead, .dead, .dead, .dead, .dead, .dead, .dead, .dead, .dead, .dead, .dead, .dead, .dead, .dead, .dead, .dead, .dead, .dead, .dead, .dead, .dead, .dead, .dead, .dead, .dead, .dead, .dead, .dead, .dead, .dead, .dead, .dead, .dead, .dead, .dead, .dead, .dead, .dead, .dead, .dead, .dead, .dead, .dead, .dead, .dead, .dead, .dead, .dead, .dead, .dead, .dead, .dead, .dead, .dead, .dead, .dead, .dead, .dead, .dead, .dead, .dead, .dead, .dead, .dead, .dead, .dead, .dead, .dead, .dead, .dead, .dead, .dead, .dead, .dead, .dead, .dead, .dead, .dead, .dead, .dead, .dead, .dead, .dead, .dead, .dead, .dead]
def b33_0 : MC := .seq (.scr h33_0)
 (.seq (.seq (.ops [⟨none, .mv 20 (.t 5)⟩,
    ⟨none, .mv 21 (.t 1)⟩,
    ⟨none, .len 22 false (.t 21)⟩,
    ⟨none, .bin 23 .lss .num (.t 20) (.t 22)⟩])
  (.cnd (.t 23)
   .skip
   (.seq (.scr x33_0) (.ex 0))))
 (.seq (.seq (.blk 1 (.seq (.seq (.drw [⟨none, .mv 26 (.t 1)⟩,
      ⟨none, .mv 27 (.t 5)⟩,
      ⟨none, .ixs 28 2 (.t 26) (.t 27)⟩,
      ⟨none, .fa 29 0 (.t 28)⟩,
      ⟨none, .ld1 30 (.t 29)⟩,
      ⟨none, .bin 31 .lss .num (.t 30) (.c (.v (.int .i64 0)))⟩,
      ⟨none, .mv 32 (.t 31)⟩,
      ⟨some (32, false), .mv 33 (.t 1)⟩,
      ⟨some (32, false), .mv 34 (.t 5)⟩,
      ⟨some (32, false), .ixs 35 2 (.t 33) (.t 34)⟩,
      ⟨some (32, false), .fa 36 0 (.t 35)⟩,
      ⟨some (32, false), .ld1 37 (.t 36)⟩,
      ⟨some (32, false), .mv 38 (.t 0)⟩,
      ⟨some (32, false), .bin 39 .geq .num (.t 37) (.t 38)⟩,
      ⟨none, .pick 40 (.t 32) (.c (.v (.bool true))) (.t 39)⟩,
      ⟨none, .mv 41 (.t 40)⟩,
      ⟨some (41, false), .mv 42 (.t 1)⟩,
      ⟨some (41, false), .mv 43 (.t 5)⟩,
      ⟨some (41, false), .ixs 44 2 (.t 42) (.t 43)⟩,
      ⟨some (41, false), .fa 45 1 (.t 44)⟩,
      ⟨some (41, false), .ld1 46 (.t 45)⟩,
      ⟨some (41, false), .bin 47 .lss .num (.t 46) (.c (.v (.int .i64 0)))⟩,
      ⟨none, .pick 48 (.t 41) (.c (.v (.bool true))) (.t 47)⟩,
      ⟨none, .mv 49 (.t 48)⟩,
      ⟨some (49, false), .mv 50 (.t 1)⟩,
      ⟨some (49, false), .mv 51 (.t 5)⟩,
      ⟨some (49, false), .ixs 52 2 (.t 50) (.t 51)⟩,
      ⟨some (49, false), .fa 53 1 (.t 52)⟩,
      ⟨some (49, false), .ld1 54 (.t 53)⟩,
      ⟨some (49, false), .mv 55 (.t 0)⟩,
      ⟨some (49, false), .bin 56 .geq .num (.t 54) (.t 55)⟩,
      ⟨none, .pick 57 (.t 49) (.c (.v (.bool true))) (.t 56)⟩,
      ⟨none, .mv 58 (.t 57)⟩,
      ⟨some (58, false), .mv 59 (.t 1)⟩,
      ⟨some (58, false), .mv 60 (.t 5)⟩,
      ⟨some (58, false), .ixs 61 2 (.t 59) (.t 60)⟩,
      ⟨some (58, false), .fa 62 0 (.t 61)⟩,
      ⟨some (58, false), .ld1 63 (.t 62)⟩,
      ⟨some (58, false), .mv 64 (.t 1)⟩,
      ⟨some (58, false), .mv 65 (.t 5)⟩,
      ⟨some (58, false), .ixs 66 2 (.t 64) (.t 65)⟩,
      ⟨some (58, false), .fa 67 1 (.t 66)⟩,
      ⟨some (58, false), .ld1 68 (.t 67)⟩] [⟨some (58, false), .bin 69 .eql .num (.t 63) (.t 68)⟩,
      ⟨none, .pick 70 (.t 58) (.c (.v (.bool true))) (.t 69)⟩])
    (.cnd (.t 70)
     (.seq (.ops [⟨none, .asg 4 (.c (.v (.bool false)))⟩])
     (.seq (.scr r33) .ret))
     .skip))
   (.seq (.drw [⟨none, .mv 71 (.t 5)⟩,
     ⟨none, .bin 72 .gtr .num (.t 71) (.c (.v (.int .i64 0)))⟩,
     ⟨none, .mv 73 (.t 72)⟩,
     ⟨some (73, true), .mv 74 (.t 1)⟩,
     ⟨some (73, true), .mv 75 (.t 5)⟩,
     ⟨some (73, true), .ixs 76 2 (.t 74) (.t 75)⟩,
     ⟨some (73, true), .fa 77 0 (.t 76)⟩,
     ⟨some (73, true), .ld1 78 (.t 77)⟩,
     ⟨some (73, true), .mv 79 (.t 1)⟩,
     ⟨some (73, true), .mv 80 (.t 5)⟩,
     ⟨some (73, true), .bin 81 .sub .num (.t 80) (.c (.v (.int .i64 1)))⟩,
     ⟨some (73, true), .ixs 82 2 (.t 79) (.t 81)⟩,
     ⟨some (73, true), .fa 83 0 (.t 82)⟩,
     ⟨some (73, true), .ld1 84 (.t 83)⟩,
     ⟨some (73, true), .bin 85 .lss .num (.t 78) (.t 84)⟩,
     ⟨some (73, true), .mv 86 (.t 85)⟩,
     ⟨some (86, false), .mv 87 (.t 1)⟩,
     ⟨some (86, false), .mv 88 (.t 5)⟩,
     ⟨some (86, false), .ixs 89 2 (.t 87) (.t 88)⟩,
     ⟨some (86, false), .fa 90 0 (.t 89)⟩,
     ⟨some (86, false), .ld1 91 (.t 90)⟩,
     ⟨some (86, false), .mv 92 (.t 1)⟩,
     ⟨some (86, false), .mv 93 (.t 5)⟩,
     ⟨some (86, false), .bin 94 .sub .num (.t 93) (.c (.v (.int .i64 1)))⟩,
     ⟨some (86, false), .ixs 95 2 (.t 92) (.t 94)⟩,
     ⟨some (86, false), .fa 96 0 (.t 95)⟩,
     ⟨some (86, false), .ld1 97 (.t 96)⟩,
     ⟨some (86, false), .bin 98 .eql .num (.t 91) (.t 97)⟩,
     ⟨some (86, false), .mv 99 (.t 98)⟩,
     ⟨some (99, true), .mv 100 (.t 1)⟩,
     ⟨some (99, true), .mv 101 (.t 5)⟩,
     ⟨some (99, true), .ixs 102 2 (.t 100) (.t 101)⟩,
     ⟨some (99, true), .fa 103 1 (.t 102)⟩,
     ⟨some (99, true), .ld1 104 (.t 103)⟩,
     ⟨some (99, true), .mv 105 (.t 1)⟩,
     ⟨some (99, true), .mv 106 (.t 5)⟩,
     ⟨some (99, true), .bin 107 .sub .num (.t 106) (.c (.v (.int .i64 1)))⟩,
     ⟨some (99, true), .ixs 108 2 (.t 105) (.t 107)⟩,
     ⟨some (99, true), .fa 109 1 (.t 108)⟩,
     ⟨some (99, true), .ld1 110 (.t 109)⟩] [⟨some (99, true), .bin 111 .leq .num (.t 104) (.t 110)⟩,
     ⟨some (86, false), .pick 112 (.t 99) (.t 111) (.c (.v (.bool false)))⟩,
     ⟨some (73, true), .pick 113 (.t 86) (.c (.v (.bool true))) (.t 112)⟩,
     ⟨none, .pick 114 (.t 73) (.t 113) (.c (.v (.bool false)))⟩])
   (.cnd (.t 114)
    (.seq (.ops [⟨none, .asg 4 (.c (.v (.bool false)))⟩])
    (.seq (.scr r33) .ret))
    .skip)))) (.scr x33_1))
 (.ops [⟨none, .mv 24 (.t 5)⟩,
  ⟨none, .bin 25 .add .num (.t 24) (.c (.v (.int .i64 1)))⟩,
  ⟨none, .asg 5 (.t 25)⟩])))
def c33 : MF := ⟨(.seq (.ops [⟨none, .asg 4 (.c (.v (.bool false)))⟩])
 (.seq (.seq (.ops [⟨none, .mv 6 (.t 0)⟩,
    ⟨none, .bin 7 .lss .num (.t 6) (.c (.v (.int .i64 0)))⟩,
    ⟨none, .mv 8 (.t 7)⟩,
    ⟨some (8, false), .mv 9 (.t 0)⟩,
    ⟨some (8, false), .bin 10 .gtr .num (.t 9) (.c (.v (.int .i64 24)))⟩,
    ⟨none, .pick 11 (.t 8) (.c (.v (.bool true))) (.t 10)⟩,
    ⟨none, .mv 12 (.t 11)⟩,
    ⟨some (12, false), .mv 13 (.t 1)⟩,
    ⟨some (12, false), .len 14 false (.t 13)⟩,
    ⟨some (12, false), .mv 15 (.t 0)⟩,
    ⟨some (12, false), .mv 16 (.t 0)⟩,
    ⟨some (12, false), .bin 17 .mul .num (.t 15) (.t 16)⟩,
    ⟨some (12, false), .bin 18 .gtr .num (.t 14) (.t 17)⟩,
    ⟨none, .pick 19 (.t 12) (.c (.v (.bool true))) (.t 18)⟩])
  (.cnd (.t 19)
   (.seq (.ops [⟨none, .asg 4 (.c (.v (.bool false)))⟩])
   (.seq (.scr r33) .ret))
   .skip))
 (.seq (.seq (.ops [⟨none, .asg 5 (.c (.v (.int .i64 0)))⟩])
  (.seq (.blk 0 (.lop b33_0)) (.scr x33_0)))
 (.seq (.ops [⟨none, .asg 4 (.c (.v (.bool true)))⟩])
 (.seq (.scr r33) .ret))))),
  115, [4]⟩

/-- coinage/poset.acyclic -/
def hints34 : List (List Bool) := [[false, false, false, false, false, false, false, false, false, false, false, false, false, false, false, false], [true, false, false, false, false, true, true, true, false, false, false, false, false, false, false, false], [false, false, false, false, false, false, false, false, false, false, false, false, false, false, false, false], [true, false, false, false, false, true, true, true, false, false, false, false, false, false, false, false], [false, false, true, false, false, false, false, false, false, false, false, false, false, false, false, false], [false, false, true, false, false, false, false, false, false, false, false, false, false, false, false, false]]
@[simp] def r34 : List Bool := [false, false, true, false, false, false, false, false, false, false, false, false, false, false, false, false]
@[simp] def R34 (s2 : V) : St := [.dead, .dead, s2, .dead, .dead, .dead, .dead, .dead, .dead, .dead, .dead, .dead, .dead, .dead, .dead, .dead]
@[simp] def x34_0 : List Bool := [false, false, false, false, false, false, false, false, false, false, false, false, false, false, false, false]
@[simp] def X34_0 : St := [.dead, .dead, .dead, .dead, .dead, .dead, .dead, .dead, .dead, .dead, .dead, .dead, .dead, .dead, .dead, .dead]
@[simp] def h34_0 : List Bool := [true, false, false, false, false, true, true, true, false, false, false, false, false, false, false, false]
@[simp] def L34_0 (s0 s5 s6 s7 : V) : St := [s0, .dead, .dead, .dead, .dead, s5, s6, s7, .dead, .dead, .dead, .dead, .dead, .dead, .dead, .dead]
@[simp] def x34_1 : List Bool := [true, false, false, false, false, true, true, true, false, false, false, false, false, false, false, false]
@[simp] def X34_1 (s0 s5 s6 s7 : V) : St := [s0, .dead, .dead, .dead, .dead, s5, s6, s7, .dead, .dead, .dead, .dead, .dead, .dead, .dead, .dead]
def b34_0 : MC := .seq (.scr h34_0)
 (.seq (.ops [⟨none, .bin 8 .lss .num (.t 7) (.t 6)⟩])
 (.seq (.cnd (.t 8)
   .skip
   (.seq (.scr x34_0) (.ex 0)))
 (.seq (.seq (.blk 1 (.seq (.ops [⟨none, .mv 9 (.t 7)⟩,
     ⟨none, .ixs 10 1 (.t 5) (.t 7)⟩,
     ⟨none, .ld1 11 (.t 10)⟩,
     ⟨none, .asg 3 (.t 9)⟩,
     ⟨none, .asg 4 (.t 11)⟩])
   (.seq (.ops [⟨none, .mv 12 (.t 4)⟩,
     ⟨none, .mv 13 (.t 3)⟩,
     ⟨none, .call (some 14) 28 [(.t 12), (.t 13)]⟩])
   (.cnd (.t 14)
    (.seq (.ops [⟨none, .asg 2 (.c (.v (.bool false)))⟩])
    (.seq (.scr r34) .ret))
    .skip)))) (.scr x34_1))
 (.ops [⟨none, .bin 15 .add .num (.t 7) (.c (.v (.int .i64 1)))⟩,
  ⟨none, .mv 7 (.t 15)⟩]))))
def c34 : MF := ⟨(.seq (.ops [⟨none, .asg 2 (.c (.v (.bool false)))⟩])
 (.seq (.seq (.ops [⟨none, .mv 5 (.t 0)⟩,
    ⟨none, .len 6 false (.t 5)⟩,
    ⟨none, .mv 7 (.c (.v (.int .i64 0)))⟩])
  (.seq (.blk 0 (.lop b34_0)) (.scr x34_0)))
 (.seq (.ops [⟨none, .asg 2 (.c (.v (.bool true)))⟩])
 (.seq (.scr r34) .ret)))),
  16, [2]⟩


theorem comp20 : compF Go.Proofs.Try.prog hints20 20 = some c20 := by kernel_rfl
theorem comp21 : compF Go.Proofs.Try.prog hints21 21 = some c21 := by kernel_rfl
theorem comp22 : compF Go.Proofs.Try.prog hints22 22 = some c22 := by kernel_rfl
theorem comp23 : compF Go.Proofs.Try.prog hints23 23 = some c23 := by kernel_rfl
theorem comp24 : compF Go.Proofs.Try.prog hints24 24 = some c24 := by kernel_rfl
theorem comp25 : compF Go.Proofs.Try.prog hints25 25 = some c25 := by kernel_rfl
theorem comp26 : compF Go.Proofs.Try.prog hints26 26 = some c26 := by kernel_rfl
theorem comp27 : compF Go.Proofs.Try.prog hints27 27 = some c27 := by kernel_rfl
theorem comp28 : compF Go.Proofs.Try.prog hints28 28 = some c28 := by kernel_rfl
theorem comp29 : compF Go.Proofs.Try.prog hints29 29 = some c29 := by kernel_rfl
theorem comp30 : compF Go.Proofs.Try.prog hints30 30 = some c30 := by kernel_rfl
theorem comp31 : compF Go.Proofs.Try.prog hints31 31 = some c31 := by kernel_rfl
theorem comp32 : compF Go.Proofs.Try.prog hints32 32 = some c32 := by kernel_rfl
theorem comp33 : compF Go.Proofs.Try.prog hints33 33 = some c33 := by kernel_rfl
theorem comp34 : compF Go.Proofs.Try.prog hints34 34 = some c34 := by kernel_rfl

end Go.Mx
