import Derived.Test.YtgbikojcpfdbiaaPoA2
/-
  The functions of this chapter in the machine's code, and that the given program's code is this one. Printed by a program of this repo (gencodes.py).
-/
namespace Go.Mx
set_option linter.unusedVariables false
set_option linter.unusedSimpArgs false
set_option linter.unusedSectionVars false
open Go

/-- coinage/coinageref06.Table -/
def hints35 : List (List Bool) := [[true, false, false, false, true, true, false, false, false, false, false, false, false, false, false, false, false, false, false, false, false, false, false, false, false, false, false, false, false, false, false, false, false, false, false, false, false, false, false, false, false, false, false, false, false, false, false, false, false, false, false, false, false, false, false, false, false, false, false, false], [true, true, false, false, true, true, true, false, false, false, false, false, false, false, false, false, false, false, false, false, false, false, false, false, false, false, false, false, false, false, false, false, false, false, false, false, false, false, false, false, false, false, false, false, false, false, false, false, false, false, false, false, false, false, false, false, false, false, false, false], [true, false, false, false, true, true, false, false, false, false, false, false, false, false, false, false, false, false, false, false, false, false, false, false, false, false, false, false, false, false, false, false, false, false, false, false, false, false, false, false, false, false, false, false, false, false, false, false, false, false, false, false, false, false, false, false, false, false, false, false], [true, true, false, false, true, true, true, false, false, false, false, false, false, false, false, false, false, false, false, false, false, false, false, false, false, false, false, false, false, false, false, false, false, false, false, false, false, false, false, false, false, false, false, false, false, false, false, false, false, false, false, false, false, false, false, false, false, false, false, false], [false, false, false, false, true, true, false, false, false, false, false, false, false, false, false, false, false, false, false, false, false, false, false, false, false, false, false, false, false, false, false, false, false, false, false, false, false, false, false, false, false, false, false, false, false, false, false, false, false, false, false, false, false, false, false, false, false, false, false, false], [true, false, false, false, true, true, false, true, false, false, false, false, false, false, false, false, false, false, false, false, false, false, false, false, false, false, false, false, false, false, false, false, false, false, false, false, false, false, false, false, false, false, false, false, false, false, false, false, false, false, false, false, false, false, false, false, false, false, false, false], [false, false, false, false, true, true, false, false, false, false, false, false, false, false, false, false, false, false, false, false, false, false, false, false, false, false, false, false, false, false, false, false, false, false, false, false, false, false, false, false, false, false, false, false, false, false, false, false, false, false, false, false, false, false, false, false, false, false, false, false], [true, false, false, false, true, true, false, true, false, false, false, false, false, false, false, false, false, false, false, false, false, false, false, false, false, false, false, false, false, false, false, false, false, false, false, false, false, false, false, false, false, false, false, false, false, false, false, false, false, false, false, false, false, false, false, false, false, false, false, false], [true, false, false, false, true, true, false, true, false, false, false, false, false, false, false, false, false, false, false, false, false, false, false, false, false, false, false, false, false, false, false, false, false, false, false, false, false, false, false, false, false, false, false, false, false, false, false, false, false, false, false, false, false, false, false, false, false, false, false, false], [true, false, false, false, true, true, false, true, true, false, false, false, false, false, false, false, false, false, false, false, false, false, false, false, false, false, false, false, false, false, false, false, false, false, false, false, false, false, false, false, false, false, false, false, false, false, false, false, false, false, false, false, false, false, false, false, false, false, false, false], [true, false, false, false, true, true, false, true, false, false, false, false, false, false, false, false, false, false, false, false, false, false, false, false, false, false, false, false, false, false, false, false, false, false, false, false, false, false, false, false, false, false, false, false, false, false, false, false, false, false, false, false, false, false, false, false, false, false, false, false], [true, false, false, false, true, true, false, true, true, false, false, false, false, false, false, false, false, false, false, false, false, false, false, false, false, false, false, false, false, false, false, false, false, false, false, false, false, false, false, false, false, false, false, false, false, false, false, false, false, false, false, false, false, false, false, false, false, false, false, false], [true, false, false, false, true, true, false, true, true, false, false, false, false, false, false, false, false, false, false, false, false, false, false, false, false, false, false, false, false, false, false, false, false, false, false, false, false, false, false, false, false, false, false, false, false, false, false, false, false, false, false, false, false, false, false, false, false, false, false, false], [true, false, false, false, true, true, false, true, true, true, false, false, false, false, false, false, false, false, false, false, false, false, false, false, false, false, false, false, false, false, false, false, false, false, false, false, false, false, false, false, false, false, false, false, false, false, false, false, false, false, false, false, false, false, false, false, false, false, false, false], [true, false, false, false, true, true, false, true, true, false, false, false, false, false, false, false, false, false, false, false, false, false, false, false, false, false, false, false, false, false, false, false, false, false, false, false, false, false, false, false, false, false, false, false, false, false, false, false, false, false, false, false, false, false, false, false, false, false, false, false], [true, false, false, false, true, true, false, true, true, true, false, false, false, false, false, false, false, false, false, false, false, false, false, false, false, false, false, false, false, false, false, false, false, false, false, false, false, false, false, false, false, false, false, false, false, false, false, false, false, false, false, false, false, false, false, false, false, false, false, false], [false, false, false, false, true, false, false, false, false, false, false, false, false, false, false, false, false, false, false, false, false, false, false, false, false, false, false, false, false, false, false, false, false, false, false, false, false, false, false, false, false, false, false, false, false, false, false, false, false, false, false, false, false, false, false, false, false, false, false, false]]
@[simp] def r35 : List Bool := [false, false, false, false, true, false, false, false, false, false, false, false, false, false, false, false, false, false, false, false, false, false, false, false, false, false, false, false, false, false, false, false, false, false, false, false, false, false, false, false, false, false, false, false, false, false, false, false, false, false, false, false, false, false, false, false, false, false, false, false]
@[simp] def R35 (s4 : V) : St := [.dead, .dead, .dead, .dead, s4, .dead, .dead, .dead, .dead, .dead, .dead, .dead, .dead, .dead, .dead, .dead, .dead, .dead, .dead, .dead, .dead, .dead, .dead, .dead, .dead, .dead, .dead, .dead, .dead, .dead, .dead, .dead, .dead, .dead, .dead, .dead, .dead, .dead, .dead, .dead, .dead, .dead, .dead, .dead, .dead, .dead, .dead, .dead, .dead, .dead, .dead, .dead, .dead, .dead, .dead, .dead, .dead, .dead, .dead, .dead]
@[simp] def x35_0 : List Bool := [true, false, false, false, true, true, false, false, false, false, false, false, false, false, false, false, false, false, false, false, false, false, false, false, false, false, false, false, false, false, false, false, false, false, false, false, false, false, false, false, false, false, false, false, false, false, false, false, false, false, false, false, false, false, false, false, false, false, false, false]
@[simp] def X35_0 (s0 s4 s5 : V) : St := [s0, .dead, .dead, .dead, s4, s5, .dead, .dead, .dead, .dead, .dead, .dead, .dead, .dead, .dead, .dead, .dead, .dead, .dead, .dead, .dead, .dead, .dead, .dead, .dead, .dead, .dead, .dead, .dead, .dead, .dead, .dead, .dead, .dead, .dead, .dead, .dead, .dead, .dead, .dead, .dead, .dead, .dead, .dead, .dead, .dead, .dead, .dead, .dead, .dead, .dead, .dead, .dead, .dead, .dead, .dead, .dead, .dead, .dead, .dead]
@[simp] def h35_0 : List Bool := [true, true, false, false, true, true, true, false, false, false, false, false, false, false, false, false, false, false, false, false, false, false, false, false, false, false, false, false, false, false, false, false, false, false, false, false, false, false, false, false, false, false, false, false, false, false, false, false, false, false, false, false, false, false, false, false, false, false, false, false]
@[simp] def L35_0 (s0 s1 s4 s5 s6 : V) : St := [s0, s1, .dead, .dead, s4, s5, s6, .dead, .dead, .dead, .dead, .dead, .dead, .dead, .dead, .dead, .dead, .dead, .dead, .dead, .dead, .dead, .dead, .dead, .dead, .dead, .dead, .dead, .dead, .dead, .dead, .dead, .dead, .dead, .dead, .dead, .dead, .dead, .dead, .dead, .dead, .dead, .dead, .dead, .dead, .dead, .dead, .dead, .dead, .dead, .dead, .dead, .dead, .dead, .dead, .dead, .dead, .dead, .dead, .dead]
@[simp] def x35_1 : List Bool := [true, true, false, false, true, true, true, false, false, false, false, false, false, false, false, false, false, false, false, false, false, false, false, false, false, false, false, false, false, false, false, false, false, false, false, false, false, false, false, false, false, false, false, false, false, false, false, false, false, false, false, false, false, false, false, false, false, false, false, false]
@[simp] def X35_1 (s0 s1 s4 s5 s6 : V) : St := [s0, s1, .dead, .dead, s4, s5, s6, .dead, .dead, .dead, .dead, .dead, .dead, .dead, .dead, .dead, .dead, .dead, .dead, .dead, .dead, .dead, .dead, .dead, .dead, .dead, .dead, .dead, .dead, .dead, .dead, .dead, .dead, .dead, .dead, .dead, .dead, .dead, .dead, .dead, .dead, .dead, .dead, .dead, .dead, .dead, .dead, .dead, .dead, .dead, .dead, .dead, .dead, .dead, .dead, .dead, .dead, .dead, .dead, .dead]
def b35_0 : MC := .seq (.scr h35_0)
 (.seq (.seq (.ops [⟨none, .mv 10 (.t 6)⟩,
    ⟨none, .mv 11 (.t 1)⟩,
    ⟨none, .len 12 false (.t 11)⟩,
    ⟨none, .bin 13 .lss .num (.t 10) (.t 12)⟩])
  (.cnd (.t 13)
   .skip
   (.seq (.scr x35_0) (.ex 0))))
 (.seq (.seq (.blk 1 (.drw [⟨none, .mv 16 (.t 1)⟩,
    ⟨none, .mv 17 (.t 6)⟩,
    ⟨none, .ixs 18 2 (.t 16) (.t 17)⟩,
    ⟨none, .fa 19 0 (.t 18)⟩,
    ⟨none, .ld1 20 (.t 19)⟩,
    ⟨none, .mv 21 (.t 1)⟩,
    ⟨none, .mv 22 (.t 6)⟩,
    ⟨none, .ixs 23 2 (.t 21) (.t 22)⟩,
    ⟨none, .fa 24 1 (.t 23)⟩,
    ⟨none, .ld1 25 (.t 24)⟩,
    ⟨none, .ixa 26 24 24 (.t 5) (.t 20)⟩] [⟨none, .ixa 27 1 24 (.t 26) (.t 25)⟩,
    ⟨none, .stn none 1 (.t 27) (.c (.v (.bool true)))⟩])) (.scr x35_1))
 (.ops [⟨none, .mv 14 (.t 6)⟩,
  ⟨none, .bin 15 .add .num (.t 14) (.c (.v (.int .i64 1)))⟩,
  ⟨none, .asg 6 (.t 15)⟩])))
@[simp] def x35_2 : List Bool := [false, false, false, false, true, true, false, false, false, false, false, false, false, false, false, false, false, false, false, false, false, false, false, false, false, false, false, false, false, false, false, false, false, false, false, false, false, false, false, false, false, false, false, false, false, false, false, false, false, false, false, false, false, false, false, false, false, false, false, false]
@[simp] def X35_2 (s4 s5 : V) : St := [.dead, .dead, .dead, .dead, s4, s5, .dead, .dead, .dead, .dead, .dead, .dead, .dead, .dead, .dead, .dead, .dead, .dead, .dead, .dead, .dead, .dead, .dead, .dead, .dead, .dead, .dead, .dead, .dead, .dead, .dead, .dead, .dead, .dead, .dead, .dead, .dead, .dead, .dead, .dead, .dead, .dead, .dead, .dead, .dead, .dead, .dead, .dead, .dead, .dead, .dead, .dead, .dead, .dead, .dead, .dead, .dead, .dead, .dead, .dead]
@[simp] def h35_1 : List Bool := [true, false, false, false, true, true, false, true, false, false, false, false, false, false, false, false, false, false, false, false, false, false, false, false, false, false, false, false, false, false, false, false, false, false, false, false, false, false, false, false, false, false, false, false, false, false, false, false, false, false, false, false, false, false, false, false, false, false, false, false]
@[simp] def L35_1 (s0 s4 s5 s7 : V) : St := [s0, .dead, .dead, .dead, s4, s5, .dead, s7, .dead, .dead, .dead, .dead, .dead, .dead, .dead, .dead, .dead, .dead, .dead, .dead, .dead, .dead, .dead, .dead, .dead, .dead, .dead, .dead, .dead, .dead, .dead, .dead, .dead, .dead, .dead, .dead, .dead, .dead, .dead, .dead, .dead, .dead, .dead, .dead, .dead, .dead, .dead, .dead, .dead, .dead, .dead, .dead, .dead, .dead, .dead, .dead, .dead, .dead, .dead, .dead]
@[simp] def x35_3 : List Bool := [true, false, false, false, true, true, false, true, false, false, false, false, false, false, false, false, false, false, false, false, false, false, false, false, false, false, false, false, false, false, false, false, false, false, false, false, false, false, false, false, false, false, false, false, false, false, false, false, false, false, false, false, false, false, false, false, false, false, false, false]
@[simp] def X35_3 (s0 s4 s5 s7 : V) : St := [s0, .dead, .dead, .dead, s4, s5, .dead, s7, .dead, .dead, .dead, .dead, .dead, .dead, .dead, .dead, .dead, .dead, .dead, .dead, .dead, .dead, .dead, .dead, .dead, .dead, .dead, .dead, .dead, .dead, .dead, .dead, .dead, .dead, .dead, .dead, .dead, .dead, .dead, .dead, .dead, .dead, .dead, .dead, .dead, .dead, .dead, .dead, .dead, .dead, .dead, .dead, .dead, .dead, .dead, .dead, .dead, .dead, .dead, .dead]
@[simp] def x35_4 : List Bool := [true, false, false, false, true, true, false, true, false, false, false, false, false, false, false, false, false, false, false, false, false, false, false, false, false, false, false, false, false, false, false, false, false, false, false, false, false, false, false, false, false, false, false, false, false, false, false, false, false, false, false, false, false, false, false, false, false, false, false, false]
@[simp] def X35_4 (s0 s4 s5 s7 : V) : St := [s0, .dead, .dead, .dead, s4, s5, .dead, s7, .dead, .dead, .dead, .dead, .dead, .dead, .dead, .dead, .dead, .dead, .dead, .dead, .dead, .dead, .dead, .dead, .dead, .dead, .dead, .dead, .dead, .dead, .dead, .dead, .dead, .dead, .dead, .dead, .dead, .dead, .dead, .dead, .dead, .dead, .dead, .dead, .dead, .dead, .dead, .dead, .dead, .dead, .dead, .dead, .dead, .dead, .dead, .dead, .dead, .dead, .dead, .dead]
@[simp] def h35_2 : List Bool := [true, false, false, false, true, true, false, true, true, false, false, false, false, false, false, false, false, false, false, false, false, false, false, false, false, false, false, false, false, false, false, false, false, false, false, false, false, false, false, false, false, false, false, false, false, false, false, false, false, false, false, false, false, false, false, false, false, false, false, false]
@[simp] def L35_2 (s0 s4 s5 s7 s8 : V) : St := [s0, .dead, .dead, .dead, s4, s5, .dead, s7, s8, .dead, .dead, .dead, .dead, .dead, .dead, .dead, .dead, .dead, .dead, .dead, .dead, .dead, .dead, .dead, .dead, .dead, .dead, .dead, .dead, .dead, .dead, .dead, .dead, .dead, .dead, .dead, .dead, .dead, .dead, .dead, .dead, .dead, .dead, .dead, .dead, .dead, .dead, .dead, .dead, .dead, .dead, .dead, .dead, .dead, .dead, .dead, .dead, .dead, .dead, .dead]
@[simp] def x35_5 : List Bool := [true, false, false, false, true, true, false, true, true, false, false, false, false, false, false, false, false, false, false, false, false, false, false, false, false, false, false, false, false, false, false, false, false, false, false, false, false, false, false, false, false, false, false, false, false, false, false, false, false, false, false, false, false, false, false, false, false, false, false, false]
@[simp] def X35_5 (s0 s4 s5 s7 s8 : V) : St := [s0, .dead, .dead, .dead, s4, s5, .dead, s7, s8, .dead, .dead, .dead, .dead, .dead, .dead, .dead, .dead, .dead, .dead, .dead, .dead, .dead, .dead, .dead, .dead, .dead, .dead, .dead, .dead, .dead, .dead, .dead, .dead, .dead, .dead, .dead, .dead, .dead, .dead, .dead, .dead, .dead, .dead, .dead, .dead, .dead, .dead, .dead, .dead, .dead, .dead, .dead, .dead, .dead, .dead, .dead, .dead, .dead, .dead, .dead]
@[simp] def x35_6 : List Bool := [true, false, false, false, true, true, false, true, true, false, false, false, false, false, false, false, false, false, false, false, false, false, false, false, false, false, false, false, false, false, false, false, false, false, false, false, false, false, false, false, false, false, false, false, false, false, false, false, false, false, false, false, false, false, false, false, false, false, false, false]
@[simp] def X35_6 (s0 s4 s5 s7 s8 : V) : St := [s0, .dead, .dead, .dead, s4, s5, .dead, s7, s8, .dead, .dead, .dead, .dead, .dead, .dead, .dead, .dead, .dead, .dead, .dead, .dead, .dead, .dead, .dead, .dead, .dead, .dead, .dead, .dead, .dead, .dead, .dead, .dead, .dead, .dead, .dead, .dead, .dead, .dead, .dead, .dead, .dead, .dead, .dead, .dead, .dead, .dead, .dead, .dead, .dead, .dead, .dead, .dead, .dead, .dead, .dead, .dead, .dead, .dead, .dead]
@[simp] def h35_3 : List Bool := [true, false, false, false, true, true, false, true, true, true, false, false, false, false, false, false, false, false, false, false, false, false, false, false, false, false, false, false, false, false, false, false, false, false, false, false, false, false, false, false, false, false, false, false, false, false, false, false, false, false, false, false, false, false, false, false, false, false, false, false]
@[simp] def L35_3 (s0 s4 s5 s7 s8 s9 : V) : St := [s0, .dead, .dead, .dead, s4, s5, .dead, s7, s8, s9, .dead, .dead, .dead, .dead, .dead, .dead, .dead, .dead, .dead, .dead, .dead, .dead, .dead, .dead, .dead, .dead, .dead, .dead, .dead, .dead, .dead, .dead, .dead, .dead, .dead, .dead, .dead, .dead, .dead, .dead, .dead, .dead, .dead, .dead, .dead, .dead, .dead, .dead, .dead, .dead, .dead, .dead, .dead, .dead, .dead, .dead, .dead, .dead, .dead, .dead]
@[simp] def x35_7 : List Bool := [true, false, false, false, true, true, false, true, true, true, false, false, false, false, false, false, false, false, false, false, false, false, false, false, false, false, false, false, false, false, false, false, false, false, false, false, false, false, false, false, false, false, false, false, false, false, false, false, false, false, false, false, false, false, false, false, false, false, false, false]
@[simp] def X35_7 (s0 s4 s5 s7 s8 s9 : V) : St := [s0, .dead, .dead, .dead, s4, s5, .dead, s7, s8, s9, .dead, .dead, .dead, .dead, .dead, .dead, .dead, .dead, .dead, .dead, .dead, .dead, .dead, .dead, .dead, .dead, .dead, .dead, .dead, .dead, .dead, .dead, .dead, .dead, .dead, .dead, .dead, .dead, .dead, .dead, .dead, .dead, .dead, .dead, .dead, .dead, .dead, .dead, .dead, .dead, .dead, .dead, .dead, .dead, .dead, .dead, .dead, .dead, .dead, .dead]
def b35_3 : MC := .seq (.scr h35_3)
 (.seq (.seq (.ops [⟨none, .mv 38 (.t 9)⟩,
    ⟨none, .mv 39 (.t 0)⟩,
    ⟨none, .bin 40 .lss .num (.t 38) (.t 39)⟩])
  (.cnd (.t 40)
   .skip
   (.seq (.scr x35_6) (.ex 6))))
 (.seq (.seq (.blk 7 (.seq (.ops [⟨none, .mv 43 (.t 8)⟩,
     ⟨none, .mv 44 (.t 7)⟩,
     ⟨none, .ixa 45 24 24 (.t 5) (.t 43)⟩,
     ⟨none, .ixa 46 1 24 (.t 45) (.t 44)⟩,
     ⟨none, .ld1 47 (.t 46)⟩,
     ⟨none, .mv 48 (.t 47)⟩,
     ⟨some (48, true), .mv 49 (.t 7)⟩,
     ⟨some (48, true), .mv 50 (.t 9)⟩,
     ⟨some (48, true), .ixa 51 24 24 (.t 5) (.t 49)⟩,
     ⟨some (48, true), .ixa 52 1 24 (.t 51) (.t 50)⟩,
     ⟨some (48, true), .ld1 53 (.t 52)⟩,
     ⟨none, .pick 54 (.t 48) (.t 53) (.c (.v (.bool false)))⟩])
   (.cnd (.t 54)
    (.ops [⟨none, .mv 55 (.t 8)⟩,
     ⟨none, .mv 56 (.t 9)⟩,
     ⟨none, .ixa 57 24 24 (.t 5) (.t 55)⟩,
     ⟨none, .ixa 58 1 24 (.t 57) (.t 56)⟩,
     ⟨none, .stn none 1 (.t 58) (.c (.v (.bool true)))⟩])
    .skip))) (.scr x35_7))
 (.ops [⟨none, .mv 41 (.t 9)⟩,
  ⟨none, .bin 42 .add .num (.t 41) (.c (.v (.int .i64 1)))⟩,
  ⟨none, .asg 9 (.t 42)⟩])))
def b35_2 : MC := .seq (.scr h35_2)
 (.seq (.seq (.ops [⟨none, .mv 33 (.t 8)⟩,
    ⟨none, .mv 34 (.t 0)⟩,
    ⟨none, .bin 35 .lss .num (.t 33) (.t 34)⟩])
  (.cnd (.t 35)
   .skip
   (.seq (.scr x35_4) (.ex 4))))
 (.seq (.seq (.blk 5 (.seq (.ops [⟨none, .asg 9 (.c (.v (.int .i64 0)))⟩])
   (.seq (.blk 6 (.lop b35_3)) (.scr x35_6)))) (.scr x35_5))
 (.ops [⟨none, .mv 36 (.t 8)⟩,
  ⟨none, .bin 37 .add .num (.t 36) (.c (.v (.int .i64 1)))⟩,
  ⟨none, .asg 8 (.t 37)⟩])))
def b35_1 : MC := .seq (.scr h35_1)
 (.seq (.seq (.ops [⟨none, .mv 28 (.t 7)⟩,
    ⟨none, .mv 29 (.t 0)⟩,
    ⟨none, .bin 30 .lss .num (.t 28) (.t 29)⟩])
  (.cnd (.t 30)
   .skip
   (.seq (.scr x35_2) (.ex 2))))
 (.seq (.seq (.blk 3 (.seq (.ops [⟨none, .asg 8 (.c (.v (.int .i64 0)))⟩])
   (.seq (.blk 4 (.lop b35_2)) (.scr x35_4)))) (.scr x35_3))
 (.ops [⟨none, .mv 31 (.t 7)⟩,
  ⟨none, .bin 32 .add .num (.t 31) (.c (.v (.int .i64 1)))⟩,
  ⟨none, .asg 7 (.t 32)⟩])))
def c35 : MF := ⟨(.seq (.ops [⟨none, .alc 4 [(.v (.bool false)), (.v (.bool false)), (.v (.bool false)), (.v (.bool false)), (.v (.bool false)), (.v (.bool false)), (.v (.bool false)), (.v (.bool false)), (.v (.bool false)), (.v (.bool false)), (.v (.bool false)), (.v (.bool false)), (.v (.bool false)), (.v (.bool false)), (.v (.bool false)), (.v (.bool false)), (.v (.bool false)), (.v (.bool false)), (.v (.bool false)), (.v (.bool false)), (.v (.bool false)), (.v (.bool false)), (.v (.bool false)), (.v (.bool false)), (.v (.bool false)), (.v (.bool false)), (.v (.bool false)), (.v (.bool false)), (.v (.bool false)), (.v (.bool false)), (.v (.bool false)), (.v (.bool false)), (.v (.bool false)), (.v (.bool false)), (.v (.bool false)), (.v (.bool false)), (.v (.bool false)), (.v (.bool false)), (.v (.bool false)), (.v (.bool false)), (.v (.bool false)), (.v (.bool false)), (.v (.bool false)), (.v (.bool false)), (.v (.bool false)), (.v (.bool false)), (.v (.bool false)), (.v (.bool false)), (.v (.bool false)), (.v (.bool false)), (.v (.bool false)), (.v (.bool false)), (.v (.bool false)), (.v (.bool false)), (.v (.bool false)), (.v (.bool false)), (.v (.bool false)), (.v (.bool false)), (.v (.bool false)), (.v (.bool false)), (.v (.bool false)), (.v (.bool false)), (.v (.bool false)), (.v (.bool false)), (.v (.bool false)), (.v (.bool false)), (.v (.bool false)), (.v (.bool false)), (.v (.bool false)), (.v (.bool false)), (.v (.bool false)), (.v (.bool false)), (.v (.bool false)), (.v (.bool false)), (.v (.bool false)), (.v (.bool false)), (.v (.bool false)), (.v (.bool false)), (.v (.bool false)), (.v (.bool false)), (.v (.bool false)), (.v (.bool false)), (.v (.bool false)), (.v (.bool false)), (.v (.bool false)), (.v (.bool false)), (.v (.bool false)), (.v (.bool false)), (.v (.bool false)), (.v (.bool false)), (.v (.bool false)), (.v (.bool false)), (.v (.bool false)), (.v (.bool false)), (.v (.bool false)), (.v (.bool false)), (.v (.bool false)), (.v (.bool false)), (.v (.bool false)), (.v (.bool false)), (.v (.bool false)), (.v (.bool false)), (.v (.bool false)), (.v (.bool false)), (.v (.bool false)), (.v (.bool false)), (.v (.bool false)), (.v (.bool false)), (.v (.bool false)), (.v (.bool false)), (.v (.bool false)), (.v (.bool false)), (.v (.bool false)), (.v (.bool false)), (.v (.bool false)), (.v (.bool false)), (.v (.bool false)), (.v (.bool false)), (.v (.bool false)), (.v (.bool false)), (.v (.bool false)), (.v (.bool false)), (.v (.bool false)), (.v (.bool false)), (.v (.bool false)), (.v (.bool false)), (.v (.bool false)), (.v (.bool false)), (.v (.bool false)), (.v (.bool false)), (.v (.bool false)), (.v (.bool false)), (.v (.bool false)), (.v (.bool false)), (.v (.bool false)), (.v (.bool false)), (.v (.bool false)), (.v (.bool false)), (.v (.bool false)), (.v (.bool false)), (.v (.bool false)), (.v (.bool false)), (.v (.bool false)), (.v (.bool false)), (.v (.bool false)), (.v (.bool false)), (.v (.bool false)), (.v (.bool false)), (.v (.bool false)), (.v (.bool false)), (.v (.bool false)), (.v (.bool false)), (.v (.bool false)), (.v (.bool false)), (.v (.bool false)), (.v (.bool false)), (.v (.bool false)), (.v (.bool false)), (.v (.bool false)), (.v (.bool false)), (.v (.bool false)), (.v (.bool false)), (.v (.bool false)), (.v (.bool false)), (.v (.bool false)), (.v (.bool false)), (.v (.bool false)), (.v (.bool false)), (.v (.bool false)), (.v (.bool false)), (.v (.bool false)), (.v (.bool false)), (.v (.bool false)), (.v (.bool false)), (.v (.bool false)), (.v (.bool false)), (.v (.bool false)), (.v (.bool false)), (.v (.bool false)), (.v (.bool false)), (.v (.bool false)), (.v (.bool false)), (.v (.bool false)), (.v (.bool false)), (.v (.bool false)), (.v (.bool false)), (.v (.bool false)), (.v (.bool false)), (.v (.bool false)), (.v (.bool false)), (.v (.bool false)), (.v (.bool false)), (.v (.bool false)), (.v (.bool false)), (.v (.bool false)), (.v (.bool false)), (.v (.bool false)), (.v (.bool false)), (.v (.bool false)), (.v (.bool false)), (.v (.bool false)), (.v (.bool false)), (.v (.bool false)), (.v (.bool false)), (.v (.bool false)), (.v (.bool false)), (.v (.bool false)), (.v (.bool false)), (.v (.bool false)), (.v (.bool false)), (.v (.bool false)), (.v (.bool false)), (.v (.bool false)), (.v (.bool false)), (.v (.bool false)), (.v (.bool false)), (.v (.bool false)), (.v (.bool false)), (.v (.bool false)), (.v (.bool false)), (.v (.bool false)), (.v (.bool false)), (.v (.bool false)), (.v (.bool false)), (.v (.bool false)), (.v (.bool false)), (.v (.bool false)), (.v (.bool false)), (.v (.bool false)), (.v (.bool false)), (.v (.bool false)), (.v (.bool false)), (.v (.bool false)), (.v (.bool false)), (.v (.bool false)), (.v (.bool false)), (.v (.bool false)), (.v (.bool false)), (.v (.bool false)), (.v (.bool false)), (.v (.bool false)), (.v (.bool false)), (.v (.bool false)), (.v (.bool false)), (.v (.bool false)), (.v (.bool false)), (.v (.bool false)), (.v (.bool false)), (.v (.bool false)), (.v (.bool false)), (.v (.bool false)), (.v (.bool false)), (.v (.bool false)), (.v (.bool false)), (.v (.bool false)), (.v (.bool false)), (.v (.bool false)), (.v (.bool false)), (.v (.bool false)), (.v (.bool false)), (.v (.bool false)), (.v (.bool false)), (.v (.bool false)), (.v (.bool false)), (.v (.bool false)), (.v (.bool false)), (.v (.bool false)), (.v (.bool false)), (.v (.bool false)), (.v (.bool false)), (.v (.bool false)), (.v (.bool false)), (.v (.bool false)), (.v (.bool false)), (.v (.bool false)), (.v (.bool false)), (.v (.bool false)), (.v (.bool false)), (.v (.bool false)), (.v (.bool false)), (.v (.bool false)), (.v (.bool false)), (.v (.bool false)), (.v (.bool false)), (.v (.bool false)), (.v (.bool false)), (.v (.bool false)), (.v (.bool false)), (.v (.bool false)), (.v (.bool false)), (.v (.bool false)), (.v (.bool false)), (.v (.bool false)), (.v (.bool false)), (.v (.bool false)), (.v (.bool false)), (.v (.bool false)), (.v (.bool false)), (.v (.bool false)), (.v (.bool false)), (.v (.bool false)), (.v (.bool false)), (.v (.bool false)), (.v (.bool false)), (.v (.bool false)), (.v (.bool false)), (.v (.bool false)), (.v (.bool false)), (.v (.bool false)), (.v (.bool false)), (.v (.bool false)), (.v (.bool false)), (.v (.bool false)), (.v (.bool false)), (.v (.bool false)), (.v (.bool false)), (.v (.bool false)), (.v (.bool false)), (.v (.bool false)), (.v (.bool false)), (.v (.bool false)), (.v (.bool false)), (.v (.bool false)), (.v (.bool false)), (.v (.bool false)), (.v (.bool false)), (.v (.bool false)), (.v (.bool false)), (.v (.bool false)), (.v (.bool false)), (.v (.bool false)), (.v (.bool false)), (.v (.bool false)), (.v (.bool false)), (.v (.bool false)), (.v (.bool false)), (.v (.bool false)), (.v (.bool false)), (.v (.bool false)), (.v (.bool false)), (.v (.bool false)), (.v (.bool false)), (.v (.bool false)), (.v (.bool false)), (.v (.bool false)), (.v (.bool false)), (.v (.bool false)), (.v (.bool false)), (.v (.bool false)), (.v (.bool false)), (.v (.bool false)), (.v (.bool false)), (.v (.bool false)), (.v (.bool false)), (.v (.bool false)), (.v (.bool false)), (.v (.bool false)), (.v (.bool false)), (.v (.bool false)), (.v (.bool false)), (.v (.bool false)), (.v (.bool false)), (.v (.bool false)), (.v (.bool false)), (.v (.bool false)), (.v (.bool false)), (.v (.bool false)), (.v (.bool false)), (.v (.bool false)), (.v (.bool false)), (.v (.bool false)), (.v (.bool false)), (.v (.bool false)), (.v (.bool false)), (.v (.bool false)), (.v (.bool false)), (.v (.bool false)), (.v (.bool false)), (.v (.bool false)), (.v (.bool false)), (.v (.bool false)), (.v (.bool false)), (.v (.bool false)), (.v (.bool false)), (.v (.bool false)), (.v (.bool false)), (.v (.bool false)), (.v (.bool false)), (.v (.bool false)), (.v (.bool false)), (.v (.bool false)), (.v (.bool false)), (.v (.bool false)), (.v (.bool false)), (.v (.bool false)), (.v (.bool false)), (.v (.bool false)), (.v (.bool false)), (.v (.bool false)), (.v (.bool false)), (.v (.bool false)), (.v (.bool false)), (.v (.bool false)), (.v (.bool false)), (.v (.bool false)), (.v (.bool false)), (.v (.bool false)), (.v (.bool false)), (.v (.bool false)), (.v (.bool false)), (.v (.bool false)), (.v (.bool false)), (.v (.bool false)), (.v (.bool false)), (.v (.bool false)), (.v (.bool false)), (.v (.bool false)), (.v (.bool false)), (.v (.bool false)), (.v (.bool false)), (.v (.bool false)), (.v (.bool false)), (.v (.bool false)), (.v (.bool false)), (.v (.bool false)), (.v (.bool false)), (.v (.bool false)), (.v (.bool false)), (.v (.bool false)), (.v (.bool false)), (.v (.bool false)), (.v (.bool false)), (.v (.bool false)), (.v (.bool false)), (.v (.bool false)), (.v (.bool false)), (.v (.bool false)), (.v (.bool false)), (.v (.bool false)), (.v (.bool false)), (.v (.bool false)), (.v (.bool false)), (.v (.bool false)), (.v (.bool false)), (.v (.bool false)), (.v (.bool false)), (.v (.bool false)), (.v (.bool false)), (.v (.bool false)), (.v (.bool false)), (.v (.bool false)), (.v (.bool false)), (.v (.bool false)), (.v (.bool false)), (.v (.bool false)), (.v (.bool false)), (.v (.bool false)), (.v (.bool false)), (.v (.bool false)), (.v (.bool false)), (.v (.bool false)), (.v (.bool false)), (.v (.bool false)), (.v (.bool false)), (.v (.bool false)), (.v (.bool false)), (.v (.bool false)), (.v (.bool false)), (.v (.bool false)), (.v (.bool false)), (.v (.bool false)), (.v (.bool false)), (.v (.bool false)), (.v (.bool false)), (.v (.bool false)), (.v (.bool false)), (.v (.bool false)), (.v (.bool false)), (.v (.bool false)), (.v (.bool false)), (.v (.bool false)), (.v (.bool false)), (.v (.bool false)), (.v (.bool false)), (.v (.bool false)), (.v (.bool false)), (.v (.bool false)), (.v (.bool false)), (.v (.bool false)), (.v (.bool false)), (.v (.bool false)), (.v (.bool false)), (.v (.bool false)), (.v (.bool false)), (.v (.bool false)), (.v (.bool false)), (.v (.bool false)), (.v (.bool false)), (.v (.bool false)), (.v (.bool false)), (.v (.bool false)), (.v (.bool false)), (.v (.bool false)), (.v (.bool false)), (.v (.bool false)), (.v (.bool false)), (.v (.bool false)), (.v (.bool false)), (.v (.bool false)), (.v (.bool false)), (.v (.bool false)), (.v (.bool false)), (.v (.bool false)), (.v (.bool false)), (.v (.bool false)), (.v (.bool false)), (.v (.bool false)), (.v (.bool false)), (.v (.bool false)), (.v (.bool false)), (.v (.bool false)), (.v (.bool false)), (.v (.bool false)), (.v (.bool false)), (.v (.bool false)), (.v (.bool false)), (.v (.bool false)), (.v (.bool false)), (.v (.bool false)), (.v (.bool false)), (.v (.bool false)), (.v (.bool false)), (.v (.bool false)), (.v (.bool false)), (.v (.bool false)), (.v (.bool false)), (.v (.bool false)), (.v (.bool false)), (.v (.bool false)), (.v (.bool false)), (.v (.bool false)), (.v (.bool false)), (.v (.bool false)), (.v (.bool false)), (.v (.bool false)), (.v (.bool false)), (.v (.bool false)), (.v (.bool false)), (.v (.bool false)), (.v (.bool false)), (.v (.bool false)), (.v (.bool false)), (.v (.bool false)), (.v (.bool false)), (.v (.bool false)), (.v (.bool false)), (.v (.bool false)), (.v (.bool false)), (.v (.bool false)), (.v (.bool false)), (.v (.bool false)), (.v (.bool false)), (.v (.bool false)), (.v (.bool false)), (.v (.bool false)), (.v (.bool false)), (.v (.bool false)), (.v (.bool false)), (.v (.bool false)), (.v (.bool false)), (.v (.bool false)), (.v (.bool false)), (.v (.bool false)), (.v (.bool false)), (.v (.bool false)), (.v (.bool false))]⟩])
 (.seq (.ops [⟨none, .alc 5 [(.v (.bool false)), (.v (.bool false)), (.v (.bool false)), (.v (.bool false)), (.v (.bool false)), (.v (.bool false)), (.v (.bool false)), (.v (.bool false)), (.v (.bool false)), (.v (.bool false)), (.v (.bool false)), (.v (.bool false)), (.v (.bool false)), (.v (.bool false)), (.v (.bool false)), (.v (.bool false)), (.v (.bool false)), (.v (.bool false)), (.v (.bool false)), (.v (.bool false)), (.v (.bool false)), (.v (.bool false)), (.v (.bool false)), (.v (.bool false)), (.v (.bool false)), (.v (.bool false)), (.v (.bool false)), (.v (.bool false)), (.v (.bool false)), (.v (.bool false)), (.v (.bool false)), (.v (.bool false)), (.v (.bool false)), (.v (.bool false)), (.v (.bool false)), (.v (.bool false)), (.v (.bool false)), (.v (.bool false)), (.v (.bool false)), (.v (.bool false)), (.v (.bool false)), (.v (.bool false)), (.v (.bool false)), (.v (.bool false)), (.v (.bool false)), (.v (.bool false)), (.v (.bool false)), (.v (.bool false)), (.v (.bool false)), (.v (.bool false)), (.v (.bool false)), (.v (.bool false)), (.v (.bool false)), (.v (.bool false)), (.v (.bool false)), (.v (.bool false)), (.v (.bool false)), (.v (.bool false)), (.v (.bool false)), (.v (.bool false)), (.v (.bool false)), (.v (.bool false)), (.v (.bool false)), (.v (.bool false)), (.v (.bool false)), (.v (.bool false)), (.v (.bool false)), (.v (.bool false)), (.v (.bool false)), (.v (.bool false)), (.v (.bool false)), (.v (.bool false)), (.v (.bool false)), (.v (.bool false)), (.v (.bool false)), (.v (.bool false)), (.v (.bool false)), (.v (.bool false)), (.v (.bool false)), (.v (.bool false)), (.v (.bool false)), (.v (.bool false)), (.v (.bool false)), (.v (.bool false)), (.v (.bool false)), (.v (.bool false)), (.v (.bool false)), (.v (.bool false)), (.v (.bool false)), (.v (.bool false)), (.v (.bool false)), (.v (.bool false)), (.v (.bool false)), (.v (.bool false)), (.v (.bool false)), (.v (.bool false)), (.v (.bool false)), (.v (.bool false)), (.v (.bool false)), (.v (.bool false)), (.v (.bool false)), (.v (.bool false)), (.v (.bool false)), (.v (.bool false)), (.v (.bool false)), (.v (.bool false)), (.v (.bool false)), (.v (.bool false)), (.v (.bool false)), (.v (.bool false)), (.v (.bool false)), (.v (.bool false)), (.v (.bool false)), (.v (.bool false)), (.v (.bool false)), (.v (.bool false)), (.v (.bool false)), (.v (.bool false)), (.v (.bool false)), (.v (.bool false)), (.v (.bool false)), (.v (.bool false)), (.v (.bool false)), (.v (.bool false)), (.v (.bool false)), (.v (.bool false)), (.v (.bool false)), (.v (.bool false)), (.v (.bool false)), (.v (.bool false)), (.v (.bool false)), (.v (.bool false)), (.v (.bool false)), (.v (.bool false)), (.v (.bool false)), (.v (.bool false)), (.v (.bool false)), (.v (.bool false)), (.v (.bool false)), (.v (.bool false)), (.v (.bool false)), (.v (.bool false)), (.v (.bool false)), (.v (.bool false)), (.v (.bool false)), (.v (.bool false)), (.v (.bool false)), (.v (.bool false)), (.v (.bool false)), (.v (.bool false)), (.v (.bool false)), (.v (.bool false)), (.v (.bool false)), (.v (.bool false)), (.v (.bool false)), (.v (.bool false)), (.v (.bool false)), (.v (.bool false)), (.v (.bool false)), (.v (.bool false)), (.v (.bool false)), (.v (.bool false)), (.v (.bool false)), (.v (.bool false)), (.v (.bool false)), (.v (.bool false)), (.v (.bool false)), (.v (.bool false)), (.v (.bool false)), (.v (.bool false)), (.v (.bool false)), (.v (.bool false)), (.v (.bool false)), (.v (.bool false)), (.v (.bool false)), (.v (.bool false)), (.v (.bool false)), (.v (.bool false)), (.v (.bool false)), (.v (.bool false)), (.v (.bool false)), (.v (.bool false)), (.v (.bool false)), (.v (.bool false)), (.v (.bool false)), (.v (.bool false)), (.v (.bool false)), (.v (.bool false)), (.v (.bool false)), (.v (.bool false)), (.v (.bool false)), (.v (.bool false)), (.v (.bool false)), (.v (.bool false)), (.v (.bool false)), (.v (.bool false)), (.v (.bool false)), (.v (.bool false)), (.v (.bool false)), (.v (.bool false)), (.v (.bool false)), (.v (.bool false)), (.v (.bool false)), (.v (.bool false)), (.v (.bool false)), (.v (.bool false)), (.v (.bool false)), (.v (.bool false)), (.v (.bool false)), (.v (.bool false)), (.v (.bool false)), (.v (.bool false)), (.v (.bool false)), (.v (.bool false)), (.v (.bool false)), (.v (.bool false)), (.v (.bool false)), (.v (.bool false)), (.v (.bool false)), (.v (.bool false)), (.v (.bool false)), (.v (.bool false)), (.v (.bool false)), (.v (.bool false)), (.v (.bool false)), (.v (.bool false)), (.v (.bool false)), (.v (.bool false)), (.v (.bool false)), (.v (.bool false)), (.v (.bool false)), (.v (.bool false)), (.v (.bool false)), (.v (.bool false)), (.v (.bool false)), (.v (.bool false)), (.v (.bool false)), (.v (.bool false)), (.v (.bool false)), (.v (.bool false)), (.v (.bool false)), (.v (.bool false)), (.v (.bool false)), (.v (.bool false)), (.v (.bool false)), (.v (.bool false)), (.v (.bool false)), (.v (.bool false)), (.v (.bool false)), (.v (.bool false)), (.v (.bool false)), (.v (.bool false)), (.v (.bool false)), (.v (.bool false)), (.v (.bool false)), (.v (.bool false)), (.v (.bool false)), (.v (.bool false)), (.v (.bool false)), (.v (.bool false)), (.v (.bool false)), (.v (.bool false)), (.v (.bool false)), (.v (.bool false)), (.v (.bool false)), (.v (.bool false)), (.v (.bool false)), (.v (.bool false)), (.v (.bool false)), (.v (.bool false)), (.v (.bool false)), (.v (.bool false)), (.v (.bool false)), (.v (.bool false)), (.v (.bool false)), (.v (.bool false)), (.v (.bool false)), (.v (.bool false)), (.v (.bool false)), (.v (.bool false)), (.v (.bool false)), (.v (.bool false)), (.v (.bool false)), (.v (.bool false)), (.v (.bool false)), (.v (.bool false)), (.v (.bool false)), (.v (.bool false)), (.v (.bool false)), (.v (.bool false)), (.v (.bool false)), (.v (.bool false)), (.v (.bool false)), (.v (.bool false)), (.v (.bool false)), (.v (.bool false)), (.v (.bool false)), (.v (.bool false)), (.v (.bool false)), (.v (.bool false)), (.v (.bool false)), (.v (.bool false)), (.v (.bool false)), (.v (.bool false)), (.v (.bool false)), (.v (.bool false)), (.v (.bool false)), (.v (.bool false)), (.v (.bool false)), (.v (.bool false)), (.v (.bool false)), (.v (.bool false)), (.v (.bool false)), (.v (.bool false)), (.v (.bool false)), (.v (.bool false)), (.v (.bool false)), (.v (.bool false)), (.v (.bool false)), (.v (.bool false)), (.v (.bool false)), (.v (.bool false)), (.v (.bool false)), (.v (.bool false)), (.v (.bool false)), (.v (.bool false)), (.v (.bool false)), (.v (.bool false)), (.v (.bool false)), (.v (.bool false)), (.v (.bool false)), (.v (.bool false)), (.v (.bool false)), (.v (.bool false)), (.v (.bool false)), (.v (.bool false)), (.v (.bool false)), (.v (.bool false)), (.v (.bool false)), (.v (.bool false)), (.v (.bool false)), (.v (.bool false)), (.v (.bool false)), (.v (.bool false)), (.v (.bool false)), (.v (.bool false)), (.v (.bool false)), (.v (.bool false)), (.v (.bool false)), (.v (.bool false)), (.v (.bool false)), (.v (.bool false)), (.v (.bool false)), (.v (.bool false)), (.v (.bool false)), (.v (.bool false)), (.v (.bool false)), (.v (.bool false)), (.v (.bool false)), (.v (.bool false)), (.v (.bool false)), (.v (.bool false)), (.v (.bool false)), (.v (.bool false)), (.v (.bool false)), (.v (.bool false)), (.v (.bool false)), (.v (.bool false)), (.v (.bool false)), (.v (.bool false)), (.v (.bool false)), (.v (.bool false)), (.v (.bool false)), (.v (.bool false)), (.v (.bool false)), (.v (.bool false)), (.v (.bool false)), (.v (.bool false)), (.v (.bool false)), (.v (.bool false)), (.v (.bool false)), (.v (.bool false)), (.v (.bool false)), (.v (.bool false)), (.v (.bool false)), (.v (.bool false)), (.v (.bool false)), (.v (.bool false)), (.v (.bool false)), (.v (.bool false)), (.v (.bool false)), (.v (.bool false)), (.v (.bool false)), (.v (.bool false)), (.v (.bool false)), (.v (.bool false)), (.v (.bool false)), (.v (.bool false)), (.v (.bool false)), (.v (.bool false)), (.v (.bool false)), (.v (.bool false)), (.v (.bool false)), (.v (.bool false)), (.v (.bool false)), (.v (.bool false)), (.v (.bool false)), (.v (.bool false)), (.v (.bool false)), (.v (.bool false)), (.v (.bool false)), (.v (.bool false)), (.v (.bool false)), (.v (.bool false)), (.v (.bool false)), (.v (.bool false)), (.v (.bool false)), (.v (.bool false)), (.v (.bool false)), (.v (.bool false)), (.v (.bool false)), (.v (.bool false)), (.v (.bool false)), (.v (.bool false)), (.v (.bool false)), (.v (.bool false)), (.v (.bool false)), (.v (.bool false)), (.v (.bool false)), (.v (.bool false)), (.v (.bool false)), (.v (.bool false)), (.v (.bool false)), (.v (.bool false)), (.v (.bool false)), (.v (.bool false)), (.v (.bool false)), (.v (.bool false)), (.v (.bool false)), (.v (.bool false)), (.v (.bool false)), (.v (.bool false)), (.v (.bool false)), (.v (.bool false)), (.v (.bool false)), (.v (.bool false)), (.v (.bool false)), (.v (.bool false)), (.v (.bool false)), (.v (.bool false)), (.v (.bool false)), (.v (.bool false)), (.v (.bool false)), (.v (.bool false)), (.v (.bool false)), (.v (.bool false)), (.v (.bool false)), (.v (.bool false)), (.v (.bool false)), (.v (.bool false)), (.v (.bool false)), (.v (.bool false)), (.v (.bool false)), (.v (.bool false)), (.v (.bool false)), (.v (.bool false)), (.v (.bool false)), (.v (.bool false)), (.v (.bool false)), (.v (.bool false)), (.v (.bool false)), (.v (.bool false)), (.v (.bool false)), (.v (.bool false)), (.v (.bool false)), (.v (.bool false)), (.v (.bool false)), (.v (.bool false)), (.v (.bool false)), (.v (.bool false)), (.v (.bool false)), (.v (.bool false)), (.v (.bool false)), (.v (.bool false)), (.v (.bool false)), (.v (.bool false)), (.v (.bool false)), (.v (.bool false)), (.v (.bool false)), (.v (.bool false)), (.v (.bool false)), (.v (.bool false)), (.v (.bool false)), (.v (.bool false)), (.v (.bool false)), (.v (.bool false)), (.v (.bool false)), (.v (.bool false)), (.v (.bool false)), (.v (.bool false)), (.v (.bool false)), (.v (.bool false)), (.v (.bool false)), (.v (.bool false)), (.v (.bool false)), (.v (.bool false)), (.v (.bool false)), (.v (.bool false)), (.v (.bool false)), (.v (.bool false)), (.v (.bool false)), (.v (.bool false)), (.v (.bool false)), (.v (.bool false)), (.v (.bool false)), (.v (.bool false)), (.v (.bool false)), (.v (.bool false)), (.v (.bool false)), (.v (.bool false)), (.v (.bool false)), (.v (.bool false)), (.v (.bool false)), (.v (.bool false)), (.v (.bool false)), (.v (.bool false)), (.v (.bool false)), (.v (.bool false)), (.v (.bool false)), (.v (.bool false)), (.v (.bool false)), (.v (.bool false)), (.v (.bool false)), (.v (.bool false)), (.v (.bool false)), (.v (.bool false)), (.v (.bool false)), (.v (.bool false)), (.v (.bool false)), (.v (.bool false)), (.v (.bool false)), (.v (.bool false)), (.v (.bool false)), (.v (.bool false)), (.v (.bool false)), (.v (.bool false)), (.v (.bool false)), (.v (.bool false)), (.v (.bool false)), (.v (.bool false)), (.v (.bool false)), (.v (.bool false)), (.v (.bool false)), (.v (.bool false)), (.v (.bool false)), (.v (.bool false)), (.v (.bool false)), (.v (.bool false)), (.v (.bool false)), (.v (.bool false)), (.v (.bool false)), (.v (.bool false)), (.v (.bool false)), (.v (.bool false)), (.v (.bool false)), (.v (.bool false)), (.v (.bool false)), (.v (.bool false)), (.v (.bool false)), (.v (.bool false)), (.v (.bool false)), (.v (.bool false)), (.v (.bool false)), (.v (.bool false)), (.v (.bool false)), (.v (.bool false))]⟩])
 (.seq (.seq (.ops [⟨none, .asg 6 (.c (.v (.int .i64 0)))⟩])
  (.seq (.blk 0 (.lop b35_0)) (.scr x35_0)))
 (.seq (.seq (.ops [⟨none, .asg 7 (.c (.v (.int .i64 0)))⟩])
  (.seq (.blk 2 (.lop b35_1)) (.scr x35_2)))
 (.seq (.ops [⟨none, .ldn 59 576 (.t 5)⟩,
   ⟨none, .stn none 576 (.t 4) (.t 59)⟩])
 (.seq (.scr r35) .ret)))))),
  60, [4, 576, 1000000]⟩

/-- coinage/poset.home -/
def hints36 : List (List Bool) := [[false, false, false, false, false, true, false, false, false, false, false, false, true, false, false, false, false, false, false, false, false, false, false, false, false, false, false, false, false, false, false, false, false, false, false, false, false, false, false, false, false, false, false, false, false, false, false, false, false, false, false, false, false], [true, true, false, false, false, true, true, true, false, false, false, false, true, false, false, false, false, false, false, false, false, false, false, false, false, false, false, false, false, false, false, false, false, false, false, false, false, false, false, false, false, false, false, false, false, false, false, false, false, false, false, false, false], [false, false, false, false, false, true, false, false, false, false, false, false, true, false, false, false, false, false, false, false, false, false, false, false, false, false, false, false, false, false, false, false, false, false, false, false, false, false, false, false, false, false, false, false, false, false, false, false, false, false, false, false, false], [true, true, false, false, false, true, true, true, false, false, false, false, true, false, false, false, false, false, false, false, false, false, false, false, false, false, false, false, false, false, false, false, false, false, false, false, false, false, false, false, false, false, false, false, false, false, false, false, false, false, false, false, false], [true, true, false, false, false, true, false, true, true, false, false, false, true, false, false, false, false, false, false, false, false, false, false, false, false, false, false, false, false, false, false, false, false, false, false, false, false, false, false, false, false, false, false, false, false, false, false, false, false, false, false, false, false], [true, true, false, false, false, true, true, true, true, true, false, false, true, false, false, false, false, false, false, false, false, false, false, false, false, false, false, false, false, false, false, false, false, false, false, false, false, false, false, false, false, false, false, false, false, false, false, false, false, false, false, false, false], [true, true, false, false, false, true, false, true, true, false, false, false, true, false, false, false, false, false, false, false, false, false, false, false, false, false, false, false, false, false, false, false, false, false, false, false, false, false, false, false, false, false, false, false, false, false, false, false, false, false, false, false, false], [true, true, false, false, false, true, true, true, true, true, false, false, true, false, false, false, false, false, false, false, false, false, false, false, false, false, false, false, false, false, false, false, false, false, false, false, false, false, false, false, false, false, false, false, false, false, false, false, false, false, false, false, false], [false, false, false, false, true, false, false, false, false, false, false, false, false, false, false, false, false, false, false, false, false, false, false, false, false, false, false, false, false, false, false, false, false, false, false, false, false, false, false, false, false, false, false, false, false, false, false, false, false, false, false, false, false]]
@[simp] def r36 : List Bool := [false, false, false, false, true, false, false, false, false, false, false, false, false, false, false, false, false, false, false, false, false, false, false, false, false, false, false, false, false, false, false, false, false, false, false, false, false, false, false, false, false, false, false, false, false, false, false, false, false, false, false, false, false]
@[simp] def R36 (s4 : V) : St := [.dead, .dead, .dead, .dead, s4, .dead, .dead, .dead, .dead, .dead, .dead, .dead, .dead, .dead, .dead, .dead, .dead, .dead, .dead, .dead, .dead, .dead, .dead, .dead, .dead, .dead, .dead, .dead, .dead, .dead, .dead, .dead, .dead, .dead, .dead, .dead, .dead, .dead, .dead, .dead, .dead, .dead, .dead, .dead, .dead, .dead, .dead, .dead, .dead, .dead, .dead, .dead, .dead]
@[simp] def x36_0 : List Bool := [false, false, false, false, false, true, false, false, false, false, false, false, true, false, false, false, false, false, false, false, false, false, false, false, false, false, false, false, false, false, false, false, false, false, false, false, false, false, false, false, false, false, false, false, false, false, false, false, false, false, false, false, false]
@[simp] def X36_0 (s5 s12 : V) : St := [.dead, .dead, .dead, .dead, .dead, s5, .dead, .dead, .dead, .dead, .dead, .dead, s12, .dead, .dead, .dead, .dead, .dead, .dead, .dead, .dead, .dead, .dead, .dead, .dead, .dead, .dead, .dead, .dead, .dead, .dead, .dead, .dead, .dead, .dead, .dead, .dead, .dead, .dead, .dead, .dead, .dead, .dead, .dead, .dead, .dead, .dead, .dead, .dead, .dead, .dead, .dead, .dead]
@[simp] def h36_0 : List Bool := [true, true, false, false, false, true, true, true, false, false, false, false, true, false, false, false, false, false, false, false, false, false, false, false, false, false, false, false, false, false, false, false, false, false, false, false, false, false, false, false, false, false, false, false, false, false, false, false, false, false, false, false, false]
@[simp] def L36_0 (s0 s1 s5 s6 s7 s12 : V) : St := [s0, s1, .dead, .dead, .dead, s5, s6, s7, .dead, .dead, .dead, .dead, s12, .dead, .dead, .dead, .dead, .dead, .dead, .dead, .dead, .dead, .dead, .dead, .dead, .dead, .dead, .dead, .dead, .dead, .dead, .dead, .dead, .dead, .dead, .dead, .dead, .dead, .dead, .dead, .dead, .dead, .dead, .dead, .dead, .dead, .dead, .dead, .dead, .dead, .dead, .dead, .dead]
@[simp] def x36_1 : List Bool := [true, true, false, false, false, true, true, true, false, false, false, false, true, false, false, false, false, false, false, false, false, false, false, false, false, false, false, false, false, false, false, false, false, false, false, false, false, false, false, false, false, false, false, false, false, false, false, false, false, false, false, false, false]
@[simp] def X36_1 (s0 s1 s5 s6 s7 s12 : V) : St := [s0, s1, .dead, .dead, .dead, s5, s6, s7, .dead, .dead, .dead, .dead, s12, .dead, .dead, .dead, .dead, .dead, .dead, .dead, .dead, .dead, .dead, .dead, .dead, .dead, .dead, .dead, .dead, .dead, .dead, .dead, .dead, .dead, .dead, .dead, .dead, .dead, .dead, .dead, .dead, .dead, .dead, .dead, .dead, .dead, .dead, .dead, .dead, .dead, .dead, .dead, .dead]
@[simp] def x36_2 : List Bool := [true, true, false, false, false, true, false, true, true, false, false, false, true, false, false, false, false, false, false, false, false, false, false, false, false, false, false, false, false, false, false, false, false, false, false, false, false, false, false, false, false, false, false, false, false, false, false, false, false, false, false, false, false]
@[simp] def X36_2 (s0 s1 s5 s7 s8 s12 : V) : St := [s0, s1, .dead, .dead, .dead, s5, .dead, s7, s8, .dead, .dead, .dead, s12, .dead, .dead, .dead, .dead, .dead, .dead, .dead, .dead, .dead, .dead, .dead, .dead, .dead, .dead, .dead, .dead, .dead, .dead, .dead, .dead, .dead, .dead, .dead, .dead, .dead, .dead, .dead, .dead, .dead, .dead, .dead, .dead, .dead, .dead, .dead, .dead, .dead, .dead, .dead, .dead]
@[simp] def h36_1 : List Bool := [true, true, false, false, false, true, true, true, true, true, false, false, true, false, false, false, false, false, false, false, false, false, false, false, false, false, false, false, false, false, false, false, false, false, false, false, false, false, false, false, false, false, false, false, false, false, false, false, false, false, false, false, false]
@[simp] def L36_1 (s0 s1 s5 s6 s7 s8 s9 s12 : V) : St := [s0, s1, .dead, .dead, .dead, s5, s6, s7, s8, s9, .dead, .dead, s12, .dead, .dead, .dead, .dead, .dead, .dead, .dead, .dead, .dead, .dead, .dead, .dead, .dead, .dead, .dead, .dead, .dead, .dead, .dead, .dead, .dead, .dead, .dead, .dead, .dead, .dead, .dead, .dead, .dead, .dead, .dead, .dead, .dead, .dead, .dead, .dead, .dead, .dead, .dead, .dead]
@[simp] def x36_3 : List Bool := [true, true, false, false, false, true, true, true, true, true, false, false, true, false, false, false, false, false, false, false, false, false, false, false, false, false, false, false, false, false, false, false, false, false, false, false, false, false, false, false, false, false, false, false, false, false, false, false, false, false, false, false, false]
@[simp] def X36_3 (s0 s1 s5 s6 s7 s8 s9 s12 : V) : St := [s0, s1, .dead, .dead, .dead, s5, s6, s7, s8, s9, .dead, .dead, s12, .dead, .dead, .dead, .dead, .dead, .dead, .dead, .dead, .dead, .dead, .dead, .dead, .dead, .dead, .dead, .dead, .dead, .dead, .dead, .dead, .dead, .dead, .dead, .dead, .dead, .dead, .dead, .dead, .dead, .dead, .dead, .dead, .dead, .dead, .dead, .dead, .dead, .dead, .dead, .dead]
def b36_1 : MC := .seq (.scr h36_1)
 (.seq (.seq (.ops [⟨none, .mv 20 (.t 9)⟩,
    ⟨none, .mv 21 (.t 0)⟩,
    ⟨none, .len 22 false (.t 21)⟩,
    ⟨none, .bin 23 .lss .num (.t 20) (.t 22)⟩])
  (.cnd (.t 23)
   .skip
   (.seq (.scr x36_2) (.ex 2))))
 (.seq (.seq (.blk 3 (.seq (.ops [⟨none, .mv 26 (.t 5)⟩,
     ⟨none, .mv 27 (.t 9)⟩,
     ⟨none, .ixs 28 1 (.t 26) (.t 27)⟩,
     ⟨none, .ld1 29 (.t 28)⟩,
     ⟨none, .bin 30 .eql .num (.t 29) (.c (.v (.int .i64 0)))⟩,
     ⟨none, .mv 31 (.t 30)⟩,
     ⟨some (31, true), .mv 32 (.t 0)⟩,
     ⟨some (31, true), .mv 33 (.t 9)⟩,
     ⟨some (31, true), .ixs 34 1 (.t 32) (.t 33)⟩,
     ⟨some (31, true), .ld1 35 (.t 34)⟩,
     ⟨some (31, true), .mv 36 (.t 6)⟩,
     ⟨some (31, true), .bin 37 .and .num (.t 35) (.t 36)⟩,
     ⟨some (31, true), .bin 38 .neq .num (.t 37) (.c (.v (.int .u32 0)))⟩,
     ⟨none, .pick 39 (.t 31) (.t 38) (.c (.v (.bool false)))⟩])
   (.cnd (.t 39)
    (.seq (.ops [⟨none, .mv 40 (.t 5)⟩,
      ⟨none, .mv 41 (.t 9)⟩,
      ⟨none, .mv 42 (.t 7)⟩,
      ⟨none, .ixs 43 1 (.t 40) (.t 41)⟩,
      ⟨none, .stn none 1 (.t 43) (.t 42)⟩])
    (.ops [⟨none, .mv 44 (.t 8)⟩,
     ⟨none, .mv 45 (.t 9)⟩,
     ⟨none, .bin 46 .shl .num (.c (.v (.int .u32 1))) (.t 45)⟩,
     ⟨none, .bin 47 .or .num (.t 44) (.t 46)⟩,
     ⟨none, .asg 8 (.t 47)⟩]))
    .skip))) (.scr x36_3))
 (.ops [⟨none, .mv 24 (.t 9)⟩,
  ⟨none, .bin 25 .add .num (.t 24) (.c (.v (.int .i64 1)))⟩,
  ⟨none, .asg 9 (.t 25)⟩])))
def b36_0 : MC := .seq (.scr h36_0)
 (.seq (.seq (.ops [⟨none, .mv 15 (.t 6)⟩,
    ⟨none, .bin 16 .neq .num (.t 15) (.c (.v (.int .u32 0)))⟩])
  (.cnd (.t 16)
   .skip
   (.seq (.scr x36_0) (.ex 0))))
 (.seq (.seq (.blk 1 (.seq (.ops [⟨none, .asg 8 (.c (.v (.int .u32 0)))⟩])
   (.seq (.seq (.ops [⟨none, .mv 19 (.t 1)⟩,
      ⟨none, .asg 9 (.t 19)⟩])
    (.seq (.blk 2 (.lop b36_1)) (.scr x36_2)))
   (.ops [⟨none, .mv 48 (.t 8)⟩,
    ⟨none, .mv 49 (.t 1)⟩,
    ⟨none, .bin 50 .shl .num (.c (.v (.int .u32 1))) (.t 49)⟩,
    ⟨none, .bin 51 .andNot .num (.t 48) (.t 50)⟩,
    ⟨none, .asg 6 (.t 51)⟩])))) (.scr x36_1))
 (.ops [⟨none, .mv 17 (.t 7)⟩,
  ⟨none, .bin 18 .add .num (.t 17) (.c (.v (.int .i64 1)))⟩,
  ⟨none, .asg 7 (.t 18)⟩])))
def c36 : MF := ⟨(.seq (.ops [⟨none, .asg 4 (.c (.nd (.sl true 1 0) []))⟩])
 (.seq (.ops [⟨none, .mv 10 (.t 0)⟩,
   ⟨none, .len 11 false (.t 10)⟩,
   ⟨none, .mks 12 1 [(.v (.int .i64 0))] (.t 11) (.t 11)⟩,
   ⟨none, .asg 5 (.t 12)⟩])
 (.seq (.seq (.ops [⟨none, .mv 13 (.t 1)⟩,
    ⟨none, .bin 14 .shl .num (.c (.v (.int .u32 1))) (.t 13)⟩,
    ⟨none, .asg 6 (.t 14)⟩,
    ⟨none, .asg 7 (.c (.v (.int .i64 1)))⟩])
  (.seq (.blk 0 (.lop b36_0)) (.scr x36_0)))
 (.seq (.ops [⟨none, .mv 52 (.t 5)⟩,
   ⟨none, .asg 4 (.t 52)⟩])
 (.seq (.scr r36) .ret))))),
  53, [4]⟩

/-- coinage/coinageref06.far -/
def hints37 : List (List Bool) := [[true, true, true, true, false, false, false, false, false, true, false, false, false, false, true, false, false, false, false, false, false, false, false, false, false, false, false, false, false, false, false, false, false, false, false, false, false, false, false, false, false, false, false, false, false, false, false, false, false, false, false, false, false, false, false, false, false, false, false, false, false, false, false, false, false, false, false, false, false, false, false, false, false, false, false, false, false, false, false, false, false, false, false, false, false, false], [true, true, true, true, false, false, false, false, false, true, true, false, false, false, true, false, false, false, false, false, false, false, false, false, false, false, false, false, false, false, false, false, false, false, false, false, false, false, false, false, false, false, false, false, false, false, false, false, false, false, false, false, false, false, false, false, false, false, false, false, false, false, false, false, false, false, false, false, false, false, false, false, false, false, false, false, false, false, false, false, false, false, false, false, false, false], [true, true, true, true, false, false, false, false, false, true, false, false, false, false, true, false, false, false, false, false, false, false, false, false, false, false, false, false, false, false, false, false, false, false, false, false, false, false, false, false, false, false, false, false, false, false, false, false, false, false, false, false, false, false, false, false, false, false, false, false, false, false, false, false, false, false, false, false, false, false, false, false, false, false, false, false, false, false, false, false, false, false, false, false, false, false], [true, true, true, true, false, false, false, false, false, true, true, false, false, false, true, false, false, false, false, false, false, false, false, false, false, false, false, false, false, false, false, false, false, false, false, false, false, false, false, false, false, false, false, false, false, false, false, false, false, false, false, false, false, false, false, false, false, false, false, false, false, false, false, false, false, false, false, false, false, false, false, false, false, false, false, false, false, false, false, false, false, false, false, false, false, false], [false, false, false, false, false, false, false, false, false, true, false, false, false, false, true, false, false, false, false, false, false, false, false, false, false, false, false, false, false, false, false, false, false, false, false, false, false, false, false, false, false, false, false, false, false, false, false, false, false, false, false, false, false, false, false, false, false, false, false, false, false, false, false, false, false, false, false, false, false, false, false, false, false, false, false, false, false, false, false, false, false, false, false, false, false, false], [true, true, false, true, false, false, false, false, false, true, false, true, false, false, true, false, false, false, false, false, false, false, false, false, false, false, false, false, false, false, false, false, false, false, false, false, false, false, false, false, false, false, false, false, false, false, false, false, false, false, false, false, false, false, false, false, false, false, false, false, false, false, false, false, false, false, false, false, false, false, false, false, false, false, false, false, false, false, false, false, false, false, false, false, false, false], [false, false, false, false, false, false, false, false, false, true, false, false, false, false, true, false, false, false, false, false, false, false, false, false, false, false, false, false, false, false, false, false, false, false, false, false, false, false, false, false, false, false, false, false, false, false, false, false, false, false, false, false, false, false, false, false, false, false, false, false, false, false, false, false, false, false, false, false, false, false, false, false, false, false, false, false, false, false, false, false, false, false, false, false, false, false], [true, true, false, true, false, false, false, false, false, true, false, true, false, false, true, false, false, false, false, false, false, false, false, false, false, false, false, false, false, false, false, false, false, false, false, false, false, false, false, false, false, false, false, false, false, false, false, false, false, false, false, false, false, false, false, false, false, false, false, false, false, false, false, false, false, false, false, false, false, false, false, false, false, false, false, false, false, false, false, false, false, false, false, false, false, false], [true, true, false, true, false, false, false, false, false, true, false, true, false, false, true, false, false, false, false, false, false, false, false, false, false, false, false, false, false, false, false, false, false, false, false, false, false, false, false, false, false, false, false, false, false, false, false, false, false, false, false, false, false, false, false, false, false, false, false, false, false, false, false, false, false, false, false, false, false, false, false, false, false, false, false, false, false, false, false, false, false, false, false, false, false, false], [true, true, false, true, false, false, false, false, false, true, false, true, true, false, true, false, false, false, false, false, false, false, false, false, false, false, false, false, false, false, false, false, false, false, false, false, false, false, false, false, false, false, false, false, false, false, false, false, false, false, false, false, false, false, false, false, false, false, false, false, false, false, false, false, false, false, false, false, false, false, false, false, false, false, false, false, false, false, false, false, false, false, false, false, false, false], [true, true, false, true, false, false, false, false, false, true, false, true, false, false, true, false, false, false, false, false, false, false, false, false, false, false, false, false, false, false, false, false, false, false, false, false, false, false, false, false, false, false, false, false, false, false, false, false, false, false, false, false, false, false, false, false, false, false, false, false, false, false, false, false, false, false, false, false, false, false, false, false, false, false, false, false, false, false, false, false, false, false, false, false, false, false], [true, true, false, true, false, false, false, false, false, true, false, true, true, false, true, false, false, false, false, false, false, false, false, false, false, false, false, false, false, false, false, false, false, false, false, false, false, false, false, false, false, false, false, false, false, false, false, false, false, false, false, false, false, false, false, false, false, false, false, false, false, false, false, false, false, false, false, false, false, false, false, false, false, false, false, false, false, false, false, false, false, false, false, false, false, false], [false, false, false, false, false, false, false, false, true, false, false, false, false, false, false, false, false, false, false, false, false, false, false, false, false, false, false, false, false, false, false, false, false, false, false, false, false, false, false, false, false, false, false, false, false, false, false, false, false, false, false, false, false, false, false, false, false, false, false, false, false, false, false, false, false, false, false, false, false, false, false, false, false, false, false, false, false, false, false, false, false, false, false, false, false, false]]
@[simp] def r37 : List Bool := [false, false, false, false, false, false, false, false, true, false, false, false, false, false, false, false, false, false, false, false, false, false, false, false, false, false, false, false, false, false, false, false, false, false, false, false, false, false, false, false, false, false, false, false, false, false, false, false, false, false, false, false, false, false, false, false, false, false, false, false, false, false, false, false, false, false, false, false, false, false, false, false, false, false, false, false, false, false, false, false, false, false, false, false, false, false]
@[simp] def R37 (s8 : V) : St := [.dead, .dead, .dead, .dead, .dead, .dead, .dead, .dead, s8, .dead, .dead, .dead, .dead, .dead, .dead, .dead, .dead, .dead, .dead, .dead, .dead, .dead, .dead, .dead, .dead, .dead, .dead, .dead, .dead, .dead, .dead, .dead, .dead, .dead, .dead, .dead, .dead, .dead, .dead, .dead, .dead, .dead, .dead, .dead, .dead, .dead, .dead, .dead, .dead, .dead, .dead, .dead, .dead, .dead, .dead, .dead, .dead, .dead, .dead, .dead, .dead, .dead, .dead, .dead, .dead, .dead, .dead, .dead, .dead, .dead, .dead, .dead, .dead, .dead, .dead, .dead, .dead, .dead, .dead, .dead, .dead, .dead, .dead, .dead, .dead, .dead]
@[simp] def x37_0 : List Bool := [true, true, true, true, false, false, false, false, false, true, false, false, false, false, true, false, false, false, false, false, false, false, false, false, false, false, false, false, false, false, false, false, false, false, false, false, false, false, false, false, false, false, false, false, false, false, false, false, false, false, false, false, false, false, false, false, false, false, false, false, false, false, false, false, false, false, false, false, false, false, false, false, false, false, false, false, false, false, false, false, false, false, false, false, false, false]
@[simp] def X37_0 (s0 s1 s2 s3 s9 s14 : V) : St := [s0, s1, s2, s3, .dead, .dead, .dead, .dead, .dead, s9, .dead, .dead, .dead, .dead, s14, .dead, .dead, .dead, .dead, .dead, .dead, .dead, .dead, .dead, .dead, .dead, .dead, .dead, .dead, .dead, .dead, .dead, .dead, .dead, .dead, .dead, .dead, .dead, .dead, .dead, .dead, .dead, .dead, .dead, .dead, .dead, .dead, .dead, .dead, .dead, .dead, .dead, .dead, .dead, .dead, .dead, .dead, .dead, .dead, .dead, .dead, .dead, .dead, .dead, .dead, .dead, .dead, .dead, .dead, .dead, .dead, .dead, .dead, .dead, .dead, .dead, .dead, .dead, .dead, .dead, .dead, .dead, .dead, .dead, .dead, .dead]
@[simp] def h37_0 : List Bool := [true, true, true, true, false, false, false, false, false, true, true, false, false, false, true, false, false, false, false, false, false, false, false, false, false, false, false, false, false, false, false, false, false, false, false, false, false, false, false, false, false, false, false, false, false, false, false, false, false, false, false, false, false, false, false, false, false, false, false, false, false, false, false, false, false, false, false, false, false, false, false, false, false, false, false, false, false, false, false, false, false, false, false, false, false, false]
@[simp] def L37_0 (s0 s1 s2 s3 s9 s10 s14 : V) : St := [s0, s1, s2, s3, .dead, .dead, .dead, .dead, .dead, s9, s10, .dead, .dead, .dead, s14, .dead, .dead, .dead, .dead, .dead, .dead, .dead, .dead, .dead, .dead, .dead, .dead, .dead, .dead, .dead, .dead, .dead, .dead, .dead, .dead, .dead, .dead, .dead, .dead, .dead, .dead, .dead, .dead, .dead, .dead, .dead, .dead, .dead, .dead, .dead, .dead, .dead, .dead, .dead, .dead, .dead, .dead, .dead, .dead, .dead, .dead, .dead, .dead, .dead, .dead, .dead, .dead, .dead, .dead, .dead, .dead, .dead, .dead, .dead, .dead, .dead, .dead, .dead, .dead, .dead, .dead, .dead, .dead, .dead, .dead, .dead]
@[simp] def x37_1 : List Bool := [true, true, true, true, false, false, false, false, false, true, true, false, false, false, true, false, false, false, false, false, false, false, false, false, false, false, false, false, false, false, false, false, false, false, false, false, false, false, false, false, false, false, false, false, false, false, false, false, false, false, false, false, false, false, false, false, false, false, false, false, false, false, false, false, false, false, false, false, false, false, false, false, false, false, false, false, false, false, false, false, false, false, false, false, false, false]
@[simp] def X37_1 (s0 s1 s2 s3 s9 s10 s14 : V) : St := [s0, s1, s2, s3, .dead, .dead, .dead, .dead, .dead, s9, s10, .dead, .dead, .dead, s14, .dead, .dead, .dead, .dead, .dead, .dead, .dead, .dead, .dead, .dead, .dead, .dead, .dead, .dead, .dead, .dead, .dead, .dead, .dead, .dead, .dead, .dead, .dead, .dead, .dead, .dead, .dead, .dead, .dead, .dead, .dead, .dead, .dead, .dead, .dead, .dead, .dead, .dead, .dead, .dead, .dead, .dead, .dead, .dead, .dead, .dead, .dead, .dead, .dead, .dead, .dead, .dead, .dead, .dead, .dead, .dead, .dead, .dead, .dead, .dead, .dead, .dead, .dead, .dead, .dead, .dead, .dead, .dead, .dead, .dead, .dead]
def b37_0 : MC := .seq (.scr h37_0)
 (.seq (.seq (.ops [⟨none, .mv 15 (.t 10)⟩,
    ⟨none, .mv 16 (.t 0)⟩,
    ⟨none, .bin 17 .lss .num (.t 15) (.t 16)⟩])
  (.cnd (.t 17)
   .skip
   (.seq (.scr x37_0) (.ex 0))))
 (.seq (.seq (.blk 1 (.ops [⟨none, .mv 20 (.t 9)⟩,
    ⟨none, .mv 21 (.t 10)⟩,
    ⟨none, .ixs 22 1 (.t 20) (.t 21)⟩,
    ⟨none, .stn none 1 (.t 22) (.c (.v (.int .i64 (-1))))⟩])) (.scr x37_1))
 (.ops [⟨none, .mv 18 (.t 10)⟩,
  ⟨none, .bin 19 .add .num (.t 18) (.c (.v (.int .i64 1)))⟩,
  ⟨none, .asg 10 (.t 19)⟩])))
@[simp] def x37_2 : List Bool := [false, false, false, false, false, false, false, false, false, true, false, false, false, false, true, false, false, false, false, false, false, false, false, false, false, false, false, false, false, false, false, false, false, false, false, false, false, false, false, false, false, false, false, false, false, false, false, false, false, false, false, false, false, false, false, false, false, false, false, false, false, false, false, false, false, false, false, false, false, false, false, false, false, false, false, false, false, false, false, false, false, false, false, false, false, false]
@[simp] def X37_2 (s9 s14 : V) : St := [.dead, .dead, .dead, .dead, .dead, .dead, .dead, .dead, .dead, s9, .dead, .dead, .dead, .dead, s14, .dead, .dead, .dead, .dead, .dead, .dead, .dead, .dead, .dead, .dead, .dead, .dead, .dead, .dead, .dead, .dead, .dead, .dead, .dead, .dead, .dead, .dead, .dead, .dead, .dead, .dead, .dead, .dead, .dead, .dead, .dead, .dead, .dead, .dead, .dead, .dead, .dead, .dead, .dead, .dead, .dead, .dead, .dead, .dead, .dead, .dead, .dead, .dead, .dead, .dead, .dead, .dead, .dead, .dead, .dead, .dead, .dead, .dead, .dead, .dead, .dead, .dead, .dead, .dead, .dead, .dead, .dead, .dead, .dead, .dead, .dead]
@[simp] def h37_1 : List Bool := [true, true, false, true, false, false, false, false, false, true, false, true, false, false, true, false, false, false, false, false, false, false, false, false, false, false, false, false, false, false, false, false, false, false, false, false, false, false, false, false, false, false, false, false, false, false, false, false, false, false, false, false, false, false, false, false, false, false, false, false, false, false, false, false, false, false, false, false, false, false, false, false, false, false, false, false, false, false, false, false, false, false, false, false, false, false]
@[simp] def L37_1 (s0 s1 s3 s9 s11 s14 : V) : St := [s0, s1, .dead, s3, .dead, .dead, .dead, .dead, .dead, s9, .dead, s11, .dead, .dead, s14, .dead, .dead, .dead, .dead, .dead, .dead, .dead, .dead, .dead, .dead, .dead, .dead, .dead, .dead, .dead, .dead, .dead, .dead, .dead, .dead, .dead, .dead, .dead, .dead, .dead, .dead, .dead, .dead, .dead, .dead, .dead, .dead, .dead, .dead, .dead, .dead, .dead, .dead, .dead, .dead, .dead, .dead, .dead, .dead, .dead, .dead, .dead, .dead, .dead, .dead, .dead, .dead, .dead, .dead, .dead, .dead, .dead, .dead, .dead, .dead, .dead, .dead, .dead, .dead, .dead, .dead, .dead, .dead, .dead, .dead, .dead]
@[simp] def x37_3 : List Bool := [true, true, false, true, false, false, false, false, false, true, false, true, false, false, true, false, false, false, false, false, false, false, false, false, false, false, false, false, false, false, false, false, false, false, false, false, false, false, false, false, false, false, false, false, false, false, false, false, false, false, false, false, false, false, false, false, false, false, false, false, false, false, false, false, false, false, false, false, false, false, false, false, false, false, false, false, false, false, false, false, false, false, false, false, false, false]
@[simp] def X37_3 (s0 s1 s3 s9 s11 s14 : V) : St := [s0, s1, .dead, s3, .dead, .dead, .dead, .dead, .dead, s9, .dead, s11, .dead, .dead, s14, .dead, .dead, .dead, .dead, .dead, .dead, .dead, .dead, .dead, .dead, .dead, .dead, .dead, .dead, .dead, .dead, .dead, .dead, .dead, .dead, .dead, .dead, .dead, .dead, .dead, .dead, .dead, .dead, .dead, .dead, .dead, .dead, .dead, .dead, .dead, .dead, .dead, .dead, .dead, .dead, .dead, .dead, .dead, .dead, .dead, .dead, .dead, .dead, .dead, .dead, .dead, .dead, .dead, .dead, .dead, .dead, .dead, .dead, .dead, .dead, .dead, .dead, .dead, .dead, .dead, .dead, .dead, .dead, .dead, .dead, .dead]
@[simp] def x37_4 : List Bool := [true, true, false, true, false, false, false, false, false, true, false, true, false, false, true, false, false, false, false, false, false, false, false, false, false, false, false, false, false, false, false, false, false, false, false, false, false, false, false, false, false, false, false, false, false, false, false, false, false, false, false, false, false, false, false, false, false, false, false, false, false, false, false, false, false, false, false, false, false, false, false, false, false, false, false, false, false, false, false, false, false, false, false, false, false, false]
@[simp] def X37_4 (s0 s1 s3 s9 s11 s14 : V) : St := [s0, s1, .dead, s3, .dead, .dead, .dead, .dead, .dead, s9, .dead, s11, .dead, .dead, s14, .dead, .dead, .dead, .dead, .dead, .dead, .dead, .dead, .dead, .dead, .dead, .dead, .dead, .dead, .dead, .dead, .dead, .dead, .dead, .dead, .dead, .dead, .dead, .dead, .dead, .dead, .dead, .dead, .dead, .dead, .dead, .dead, .dead, .dead, .dead, .dead, .dead, .dead, .dead, .dead, .dead, .dead, .dead, .dead, .dead, .dead, .dead, .dead, .dead, .dead, .dead, .dead, .dead, .dead, .dead, .dead, .dead, .dead, .dead, .dead, .dead, .dead, .dead, .dead, .dead, .dead, .dead, .dead, .dead, .dead, .dead]
@[simp] def h37_2 : List Bool := [true, true, false, true, false, false, false, false, false, true, false, true, true, false, true, false, false, false, false, false, false, false, false, false, false, false, false, false, false, false, false, false, false, false, false, false, false, false, false, false, false, false, false, false, false, false, false, false, false, false, false, false, false, false, false, false, false, false, false, false, false, false, false, false, false, false, false, false, false, false, false, false, false, false, false, false, false, false, false, false, false, false, false, false, false, false]
@[simp] def L37_2 (s0 s1 s3 s9 s11 s12 s14 : V) : St := [s0, s1, .dead, s3, .dead, .dead, .dead, .dead, .dead, s9, .dead, s11, s12, .dead, s14, .dead, .dead, .dead, .dead, .dead, .dead, .dead, .dead, .dead, .dead, .dead, .dead, .dead, .dead, .dead, .dead, .dead, .dead, .dead, .dead, .dead, .dead, .dead, .dead, .dead, .dead, .dead, .dead, .dead, .dead, .dead, .dead, .dead, .dead, .dead, .dead, .dead, .dead, .dead, .dead, .dead, .dead, .dead, .dead, .dead, .dead, .dead, .dead, .dead, .dead, .dead, .dead, .dead, .dead, .dead, .dead, .dead, .dead, .dead, .dead, .dead, .dead, .dead, .dead, .dead, .dead, .dead, .dead, .dead, .dead, .dead]
@[simp] def x37_5 : List Bool := [true, true, false, true, false, false, false, false, false, true, false, true, true, false, true, false, false, false, false, false, false, false, false, false, false, false, false, false, false, false, false, false, false, false, false, false, false, false, false, false, false, false, false, false, false, false, false, false, false, false, false, false, false, false, false, false, false, false, false, false, false, false, false, false, false, false, false, false, false, false, false, false, false, false, false, false, false, false, false, false, false, false, false, false, false, false]
@[simp] def X37_5 (s0 s1 s3 s9 s11 s12 s14 : V) : St := [s0, s1, .dead, s3, .dead, .dead, .dead, .dead, .dead, s9, .dead, s11, s12, .dead, s14, .dead, .dead, .dead, .dead, .dead, .dead, .dead, .dead, .dead, .dead, .dead, .dead, .dead, .dead, .dead, .dead, .dead, .dead, .dead, .dead, .dead, .dead, .dead, .dead, .dead, .dead, .dead, .dead, .dead, .dead, .dead, .dead, .dead, .dead, .dead, .dead, .dead, .dead, .dead, .dead, .dead, .dead, .dead, .dead, .dead, .dead, .dead, .dead, .dead, .dead, .dead, .dead, .dead, .dead, .dead, .dead, .dead, .dead, .dead, .dead, .dead, .dead, .dead, .dead, .dead, .dead, .dead, .dead, .dead, .dead, .dead]
def b37_2 : MC := .seq (.scr h37_2)
 (.seq (.seq (.ops [⟨none, .mv 31 (.t 12)⟩,
    ⟨none, .mv 32 (.t 1)⟩,
    ⟨none, .len 33 false (.t 32)⟩,
    ⟨none, .bin 34 .lss .num (.t 31) (.t 33)⟩])
  (.cnd (.t 34)
   .skip
   (.seq (.scr x37_4) (.ex 4))))
 (.seq (.seq (.blk 5 (.seq (.ops [⟨none, .mv 37 (.t 1)⟩,
     ⟨none, .mv 38 (.t 12)⟩,
     ⟨none, .ixs 39 2 (.t 37) (.t 38)⟩,
     ⟨none, .fa 40 0 (.t 39)⟩,
     ⟨none, .ld1 41 (.t 40)⟩,
     ⟨none, .mv 42 (.t 3)⟩,
     ⟨none, .bin 43 .geq .num (.t 41) (.t 42)⟩,
     ⟨none, .mv 44 (.t 43)⟩,
     ⟨some (44, true), .mv 45 (.t 1)⟩,
     ⟨some (44, true), .mv 46 (.t 12)⟩,
     ⟨some (44, true), .ixs 47 2 (.t 45) (.t 46)⟩,
     ⟨some (44, true), .fa 48 1 (.t 47)⟩,
     ⟨some (44, true), .ld1 49 (.t 48)⟩,
     ⟨some (44, true), .mv 50 (.t 3)⟩,
     ⟨some (44, true), .bin 51 .geq .num (.t 49) (.t 50)⟩,
     ⟨none, .pick 52 (.t 44) (.t 51) (.c (.v (.bool false)))⟩,
     ⟨none, .mv 53 (.t 52)⟩,
     ⟨some (53, true), .mv 54 (.t 9)⟩,
     ⟨some (53, true), .mv 55 (.t 1)⟩,
     ⟨some (53, true), .mv 56 (.t 12)⟩,
     ⟨some (53, true), .ixs 57 2 (.t 55) (.t 56)⟩,
     ⟨some (53, true), .fa 58 0 (.t 57)⟩,
     ⟨some (53, true), .ld1 59 (.t 58)⟩,
     ⟨some (53, true), .ixs 60 1 (.t 54) (.t 59)⟩,
     ⟨some (53, true), .ld1 61 (.t 60)⟩,
     ⟨some (53, true), .bin 62 .lss .num (.t 61) (.c (.v (.int .i64 0)))⟩,
     ⟨none, .pick 63 (.t 53) (.t 62) (.c (.v (.bool false)))⟩,
     ⟨none, .mv 64 (.t 63)⟩,
     ⟨some (64, true), .mv 65 (.t 9)⟩,
     ⟨some (64, true), .mv 66 (.t 1)⟩,
     ⟨some (64, true), .mv 67 (.t 12)⟩,
     ⟨some (64, true), .ixs 68 2 (.t 66) (.t 67)⟩,
     ⟨some (64, true), .fa 69 1 (.t 68)⟩,
     ⟨some (64, true), .ld1 70 (.t 69)⟩,
     ⟨some (64, true), .ixs 71 1 (.t 65) (.t 70)⟩,
     ⟨some (64, true), .ld1 72 (.t 71)⟩,
     ⟨some (64, true), .mv 73 (.t 11)⟩,
     ⟨some (64, true), .bin 74 .sub .num (.t 73) (.c (.v (.int .i64 1)))⟩,
     ⟨some (64, true), .bin 75 .eql .num (.t 72) (.t 74)⟩,
     ⟨none, .pick 76 (.t 64) (.t 75) (.c (.v (.bool false)))⟩])
   (.cnd (.t 76)
    (.ops [⟨none, .mv 77 (.t 9)⟩,
     ⟨none, .mv 78 (.t 1)⟩,
     ⟨none, .mv 79 (.t 12)⟩,
     ⟨none, .ixs 80 2 (.t 78) (.t 79)⟩,
     ⟨none, .fa 81 0 (.t 80)⟩,
     ⟨none, .ld1 82 (.t 81)⟩,
     ⟨none, .mv 83 (.t 11)⟩,
     ⟨none, .ixs 84 1 (.t 77) (.t 82)⟩,
     ⟨none, .stn none 1 (.t 84) (.t 83)⟩])
    .skip))) (.scr x37_5))
 (.ops [⟨none, .mv 35 (.t 12)⟩,
  ⟨none, .bin 36 .add .num (.t 35) (.c (.v (.int .i64 1)))⟩,
  ⟨none, .asg 12 (.t 36)⟩])))
def b37_1 : MC := .seq (.scr h37_1)
 (.seq (.seq (.ops [⟨none, .mv 26 (.t 11)⟩,
    ⟨none, .mv 27 (.t 0)⟩,
    ⟨none, .bin 28 .leq .num (.t 26) (.t 27)⟩])
  (.cnd (.t 28)
   .skip
   (.seq (.scr x37_2) (.ex 2))))
 (.seq (.seq (.blk 3 (.seq (.ops [⟨none, .asg 12 (.c (.v (.int .i64 0)))⟩])
   (.seq (.blk 4 (.lop b37_2)) (.scr x37_4)))) (.scr x37_3))
 (.ops [⟨none, .mv 29 (.t 11)⟩,
  ⟨none, .bin 30 .add .num (.t 29) (.c (.v (.int .i64 1)))⟩,
  ⟨none, .asg 11 (.t 30)⟩])))
def c37 : MF := ⟨(.seq (.ops [⟨none, .asg 8 (.c (.nd (.sl true 1 0) []))⟩])
 (.seq (.ops [⟨none, .mv 13 (.t 0)⟩,
   ⟨none, .mks 14 1 [(.v (.int .i64 0))] (.t 13) (.t 13)⟩,
   ⟨none, .asg 9 (.t 14)⟩])
 (.seq (.seq (.ops [⟨none, .asg 10 (.c (.v (.int .i64 0)))⟩])
  (.seq (.blk 0 (.lop b37_0)) (.scr x37_0)))
 (.seq (.ops [⟨none, .mv 23 (.t 9)⟩,
   ⟨none, .mv 24 (.t 2)⟩,
   ⟨none, .ixs 25 1 (.t 23) (.t 24)⟩,
   ⟨none, .stn none 1 (.t 25) (.c (.v (.int .i64 0)))⟩])
 (.seq (.seq (.ops [⟨none, .asg 11 (.c (.v (.int .i64 1)))⟩])
  (.seq (.blk 2 (.lop b37_1)) (.scr x37_2)))
 (.seq (.ops [⟨none, .mv 85 (.t 9)⟩,
   ⟨none, .asg 8 (.t 85)⟩])
 (.seq (.scr r37) .ret))))))),
  86, [8]⟩


theorem comp35 : compF Go.Proofs.Try.prog hints35 35 = some c35 := by kernel_rfl
theorem comp36 : compF Go.Proofs.Try.prog hints36 36 = some c36 := by kernel_rfl
theorem comp37 : compF Go.Proofs.Try.prog hints37 37 = some c37 := by kernel_rfl

def tbl : FuncId → Option MF
  | 3 => some c3
  | 4 => some c4
  | 5 => some c5
  | 6 => some c6
  | 7 => some c7
  | 8 => some c8
  | 9 => some c9
  | 10 => some c10
  | 11 => some c11
  | 12 => some c12
  | 13 => some c13
  | 14 => some c14
  | 15 => some c15
  | 16 => some c16
  | 17 => some c17
  | 18 => some c18
  | 19 => some c19
  | 20 => some c20
  | 21 => some c21
  | 22 => some c22
  | 23 => some c23
  | 24 => some c24
  | 25 => some c25
  | 26 => some c26
  | 27 => some c27
  | 28 => some c28
  | 29 => some c29
  | 30 => some c30
  | 31 => some c31
  | 32 => some c32
  | 33 => some c33
  | 34 => some c34
  | 35 => some c35
  | 36 => some c36
  | 37 => some c37
  | _ => none

theorem tbl_ok (f : FuncId) (mf : MF) (h : tbl f = some mf) : ∃ hints, compF Go.Proofs.Try.prog hints f = some mf := by
  unfold tbl at h
  split at h
  · cases h; exact ⟨_, comp3⟩
  · cases h; exact ⟨_, comp4⟩
  · cases h; exact ⟨_, comp5⟩
  · cases h; exact ⟨_, comp6⟩
  · cases h; exact ⟨_, comp7⟩
  · cases h; exact ⟨_, comp8⟩
  · cases h; exact ⟨_, comp9⟩
  · cases h; exact ⟨_, comp10⟩
  · cases h; exact ⟨_, comp11⟩
  · cases h; exact ⟨_, comp12⟩
  · cases h; exact ⟨_, comp13⟩
  · cases h; exact ⟨_, comp14⟩
  · cases h; exact ⟨_, comp15⟩
  · cases h; exact ⟨_, comp16⟩
  · cases h; exact ⟨_, comp17⟩
  · cases h; exact ⟨_, comp18⟩
  · cases h; exact ⟨_, comp19⟩
  · cases h; exact ⟨_, comp20⟩
  · cases h; exact ⟨_, comp21⟩
  · cases h; exact ⟨_, comp22⟩
  · cases h; exact ⟨_, comp23⟩
  · cases h; exact ⟨_, comp24⟩
  · cases h; exact ⟨_, comp25⟩
  · cases h; exact ⟨_, comp26⟩
  · cases h; exact ⟨_, comp27⟩
  · cases h; exact ⟨_, comp28⟩
  · cases h; exact ⟨_, comp29⟩
  · cases h; exact ⟨_, comp30⟩
  · cases h; exact ⟨_, comp31⟩
  · cases h; exact ⟨_, comp32⟩
  · cases h; exact ⟨_, comp33⟩
  · cases h; exact ⟨_, comp34⟩
  · cases h; exact ⟨_, comp35⟩
  · cases h; exact ⟨_, comp36⟩
  · cases h; exact ⟨_, comp37⟩
  · cases h

end Go.Mx
