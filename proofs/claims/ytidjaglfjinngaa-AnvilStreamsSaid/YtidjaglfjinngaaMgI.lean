import Derived.Test.YtidjaglfjinngaaMgH
import Derived.KernelRfl
import Derived.Test.YtidjaglfjinngaaChecked
/-
  The functions of this chapter in the machine's code, and that the given program's code is this one. Printed by a program of this repo (gencodes.py).
-/
namespace Go.Mx
set_option linter.unusedVariables false
set_option linter.unusedSimpArgs false
set_option linter.unusedSectionVars false
open Go

def hints11 : List (List Bool) := [bits 54 [0]]
@[simp] def r11 : List Bool := bits 54 [0]
@[simp] def R11 (s0 : V) : St := tab 54 24 (fu dd 0 s0) dd
def c11 : MF := ⟨(.seq (.ops [⟨none, .asg 0 (.c (.v (.bool false)))⟩])
 (.seq (.ops [⟨none, .bld 8 [(.v (.int .i64 0)), (.v (.int .i64 0))] [(0, 1, (.c (.v (.int .i64 0)))), (1, 1, (.c (.v (.int .i64 2))))]⟩,
   ⟨none, .bld 9 [(.v (.int .i64 0)), (.v (.int .i64 0))] [(0, 1, (.c (.v (.int .i64 1)))), (1, 1, (.c (.v (.int .i64 2))))]⟩,
   ⟨none, .bld 10 [(.v (.int .i64 0)), (.v (.int .i64 0))] [(0, 1, (.c (.v (.int .i64 2)))), (1, 1, (.c (.v (.int .i64 3))))]⟩,
   ⟨none, .bld 11 [(.v (.int .i64 0)), (.v (.int .i64 0))] [(0, 1, (.c (.v (.int .i64 2)))), (1, 1, (.c (.v (.int .i64 4))))]⟩,
   ⟨none, .bs 12 2 4 [(.v (.int .i64 0)), (.v (.int .i64 0))] [(0, 2, (.t 8)), (2, 2, (.t 9)), (4, 2, (.t 10)), (6, 2, (.t 11))]⟩,
   ⟨none, .asg 1 (.t 12)⟩])
 (.seq (.ops [⟨none, .mv 14 (.t 1)⟩,
   ⟨none, .call (some 15) 20 [(.c (.v (.int .i64 5))), (.t 14)]⟩,
   ⟨none, .mv 13 (.t 15)⟩,
   ⟨none, .ext 16 (.t 13) 0⟩,
   ⟨none, .ext 17 (.t 13) 1⟩,
   ⟨none, .asg 2 (.t 16)⟩,
   ⟨none, .asg 3 (.t 17)⟩])
 (.seq (.ops [⟨none, .mv 19 (.t 1)⟩,
   ⟨none, .call (some 20) 15 [(.c (.v (.int .i64 5))), (.t 19), (.c (.v (.int .i64 2)))]⟩,
   ⟨none, .mv 18 (.t 20)⟩,
   ⟨none, .ext 21 (.t 18) 0⟩,
   ⟨none, .ext 22 (.t 18) 1⟩,
   ⟨none, .asg 4 (.t 21)⟩,
   ⟨none, .asg 5 (.t 22)⟩])
 (.seq (.ops [⟨none, .mv 24 (.t 1)⟩,
   ⟨none, .call (some 25) 13 [(.c (.v (.int .i64 5))), (.t 24)]⟩,
   ⟨none, .mv 23 (.t 25)⟩,
   ⟨none, .ext 26 (.t 23) 0⟩,
   ⟨none, .ext 27 (.t 23) 1⟩,
   ⟨none, .asg 6 (.t 26)⟩,
   ⟨none, .asg 7 (.t 27)⟩])
 (.seq (.ops (⟨none, .mv 28 (.t 3)⟩ ::
   ⟨none, .bin 29 .eql .num (.t 28) (.c (.v (.int .i64 0)))⟩ ::
   ⟨none, .mv 30 (.t 29)⟩ ::
   ⟨some (30, true), .mv 31 (.t 2)⟩ ::
   ⟨some (30, true), .bin 32 .eql .num (.t 31) (.c (.v (.int .i64 2)))⟩ ::
   ⟨none, .pick 33 (.t 30) (.t 32) (.c (.v (.bool false)))⟩ ::
   ⟨none, .mv 34 (.t 33)⟩ ::
   ⟨some (34, true), .mv 35 (.t 5)⟩ ::
   ⟨some (34, true), .bin 36 .eql .num (.t 35) (.c (.v (.int .i64 0)))⟩ ::
   ⟨none, .pick 37 (.t 34) (.t 36) (.c (.v (.bool false)))⟩ ::
   ⟨none, .mv 38 (.t 37)⟩ ::
   ⟨some (38, true), .mv 39 (.t 4)⟩ ::
   ⟨some (38, true), .bin 40 .eql .num (.t 39) (.c (.v (.int .i64 3)))⟩ ::
   ⟨none, .pick 41 (.t 38) (.t 40) (.c (.v (.bool false)))⟩ ::
   ⟨none, .mv 42 (.t 41)⟩ ::
   ⟨some (42, true), .mv 43 (.t 7)⟩ ::
   ⟨some (42, true), .bin 44 .eql .num (.t 43) (.c (.v (.int .i64 0)))⟩ ::
   ⟨none, .pick 45 (.t 42) (.t 44) (.c (.v (.bool false)))⟩ ::
   ⟨none, .mv 46 (.t 45)⟩ ::
   ⟨some (46, true), .mv 47 (.t 6)⟩ ::
   ⟨some (46, true), .bs 48 1 2 [(.v (.int .i64 0))] [(0, 1, (.c (.v (.int .i64 0)))), (1, 1, (.c (.v (.int .i64 1))))]⟩ ::
   ⟨some (46, true), .bs 49 1 1 [(.v (.int .i64 0))] [(0, 1, (.c (.v (.int .i64 2))))]⟩ ::
   ⟨some (46, true), .bs 50 1 2 [(.v (.int .i64 0))] [(0, 1, (.c (.v (.int .i64 3)))), (1, 1, (.c (.v (.int .i64 4))))]⟩ ::
   ⟨some (46, true), .bs 51 1 3 [(.nd (.sl true 1 0) [])] [(0, 1, (.t 48)), (1, 1, (.t 49)), (2, 1, (.t 50))]⟩ ::
   ⟨some (46, true), .call (some 52) 17 [(.t 47), (.t 51)]⟩ ::
   ⟨none, .pick 53 (.t 46) (.t 52) (.c (.v (.bool false)))⟩ ::
   ⟨none, .asg 0 (.t 53)⟩ :: []))
 (.seq (.scr r11) .ret))))))),
  54, [0]⟩

/-- coinage/coinagelaw31.few -/
abbrev K12 : Nat := 3
def hints12 : List (List Bool) := [bits 6 [2]]
@[simp] def r12 : List Bool := bits 6 [2]
@[simp] def R12 (s2 : V) : St := tab 6 3 (fu dd 2 s2) dd
def c12 : MF := ⟨(.seq (.ops [⟨none, .asg 2 (.c (.v (.bool false)))⟩])
 (.seq (.ops [⟨none, .mv 3 (.t 0)⟩,
   ⟨none, .len 4 false (.t 3)⟩,
   ⟨none, .bin 5 .leq .num (.t 4) (.c (.v (.int .i64 80)))⟩,
   ⟨none, .asg 2 (.t 5)⟩])
 (.seq (.scr r12) .ret))),
  6, [2]⟩

def hints13 : List (List Bool) := [bits 54 [4, 5], bits 54 [10], bits 54 [8, 10, 28, 29, 30], bits 54 [10], bits 54 [8, 10, 28, 29, 30], bits 54 [8, 10, 11, 12, 28, 29, 30], bits 54 [8, 10, 11, 12, 28, 29, 30], bits 54 [8, 10, 11, 12, 28, 29, 30], bits 54 [8, 10, 11, 12, 28, 29, 30], bits 54 [4, 5]]
@[simp] def r13 : List Bool := bits 54 [4, 5]
@[simp] def R13 (s4 s5 : V) : St := tab 54 31 (fu (fu dd 5 s5) 4 s4) dd
@[simp] def x13_0 : List Bool := bits 54 [10]
@[simp] def X13_0 (s10 : V) : St := tab 54 31 (fu dd 10 s10) dd
@[simp] def h13_0 : List Bool := bits 54 [8, 10, 28, 29, 30]
@[simp] def L13_0 (s8 s10 s28 s29 s30 : V) : St := tab 54 31 (fu (fu (fu (fu (fu dd 30 s30) 29 s29) 28 s28) 10 s10) 8 s8) dd
@[simp] def x13_1 : List Bool := bits 54 [8, 10, 28, 29, 30]
@[simp] def X13_1 (s8 s10 s28 s29 s30 : V) : St := tab 54 31 (fu (fu (fu (fu (fu dd 30 s30) 29 s29) 28 s28) 10 s10) 8 s8) dd
@[simp] def x13_2 : List Bool := bits 54 [8, 10, 11, 12, 28, 29, 30]
@[simp] def X13_2 (s8 s10 s11 s12 s28 s29 s30 : V) : St := tab 54 31 (fu (fu (fu (fu (fu (fu (fu dd 30 s30) 29 s29) 28 s28) 12 s12) 11 s11) 10 s10) 8 s8) dd
@[simp] def h13_1 : List Bool := bits 54 [8, 10, 11, 12, 28, 29, 30]
@[simp] def L13_1 (s8 s10 s11 s12 s28 s29 s30 : V) : St := tab 54 31 (fu (fu (fu (fu (fu (fu (fu dd 30 s30) 29 s29) 28 s28) 12 s12) 11 s11) 10 s10) 8 s8) dd
@[simp] def x13_3 : List Bool := bits 54 [8, 10, 11, 12, 28, 29, 30]
@[simp] def X13_3 (s8 s10 s11 s12 s28 s29 s30 : V) : St := tab 54 31 (fu (fu (fu (fu (fu (fu (fu dd 30 s30) 29 s29) 28 s28) 12 s12) 11 s11) 10 s10) 8 s8) dd
def b13_1 : MC := .seq (.scr h13_1)
 (.seq (.seq (.ops [⟨none, .mv 35 (.t 10)⟩,
    ⟨none, .len 36 false (.t 35)⟩,
    ⟨none, .mv 37 (.t 12)⟩,
    ⟨none, .bin 38 .leq .num (.t 36) (.t 37)⟩])
  (.cnd (.t 38)
   .skip
   (.seq (.scr x13_2) (.ex 2))))
 (.seq (.blk 3 (.ops [⟨none, .mv 39 (.t 10)⟩,
   ⟨none, .bs 40 1 1 [(.nd (.sl true 1 0) [])] [(0, 1, (.c (.nd (.sl true 1 0) [])))]⟩,
   ⟨none, .app 41 1 (.t 39) (.t 40)⟩,
   ⟨none, .asg 10 (.t 41)⟩])) (.scr x13_3)))
def b13_0 : MC := .seq (.scr h13_0)
 (.seq (.ops [⟨none, .bin 31 .lss .num (.t 30) (.t 29)⟩])
 (.seq (.cnd (.t 31)
   .skip
   (.seq (.scr x13_0) (.ex 0)))
 (.seq (.seq (.blk 1 (.seq (.ops [⟨none, .mv 32 (.t 30)⟩,
     ⟨none, .ixs 33 1 (.t 28) (.t 30)⟩,
     ⟨none, .ld1 34 (.t 33)⟩,
     ⟨none, .asg 11 (.t 32)⟩,
     ⟨none, .asg 12 (.t 34)⟩])
   (.seq (.seq (.blk 2 (.lop b13_1)) (.scr x13_2))
   (.ops [⟨none, .mv 42 (.t 10)⟩,
    ⟨none, .mv 43 (.t 12)⟩,
    ⟨none, .mv 44 (.t 10)⟩,
    ⟨none, .mv 45 (.t 12)⟩,
    ⟨none, .ixs 46 1 (.t 44) (.t 45)⟩,
    ⟨none, .ld1 47 (.t 46)⟩,
    ⟨none, .mv 48 (.t 11)⟩,
    ⟨none, .bs 49 1 1 [(.v (.int .i64 0))] [(0, 1, (.t 48))]⟩,
    ⟨none, .app 50 1 (.t 47) (.t 49)⟩,
    ⟨none, .ixs 51 1 (.t 42) (.t 43)⟩,
    ⟨none, .stn none 1 (.t 51) (.t 50)⟩])))) (.scr x13_1))
 (.ops [⟨none, .bin 52 .add .num (.t 30) (.c (.v (.int .i64 1)))⟩,
  ⟨none, .mv 30 (.t 52)⟩]))))
def c13 : MF := ⟨(.seq (.ops [⟨none, .asg 4 (.c (.nd (.sl true 1 0) []))⟩,
   ⟨none, .asg 5 (.c (.v (.int .i64 0)))⟩])
 (.seq (.seq (.ops [⟨none, .mv 14 (.t 0)⟩,
    ⟨none, .mv 15 (.t 1)⟩,
    ⟨none, .call (some 16) 33 [(.t 14), (.t 15)]⟩,
    ⟨none, .mv 13 (.t 16)⟩,
    ⟨none, .ext 17 (.t 13) 0⟩,
    ⟨none, .ext 18 (.t 13) 1⟩,
    ⟨none, .asg 6 (.t 17)⟩,
    ⟨none, .asg 7 (.t 18)⟩])
  (.seq (.ops [⟨none, .mv 19 (.t 7)⟩,
    ⟨none, .bin 20 .neq .num (.t 19) (.c (.v (.int .i64 0)))⟩])
  (.cnd (.t 20)
   (.seq (.ops [⟨none, .mv 21 (.t 7)⟩,
     ⟨none, .asg 4 (.c (.nd (.sl true 1 0) []))⟩,
     ⟨none, .asg 5 (.t 21)⟩])
   (.seq (.scr r13) .ret))
   .skip)))
 (.seq (.ops [⟨none, .mv 23 (.t 0)⟩,
   ⟨none, .mv 24 (.t 1)⟩,
   ⟨none, .call (some 25) 34 [(.t 23), (.t 24)]⟩,
   ⟨none, .mv 22 (.t 25)⟩,
   ⟨none, .ext 26 (.t 22) 0⟩,
   ⟨none, .ext 27 (.t 22) 1⟩,
   ⟨none, .asg 8 (.t 26)⟩,
   ⟨none, .asg 9 (.t 27)⟩])
 (.seq (.ops [⟨none, .asg 10 (.c (.nd (.sl true 1 0) []))⟩])
 (.seq (.seq (.ops [⟨none, .mv 28 (.t 8)⟩,
    ⟨none, .len 29 false (.t 28)⟩,
    ⟨none, .mv 30 (.c (.v (.int .i64 0)))⟩])
  (.seq (.blk 0 (.lop b13_0)) (.scr x13_0)))
 (.seq (.ops [⟨none, .mv 53 (.t 10)⟩,
   ⟨none, .asg 4 (.t 53)⟩,
   ⟨none, .asg 5 (.c (.v (.int .i64 0)))⟩])
 (.seq (.scr r13) .ret))))))),
  54, [4, 5]⟩

def hints14 : List (List Bool) := [bits 49 [4, 5], bits 49 [8], bits 49 [0, 8, 9, 10], bits 49 [8], bits 49 [0, 8, 9, 10], bits 49 [4, 5]]
@[simp] def r14 : List Bool := bits 49 [4, 5]
@[simp] def R14 (s4 s5 : V) : St := tab 49 12 (fu (fu dd 5 s5) 4 s4) dd
@[simp] def x14_0 : List Bool := bits 49 [8]
@[simp] def X14_0 (s8 : V) : St := tab 49 12 (fu dd 8 s8) dd
@[simp] def h14_0 : List Bool := bits 49 [0, 8, 9, 10]
@[simp] def L14_0 (s0 s8 s9 s10 : V) : St := tab 49 12 (fu (fu (fu (fu dd 10 s10) 9 s9) 8 s8) 0 s0) dd
@[simp] def x14_1 : List Bool := bits 49 [0, 8, 9, 10]
@[simp] def X14_1 (s0 s8 s9 s10 : V) : St := tab 49 12 (fu (fu (fu (fu dd 10 s10) 9 s9) 8 s8) 0 s0) dd
def b14_0 : MC := .seq (.scr h14_0)
 (.seq (.seq (.ops [⟨none, .mv 25 (.t 10)⟩,
    ⟨none, .mv 26 (.t 0)⟩,
    ⟨none, .bin 27 .lss .num (.t 25) (.t 26)⟩])
  (.cnd (.t 27)
   .skip
   (.seq (.scr x14_0) (.ex 0))))
 (.seq (.seq (.blk 1 (.drx [⟨none, .mv 30 (.t 8)⟩,
    ⟨none, .mv 31 (.t 9)⟩,
    ⟨none, .mv 32 (.t 10)⟩,
    ⟨none, .mv 36 (.t 8)⟩,
    ⟨none, .mv 37 (.t 9)⟩,
    ⟨none, .mv 38 (.t 10)⟩,
    ⟨none, .mv 44 (.t 10)⟩,
    ⟨none, .ixs 33 1 (.t 31) (.t 32)⟩,
    ⟨none, .ld1 34 (.t 33)⟩,
    ⟨none, .bin 35 .sub .num (.t 34) (.c (.v (.int .i64 1)))⟩,
    ⟨none, .ixs 39 1 (.t 37) (.t 38)⟩,
    ⟨none, .ld1 40 (.t 39)⟩,
    ⟨none, .bin 41 .sub .num (.t 40) (.c (.v (.int .i64 1)))⟩,
    ⟨none, .ixs 42 1 (.t 36) (.t 41)⟩,
    ⟨none, .ld1 43 (.t 42)⟩,
    ⟨none, .bs 45 1 1 [(.v (.int .i64 0))] [(0, 1, (.t 44))]⟩] [(⟨none, .app 46 1 (.t 43) (.t 45)⟩, [(33, [31, 32]), (34, [33]), (35, [34])]),
    (⟨none, .ixs 47 1 (.t 30) (.t 35)⟩, []),
    (⟨none, .stn none 1 (.t 47) (.t 46)⟩, [])] [])) (.scr x14_1))
 (.ops [⟨none, .mv 28 (.t 10)⟩,
  ⟨none, .bin 29 .add .num (.t 28) (.c (.v (.int .i64 1)))⟩,
  ⟨none, .asg 10 (.t 29)⟩])))
def c14 : MF := ⟨(.seq (.ops [⟨none, .asg 4 (.c (.nd (.sl true 1 0) []))⟩,
   ⟨none, .asg 5 (.c (.v (.int .i64 0)))⟩])
 (.seq (.ops [⟨none, .mv 12 (.t 0)⟩,
   ⟨none, .mv 13 (.t 1)⟩,
   ⟨none, .call (some 14) 27 [(.t 12), (.t 13)]⟩,
   ⟨none, .mv 11 (.t 14)⟩,
   ⟨none, .ext 15 (.t 11) 0⟩,
   ⟨none, .ext 16 (.t 11) 1⟩,
   ⟨none, .asg 6 (.t 15)⟩,
   ⟨none, .asg 7 (.t 16)⟩])
 (.seq (.seq (.ops [⟨none, .mv 17 (.t 7)⟩,
    ⟨none, .bin 18 .neq .num (.t 17) (.c (.v (.int .i64 0)))⟩])
  (.cnd (.t 18)
   (.seq (.ops [⟨none, .mv 19 (.t 7)⟩,
     ⟨none, .asg 4 (.c (.nd (.sl true 1 0) []))⟩,
     ⟨none, .asg 5 (.t 19)⟩])
   (.seq (.scr r14) .ret))
   .skip))
 (.seq (.ops [⟨none, .mv 20 (.t 6)⟩,
   ⟨none, .mks 21 1 [(.nd (.sl true 1 0) [])] (.t 20) (.t 20)⟩,
   ⟨none, .asg 8 (.t 21)⟩])
 (.seq (.ops [⟨none, .mv 22 (.t 0)⟩,
   ⟨none, .mv 23 (.t 1)⟩,
   ⟨none, .call (some 24) 35 [(.t 22), (.t 23)]⟩,
   ⟨none, .asg 9 (.t 24)⟩])
 (.seq (.seq (.ops [⟨none, .asg 10 (.c (.v (.int .i64 0)))⟩])
  (.seq (.blk 0 (.lop b14_0)) (.scr x14_0)))
 (.seq (.ops [⟨none, .mv 48 (.t 8)⟩,
   ⟨none, .asg 4 (.t 48)⟩,
   ⟨none, .asg 5 (.c (.v (.int .i64 0)))⟩])
 (.seq (.scr r14) .ret)))))))),
  49, [4, 5]⟩

def hints16 : List (List Bool) := [bits 121 [6, 7], bits 121 [6, 7], bits 121 [0, 2, 9, 13, 120], bits 121 [0, 1, 2, 9, 10, 13, 120], bits 121 [0, 2, 9, 13, 120], bits 121 [0, 1, 2, 9, 10, 13, 120], bits 121 [6, 7], bits 121 [0, 2, 9, 11, 12, 13, 120], bits 121 [0, 2, 9, 11, 12, 13, 120], bits 121 [6, 7], bits 121 [0, 2, 9, 12, 13], bits 121 [0, 2, 9, 11, 12, 13, 14, 120], bits 121 [0, 2, 9, 12, 13], bits 121 [0, 2, 9, 11, 12, 13, 14, 120], bits 121 [0, 2, 9, 11, 12, 13, 14, 120], bits 121 [0, 2, 9, 11, 12, 13, 14, 15, 120], bits 121 [0, 2, 9, 11, 12, 13, 14, 15, 16, 120], bits 121 [0, 2, 9, 11, 12, 13, 14, 15, 120], bits 121 [0, 2, 9, 11, 12, 13, 14, 15, 16, 120], bits 121 [0, 2, 9, 11, 12, 13, 14, 120], bits 121 [0, 2, 9, 11, 12, 13, 14, 15, 17, 120], bits 121 [0, 2, 9, 11, 12, 13, 14, 120], bits 121 [0, 2, 9, 11, 12, 13, 14, 15, 17, 120]]
@[simp] def r16 : List Bool := bits 121 [6, 7]
@[simp] def R16 (s6 s7 : V) : St := tab 121 121 (fu (fu dd 7 s7) 6 s6) dd
@[simp] def x16_0 : List Bool := bits 121 [0, 2, 9, 13, 120]
@[simp] def X16_0 (s0 s2 s9 s13 s120 : V) : St := tab 121 121 (fu (fu (fu (fu (fu dd 120 s120) 13 s13) 9 s9) 2 s2) 0 s0) dd
@[simp] def h16_0 : List Bool := bits 121 [0, 1, 2, 9, 10, 13, 120]
@[simp] def L16_0 (s0 s1 s2 s9 s10 s13 s120 : V) : St := tab 121 121 (fu (fu (fu (fu (fu (fu (fu dd 120 s120) 13 s13) 10 s10) 9 s9) 2 s2) 1 s1) 0 s0) dd
@[simp] def x16_1 : List Bool := bits 121 [0, 1, 2, 9, 10, 13, 120]
@[simp] def X16_1 (s0 s1 s2 s9 s10 s13 s120 : V) : St := tab 121 121 (fu (fu (fu (fu (fu (fu (fu dd 120 s120) 13 s13) 10 s10) 9 s9) 2 s2) 1 s1) 0 s0) dd
def b16_0 : MC := .seq (.scr h16_0)
 (.seq (.seq (.ops [⟨none, .mv 29 (.t 10)⟩,
    ⟨none, .mv 30 (.t 1)⟩,
    ⟨none, .len 31 false (.t 30)⟩,
    ⟨none, .bin 32 .lss .num (.t 29) (.t 31)⟩])
  (.cnd (.t 32)
   .skip
   (.seq (.scr x16_0) (.ex 0))))
 (.seq (.seq (.blk 1 (.drw [⟨none, .mv 35 (.t 9)⟩,
    ⟨none, .mv 36 (.t 1)⟩,
    ⟨none, .mv 37 (.t 10)⟩,
    ⟨none, .ixs 38 2 (.t 36) (.t 37)⟩,
    ⟨none, .fa 39 1 (.t 38)⟩,
    ⟨none, .ld1 40 (.t 39)⟩,
    ⟨none, .ixs 41 1 (.t 35) (.t 40)⟩,
    ⟨none, .ld1 42 (.t 41)⟩,
    ⟨none, .mv 43 (.t 1)⟩,
    ⟨none, .mv 44 (.t 10)⟩,
    ⟨none, .ixs 45 2 (.t 43) (.t 44)⟩,
    ⟨none, .fa 46 0 (.t 45)⟩,
    ⟨none, .ld1 47 (.t 46)⟩,
    ⟨none, .bin 48 .shl .num (.c (.v (.int .i64 1))) (.t 47)⟩] [⟨none, .bin 49 .or .num (.t 42) (.t 48)⟩,
    ⟨none, .ixs 50 1 (.t 35) (.t 40)⟩,
    ⟨none, .stn none 1 (.t 50) (.t 49)⟩])) (.scr x16_1))
 (.ops [⟨none, .mv 33 (.t 10)⟩,
  ⟨none, .bin 34 .add .num (.t 33) (.c (.v (.int .i64 1)))⟩,
  ⟨none, .asg 10 (.t 34)⟩])))
@[simp] def x16_2 : List Bool := bits 121 [6, 7]
@[simp] def X16_2 (s6 s7 : V) : St := tab 121 121 (fu (fu dd 7 s7) 6 s6) dd
@[simp] def h16_1 : List Bool := bits 121 [0, 2, 9, 11, 12, 13, 120]
@[simp] def L16_1 (s0 s2 s9 s11 s12 s13 s120 : V) : St := tab 121 121 (fu (fu (fu (fu (fu (fu (fu dd 120 s120) 13 s13) 12 s12) 11 s11) 9 s9) 2 s2) 0 s0) dd
@[simp] def x16_3 : List Bool := bits 121 [0, 2, 9, 11, 12, 13, 120]
@[simp] def X16_3 (s0 s2 s9 s11 s12 s13 s120 : V) : St := tab 121 121 (fu (fu (fu (fu (fu (fu (fu dd 120 s120) 13 s13) 12 s12) 11 s11) 9 s9) 2 s2) 0 s0) dd
@[simp] def x16_4 : List Bool := bits 121 [0, 2, 9, 12, 13]
@[simp] def X16_4 (s0 s2 s9 s12 s13 : V) : St := tab 121 121 (fu (fu (fu (fu (fu dd 13 s13) 12 s12) 9 s9) 2 s2) 0 s0) dd
@[simp] def h16_2 : List Bool := bits 121 [0, 2, 9, 11, 12, 13, 14, 120]
@[simp] def L16_2 (s0 s2 s9 s11 s12 s13 s14 s120 : V) : St := tab 121 121 (fu (fu (fu (fu (fu (fu (fu (fu dd 120 s120) 14 s14) 13 s13) 12 s12) 11 s11) 9 s9) 2 s2) 0 s0) dd
@[simp] def x16_5 : List Bool := bits 121 [0, 2, 9, 11, 12, 13, 14, 120]
@[simp] def X16_5 (s0 s2 s9 s11 s12 s13 s14 s120 : V) : St := tab 121 121 (fu (fu (fu (fu (fu (fu (fu (fu dd 120 s120) 14 s14) 13 s13) 12 s12) 11 s11) 9 s9) 2 s2) 0 s0) dd
@[simp] def x16_6 : List Bool := bits 121 [0, 2, 9, 11, 12, 13, 14, 15, 120]
@[simp] def X16_6 (s0 s2 s9 s11 s12 s13 s14 s15 s120 : V) : St := tab 121 121 (fu (fu (fu (fu (fu (fu (fu (fu (fu dd 120 s120) 15 s15) 14 s14) 13 s13) 12 s12) 11 s11) 9 s9) 2 s2) 0 s0) dd
@[simp] def h16_3 : List Bool := bits 121 [0, 2, 9, 11, 12, 13, 14, 15, 16, 120]
@[simp] def L16_3 (s0 s2 s9 s11 s12 s13 s14 s15 s16 s120 : V) : St := tab 121 121 (fu (fu (fu (fu (fu (fu (fu (fu (fu (fu dd 120 s120) 16 s16) 15 s15) 14 s14) 13 s13) 12 s12) 11 s11) 9 s9) 2 s2) 0 s0) dd
@[simp] def x16_7 : List Bool := bits 121 [0, 2, 9, 11, 12, 13, 14, 15, 16, 120]
@[simp] def X16_7 (s0 s2 s9 s11 s12 s13 s14 s15 s16 s120 : V) : St := tab 121 121 (fu (fu (fu (fu (fu (fu (fu (fu (fu (fu dd 120 s120) 16 s16) 15 s15) 14 s14) 13 s13) 12 s12) 11 s11) 9 s9) 2 s2) 0 s0) dd
def b16_3 : MC := .seq (.scr h16_3)
 (.seq (.seq (.ops [⟨none, .mv 79 (.t 16)⟩,
    ⟨none, .mv 80 (.t 0)⟩,
    ⟨none, .bin 81 .lss .num (.t 79) (.t 80)⟩])
  (.cnd (.t 81)
   .skip
   (.seq (.scr x16_6) (.ex 6))))
 (.seq (.seq (.blk 7 (.seq (.ops [⟨none, .mv 84 (.t 14)⟩,
     ⟨none, .mv 85 (.t 16)⟩,
     ⟨none, .bin 86 .shr .num (.t 84) (.t 85)⟩,
     ⟨none, .bin 87 .and .num (.t 86) (.c (.v (.int .i64 1)))⟩,
     ⟨none, .bin 88 .eql .num (.t 87) (.c (.v (.int .i64 0)))⟩,
     ⟨none, .mv 89 (.t 88)⟩,
     ⟨some (89, true), .mv 90 (.t 9)⟩,
     ⟨some (89, true), .mv 91 (.t 16)⟩,
     ⟨some (89, true), .ixs 92 1 (.t 90) (.t 91)⟩,
     ⟨some (89, true), .ld1 93 (.t 92)⟩,
     ⟨some (89, true), .mv 94 (.t 14)⟩,
     ⟨some (89, true), .bin 95 .andNot .num (.t 93) (.t 94)⟩,
     ⟨some (89, true), .bin 96 .eql .num (.t 95) (.c (.v (.int .i64 0)))⟩,
     ⟨none, .pick 97 (.t 89) (.t 96) (.c (.v (.bool false)))⟩])
   (.cnd (.t 97)
    (.ops [⟨none, .mv 98 (.t 15)⟩,
     ⟨none, .mv 99 (.t 16)⟩,
     ⟨none, .bin 100 .shl .num (.c (.v (.int .i64 1))) (.t 99)⟩,
     ⟨none, .bin 101 .or .num (.t 98) (.t 100)⟩,
     ⟨none, .asg 15 (.t 101)⟩])
    .skip))) (.scr x16_7))
 (.ops [⟨none, .mv 82 (.t 16)⟩,
  ⟨none, .bin 83 .add .num (.t 82) (.c (.v (.int .i64 1)))⟩,
  ⟨none, .asg 16 (.t 83)⟩])))
@[simp] def x16_8 : List Bool := bits 121 [0, 2, 9, 11, 12, 13, 14, 120]
@[simp] def X16_8 (s0 s2 s9 s11 s12 s13 s14 s120 : V) : St := tab 121 121 (fu (fu (fu (fu (fu (fu (fu (fu dd 120 s120) 14 s14) 13 s13) 12 s12) 11 s11) 9 s9) 2 s2) 0 s0) dd
@[simp] def h16_4 : List Bool := bits 121 [0, 2, 9, 11, 12, 13, 14, 15, 17, 120]
@[simp] def L16_4 (s0 s2 s9 s11 s12 s13 s14 s15 s17 s120 : V) : St := tab 121 121 (fu (fu (fu (fu (fu (fu (fu (fu (fu (fu dd 120 s120) 17 s17) 15 s15) 14 s14) 13 s13) 12 s12) 11 s11) 9 s9) 2 s2) 0 s0) dd
@[simp] def x16_9 : List Bool := bits 121 [0, 2, 9, 11, 12, 13, 14, 15, 17, 120]
@[simp] def X16_9 (s0 s2 s9 s11 s12 s13 s14 s15 s17 s120 : V) : St := tab 121 121 (fu (fu (fu (fu (fu (fu (fu (fu (fu (fu dd 120 s120) 17 s17) 15 s15) 14 s14) 13 s13) 12 s12) 11 s11) 9 s9) 2 s2) 0 s0) dd
def b16_4 : MC := .seq (.scr h16_4)
 (.seq (.seq (.ops [⟨none, .mv 103 (.t 17)⟩,
    ⟨none, .bin 104 .gtr .num (.t 103) (.c (.v (.int .i64 0)))⟩])
  (.cnd (.t 104)
   .skip
   (.seq (.scr x16_8) (.ex 8))))
 (.seq (.seq (.blk 9 (.seq (.ops [⟨none, .mv 109 (.t 0)⟩,
     ⟨none, .mv 110 (.t 17)⟩,
     ⟨none, .call (some 111) 42 [(.t 109), (.t 110)]⟩,
     ⟨none, .len 112 false (.t 111)⟩,
     ⟨none, .mv 113 (.t 2)⟩,
     ⟨none, .bin 114 .leq .num (.t 112) (.t 113)⟩])
   (.cnd (.t 114)
    (.ops [⟨none, .mv 115 (.t 13)⟩,
     ⟨none, .mv 116 (.t 14)⟩,
     ⟨none, .mv 117 (.t 17)⟩,
     ⟨none, .bin 118 .or .num (.t 116) (.t 117)⟩,
     ⟨none, .ixs 119 1 (.t 115) (.t 118)⟩,
     ⟨none, .stn none 1 (.t 119) (.c (.v (.bool true)))⟩])
    .skip))) (.scr x16_9))
 (.ops [⟨none, .mv 105 (.t 17)⟩,
  ⟨none, .bin 106 .sub .num (.t 105) (.c (.v (.int .i64 1)))⟩,
  ⟨none, .mv 107 (.t 15)⟩,
  ⟨none, .bin 108 .and .num (.t 106) (.t 107)⟩,
  ⟨none, .asg 17 (.t 108)⟩])))
def b16_2 : MC := .seq (.scr h16_2)
 (.seq (.seq (.ops [⟨none, .mv 68 (.t 14)⟩,
    ⟨none, .mv 69 (.t 0)⟩,
    ⟨none, .bin 70 .shl .num (.c (.v (.int .i64 1))) (.t 69)⟩,
    ⟨none, .bin 71 .lss .num (.t 68) (.t 70)⟩])
  (.cnd (.t 71)
   .skip
   (.seq (.scr x16_4) (.ex 4))))
 (.seq (.seq (.blk 5 (.seq (.seq (.ops [⟨none, .mv 74 (.t 11)⟩,
      ⟨none, .mv 75 (.t 14)⟩,
      ⟨none, .ixs 76 1 (.t 74) (.t 75)⟩,
      ⟨none, .ld1 77 (.t 76)⟩,
      ⟨none, .un 78 .not (.t 77)⟩])
    (.cnd (.t 78)
     (.seq (.scr x16_5) (.ex 5))
     .skip))
   (.seq (.ops [⟨none, .asg 15 (.c (.v (.int .i64 0)))⟩])
   (.seq (.seq (.ops [⟨none, .asg 16 (.c (.v (.int .i64 0)))⟩])
    (.seq (.blk 6 (.lop b16_3)) (.scr x16_6)))
   (.seq (.ops [⟨none, .mv 102 (.t 15)⟩,
     ⟨none, .asg 17 (.t 102)⟩])
   (.seq (.blk 8 (.lop b16_4)) (.scr x16_8))))))) (.scr x16_5))
 (.ops [⟨none, .mv 72 (.t 14)⟩,
  ⟨none, .bin 73 .add .num (.t 72) (.c (.v (.int .i64 1)))⟩,
  ⟨none, .asg 14 (.t 73)⟩])))
def b16_1 : MC := .seq (.scr h16_1)
 (.seq (.seq (.blk 3 (.seq (.seq (.ops [⟨none, .mv 58 (.t 11)⟩,
      ⟨none, .mv 59 (.t 0)⟩,
      ⟨none, .bin 60 .shl .num (.c (.v (.int .i64 1))) (.t 59)⟩,
      ⟨none, .bin 61 .sub .num (.t 60) (.c (.v (.int .i64 1)))⟩,
      ⟨none, .ixs 62 1 (.t 58) (.t 61)⟩,
      ⟨none, .ld1 63 (.t 62)⟩])
    (.cnd (.t 63)
     (.seq (.ops [⟨none, .mv 64 (.t 12)⟩,
       ⟨none, .asg 6 (.t 64)⟩,
       ⟨none, .asg 7 (.c (.v (.int .i64 0)))⟩])
     (.seq (.scr r16) .ret))
     .skip))
   (.seq (.ops [⟨none, .mv 65 (.t 0)⟩,
     ⟨none, .bin 66 .shl .num (.c (.v (.int .i64 1))) (.t 65)⟩,
     ⟨none, .mks 67 1 [(.v (.bool false))] (.t 66) (.t 66)⟩,
     ⟨none, .asg 13 (.t 67)⟩])
   (.seq (.seq (.ops [⟨none, .asg 14 (.c (.v (.int .i64 0)))⟩])
    (.seq (.blk 4 (.lop b16_2)) (.scr x16_4)))
   (.ops [⟨none, .mv 120 (.t 13)⟩,
    ⟨none, .asg 11 (.t 120)⟩]))))) (.scr x16_3))
 (.ops [⟨none, .mv 56 (.t 12)⟩,
  ⟨none, .bin 57 .add .num (.t 56) (.c (.v (.int .i64 1)))⟩,
  ⟨none, .asg 12 (.t 57)⟩]))
def c16 : MF := ⟨(.seq (.ops [⟨none, .asg 6 (.c (.v (.int .i64 0)))⟩,
   ⟨none, .asg 7 (.c (.v (.int .i64 0)))⟩])
 (.seq (.seq (.ops [⟨none, .mv 18 (.t 0)⟩,
    ⟨none, .mv 19 (.t 1)⟩,
    ⟨none, .call (some 20) 40 [(.t 18), (.t 19)]⟩,
    ⟨none, .asg 8 (.t 20)⟩])
  (.seq (.ops [⟨none, .mv 21 (.t 8)⟩,
    ⟨none, .bin 22 .neq .num (.t 21) (.c (.v (.int .i64 0)))⟩])
  (.cnd (.t 22)
   (.seq (.ops [⟨none, .mv 23 (.t 8)⟩,
     ⟨none, .asg 6 (.c (.v (.int .i64 0)))⟩,
     ⟨none, .asg 7 (.t 23)⟩])
   (.seq (.scr r16) .ret))
   .skip)))
 (.seq (.seq (.ops [⟨none, .mv 24 (.t 2)⟩,
    ⟨none, .call (some 25) 41 [(.t 24), (.c (.v (.int .i64 1))), (.c (.v (.int .i64 12)))]⟩,
    ⟨none, .un 26 .not (.t 25)⟩])
  (.cnd (.t 26)
   (.seq (.ops [⟨none, .asg 6 (.c (.v (.int .i64 0)))⟩,
     ⟨none, .asg 7 (.c (.v (.int .i64 2)))⟩])
   (.seq (.scr r16) .ret))
   .skip))
 (.seq (.ops [⟨none, .mv 27 (.t 0)⟩,
   ⟨none, .mks 28 1 [(.v (.int .i64 0))] (.t 27) (.t 27)⟩,
   ⟨none, .asg 9 (.t 28)⟩])
 (.seq (.seq (.ops [⟨none, .asg 10 (.c (.v (.int .i64 0)))⟩])
  (.seq (.blk 0 (.lop b16_0)) (.scr x16_0)))
 (.seq (.ops [⟨none, .mv 51 (.t 0)⟩,
   ⟨none, .bin 52 .shl .num (.c (.v (.int .i64 1))) (.t 51)⟩,
   ⟨none, .mks 53 1 [(.v (.bool false))] (.t 52) (.t 52)⟩,
   ⟨none, .asg 11 (.t 53)⟩])
 (.seq (.ops [⟨none, .mv 54 (.t 11)⟩,
   ⟨none, .ixs 55 1 (.t 54) (.c (.v (.int .i64 0)))⟩,
   ⟨none, .stn none 1 (.t 55) (.c (.v (.bool true)))⟩])
 (.seq (.ops [⟨none, .asg 12 (.c (.v (.int .i64 0)))⟩])
 (.seq (.blk 2 (.lop b16_1)) (.scr x16_2)))))))))),
  121, [6, 7]⟩

def hints17 : List (List Bool) := [bits 27 [4], bits 27 [], bits 27 [0, 1, 5], bits 27 [], bits 27 [0, 1, 5], bits 27 [4], bits 27 [4]]
@[simp] def r17 : List Bool := bits 27 [4]
@[simp] def R17 (s4 : V) : St := tab 27 6 (fu dd 4 s4) dd
@[simp] def x17_0 : List Bool := bits 27 []
@[simp] def X17_0 : St := tab 27 6 dd dd
@[simp] def h17_0 : List Bool := bits 27 [0, 1, 5]
@[simp] def L17_0 (s0 s1 s5 : V) : St := tab 27 6 (fu (fu (fu dd 5 s5) 1 s1) 0 s0) dd
@[simp] def x17_1 : List Bool := bits 27 [0, 1, 5]
@[simp] def X17_1 (s0 s1 s5 : V) : St := tab 27 6 (fu (fu (fu dd 5 s5) 1 s1) 0 s0) dd
def b17_0 : MC := .seq (.scr h17_0)
 (.seq (.seq (.ops [⟨none, .mv 11 (.t 5)⟩,
    ⟨none, .mv 12 (.t 0)⟩,
    ⟨none, .len 13 false (.t 12)⟩,
    ⟨none, .bin 14 .lss .num (.t 11) (.t 13)⟩])
  (.cnd (.t 14)
   .skip
   (.seq (.scr x17_0) (.ex 0))))
 (.seq (.seq (.blk 1 (.seq (.drw [⟨none, .mv 17 (.t 0)⟩,
     ⟨none, .mv 18 (.t 5)⟩,
     ⟨none, .ixs 19 1 (.t 17) (.t 18)⟩,
     ⟨none, .ld1 20 (.t 19)⟩,
     ⟨none, .mv 21 (.t 1)⟩,
     ⟨none, .mv 22 (.t 5)⟩,
     ⟨none, .ixs 23 1 (.t 21) (.t 22)⟩,
     ⟨none, .ld1 24 (.t 23)⟩] [⟨none, .call (some 25) 28 [(.t 20), (.t 24)]⟩,
     ⟨none, .un 26 .not (.t 25)⟩])
   (.cnd (.t 26)
    (.seq (.ops [⟨none, .asg 4 (.c (.v (.bool false)))⟩])
    (.seq (.scr r17) .ret))
    .skip))) (.scr x17_1))
 (.ops [⟨none, .mv 15 (.t 5)⟩,
  ⟨none, .bin 16 .add .num (.t 15) (.c (.v (.int .i64 1)))⟩,
  ⟨none, .asg 5 (.t 16)⟩])))
def c17 : MF := ⟨(.seq (.ops [⟨none, .asg 4 (.c (.v (.bool false)))⟩])
 (.seq (.seq (.ops [⟨none, .mv 6 (.t 0)⟩,
    ⟨none, .len 7 false (.t 6)⟩,
    ⟨none, .mv 8 (.t 1)⟩,
    ⟨none, .len 9 false (.t 8)⟩,
    ⟨none, .bin 10 .neq .num (.t 7) (.t 9)⟩])
  (.cnd (.t 10)
   (.seq (.ops [⟨none, .asg 4 (.c (.v (.bool false)))⟩])
   (.seq (.scr r17) .ret))
   .skip))
 (.seq (.seq (.ops [⟨none, .asg 5 (.c (.v (.int .i64 0)))⟩])
  (.seq (.blk 0 (.lop b17_0)) (.scr x17_0)))
 (.seq (.ops [⟨none, .asg 4 (.c (.v (.bool true)))⟩])
 (.seq (.scr r17) .ret))))),
  27, [4]⟩

def hints18 : List (List Bool) := [bits 15 [4]]
@[simp] def r18 : List Bool := bits 15 [4]
@[simp] def R18 (s4 : V) : St := tab 15 6 (fu dd 4 s4) dd
def c18 : MF := ⟨(.seq (.ops [⟨none, .asg 4 (.c (.v (.int .i64 0)))⟩])
 (.seq (.ops [⟨none, .mv 6 (.t 0)⟩,
   ⟨none, .mv 7 (.t 1)⟩,
   ⟨none, .bin 8 .rem .num (.t 6) (.t 7)⟩,
   ⟨none, .asg 5 (.t 8)⟩])
 (.seq (.seq (.ops [⟨none, .mv 9 (.t 5)⟩,
    ⟨none, .bin 10 .lss .num (.t 9) (.c (.v (.int .i64 0)))⟩])
  (.cnd (.t 10)
   (.ops [⟨none, .mv 11 (.t 5)⟩,
    ⟨none, .mv 12 (.t 1)⟩,
    ⟨none, .bin 13 .add .num (.t 11) (.t 12)⟩,
    ⟨none, .asg 5 (.t 13)⟩])
   .skip))
 (.seq (.ops [⟨none, .mv 14 (.t 5)⟩,
   ⟨none, .asg 4 (.t 14)⟩])
 (.seq (.scr r18) .ret))))),
  15, [4]⟩

def hints19 : List (List Bool) := [bits 17 [4, 5]]
@[simp] def r19 : List Bool := bits 17 [4, 5]
@[simp] def R19 (s4 s5 : V) : St := tab 17 9 (fu (fu dd 5 s5) 4 s4) dd
def c19 : MF := ⟨(.seq (.ops [⟨none, .asg 4 (.c (.v (.int .i64 0)))⟩,
   ⟨none, .asg 5 (.c (.v (.int .i64 0)))⟩])
 (.seq (.ops [⟨none, .mv 9 (.t 0)⟩,
   ⟨none, .mv 10 (.t 1)⟩,
   ⟨none, .call (some 11) 13 [(.t 9), (.t 10)]⟩,
   ⟨none, .mv 8 (.t 11)⟩,
   ⟨none, .ext 12 (.t 8) 0⟩,
   ⟨none, .ext 13 (.t 8) 1⟩,
   ⟨none, .asg 6 (.t 12)⟩,
   ⟨none, .asg 7 (.t 13)⟩])
 (.seq (.ops [⟨none, .mv 14 (.t 6)⟩,
   ⟨none, .len 15 false (.t 14)⟩,
   ⟨none, .mv 16 (.t 7)⟩,
   ⟨none, .asg 4 (.t 15)⟩,
   ⟨none, .asg 5 (.t 16)⟩])
 (.seq (.scr r19) .ret)))),
  17, [4, 5]⟩

def hints20 : List (List Bool) := [bits 20 [4, 5], bits 20 [4, 5]]
@[simp] def r20 : List Bool := bits 20 [4, 5]
@[simp] def R20 (s4 s5 : V) : St := tab 20 9 (fu (fu dd 5 s5) 4 s4) dd
def c20 : MF := ⟨(.seq (.ops [⟨none, .asg 4 (.c (.v (.int .i64 0)))⟩,
   ⟨none, .asg 5 (.c (.v (.int .i64 0)))⟩])
 (.seq (.ops [⟨none, .mv 9 (.t 0)⟩,
   ⟨none, .mv 10 (.t 1)⟩,
   ⟨none, .call (some 11) 33 [(.t 9), (.t 10)]⟩,
   ⟨none, .mv 8 (.t 11)⟩,
   ⟨none, .ext 12 (.t 8) 0⟩,
   ⟨none, .ext 13 (.t 8) 1⟩,
   ⟨none, .asg 6 (.t 12)⟩,
   ⟨none, .asg 7 (.t 13)⟩])
 (.seq (.seq (.ops [⟨none, .mv 14 (.t 7)⟩,
    ⟨none, .bin 15 .neq .num (.t 14) (.c (.v (.int .i64 0)))⟩])
  (.cnd (.t 15)
   (.seq (.ops [⟨none, .mv 16 (.t 7)⟩,
     ⟨none, .asg 4 (.c (.v (.int .i64 0)))⟩,
     ⟨none, .asg 5 (.t 16)⟩])
   (.seq (.scr r20) .ret))
   .skip))
 (.seq (.ops [⟨none, .mv 17 (.t 6)⟩,
   ⟨none, .call (some 18) 43 [(.t 17)]⟩,
   ⟨none, .len 19 false (.t 18)⟩,
   ⟨none, .asg 4 (.t 19)⟩,
   ⟨none, .asg 5 (.c (.v (.int .i64 0)))⟩])
 (.seq (.scr r20) .ret))))),
  20, [4, 5]⟩

def hints21 : List (List Bool) := [bits 115 [4], bits 115 [], bits 115 [0, 1, 5], bits 115 [], bits 115 [0, 1, 5], bits 115 [4], bits 115 [4], bits 115 [4]]
@[simp] def r21 : List Bool := bits 115 [4]
@[simp] def R21 (s4 : V) : St := tab 115 6 (fu dd 4 s4) dd
@[simp] def x21_0 : List Bool := bits 115 []
@[simp] def X21_0 : St := tab 115 6 dd dd
@[simp] def h21_0 : List Bool := bits 115 [0, 1, 5]
@[simp] def L21_0 (s0 s1 s5 : V) : St := tab 115 6 (fu (fu (fu dd 5 s5) 1 s1) 0 s0) dd
@[simp] def x21_1 : List Bool := bits 115 [0, 1, 5]
@[simp] def X21_1 (s0 s1 s5 : V) : St := tab 115 6 (fu (fu (fu dd 5 s5) 1 s1) 0 s0) dd
def b21_0 : MC := .seq (.scr h21_0)
 (.seq (.seq (.ops [⟨none, .mv 20 (.t 5)⟩,
    ⟨none, .mv 21 (.t 1)⟩,
    ⟨none, .len 22 false (.t 21)⟩,
    ⟨none, .bin 23 .lss .num (.t 20) (.t 22)⟩])
  (.cnd (.t 23)
   .skip
   (.seq (.scr x21_0) (.ex 0))))
 (.seq (.seq (.blk 1 (.seq (.seq (.drw (⟨none, .mv 26 (.t 1)⟩ ::
      ⟨none, .mv 27 (.t 5)⟩ ::
      ⟨none, .ixs 28 2 (.t 26) (.t 27)⟩ ::
      ⟨none, .fa 29 0 (.t 28)⟩ ::
      ⟨none, .ld1 30 (.t 29)⟩ ::
      ⟨none, .bin 31 .lss .num (.t 30) (.c (.v (.int .i64 0)))⟩ ::
      ⟨none, .mv 32 (.t 31)⟩ ::
      ⟨some (32, false), .mv 33 (.t 1)⟩ ::
      ⟨some (32, false), .mv 34 (.t 5)⟩ ::
      ⟨some (32, false), .ixs 35 2 (.t 33) (.t 34)⟩ ::
      ⟨some (32, false), .fa 36 0 (.t 35)⟩ ::
      ⟨some (32, false), .ld1 37 (.t 36)⟩ ::
      ⟨some (32, false), .mv 38 (.t 0)⟩ ::
      ⟨some (32, false), .bin 39 .geq .num (.t 37) (.t 38)⟩ ::
      ⟨none, .pick 40 (.t 32) (.c (.v (.bool true))) (.t 39)⟩ ::
      ⟨none, .mv 41 (.t 40)⟩ ::
      ⟨some (41, false), .mv 42 (.t 1)⟩ ::
      ⟨some (41, false), .mv 43 (.t 5)⟩ ::
      ⟨some (41, false), .ixs 44 2 (.t 42) (.t 43)⟩ ::
      ⟨some (41, false), .fa 45 1 (.t 44)⟩ ::
      ⟨some (41, false), .ld1 46 (.t 45)⟩ ::
      ⟨some (41, false), .bin 47 .lss .num (.t 46) (.c (.v (.int .i64 0)))⟩ ::
      ⟨none, .pick 48 (.t 41) (.c (.v (.bool true))) (.t 47)⟩ ::
      ⟨none, .mv 49 (.t 48)⟩ ::
      ⟨some (49, false), .mv 50 (.t 1)⟩ ::
      ⟨some (49, false), .mv 51 (.t 5)⟩ ::
      ⟨some (49, false), .ixs 52 2 (.t 50) (.t 51)⟩ ::
      ⟨some (49, false), .fa 53 1 (.t 52)⟩ ::
      ⟨some (49, false), .ld1 54 (.t 53)⟩ ::
      ⟨some (49, false), .mv 55 (.t 0)⟩ ::
      ⟨some (49, false), .bin 56 .geq .num (.t 54) (.t 55)⟩ ::
      ⟨none, .pick 57 (.t 49) (.c (.v (.bool true))) (.t 56)⟩ ::
      ⟨none, .mv 58 (.t 57)⟩ ::
      ⟨some (58, false), .mv 59 (.t 1)⟩ ::
      ⟨some (58, false), .mv 60 (.t 5)⟩ ::
      ⟨some (58, false), .ixs 61 2 (.t 59) (.t 60)⟩ ::
      ⟨some (58, false), .fa 62 0 (.t 61)⟩ ::
      ⟨some (58, false), .ld1 63 (.t 62)⟩ ::
      ⟨some (58, false), .mv 64 (.t 1)⟩ ::
      ⟨some (58, false), .mv 65 (.t 5)⟩ ::
      ⟨some (58, false), .ixs 66 2 (.t 64) (.t 65)⟩ ::
      ⟨some (58, false), .fa 67 1 (.t 66)⟩ ::
      ⟨some (58, false), .ld1 68 (.t 67)⟩ :: []) [⟨some (58, false), .bin 69 .eql .num (.t 63) (.t 68)⟩,
      ⟨none, .pick 70 (.t 58) (.c (.v (.bool true))) (.t 69)⟩])
    (.cnd (.t 70)
     (.seq (.ops [⟨none, .asg 4 (.c (.v (.bool false)))⟩])
     (.seq (.scr r21) .ret))
     .skip))
   (.seq (.drw (⟨none, .mv 71 (.t 5)⟩ ::
     ⟨none, .bin 72 .gtr .num (.t 71) (.c (.v (.int .i64 0)))⟩ ::
     ⟨none, .mv 73 (.t 72)⟩ ::
     ⟨some (73, true), .mv 74 (.t 1)⟩ ::
     ⟨some (73, true), .mv 75 (.t 5)⟩ ::
     ⟨some (73, true), .ixs 76 2 (.t 74) (.t 75)⟩ ::
     ⟨some (73, true), .fa 77 0 (.t 76)⟩ ::
     ⟨some (73, true), .ld1 78 (.t 77)⟩ ::
     ⟨some (73, true), .mv 79 (.t 1)⟩ ::
     ⟨some (73, true), .mv 80 (.t 5)⟩ ::
     ⟨some (73, true), .bin 81 .sub .num (.t 80) (.c (.v (.int .i64 1)))⟩ ::
     ⟨some (73, true), .ixs 82 2 (.t 79) (.t 81)⟩ ::
     ⟨some (73, true), .fa 83 0 (.t 82)⟩ ::
     ⟨some (73, true), .ld1 84 (.t 83)⟩ ::
     ⟨some (73, true), .bin 85 .lss .num (.t 78) (.t 84)⟩ ::
     ⟨some (73, true), .mv 86 (.t 85)⟩ ::
     ⟨some (86, false), .mv 87 (.t 1)⟩ ::
     ⟨some (86, false), .mv 88 (.t 5)⟩ ::
     ⟨some (86, false), .ixs 89 2 (.t 87) (.t 88)⟩ ::
     ⟨some (86, false), .fa 90 0 (.t 89)⟩ ::
     ⟨some (86, false), .ld1 91 (.t 90)⟩ ::
     ⟨some (86, false), .mv 92 (.t 1)⟩ ::
     ⟨some (86, false), .mv 93 (.t 5)⟩ ::
     ⟨some (86, false), .bin 94 .sub .num (.t 93) (.c (.v (.int .i64 1)))⟩ ::
     ⟨some (86, false), .ixs 95 2 (.t 92) (.t 94)⟩ ::
     ⟨some (86, false), .fa 96 0 (.t 95)⟩ ::
     ⟨some (86, false), .ld1 97 (.t 96)⟩ ::
     ⟨some (86, false), .bin 98 .eql .num (.t 91) (.t 97)⟩ ::
     ⟨some (86, false), .mv 99 (.t 98)⟩ ::
     ⟨some (99, true), .mv 100 (.t 1)⟩ ::
     ⟨some (99, true), .mv 101 (.t 5)⟩ ::
     ⟨some (99, true), .ixs 102 2 (.t 100) (.t 101)⟩ ::
     ⟨some (99, true), .fa 103 1 (.t 102)⟩ ::
     ⟨some (99, true), .ld1 104 (.t 103)⟩ ::
     ⟨some (99, true), .mv 105 (.t 1)⟩ ::
     ⟨some (99, true), .mv 106 (.t 5)⟩ ::
     ⟨some (99, true), .bin 107 .sub .num (.t 106) (.c (.v (.int .i64 1)))⟩ ::
     ⟨some (99, true), .ixs 108 2 (.t 105) (.t 107)⟩ ::
     ⟨some (99, true), .fa 109 1 (.t 108)⟩ ::
     ⟨some (99, true), .ld1 110 (.t 109)⟩ :: []) [⟨some (99, true), .bin 111 .leq .num (.t 104) (.t 110)⟩,
     ⟨some (86, false), .pick 112 (.t 99) (.t 111) (.c (.v (.bool false)))⟩,
     ⟨some (73, true), .pick 113 (.t 86) (.c (.v (.bool true))) (.t 112)⟩,
     ⟨none, .pick 114 (.t 73) (.t 113) (.c (.v (.bool false)))⟩])
   (.cnd (.t 114)
    (.seq (.ops [⟨none, .asg 4 (.c (.v (.bool false)))⟩])
    (.seq (.scr r21) .ret))
    .skip)))) (.scr x21_1))
 (.ops [⟨none, .mv 24 (.t 5)⟩,
  ⟨none, .bin 25 .add .num (.t 24) (.c (.v (.int .i64 1)))⟩,
  ⟨none, .asg 5 (.t 25)⟩])))
def c21 : MF := ⟨(.seq (.ops [⟨none, .asg 4 (.c (.v (.bool false)))⟩])
 (.seq (.seq (.ops [⟨none, .mv 6 (.t 0)⟩,
    ⟨none, .bin 7 .lss .num (.t 6) (.c (.v (.int .i64 0)))⟩,
    ⟨none, .mv 8 (.t 7)⟩,
    ⟨some (8, false), .mv 9 (.t 0)⟩,
    ⟨some (8, false), .bin 10 .gtr .num (.t 9) (.c (.v (.int .i64 24)))⟩,
    ⟨none, .pick 11 (.t 8) (.c (.v (.bool true))) (.t 10)⟩,
    ⟨none, .mv 12 (.t 11)⟩,
    ⟨some (12, false), .mv 13 (.t 1)⟩,
    ⟨some (12, false), .len 14 false (.t 13)⟩,
    ⟨some (12, false), .mv 15 (.t 0)⟩,
    ⟨some (12, false), .mv 16 (.t 0)⟩,
    ⟨some (12, false), .bin 17 .mul .num (.t 15) (.t 16)⟩,
    ⟨some (12, false), .bin 18 .gtr .num (.t 14) (.t 17)⟩,
    ⟨none, .pick 19 (.t 12) (.c (.v (.bool true))) (.t 18)⟩])
  (.cnd (.t 19)
   (.seq (.ops [⟨none, .asg 4 (.c (.v (.bool false)))⟩])
   (.seq (.scr r21) .ret))
   .skip))
 (.seq (.seq (.ops [⟨none, .asg 5 (.c (.v (.int .i64 0)))⟩])
  (.seq (.blk 0 (.lop b21_0)) (.scr x21_0)))
 (.seq (.ops [⟨none, .asg 4 (.c (.v (.bool true)))⟩])
 (.seq (.scr r21) .ret))))),
  115, [4]⟩

def hints22 : List (List Bool) := [bits 44 [], bits 44 [0, 1, 2, 7], bits 44 [], bits 44 [0, 1, 2, 7], bits 44 [6], bits 44 [6]]
@[simp] def r22 : List Bool := bits 44 [6]
@[simp] def R22 (s6 : V) : St := tab 44 8 (fu dd 6 s6) dd
@[simp] def x22_0 : List Bool := bits 44 []
@[simp] def X22_0 : St := tab 44 8 dd dd
@[simp] def h22_0 : List Bool := bits 44 [0, 1, 2, 7]
@[simp] def L22_0 (s0 s1 s2 s7 : V) : St := tab 44 8 (fu (fu (fu (fu dd 7 s7) 2 s2) 1 s1) 0 s0) dd
@[simp] def x22_1 : List Bool := bits 44 [0, 1, 2, 7]
@[simp] def X22_1 (s0 s1 s2 s7 : V) : St := tab 44 8 (fu (fu (fu (fu dd 7 s7) 2 s2) 1 s1) 0 s0) dd
def b22_0 : MC := .seq (.scr h22_0)
 (.seq (.seq (.ops [⟨none, .mv 8 (.t 7)⟩,
    ⟨none, .mv 9 (.t 0)⟩,
    ⟨none, .len 10 false (.t 9)⟩,
    ⟨none, .bin 11 .lss .num (.t 8) (.t 10)⟩])
  (.cnd (.t 11)
   .skip
   (.seq (.scr x22_0) (.ex 0))))
 (.seq (.seq (.blk 1 (.seq (.drw (⟨none, .mv 14 (.t 0)⟩ ::
     ⟨none, .mv 15 (.t 7)⟩ ::
     ⟨none, .ixs 16 1 (.t 14) (.t 15)⟩ ::
     ⟨none, .ld1 17 (.t 16)⟩ ::
     ⟨none, .mv 18 (.t 1)⟩ ::
     ⟨none, .bin 19 .lss .num (.t 17) (.t 18)⟩ ::
     ⟨none, .mv 20 (.t 19)⟩ ::
     ⟨some (20, false), .mv 21 (.t 0)⟩ ::
     ⟨some (20, false), .mv 22 (.t 7)⟩ ::
     ⟨some (20, false), .ixs 23 1 (.t 21) (.t 22)⟩ ::
     ⟨some (20, false), .ld1 24 (.t 23)⟩ ::
     ⟨some (20, false), .mv 25 (.t 2)⟩ ::
     ⟨some (20, false), .bin 26 .gtr .num (.t 24) (.t 25)⟩ ::
     ⟨none, .pick 27 (.t 20) (.c (.v (.bool true))) (.t 26)⟩ ::
     ⟨none, .mv 28 (.t 27)⟩ ::
     ⟨some (28, false), .mv 29 (.t 7)⟩ ::
     ⟨some (28, false), .bin 30 .gtr .num (.t 29) (.c (.v (.int .i64 0)))⟩ ::
     ⟨some (28, false), .mv 31 (.t 30)⟩ ::
     ⟨some (31, true), .mv 32 (.t 0)⟩ ::
     ⟨some (31, true), .mv 33 (.t 7)⟩ ::
     ⟨some (31, true), .ixs 34 1 (.t 32) (.t 33)⟩ ::
     ⟨some (31, true), .ld1 35 (.t 34)⟩ ::
     ⟨some (31, true), .mv 36 (.t 0)⟩ ::
     ⟨some (31, true), .mv 37 (.t 7)⟩ ::
     ⟨some (31, true), .bin 38 .sub .num (.t 37) (.c (.v (.int .i64 1)))⟩ ::
     ⟨some (31, true), .ixs 39 1 (.t 36) (.t 38)⟩ ::
     ⟨some (31, true), .ld1 40 (.t 39)⟩ :: []) [⟨some (31, true), .bin 41 .leq .num (.t 35) (.t 40)⟩,
     ⟨some (28, false), .pick 42 (.t 31) (.t 41) (.c (.v (.bool false)))⟩,
     ⟨none, .pick 43 (.t 28) (.c (.v (.bool true))) (.t 42)⟩])
   (.cnd (.t 43)
    (.seq (.ops [⟨none, .asg 6 (.c (.v (.bool false)))⟩])
    (.seq (.scr r22) .ret))
    .skip))) (.scr x22_1))
 (.ops [⟨none, .mv 12 (.t 7)⟩,
  ⟨none, .bin 13 .add .num (.t 12) (.c (.v (.int .i64 1)))⟩,
  ⟨none, .asg 7 (.t 13)⟩])))
def c22 : MF := ⟨(.seq (.ops [⟨none, .asg 6 (.c (.v (.bool false)))⟩])
 (.seq (.seq (.ops [⟨none, .asg 7 (.c (.v (.int .i64 0)))⟩])
  (.seq (.blk 0 (.lop b22_0)) (.scr x22_0)))
 (.seq (.ops [⟨none, .asg 6 (.c (.v (.bool true)))⟩])
 (.seq (.scr r22) .ret)))),
  44, [6]⟩

def hints23 : List (List Bool) := [bits 40 [8]]
@[simp] def r23 : List Bool := bits 40 [8]
@[simp] def R23 (s8 : V) : St := tab 40 9 (fu dd 8 s8) dd
def c23 : MF := ⟨(.seq (.ops [⟨none, .asg 8 (.c (.v (.bool false)))⟩])
 (.seq (.ops (⟨none, .mv 9 (.t 0)⟩ ::
   ⟨none, .mv 10 (.t 1)⟩ ::
   ⟨none, .call (some 11) 44 [(.t 9), (.t 10)]⟩ ::
   ⟨none, .mv 12 (.t 11)⟩ ::
   ⟨some (12, true), .mv 13 (.t 2)⟩ ::
   ⟨some (12, true), .bin 14 .geq .num (.t 13) (.c (.v (.int .i64 0)))⟩ ::
   ⟨none, .pick 15 (.t 12) (.t 14) (.c (.v (.bool false)))⟩ ::
   ⟨none, .mv 16 (.t 15)⟩ ::
   ⟨some (16, true), .mv 17 (.t 2)⟩ ::
   ⟨some (16, true), .mv 18 (.t 0)⟩ ::
   ⟨some (16, true), .bin 19 .lss .num (.t 17) (.t 18)⟩ ::
   ⟨none, .pick 20 (.t 16) (.t 19) (.c (.v (.bool false)))⟩ ::
   ⟨none, .mv 21 (.t 20)⟩ ::
   ⟨some (21, true), .mv 22 (.t 3)⟩ ::
   ⟨some (21, true), .bin 23 .geq .num (.t 22) (.c (.v (.int .i64 0)))⟩ ::
   ⟨none, .pick 24 (.t 21) (.t 23) (.c (.v (.bool false)))⟩ ::
   ⟨none, .mv 25 (.t 24)⟩ ::
   ⟨some (25, true), .mv 26 (.t 3)⟩ ::
   ⟨some (25, true), .mv 27 (.t 0)⟩ ::
   ⟨some (25, true), .bin 28 .lss .num (.t 26) (.t 27)⟩ ::
   ⟨none, .pick 29 (.t 25) (.t 28) (.c (.v (.bool false)))⟩ ::
   ⟨none, .mv 30 (.t 29)⟩ ::
   ⟨some (30, true), .mv 31 (.t 0)⟩ ::
   ⟨some (30, true), .mv 32 (.t 1)⟩ ::
   ⟨some (30, true), .call (some 33) 45 [(.t 31), (.t 32)]⟩ ::
   ⟨some (30, true), .mv 34 (.t 2)⟩ ::
   ⟨some (30, true), .ixs 35 1 (.t 33) (.t 34)⟩ ::
   ⟨some (30, true), .ld1 36 (.t 35)⟩ ::
   ⟨some (30, true), .mv 37 (.t 3)⟩ ::
   ⟨some (30, true), .call (some 38) 46 [(.t 36), (.t 37)]⟩ ::
   ⟨none, .pick 39 (.t 30) (.t 38) (.c (.v (.bool false)))⟩ ::
   ⟨none, .asg 8 (.t 39)⟩ :: []))
 (.seq (.scr r23) .ret))),
  40, [8]⟩

def hints24 : List (List Bool) := [bits 17 [4, 5]]
@[simp] def r24 : List Bool := bits 17 [4, 5]
@[simp] def R24 (s4 s5 : V) : St := tab 17 9 (fu (fu dd 5 s5) 4 s4) dd
def c24 : MF := ⟨(.seq (.ops [⟨none, .asg 4 (.c (.v (.int .i64 0)))⟩,
   ⟨none, .asg 5 (.c (.v (.int .i64 0)))⟩])
 (.seq (.ops [⟨none, .mv 9 (.t 0)⟩,
   ⟨none, .mv 10 (.t 1)⟩,
   ⟨none, .call (some 11) 26 [(.t 9), (.t 10)]⟩,
   ⟨none, .mv 8 (.t 11)⟩,
   ⟨none, .ext 12 (.t 8) 0⟩,
   ⟨none, .ext 13 (.t 8) 1⟩,
   ⟨none, .asg 6 (.t 12)⟩,
   ⟨none, .asg 7 (.t 13)⟩])
 (.seq (.ops [⟨none, .mv 14 (.t 6)⟩,
   ⟨none, .len 15 false (.t 14)⟩,
   ⟨none, .mv 16 (.t 7)⟩,
   ⟨none, .asg 4 (.t 15)⟩,
   ⟨none, .asg 5 (.t 16)⟩])
 (.seq (.scr r24) .ret)))),
  17, [4, 5]⟩

def hints25 : List (List Bool) := [bits 19 [4, 5], bits 19 [4, 5]]
@[simp] def r25 : List Bool := bits 19 [4, 5]
@[simp] def R25 (s4 s5 : V) : St := tab 19 9 (fu (fu dd 5 s5) 4 s4) dd
def c25 : MF := ⟨(.seq (.ops [⟨none, .asg 4 (.c (.nd (.sl true 1 0) []))⟩,
   ⟨none, .asg 5 (.c (.v (.int .i64 0)))⟩])
 (.seq (.ops [⟨none, .mv 9 (.t 0)⟩,
   ⟨none, .mv 10 (.t 1)⟩,
   ⟨none, .call (some 11) 33 [(.t 9), (.t 10)]⟩,
   ⟨none, .mv 8 (.t 11)⟩,
   ⟨none, .ext 12 (.t 8) 0⟩,
   ⟨none, .ext 13 (.t 8) 1⟩,
   ⟨none, .asg 6 (.t 12)⟩,
   ⟨none, .asg 7 (.t 13)⟩])
 (.seq (.seq (.ops [⟨none, .mv 14 (.t 7)⟩,
    ⟨none, .bin 15 .neq .num (.t 14) (.c (.v (.int .i64 0)))⟩])
  (.cnd (.t 15)
   (.seq (.ops [⟨none, .mv 16 (.t 7)⟩,
     ⟨none, .asg 4 (.c (.nd (.sl true 1 0) []))⟩,
     ⟨none, .asg 5 (.t 16)⟩])
   (.seq (.scr r25) .ret))
   .skip))
 (.seq (.ops [⟨none, .mv 17 (.t 6)⟩,
   ⟨none, .call (some 18) 43 [(.t 17)]⟩,
   ⟨none, .asg 4 (.t 18)⟩,
   ⟨none, .asg 5 (.c (.v (.int .i64 0)))⟩])
 (.seq (.scr r25) .ret))))),
  19, [4, 5]⟩

def hints26 : List (List Bool) := [bits 98 [4, 5], bits 98 [8, 10, 96], bits 98 [0, 7, 8, 9, 10, 96], bits 98 [8, 10, 96], bits 98 [0, 7, 8, 9, 10, 96], bits 98 [0, 7, 8, 9, 10, 11, 96], bits 98 [0, 7, 8, 9, 10, 11, 12, 96], bits 98 [0, 7, 8, 9, 10, 11, 96], bits 98 [0, 7, 8, 9, 10, 11, 12, 96], bits 98 [0, 7, 8, 9, 10, 11, 12, 96], bits 98 [0, 7, 8, 9, 10, 11, 12, 13, 96], bits 98 [0, 7, 8, 9, 10, 11, 12, 96], bits 98 [0, 7, 8, 9, 10, 11, 12, 13, 96], bits 98 [4, 5]]
@[simp] def r26 : List Bool := bits 98 [4, 5]
@[simp] def R26 (s4 s5 : V) : St := tab 98 97 (fu (fu dd 5 s5) 4 s4) dd
@[simp] def x26_0 : List Bool := bits 98 [8, 10, 96]
@[simp] def X26_0 (s8 s10 s96 : V) : St := tab 98 97 (fu (fu (fu dd 96 s96) 10 s10) 8 s8) dd
@[simp] def h26_0 : List Bool := bits 98 [0, 7, 8, 9, 10, 96]
@[simp] def L26_0 (s0 s7 s8 s9 s10 s96 : V) : St := tab 98 97 (fu (fu (fu (fu (fu (fu dd 96 s96) 10 s10) 9 s9) 8 s8) 7 s7) 0 s0) dd
@[simp] def x26_1 : List Bool := bits 98 [0, 7, 8, 9, 10, 96]
@[simp] def X26_1 (s0 s7 s8 s9 s10 s96 : V) : St := tab 98 97 (fu (fu (fu (fu (fu (fu dd 96 s96) 10 s10) 9 s9) 8 s8) 7 s7) 0 s0) dd
@[simp] def x26_2 : List Bool := bits 98 [0, 7, 8, 9, 10, 11, 96]
@[simp] def X26_2 (s0 s7 s8 s9 s10 s11 s96 : V) : St := tab 98 97 (fu (fu (fu (fu (fu (fu (fu dd 96 s96) 11 s11) 10 s10) 9 s9) 8 s8) 7 s7) 0 s0) dd
@[simp] def h26_1 : List Bool := bits 98 [0, 7, 8, 9, 10, 11, 12, 96]
@[simp] def L26_1 (s0 s7 s8 s9 s10 s11 s12 s96 : V) : St := tab 98 97 (fu (fu (fu (fu (fu (fu (fu (fu dd 96 s96) 12 s12) 11 s11) 10 s10) 9 s9) 8 s8) 7 s7) 0 s0) dd
@[simp] def x26_3 : List Bool := bits 98 [0, 7, 8, 9, 10, 11, 12, 96]
@[simp] def X26_3 (s0 s7 s8 s9 s10 s11 s12 s96 : V) : St := tab 98 97 (fu (fu (fu (fu (fu (fu (fu (fu dd 96 s96) 12 s12) 11 s11) 10 s10) 9 s9) 8 s8) 7 s7) 0 s0) dd
@[simp] def x26_4 : List Bool := bits 98 [0, 7, 8, 9, 10, 11, 12, 96]
@[simp] def X26_4 (s0 s7 s8 s9 s10 s11 s12 s96 : V) : St := tab 98 97 (fu (fu (fu (fu (fu (fu (fu (fu dd 96 s96) 12 s12) 11 s11) 10 s10) 9 s9) 8 s8) 7 s7) 0 s0) dd
@[simp] def h26_2 : List Bool := bits 98 [0, 7, 8, 9, 10, 11, 12, 13, 96]
@[simp] def L26_2 (s0 s7 s8 s9 s10 s11 s12 s13 s96 : V) : St := tab 98 97 (fu (fu (fu (fu (fu (fu (fu (fu (fu dd 96 s96) 13 s13) 12 s12) 11 s11) 10 s10) 9 s9) 8 s8) 7 s7) 0 s0) dd
@[simp] def x26_5 : List Bool := bits 98 [0, 7, 8, 9, 10, 11, 12, 13, 96]
@[simp] def X26_5 (s0 s7 s8 s9 s10 s11 s12 s13 s96 : V) : St := tab 98 97 (fu (fu (fu (fu (fu (fu (fu (fu (fu dd 96 s96) 13 s13) 12 s12) 11 s11) 10 s10) 9 s9) 8 s8) 7 s7) 0 s0) dd
def b26_2 : MC := .seq (.scr h26_2)
 (.seq (.seq (.ops [⟨none, .mv 38 (.t 13)⟩,
    ⟨none, .mv 39 (.t 12)⟩,
    ⟨none, .bin 40 .lss .num (.t 38) (.t 39)⟩])
  (.cnd (.t 40)
   .skip
   (.seq (.scr x26_4) (.ex 4))))
 (.seq (.seq (.blk 5 (.drw (⟨none, .mv 43 (.t 11)⟩ ::
    ⟨none, .mv 44 (.t 43)⟩ ::
    ⟨some (44, true), .mv 45 (.t 7)⟩ ::
    ⟨some (44, true), .mv 46 (.t 10)⟩ ::
    ⟨some (44, true), .mv 47 (.t 12)⟩ ::
    ⟨some (44, true), .ixs 48 1 (.t 46) (.t 47)⟩ ::
    ⟨some (44, true), .ld1 49 (.t 48)⟩ ::
    ⟨some (44, true), .ixs 50 1 (.t 45) (.t 49)⟩ ::
    ⟨some (44, true), .ld1 51 (.t 50)⟩ ::
    ⟨some (44, true), .mv 52 (.t 10)⟩ ::
    ⟨some (44, true), .mv 53 (.t 13)⟩ ::
    ⟨some (44, true), .ixs 54 1 (.t 52) (.t 53)⟩ ::
    ⟨some (44, true), .ld1 55 (.t 54)⟩ ::
    ⟨some (44, true), .ixs 56 1 (.t 51) (.t 55)⟩ ::
    ⟨some (44, true), .ld1 57 (.t 56)⟩ ::
    ⟨some (44, true), .un 58 .not (.t 57)⟩ ::
    ⟨none, .pick 59 (.t 44) (.t 58) (.c (.v (.bool false)))⟩ ::
    ⟨none, .mv 60 (.t 59)⟩ ::
    ⟨some (60, true), .mv 61 (.t 7)⟩ ::
    ⟨some (60, true), .mv 62 (.t 10)⟩ ::
    ⟨some (60, true), .mv 63 (.t 13)⟩ ::
    ⟨some (60, true), .ixs 64 1 (.t 62) (.t 63)⟩ ::
    ⟨some (60, true), .ld1 65 (.t 64)⟩ ::
    ⟨some (60, true), .ixs 66 1 (.t 61) (.t 65)⟩ ::
    ⟨some (60, true), .ld1 67 (.t 66)⟩ ::
    ⟨some (60, true), .mv 68 (.t 10)⟩ ::
    ⟨some (60, true), .mv 69 (.t 12)⟩ ::
    ⟨some (60, true), .ixs 70 1 (.t 68) (.t 69)⟩ ::
    ⟨some (60, true), .ld1 71 (.t 70)⟩ :: []) [⟨some (60, true), .ixs 72 1 (.t 67) (.t 71)⟩,
    ⟨some (60, true), .ld1 73 (.t 72)⟩,
    ⟨some (60, true), .un 74 .not (.t 73)⟩,
    ⟨none, .pick 75 (.t 60) (.t 74) (.c (.v (.bool false)))⟩,
    ⟨none, .asg 11 (.t 75)⟩])) (.scr x26_5))
 (.ops [⟨none, .mv 41 (.t 13)⟩,
  ⟨none, .bin 42 .add .num (.t 41) (.c (.v (.int .i64 1)))⟩,
  ⟨none, .asg 13 (.t 42)⟩])))
def b26_1 : MC := .seq (.scr h26_1)
 (.seq (.seq (.ops [⟨none, .mv 32 (.t 12)⟩,
    ⟨none, .mv 33 (.t 10)⟩,
    ⟨none, .len 34 false (.t 33)⟩,
    ⟨none, .bin 35 .lss .num (.t 32) (.t 34)⟩])
  (.cnd (.t 35)
   .skip
   (.seq (.scr x26_2) (.ex 2))))
 (.seq (.seq (.blk 3 (.seq (.ops [⟨none, .asg 13 (.c (.v (.int .i64 0)))⟩])
   (.seq (.blk 4 (.lop b26_2)) (.scr x26_4)))) (.scr x26_3))
 (.ops [⟨none, .mv 36 (.t 12)⟩,
  ⟨none, .bin 37 .add .num (.t 36) (.c (.v (.int .i64 1)))⟩,
  ⟨none, .asg 12 (.t 37)⟩])))
def b26_0 : MC := .seq (.scr h26_0)
 (.seq (.seq (.ops [⟨none, .mv 23 (.t 9)⟩,
    ⟨none, .mv 24 (.t 0)⟩,
    ⟨none, .bin 25 .shl .num (.c (.v (.int .i64 1))) (.t 24)⟩,
    ⟨none, .bin 26 .lss .num (.t 23) (.t 25)⟩])
  (.cnd (.t 26)
   .skip
   (.seq (.scr x26_0) (.ex 0))))
 (.seq (.seq (.blk 1 (.seq (.ops [⟨none, .mv 29 (.t 0)⟩,
     ⟨none, .mv 30 (.t 9)⟩,
     ⟨none, .call (some 31) 42 [(.t 29), (.t 30)]⟩,
     ⟨none, .asg 10 (.t 31)⟩])
   (.seq (.ops [⟨none, .asg 11 (.c (.v (.bool true)))⟩])
   (.seq (.seq (.ops [⟨none, .asg 12 (.c (.v (.int .i64 0)))⟩])
    (.seq (.blk 2 (.lop b26_1)) (.scr x26_2)))
   (.seq (.ops (⟨none, .mv 76 (.t 11)⟩ ::
     ⟨none, .mv 77 (.t 76)⟩ ::
     ⟨some (77, true), .mv 78 (.t 10)⟩ ::
     ⟨some (77, true), .len 79 false (.t 78)⟩ ::
     ⟨some (77, true), .mv 80 (.t 8)⟩ ::
     ⟨some (77, true), .len 81 false (.t 80)⟩ ::
     ⟨some (77, true), .bin 82 .gtr .num (.t 79) (.t 81)⟩ ::
     ⟨some (77, true), .mv 83 (.t 82)⟩ ::
     ⟨some (83, false), .mv 84 (.t 10)⟩ ::
     ⟨some (83, false), .len 85 false (.t 84)⟩ ::
     ⟨some (83, false), .mv 86 (.t 8)⟩ ::
     ⟨some (83, false), .len 87 false (.t 86)⟩ ::
     ⟨some (83, false), .bin 88 .eql .num (.t 85) (.t 87)⟩ ::
     ⟨some (83, false), .mv 89 (.t 88)⟩ ::
     ⟨some (89, true), .mv 90 (.t 10)⟩ ::
     ⟨some (89, true), .mv 91 (.t 8)⟩ ::
     ⟨some (89, true), .call (some 92) 48 [(.t 90), (.t 91)]⟩ ::
     ⟨some (83, false), .pick 93 (.t 89) (.t 92) (.c (.v (.bool false)))⟩ ::
     ⟨some (77, true), .pick 94 (.t 83) (.c (.v (.bool true))) (.t 93)⟩ ::
     ⟨none, .pick 95 (.t 77) (.t 94) (.c (.v (.bool false)))⟩ :: []))
   (.cnd (.t 95)
    (.ops [⟨none, .mv 96 (.t 10)⟩,
     ⟨none, .asg 8 (.t 96)⟩])
    .skip)))))) (.scr x26_1))
 (.ops [⟨none, .mv 27 (.t 9)⟩,
  ⟨none, .bin 28 .add .num (.t 27) (.c (.v (.int .i64 1)))⟩,
  ⟨none, .asg 9 (.t 28)⟩])))
def c26 : MF := ⟨(.seq (.ops [⟨none, .asg 4 (.c (.nd (.sl true 1 0) []))⟩,
   ⟨none, .asg 5 (.c (.v (.int .i64 0)))⟩])
 (.seq (.seq (.ops [⟨none, .mv 14 (.t 0)⟩,
    ⟨none, .mv 15 (.t 1)⟩,
    ⟨none, .call (some 16) 40 [(.t 14), (.t 15)]⟩,
    ⟨none, .asg 6 (.t 16)⟩])
  (.seq (.ops [⟨none, .mv 17 (.t 6)⟩,
    ⟨none, .bin 18 .neq .num (.t 17) (.c (.v (.int .i64 0)))⟩])
  (.cnd (.t 18)
   (.seq (.ops [⟨none, .mv 19 (.t 6)⟩,
     ⟨none, .asg 4 (.c (.nd (.sl true 1 0) []))⟩,
     ⟨none, .asg 5 (.t 19)⟩])
   (.seq (.scr r26) .ret))
   .skip)))
 (.seq (.ops [⟨none, .mv 20 (.t 0)⟩,
   ⟨none, .mv 21 (.t 1)⟩,
   ⟨none, .call (some 22) 47 [(.t 20), (.t 21)]⟩,
   ⟨none, .asg 7 (.t 22)⟩])
 (.seq (.ops [⟨none, .asg 8 (.c (.nd (.sl true 1 0) []))⟩])
 (.seq (.seq (.ops [⟨none, .asg 9 (.c (.v (.int .i64 0)))⟩])
  (.seq (.blk 0 (.lop b26_0)) (.scr x26_0)))
 (.seq (.ops [⟨none, .mv 97 (.t 8)⟩,
   ⟨none, .asg 4 (.t 97)⟩,
   ⟨none, .asg 5 (.c (.v (.int .i64 0)))⟩])
 (.seq (.scr r26) .ret))))))),
  98, [4, 5]⟩

def hints27 : List (List Bool) := [bits 31 [4, 5], bits 31 [8], bits 31 [0, 7, 8, 9], bits 31 [8], bits 31 [0, 7, 8, 9], bits 31 [4, 5]]
@[simp] def r27 : List Bool := bits 31 [4, 5]
@[simp] def R27 (s4 s5 : V) : St := tab 31 10 (fu (fu dd 5 s5) 4 s4) dd
@[simp] def x27_0 : List Bool := bits 31 [8]
@[simp] def X27_0 (s8 : V) : St := tab 31 10 (fu dd 8 s8) dd
@[simp] def h27_0 : List Bool := bits 31 [0, 7, 8, 9]
@[simp] def L27_0 (s0 s7 s8 s9 : V) : St := tab 31 10 (fu (fu (fu (fu dd 9 s9) 8 s8) 7 s7) 0 s0) dd
@[simp] def x27_1 : List Bool := bits 31 [0, 7, 8, 9]
@[simp] def X27_1 (s0 s7 s8 s9 : V) : St := tab 31 10 (fu (fu (fu (fu dd 9 s9) 8 s8) 7 s7) 0 s0) dd
def b27_0 : MC := .seq (.scr h27_0)
 (.seq (.seq (.ops [⟨none, .mv 19 (.t 9)⟩,
    ⟨none, .mv 20 (.t 0)⟩,
    ⟨none, .bin 21 .lss .num (.t 19) (.t 20)⟩])
  (.cnd (.t 21)
   .skip
   (.seq (.scr x27_0) (.ex 0))))
 (.seq (.seq (.blk 1 (.ops [⟨none, .mv 24 (.t 8)⟩,
    ⟨none, .mv 25 (.t 7)⟩,
    ⟨none, .mv 26 (.t 9)⟩,
    ⟨none, .ixs 27 1 (.t 25) (.t 26)⟩,
    ⟨none, .ld1 28 (.t 27)⟩,
    ⟨none, .mm 29 true (.t 24) (.t 28)⟩,
    ⟨none, .asg 8 (.t 29)⟩])) (.scr x27_1))
 (.ops [⟨none, .mv 22 (.t 9)⟩,
  ⟨none, .bin 23 .add .num (.t 22) (.c (.v (.int .i64 1)))⟩,
  ⟨none, .asg 9 (.t 23)⟩])))
def c27 : MF := ⟨(.seq (.ops [⟨none, .asg 4 (.c (.v (.int .i64 0)))⟩,
   ⟨none, .asg 5 (.c (.v (.int .i64 0)))⟩])
 (.seq (.seq (.ops [⟨none, .mv 10 (.t 0)⟩,
    ⟨none, .mv 11 (.t 1)⟩,
    ⟨none, .call (some 12) 40 [(.t 10), (.t 11)]⟩,
    ⟨none, .asg 6 (.t 12)⟩])
  (.seq (.ops [⟨none, .mv 13 (.t 6)⟩,
    ⟨none, .bin 14 .neq .num (.t 13) (.c (.v (.int .i64 0)))⟩])
  (.cnd (.t 14)
   (.seq (.ops [⟨none, .mv 15 (.t 6)⟩,
     ⟨none, .asg 4 (.c (.v (.int .i64 0)))⟩,
     ⟨none, .asg 5 (.t 15)⟩])
   (.seq (.scr r27) .ret))
   .skip)))
 (.seq (.ops [⟨none, .mv 16 (.t 0)⟩,
   ⟨none, .mv 17 (.t 1)⟩,
   ⟨none, .call (some 18) 35 [(.t 16), (.t 17)]⟩,
   ⟨none, .asg 7 (.t 18)⟩])
 (.seq (.ops [⟨none, .asg 8 (.c (.v (.int .i64 0)))⟩])
 (.seq (.seq (.ops [⟨none, .asg 9 (.c (.v (.int .i64 0)))⟩])
  (.seq (.blk 0 (.lop b27_0)) (.scr x27_0)))
 (.seq (.ops [⟨none, .mv 30 (.t 8)⟩,
   ⟨none, .asg 4 (.t 30)⟩,
   ⟨none, .asg 5 (.c (.v (.int .i64 0)))⟩])
 (.seq (.scr r27) .ret))))))),
  31, [4, 5]⟩

def hints28 : List (List Bool) := [bits 26 [4], bits 26 [], bits 26 [0, 1, 5], bits 26 [], bits 26 [0, 1, 5], bits 26 [4], bits 26 [4]]
@[simp] def r28 : List Bool := bits 26 [4]
@[simp] def R28 (s4 : V) : St := tab 26 6 (fu dd 4 s4) dd
@[simp] def x28_0 : List Bool := bits 26 []
@[simp] def X28_0 : St := tab 26 6 dd dd
@[simp] def h28_0 : List Bool := bits 26 [0, 1, 5]
@[simp] def L28_0 (s0 s1 s5 : V) : St := tab 26 6 (fu (fu (fu dd 5 s5) 1 s1) 0 s0) dd
@[simp] def x28_1 : List Bool := bits 26 [0, 1, 5]
@[simp] def X28_1 (s0 s1 s5 : V) : St := tab 26 6 (fu (fu (fu dd 5 s5) 1 s1) 0 s0) dd
def b28_0 : MC := .seq (.scr h28_0)
 (.seq (.seq (.ops [⟨none, .mv 11 (.t 5)⟩,
    ⟨none, .mv 12 (.t 0)⟩,
    ⟨none, .len 13 false (.t 12)⟩,
    ⟨none, .bin 14 .lss .num (.t 11) (.t 13)⟩])
  (.cnd (.t 14)
   .skip
   (.seq (.scr x28_0) (.ex 0))))
 (.seq (.seq (.blk 1 (.seq (.drw [⟨none, .mv 17 (.t 0)⟩,
     ⟨none, .mv 18 (.t 5)⟩,
     ⟨none, .ixs 19 1 (.t 17) (.t 18)⟩,
     ⟨none, .ld1 20 (.t 19)⟩,
     ⟨none, .mv 21 (.t 1)⟩,
     ⟨none, .mv 22 (.t 5)⟩,
     ⟨none, .ixs 23 1 (.t 21) (.t 22)⟩,
     ⟨none, .ld1 24 (.t 23)⟩] [⟨none, .bin 25 .neq .num (.t 20) (.t 24)⟩])
   (.cnd (.t 25)
    (.seq (.ops [⟨none, .asg 4 (.c (.v (.bool false)))⟩])
    (.seq (.scr r28) .ret))
    .skip))) (.scr x28_1))
 (.ops [⟨none, .mv 15 (.t 5)⟩,
  ⟨none, .bin 16 .add .num (.t 15) (.c (.v (.int .i64 1)))⟩,
  ⟨none, .asg 5 (.t 16)⟩])))
def c28 : MF := ⟨(.seq (.ops [⟨none, .asg 4 (.c (.v (.bool false)))⟩])
 (.seq (.seq (.ops [⟨none, .mv 6 (.t 0)⟩,
    ⟨none, .len 7 false (.t 6)⟩,
    ⟨none, .mv 8 (.t 1)⟩,
    ⟨none, .len 9 false (.t 8)⟩,
    ⟨none, .bin 10 .neq .num (.t 7) (.t 9)⟩])
  (.cnd (.t 10)
   (.seq (.ops [⟨none, .asg 4 (.c (.v (.bool false)))⟩])
   (.seq (.scr r28) .ret))
   .skip))
 (.seq (.seq (.ops [⟨none, .asg 5 (.c (.v (.int .i64 0)))⟩])
  (.seq (.blk 0 (.lop b28_0)) (.scr x28_0)))
 (.seq (.ops [⟨none, .asg 4 (.c (.v (.bool true)))⟩])
 (.seq (.scr r28) .ret))))),
  26, [4]⟩

def hints30 : List (List Bool) := [bits 77 [6], bits 77 [0, 9], bits 77 [0, 2, 7, 9, 22, 23, 24], bits 77 [0, 9], bits 77 [0, 2, 7, 9, 22, 23, 24], bits 77 [6], bits 77 [0, 2, 7, 9, 22, 23, 24], bits 77 [0, 2, 7, 9, 11, 22, 23, 24, 26, 27, 31, 32, 33], bits 77 [0, 2, 7, 9, 22, 23, 24], bits 77 [0, 2, 7, 9, 11, 22, 23, 24, 26, 27, 31, 32, 33], bits 77 [6], bits 77 [6]]
@[simp] def r30 : List Bool := bits 77 [6]
@[simp] def R30 (s6 : V) : St := tab 77 34 (fu dd 6 s6) dd
@[simp] def x30_0 : List Bool := bits 77 [0, 9]
@[simp] def X30_0 (s0 s9 : V) : St := tab 77 34 (fu (fu dd 9 s9) 0 s0) dd
@[simp] def h30_0 : List Bool := bits 77 [0, 2, 7, 9, 22, 23, 24]
@[simp] def L30_0 (s0 s2 s7 s9 s22 s23 s24 : V) : St := tab 77 34 (fu (fu (fu (fu (fu (fu (fu dd 24 s24) 23 s23) 22 s22) 9 s9) 7 s7) 2 s2) 0 s0) dd
@[simp] def x30_1 : List Bool := bits 77 [0, 2, 7, 9, 22, 23, 24]
@[simp] def X30_1 (s0 s2 s7 s9 s22 s23 s24 : V) : St := tab 77 34 (fu (fu (fu (fu (fu (fu (fu dd 24 s24) 23 s23) 22 s22) 9 s9) 7 s7) 2 s2) 0 s0) dd
@[simp] def x30_2 : List Bool := bits 77 [0, 2, 7, 9, 22, 23, 24]
@[simp] def X30_2 (s0 s2 s7 s9 s22 s23 s24 : V) : St := tab 77 34 (fu (fu (fu (fu (fu (fu (fu dd 24 s24) 23 s23) 22 s22) 9 s9) 7 s7) 2 s2) 0 s0) dd
@[simp] def h30_1 : List Bool := bits 77 [0, 2, 7, 9, 11, 22, 23, 24, 26, 27, 31, 32, 33]
@[simp] def L30_1 (s0 s2 s7 s9 s11 s22 s23 s24 s26 s27 s31 s32 s33 : V) : St := tab 77 34 (fu (fu (fu (fu (fu (fu (fu (fu (fu (fu (fu (fu (fu dd 33 s33) 32 s32) 31 s31) 27 s27) 26 s26) 24 s24) 23 s23) 22 s22) 11 s11) 9 s9) 7 s7) 2 s2) 0 s0) dd
@[simp] def x30_3 : List Bool := bits 77 [0, 2, 7, 9, 11, 22, 23, 24, 26, 27, 31, 32, 33]
@[simp] def X30_3 (s0 s2 s7 s9 s11 s22 s23 s24 s26 s27 s31 s32 s33 : V) : St := tab 77 34 (fu (fu (fu (fu (fu (fu (fu (fu (fu (fu (fu (fu (fu dd 33 s33) 32 s32) 31 s31) 27 s27) 26 s26) 24 s24) 23 s23) 22 s22) 11 s11) 9 s9) 7 s7) 2 s2) 0 s0) dd
def b30_1 : MC := .seq (.scr h30_1)
 (.seq (.ops [⟨none, .bin 34 .lss .num (.t 33) (.t 32)⟩])
 (.seq (.cnd (.t 34)
   .skip
   (.seq (.scr x30_2) (.ex 2)))
 (.seq (.seq (.blk 3 (.seq (.ops [⟨none, .mv 35 (.t 33)⟩,
     ⟨none, .ixs 36 1 (.t 31) (.t 33)⟩,
     ⟨none, .ld1 37 (.t 36)⟩,
     ⟨none, .asg 12 (.t 35)⟩,
     ⟨none, .asg 13 (.t 37)⟩])
   (.seq (.seq (.ops (⟨none, .mv 38 (.t 13)⟩ ::
      ⟨none, .bin 39 .lss .num (.t 38) (.c (.v (.int .i64 0)))⟩ ::
      ⟨none, .mv 40 (.t 39)⟩ ::
      ⟨some (40, false), .mv 41 (.t 13)⟩ ::
      ⟨some (40, false), .mv 42 (.t 0)⟩ ::
      ⟨some (40, false), .bin 43 .geq .num (.t 41) (.t 42)⟩ ::
      ⟨none, .pick 44 (.t 40) (.c (.v (.bool true))) (.t 43)⟩ ::
      ⟨none, .mv 45 (.t 44)⟩ ::
      ⟨some (45, false), .mv 46 (.t 9)⟩ ::
      ⟨some (45, false), .mv 47 (.t 13)⟩ ::
      ⟨some (45, false), .bin 48 .shr .num (.t 46) (.t 47)⟩ ::
      ⟨some (45, false), .bin 49 .and .num (.t 48) (.c (.v (.int .u64 1)))⟩ ::
      ⟨some (45, false), .bin 50 .neq .num (.t 49) (.c (.v (.int .u64 0)))⟩ ::
      ⟨none, .pick 51 (.t 45) (.c (.v (.bool true))) (.t 50)⟩ ::
      ⟨none, .mv 52 (.t 51)⟩ ::
      ⟨some (52, false), .mv 53 (.t 12)⟩ ::
      ⟨some (52, false), .bin 54 .gtr .num (.t 53) (.c (.v (.int .i64 0)))⟩ ::
      ⟨some (52, false), .mv 55 (.t 54)⟩ ::
      ⟨some (55, true), .mv 56 (.t 7)⟩ ::
      ⟨some (55, true), .mv 57 (.t 11)⟩ ::
      ⟨some (55, true), .mv 58 (.t 12)⟩ ::
      ⟨some (55, true), .bin 59 .sub .num (.t 58) (.c (.v (.int .i64 1)))⟩ ::
      ⟨some (55, true), .ixs 60 1 (.t 57) (.t 59)⟩ ::
      ⟨some (55, true), .ld1 61 (.t 60)⟩ ::
      ⟨some (55, true), .mv 62 (.t 13)⟩ ::
      ⟨some (55, true), .call (some 63) 36 [(.t 56), (.t 61), (.t 62)]⟩ ::
      ⟨some (55, true), .un 64 .not (.t 63)⟩ ::
      ⟨some (52, false), .pick 65 (.t 55) (.t 64) (.c (.v (.bool false)))⟩ ::
      ⟨none, .pick 66 (.t 52) (.c (.v (.bool true))) (.t 65)⟩ :: []))
    (.cnd (.t 66)
     (.seq (.ops [⟨none, .asg 6 (.c (.v (.bool false)))⟩])
     (.seq (.scr r30) .ret))
     .skip))
   (.ops [⟨none, .mv 67 (.t 9)⟩,
    ⟨none, .mv 68 (.t 13)⟩,
    ⟨none, .bin 69 .shl .num (.c (.v (.int .u64 1))) (.t 68)⟩,
    ⟨none, .bin 70 .or .num (.t 67) (.t 69)⟩,
    ⟨none, .asg 9 (.t 70)⟩])))) (.scr x30_3))
 (.ops [⟨none, .bin 71 .add .num (.t 33) (.c (.v (.int .i64 1)))⟩,
  ⟨none, .mv 33 (.t 71)⟩]))))
def b30_0 : MC := .seq (.scr h30_0)
 (.seq (.ops [⟨none, .bin 25 .lss .num (.t 24) (.t 23)⟩])
 (.seq (.cnd (.t 25)
   .skip
   (.seq (.scr x30_0) (.ex 0)))
 (.seq (.seq (.blk 1 (.seq (.ops [⟨none, .ixs 26 1 (.t 22) (.t 24)⟩,
     ⟨none, .ld1 27 (.t 26)⟩,
     ⟨none, .asg 11 (.t 27)⟩])
   (.seq (.seq (.ops [⟨none, .mv 28 (.t 11)⟩,
      ⟨none, .len 29 false (.t 28)⟩,
      ⟨none, .bin 30 .eql .num (.t 29) (.c (.v (.int .i64 0)))⟩])
    (.cnd (.t 30)
     (.seq (.ops [⟨none, .asg 6 (.c (.v (.bool false)))⟩])
     (.seq (.scr r30) .ret))
     .skip))
   (.seq (.ops [⟨none, .mv 31 (.t 11)⟩,
     ⟨none, .len 32 false (.t 31)⟩,
     ⟨none, .mv 33 (.c (.v (.int .i64 0)))⟩])
   (.seq (.blk 2 (.lop b30_1)) (.scr x30_2)))))) (.scr x30_1))
 (.ops [⟨none, .bin 72 .add .num (.t 24) (.c (.v (.int .i64 1)))⟩,
  ⟨none, .mv 24 (.t 72)⟩]))))
def c30 : MF := ⟨(.seq (.ops [⟨none, .asg 6 (.c (.v (.bool false)))⟩])
 (.seq (.ops [⟨none, .mv 15 (.t 0)⟩,
   ⟨none, .mv 16 (.t 1)⟩,
   ⟨none, .call (some 17) 33 [(.t 15), (.t 16)]⟩,
   ⟨none, .mv 14 (.t 17)⟩,
   ⟨none, .ext 18 (.t 14) 0⟩,
   ⟨none, .ext 19 (.t 14) 1⟩,
   ⟨none, .asg 7 (.t 18)⟩,
   ⟨none, .asg 8 (.t 19)⟩])
 (.seq (.seq (.ops [⟨none, .mv 20 (.t 8)⟩,
    ⟨none, .bin 21 .neq .num (.t 20) (.c (.v (.int .i64 0)))⟩])
  (.cnd (.t 21)
   (.seq (.ops [⟨none, .asg 6 (.c (.v (.bool false)))⟩])
   (.seq (.scr r30) .ret))
   .skip))
 (.seq (.ops [⟨none, .asg 9 (.c (.v (.int .u64 0)))⟩])
 (.seq (.seq (.ops [⟨none, .mv 22 (.t 2)⟩,
    ⟨none, .len 23 false (.t 22)⟩,
    ⟨none, .mv 24 (.c (.v (.int .i64 0)))⟩])
  (.seq (.blk 0 (.lop b30_0)) (.scr x30_0)))
 (.seq (.ops [⟨none, .mv 73 (.t 9)⟩,
   ⟨none, .call (some 74) 38 [(.t 73)]⟩,
   ⟨none, .mv 75 (.t 0)⟩,
   ⟨none, .bin 76 .eql .num (.t 74) (.t 75)⟩,
   ⟨none, .asg 6 (.t 76)⟩])
 (.seq (.scr r30) .ret))))))),
  77, [6]⟩

def hints31 : List (List Bool) := [bits 88 [6], bits 88 [9], bits 88 [0, 2, 7, 8, 9, 10], bits 88 [9], bits 88 [0, 2, 7, 8, 9, 10], bits 88 [6], bits 88 [0, 2, 7, 8, 9, 10], bits 88 [0, 2, 7, 8, 9, 10, 11], bits 88 [0, 2, 7, 8, 9, 10], bits 88 [0, 2, 7, 8, 9, 10, 11], bits 88 [6], bits 88 [6], bits 88 [6]]
@[simp] def r31 : List Bool := bits 88 [6]
@[simp] def R31 (s6 : V) : St := tab 88 13 (fu dd 6 s6) dd
@[simp] def x31_0 : List Bool := bits 88 [9]
@[simp] def X31_0 (s9 : V) : St := tab 88 13 (fu dd 9 s9) dd
@[simp] def h31_0 : List Bool := bits 88 [0, 2, 7, 8, 9, 10]
@[simp] def L31_0 (s0 s2 s7 s8 s9 s10 : V) : St := tab 88 13 (fu (fu (fu (fu (fu (fu dd 10 s10) 9 s9) 8 s8) 7 s7) 2 s2) 0 s0) dd
@[simp] def x31_1 : List Bool := bits 88 [0, 2, 7, 8, 9, 10]
@[simp] def X31_1 (s0 s2 s7 s8 s9 s10 : V) : St := tab 88 13 (fu (fu (fu (fu (fu (fu dd 10 s10) 9 s9) 8 s8) 7 s7) 2 s2) 0 s0) dd
@[simp] def x31_2 : List Bool := bits 88 [0, 2, 7, 8, 9, 10]
@[simp] def X31_2 (s0 s2 s7 s8 s9 s10 : V) : St := tab 88 13 (fu (fu (fu (fu (fu (fu dd 10 s10) 9 s9) 8 s8) 7 s7) 2 s2) 0 s0) dd
@[simp] def h31_1 : List Bool := bits 88 [0, 2, 7, 8, 9, 10, 11]
@[simp] def L31_1 (s0 s2 s7 s8 s9 s10 s11 : V) : St := tab 88 13 (fu (fu (fu (fu (fu (fu (fu dd 11 s11) 10 s10) 9 s9) 8 s8) 7 s7) 2 s2) 0 s0) dd
@[simp] def x31_3 : List Bool := bits 88 [0, 2, 7, 8, 9, 10, 11]
@[simp] def X31_3 (s0 s2 s7 s8 s9 s10 s11 : V) : St := tab 88 13 (fu (fu (fu (fu (fu (fu (fu dd 11 s11) 10 s10) 9 s9) 8 s8) 7 s7) 2 s2) 0 s0) dd
def b31_1 : MC := .seq (.scr h31_1)
 (.seq (.seq (.ops [⟨none, .mv 35 (.t 11)⟩,
    ⟨none, .mv 36 (.t 2)⟩,
    ⟨none, .mv 37 (.t 10)⟩,
    ⟨none, .ixs 38 1 (.t 36) (.t 37)⟩,
    ⟨none, .ld1 39 (.t 38)⟩,
    ⟨none, .len 40 false (.t 39)⟩,
    ⟨none, .bin 41 .lss .num (.t 35) (.t 40)⟩])
  (.cnd (.t 41)
   .skip
   (.seq (.scr x31_2) (.ex 2))))
 (.seq (.seq (.blk 3 (.seq (.ops [⟨none, .mv 44 (.t 2)⟩,
     ⟨none, .mv 45 (.t 10)⟩,
     ⟨none, .ixs 46 1 (.t 44) (.t 45)⟩,
     ⟨none, .ld1 47 (.t 46)⟩,
     ⟨none, .mv 48 (.t 11)⟩,
     ⟨none, .ixs 49 1 (.t 47) (.t 48)⟩,
     ⟨none, .ld1 50 (.t 49)⟩,
     ⟨none, .asg 12 (.t 50)⟩])
   (.seq (.seq (.ops [⟨none, .mv 51 (.t 12)⟩,
      ⟨none, .mv 52 (.t 0)⟩,
      ⟨none, .bin 53 .sub .num (.t 52) (.c (.v (.int .i64 1)))⟩,
      ⟨none, .call (some 54) 41 [(.t 51), (.c (.v (.int .i64 0))), (.t 53)]⟩,
      ⟨none, .un 55 .not (.t 54)⟩,
      ⟨none, .mv 56 (.t 55)⟩,
      ⟨some (56, false), .mv 57 (.t 8)⟩,
      ⟨some (56, false), .mv 58 (.t 12)⟩,
      ⟨some (56, false), .ixs 59 1 (.t 57) (.t 58)⟩,
      ⟨some (56, false), .ld1 60 (.t 59)⟩,
      ⟨none, .pick 61 (.t 56) (.c (.v (.bool true))) (.t 60)⟩])
    (.cnd (.t 61)
     (.seq (.ops [⟨none, .asg 6 (.c (.v (.bool false)))⟩])
     (.seq (.scr r31) .ret))
     .skip))
   (.seq (.ops [⟨none, .mv 62 (.t 8)⟩,
     ⟨none, .mv 63 (.t 12)⟩,
     ⟨none, .ixs 64 1 (.t 62) (.t 63)⟩,
     ⟨none, .stn none 1 (.t 64) (.c (.v (.bool true)))⟩])
   (.seq (.ops [⟨none, .mv 65 (.t 9)⟩,
     ⟨none, .bin 66 .sub .num (.t 65) (.c (.v (.int .i64 1)))⟩,
     ⟨none, .asg 9 (.t 66)⟩])
   (.seq (.ops (⟨none, .mv 67 (.t 11)⟩ ::
     ⟨none, .bin 68 .gtr .num (.t 67) (.c (.v (.int .i64 0)))⟩ ::
     ⟨none, .mv 69 (.t 68)⟩ ::
     ⟨some (69, true), .mv 70 (.t 7)⟩ ::
     ⟨some (69, true), .mv 71 (.t 2)⟩ ::
     ⟨some (69, true), .mv 72 (.t 10)⟩ ::
     ⟨some (69, true), .ixs 73 1 (.t 71) (.t 72)⟩ ::
     ⟨some (69, true), .ld1 74 (.t 73)⟩ ::
     ⟨some (69, true), .mv 75 (.t 11)⟩ ::
     ⟨some (69, true), .bin 76 .sub .num (.t 75) (.c (.v (.int .i64 1)))⟩ ::
     ⟨some (69, true), .ixs 77 1 (.t 74) (.t 76)⟩ ::
     ⟨some (69, true), .ld1 78 (.t 77)⟩ ::
     ⟨some (69, true), .ixs 79 1 (.t 70) (.t 78)⟩ ::
     ⟨some (69, true), .ld1 80 (.t 79)⟩ ::
     ⟨some (69, true), .mv 81 (.t 12)⟩ ::
     ⟨some (69, true), .ixs 82 1 (.t 80) (.t 81)⟩ ::
     ⟨some (69, true), .ld1 83 (.t 82)⟩ ::
     ⟨some (69, true), .un 84 .not (.t 83)⟩ ::
     ⟨none, .pick 85 (.t 69) (.t 84) (.c (.v (.bool false)))⟩ :: []))
   (.cnd (.t 85)
    (.seq (.ops [⟨none, .asg 6 (.c (.v (.bool false)))⟩])
    (.seq (.scr r31) .ret))
    .skip))))))) (.scr x31_3))
 (.ops [⟨none, .mv 42 (.t 11)⟩,
  ⟨none, .bin 43 .add .num (.t 42) (.c (.v (.int .i64 1)))⟩,
  ⟨none, .asg 11 (.t 43)⟩])))
def b31_0 : MC := .seq (.scr h31_0)
 (.seq (.seq (.ops [⟨none, .mv 23 (.t 10)⟩,
    ⟨none, .mv 24 (.t 2)⟩,
    ⟨none, .len 25 false (.t 24)⟩,
    ⟨none, .bin 26 .lss .num (.t 23) (.t 25)⟩])
  (.cnd (.t 26)
   .skip
   (.seq (.scr x31_0) (.ex 0))))
 (.seq (.seq (.blk 1 (.seq (.seq (.ops [⟨none, .mv 29 (.t 2)⟩,
      ⟨none, .mv 30 (.t 10)⟩,
      ⟨none, .ixs 31 1 (.t 29) (.t 30)⟩,
      ⟨none, .ld1 32 (.t 31)⟩,
      ⟨none, .len 33 false (.t 32)⟩,
      ⟨none, .bin 34 .eql .num (.t 33) (.c (.v (.int .i64 0)))⟩])
    (.cnd (.t 34)
     (.seq (.ops [⟨none, .asg 6 (.c (.v (.bool false)))⟩])
     (.seq (.scr r31) .ret))
     .skip))
   (.seq (.ops [⟨none, .asg 11 (.c (.v (.int .i64 0)))⟩])
   (.seq (.blk 2 (.lop b31_1)) (.scr x31_2))))) (.scr x31_1))
 (.ops [⟨none, .mv 27 (.t 10)⟩,
  ⟨none, .bin 28 .add .num (.t 27) (.c (.v (.int .i64 1)))⟩,
  ⟨none, .asg 10 (.t 28)⟩])))
def c31 : MF := ⟨(.seq (.ops [⟨none, .asg 6 (.c (.v (.bool false)))⟩])
 (.seq (.seq (.ops [⟨none, .mv 13 (.t 0)⟩,
    ⟨none, .mv 14 (.t 1)⟩,
    ⟨none, .call (some 15) 40 [(.t 13), (.t 14)]⟩,
    ⟨none, .bin 16 .neq .num (.t 15) (.c (.v (.int .i64 0)))⟩])
  (.cnd (.t 16)
   (.seq (.ops [⟨none, .asg 6 (.c (.v (.bool false)))⟩])
   (.seq (.scr r31) .ret))
   .skip))
 (.seq (.ops [⟨none, .mv 17 (.t 0)⟩,
   ⟨none, .mv 18 (.t 1)⟩,
   ⟨none, .call (some 19) 47 [(.t 17), (.t 18)]⟩,
   ⟨none, .asg 7 (.t 19)⟩])
 (.seq (.ops [⟨none, .mv 20 (.t 0)⟩,
   ⟨none, .mks 21 1 [(.v (.bool false))] (.t 20) (.t 20)⟩,
   ⟨none, .asg 8 (.t 21)⟩])
 (.seq (.ops [⟨none, .mv 22 (.t 0)⟩,
   ⟨none, .asg 9 (.t 22)⟩])
 (.seq (.seq (.ops [⟨none, .asg 10 (.c (.v (.int .i64 0)))⟩])
  (.seq (.blk 0 (.lop b31_0)) (.scr x31_0)))
 (.seq (.ops [⟨none, .mv 86 (.t 9)⟩,
   ⟨none, .bin 87 .eql .num (.t 86) (.c (.v (.int .i64 0)))⟩,
   ⟨none, .asg 6 (.t 87)⟩])
 (.seq (.scr r31) .ret)))))))),
  88, [6]⟩

def hints32 : List (List Bool) := [bits 18 [], bits 18 [0, 1, 5], bits 18 [], bits 18 [0, 1, 5], bits 18 [4], bits 18 [4]]
@[simp] def r32 : List Bool := bits 18 [4]
@[simp] def R32 (s4 : V) : St := tab 18 6 (fu dd 4 s4) dd
@[simp] def x32_0 : List Bool := bits 18 []
@[simp] def X32_0 : St := tab 18 6 dd dd
@[simp] def h32_0 : List Bool := bits 18 [0, 1, 5]
@[simp] def L32_0 (s0 s1 s5 : V) : St := tab 18 6 (fu (fu (fu dd 5 s5) 1 s1) 0 s0) dd
@[simp] def x32_1 : List Bool := bits 18 [0, 1, 5]
@[simp] def X32_1 (s0 s1 s5 : V) : St := tab 18 6 (fu (fu (fu dd 5 s5) 1 s1) 0 s0) dd
def b32_0 : MC := .seq (.scr h32_0)
 (.seq (.seq (.ops [⟨none, .mv 6 (.t 5)⟩,
    ⟨none, .mv 7 (.t 0)⟩,
    ⟨none, .len 8 false (.t 7)⟩,
    ⟨none, .bin 9 .lss .num (.t 6) (.t 8)⟩])
  (.cnd (.t 9)
   .skip
   (.seq (.scr x32_0) (.ex 0))))
 (.seq (.seq (.blk 1 (.seq (.ops [⟨none, .mv 12 (.t 0)⟩,
     ⟨none, .mv 13 (.t 5)⟩,
     ⟨none, .ixs 14 1 (.t 12) (.t 13)⟩,
     ⟨none, .ld1 15 (.t 14)⟩,
     ⟨none, .mv 16 (.t 1)⟩,
     ⟨none, .bin 17 .eql .num (.t 15) (.t 16)⟩])
   (.cnd (.t 17)
    (.seq (.ops [⟨none, .asg 4 (.c (.v (.bool true)))⟩])
    (.seq (.scr r32) .ret))
    .skip))) (.scr x32_1))
 (.ops [⟨none, .mv 10 (.t 5)⟩,
  ⟨none, .bin 11 .add .num (.t 10) (.c (.v (.int .i64 1)))⟩,
  ⟨none, .asg 5 (.t 11)⟩])))
def c32 : MF := ⟨(.seq (.ops [⟨none, .asg 4 (.c (.v (.bool false)))⟩])
 (.seq (.seq (.ops [⟨none, .asg 5 (.c (.v (.int .i64 0)))⟩])
  (.seq (.blk 0 (.lop b32_0)) (.scr x32_0)))
 (.seq (.ops [⟨none, .asg 4 (.c (.v (.bool false)))⟩])
 (.seq (.scr r32) .ret)))),
  18, [4]⟩

def hints33 : List (List Bool) := [bits 50 [0, 1], bits 50 [4, 5], bits 50 [4, 5], bits 50 [4, 5], bits 50 [6], bits 50 [6, 7, 32, 33, 34], bits 50 [6], bits 50 [6, 7, 32, 33, 34], bits 50 [4, 5]]
@[simp] def r33 : List Bool := bits 50 [4, 5]
@[simp] def R33 (s4 s5 : V) : St := tab 50 35 (fu (fu dd 5 s5) 4 s4) dd
@[simp] def x33_0 : List Bool := bits 50 [0, 1]
@[simp] def X33_0 (s0 s1 : V) : St := tab 50 35 (fu (fu dd 1 s1) 0 s0) dd
@[simp] def x33_1 : List Bool := bits 50 [6]
@[simp] def X33_1 (s6 : V) : St := tab 50 35 (fu dd 6 s6) dd
@[simp] def h33_0 : List Bool := bits 50 [6, 7, 32, 33, 34]
@[simp] def L33_0 (s6 s7 s32 s33 s34 : V) : St := tab 50 35 (fu (fu (fu (fu (fu dd 34 s34) 33 s33) 32 s32) 7 s7) 6 s6) dd
@[simp] def x33_2 : List Bool := bits 50 [6, 7, 32, 33, 34]
@[simp] def X33_2 (s6 s7 s32 s33 s34 : V) : St := tab 50 35 (fu (fu (fu (fu (fu dd 34 s34) 33 s33) 32 s32) 7 s7) 6 s6) dd
def b33_0 : MC := .seq (.scr h33_0)
 (.seq (.ops [⟨none, .bin 35 .lss .num (.t 34) (.t 33)⟩])
 (.seq (.cnd (.t 35)
   .skip
   (.seq (.scr x33_1) (.ex 1)))
 (.seq (.seq (.blk 2 (.seq (.ops [⟨none, .ixs 36 2 (.t 32) (.t 34)⟩,
     ⟨none, .ldn 37 2 (.t 36)⟩,
     ⟨none, .alc 10 [(.v (.int .i64 0)), (.v (.int .i64 0))]⟩,
     ⟨none, .stn none 2 (.t 10) (.t 37)⟩])
   (.drw [⟨none, .mv 38 (.t 6)⟩,
    ⟨none, .fa 39 0 (.t 10)⟩,
    ⟨none, .ld1 40 (.t 39)⟩,
    ⟨none, .ixs 41 1 (.t 38) (.t 40)⟩,
    ⟨none, .ld1 42 (.t 41)⟩,
    ⟨none, .fa 43 1 (.t 10)⟩,
    ⟨none, .ld1 44 (.t 43)⟩,
    ⟨none, .bin 45 .shl .num (.c (.v (.int .u64 1))) (.t 44)⟩] [⟨none, .bin 46 .or .num (.t 42) (.t 45)⟩,
    ⟨none, .ixs 47 1 (.t 38) (.t 40)⟩,
    ⟨none, .stn none 1 (.t 47) (.t 46)⟩]))) (.scr x33_2))
 (.ops [⟨none, .bin 48 .add .num (.t 34) (.c (.v (.int .i64 1)))⟩,
  ⟨none, .mv 34 (.t 48)⟩]))))
def c33 : MF := ⟨(.seq (.ops [⟨none, .asg 4 (.c (.nd (.sl true 1 0) []))⟩,
   ⟨none, .asg 5 (.c (.v (.int .i64 0)))⟩])
 (.seq (.seq (.blk 0 (.seq (.ops [⟨none, .mv 12 (.t 0)⟩,
     ⟨none, .mv 13 (.t 1)⟩,
     ⟨none, .call (some 14) 44 [(.t 12), (.t 13)]⟩,
     ⟨none, .un 15 .not (.t 14)⟩,
     ⟨none, .asg 11 (.t 15)⟩])
   (.cnd (.t 11)
    (.seq (.ops [⟨none, .asg 4 (.c (.nd (.sl true 1 0) []))⟩,
      ⟨none, .asg 5 (.c (.v (.int .i64 1)))⟩])
    (.seq (.scr r33) .ret))
    (.seq (.ops [⟨none, .mv 17 (.t 0)⟩,
      ⟨none, .bin 18 .gtr .num (.t 17) (.c (.v (.int .i64 12)))⟩,
      ⟨none, .asg 16 (.t 18)⟩])
    (.cnd (.t 16)
     (.seq (.ops [⟨none, .asg 4 (.c (.nd (.sl true 1 0) []))⟩,
       ⟨none, .asg 5 (.c (.v (.int .i64 6)))⟩])
     (.seq (.scr r33) .ret))
     (.seq (.ops [⟨none, .mv 20 (.t 0)⟩,
       ⟨none, .mv 21 (.t 1)⟩,
       ⟨none, .call (some 22) 51 [(.t 20), (.t 21)]⟩,
       ⟨none, .un 23 .not (.t 22)⟩,
       ⟨none, .asg 19 (.t 23)⟩])
     (.cnd (.t 19)
      (.seq (.ops [⟨none, .asg 4 (.c (.nd (.sl true 1 0) []))⟩,
        ⟨none, .asg 5 (.c (.v (.int .i64 11)))⟩])
      (.seq (.scr r33) .ret))
      .skip))))))) (.scr x33_0))
 (.seq (.ops [⟨none, .mv 24 (.t 0)⟩,
   ⟨none, .mks 25 1 [(.v (.int .u64 0))] (.t 24) (.t 24)⟩,
   ⟨none, .asg 6 (.t 25)⟩])
 (.seq (.ops [⟨none, .mv 27 (.t 0)⟩,
   ⟨none, .mv 28 (.t 1)⟩,
   ⟨none, .call (some 29) 52 [(.t 27), (.t 28)]⟩,
   ⟨none, .mv 26 (.t 29)⟩,
   ⟨none, .ext 30 (.t 26) 0⟩,
   ⟨none, .ext 31 (.t 26) 1⟩,
   ⟨none, .asg 7 (.t 30)⟩,
   ⟨none, .asg 8 (.t 31)⟩])
 (.seq (.seq (.ops [⟨none, .mv 32 (.t 7)⟩,
    ⟨none, .len 33 false (.t 32)⟩,
    ⟨none, .mv 34 (.c (.v (.int .i64 0)))⟩])
  (.seq (.blk 1 (.lop b33_0)) (.scr x33_1)))
 (.seq (.ops [⟨none, .mv 49 (.t 6)⟩,
   ⟨none, .asg 4 (.t 49)⟩,
   ⟨none, .asg 5 (.c (.v (.int .i64 0)))⟩])
 (.seq (.scr r33) .ret))))))),
  50, [4, 5]⟩

def hints34 : List (List Bool) := [bits 59 [4, 5], bits 59 [9], bits 59 [0, 6, 8, 9, 27, 28, 29], bits 59 [9], bits 59 [0, 6, 8, 9, 27, 28, 29], bits 59 [0, 6, 8, 9, 27, 28, 29], bits 59 [0, 6, 8, 9, 11, 27, 28, 29, 33, 34], bits 59 [0, 6, 8, 9, 27, 28, 29], bits 59 [0, 6, 8, 9, 11, 27, 28, 29, 33, 34], bits 59 [4, 5]]
@[simp] def r34 : List Bool := bits 59 [4, 5]
@[simp] def R34 (s4 s5 : V) : St := tab 59 35 (fu (fu dd 5 s5) 4 s4) dd
@[simp] def x34_0 : List Bool := bits 59 [9]
@[simp] def X34_0 (s9 : V) : St := tab 59 35 (fu dd 9 s9) dd
@[simp] def h34_0 : List Bool := bits 59 [0, 6, 8, 9, 27, 28, 29]
@[simp] def L34_0 (s0 s6 s8 s9 s27 s28 s29 : V) : St := tab 59 35 (fu (fu (fu (fu (fu (fu (fu dd 29 s29) 28 s28) 27 s27) 9 s9) 8 s8) 6 s6) 0 s0) dd
@[simp] def x34_1 : List Bool := bits 59 [0, 6, 8, 9, 27, 28, 29]
@[simp] def X34_1 (s0 s6 s8 s9 s27 s28 s29 : V) : St := tab 59 35 (fu (fu (fu (fu (fu (fu (fu dd 29 s29) 28 s28) 27 s27) 9 s9) 8 s8) 6 s6) 0 s0) dd
@[simp] def x34_2 : List Bool := bits 59 [0, 6, 8, 9, 27, 28, 29]
@[simp] def X34_2 (s0 s6 s8 s9 s27 s28 s29 : V) : St := tab 59 35 (fu (fu (fu (fu (fu (fu (fu dd 29 s29) 28 s28) 27 s27) 9 s9) 8 s8) 6 s6) 0 s0) dd
@[simp] def h34_1 : List Bool := bits 59 [0, 6, 8, 9, 11, 27, 28, 29, 33, 34]
@[simp] def L34_1 (s0 s6 s8 s9 s11 s27 s28 s29 s33 s34 : V) : St := tab 59 35 (fu (fu (fu (fu (fu (fu (fu (fu (fu (fu dd 34 s34) 33 s33) 29 s29) 28 s28) 27 s27) 11 s11) 9 s9) 8 s8) 6 s6) 0 s0) dd
@[simp] def x34_3 : List Bool := bits 59 [0, 6, 8, 9, 11, 27, 28, 29, 33, 34]
@[simp] def X34_3 (s0 s6 s8 s9 s11 s27 s28 s29 s33 s34 : V) : St := tab 59 35 (fu (fu (fu (fu (fu (fu (fu (fu (fu (fu dd 34 s34) 33 s33) 29 s29) 28 s28) 27 s27) 11 s11) 9 s9) 8 s8) 6 s6) 0 s0) dd
def b34_1 : MC := .seq (.scr h34_1)
 (.seq (.ops [⟨none, .bin 35 .lss .num (.t 34) (.t 33)⟩])
 (.seq (.cnd (.t 35)
   .skip
   (.seq (.scr x34_2) (.ex 2)))
 (.seq (.seq (.blk 3 (.seq (.ops [⟨none, .mv 36 (.t 34)⟩,
     ⟨none, .asg 12 (.t 36)⟩])
   (.seq (.ops [⟨none, .mv 37 (.t 8)⟩,
     ⟨none, .mv 38 (.t 11)⟩,
     ⟨none, .ixs 39 1 (.t 37) (.t 38)⟩,
     ⟨none, .ld1 40 (.t 39)⟩,
     ⟨none, .mv 41 (.t 12)⟩,
     ⟨none, .call (some 42) 46 [(.t 40), (.t 41)]⟩])
   (.cnd (.t 42)
    (.drw [⟨none, .mv 43 (.t 9)⟩,
     ⟨none, .mv 44 (.t 12)⟩,
     ⟨none, .mv 45 (.t 9)⟩,
     ⟨none, .mv 46 (.t 12)⟩,
     ⟨none, .ixs 47 1 (.t 45) (.t 46)⟩,
     ⟨none, .ld1 48 (.t 47)⟩,
     ⟨none, .mv 49 (.t 9)⟩,
     ⟨none, .mv 50 (.t 11)⟩,
     ⟨none, .ixs 51 1 (.t 49) (.t 50)⟩,
     ⟨none, .ld1 52 (.t 51)⟩,
     ⟨none, .bin 53 .add .num (.t 52) (.c (.v (.int .i64 1)))⟩,
     ⟨none, .mm 54 true (.t 48) (.t 53)⟩] [⟨none, .ixs 55 1 (.t 43) (.t 44)⟩,
     ⟨none, .stn none 1 (.t 55) (.t 54)⟩])
    .skip)))) (.scr x34_3))
 (.ops [⟨none, .bin 56 .add .num (.t 34) (.c (.v (.int .i64 1)))⟩,
  ⟨none, .mv 34 (.t 56)⟩]))))
def b34_0 : MC := .seq (.scr h34_0)
 (.seq (.ops [⟨none, .bin 30 .lss .num (.t 29) (.t 28)⟩])
 (.seq (.cnd (.t 30)
   .skip
   (.seq (.scr x34_0) (.ex 0)))
 (.seq (.seq (.blk 1 (.seq (.ops [⟨none, .ixs 31 1 (.t 27) (.t 29)⟩,
     ⟨none, .ld1 32 (.t 31)⟩,
     ⟨none, .asg 11 (.t 32)⟩])
   (.seq (.ops [⟨none, .mv 33 (.t 0)⟩,
     ⟨none, .mv 34 (.c (.v (.int .i64 0)))⟩])
   (.seq (.blk 2 (.lop b34_1)) (.scr x34_2))))) (.scr x34_1))
 (.ops [⟨none, .bin 57 .add .num (.t 29) (.c (.v (.int .i64 1)))⟩,
  ⟨none, .mv 29 (.t 57)⟩]))))
def c34 : MF := ⟨(.seq (.ops [⟨none, .asg 4 (.c (.nd (.sl true 1 0) []))⟩,
   ⟨none, .asg 5 (.c (.v (.int .i64 0)))⟩])
 (.seq (.ops [⟨none, .mv 14 (.t 0)⟩,
   ⟨none, .mv 15 (.t 1)⟩,
   ⟨none, .call (some 16) 53 [(.t 14), (.t 15)]⟩,
   ⟨none, .mv 13 (.t 16)⟩,
   ⟨none, .ext 17 (.t 13) 0⟩,
   ⟨none, .ext 18 (.t 13) 1⟩,
   ⟨none, .asg 6 (.t 17)⟩,
   ⟨none, .asg 7 (.t 18)⟩])
 (.seq (.seq (.ops [⟨none, .mv 19 (.t 7)⟩,
    ⟨none, .bin 20 .neq .num (.t 19) (.c (.v (.int .i64 0)))⟩])
  (.cnd (.t 20)
   (.seq (.ops [⟨none, .mv 21 (.t 7)⟩,
     ⟨none, .asg 4 (.c (.nd (.sl true 1 0) []))⟩,
     ⟨none, .asg 5 (.t 21)⟩])
   (.seq (.scr r34) .ret))
   .skip))
 (.seq (.ops [⟨none, .mv 22 (.t 0)⟩,
   ⟨none, .mv 23 (.t 1)⟩,
   ⟨none, .call (some 24) 54 [(.t 22), (.t 23)]⟩,
   ⟨none, .asg 8 (.t 24)⟩])
 (.seq (.ops [⟨none, .mv 25 (.t 0)⟩,
   ⟨none, .mks 26 1 [(.v (.int .i64 0))] (.t 25) (.t 25)⟩,
   ⟨none, .asg 9 (.t 26)⟩])
 (.seq (.seq (.ops [⟨none, .mv 27 (.t 6)⟩,
    ⟨none, .len 28 false (.t 27)⟩,
    ⟨none, .mv 29 (.c (.v (.int .i64 0)))⟩])
  (.seq (.blk 0 (.lop b34_0)) (.scr x34_0)))
 (.seq (.ops [⟨none, .mv 58 (.t 9)⟩,
   ⟨none, .asg 4 (.t 58)⟩,
   ⟨none, .asg 5 (.c (.v (.int .i64 0)))⟩])
 (.seq (.scr r34) .ret)))))))),
  59, [4, 5]⟩

def hints35 : List (List Bool) := [bits 56 [0, 1, 5], bits 56 [0, 1, 5, 6], bits 56 [0, 1, 5], bits 56 [0, 1, 5, 6], bits 56 [5], bits 56 [0, 1, 5, 7], bits 56 [5], bits 56 [0, 1, 5, 7], bits 56 [0, 1, 5, 7], bits 56 [0, 1, 5, 7, 8], bits 56 [0, 1, 5, 7], bits 56 [0, 1, 5, 7, 8], bits 56 [4]]
@[simp] def r35 : List Bool := bits 56 [4]
@[simp] def R35 (s4 : V) : St := tab 56 9 (fu dd 4 s4) dd
@[simp] def x35_0 : List Bool := bits 56 [0, 1, 5]
@[simp] def X35_0 (s0 s1 s5 : V) : St := tab 56 9 (fu (fu (fu dd 5 s5) 1 s1) 0 s0) dd
@[simp] def h35_0 : List Bool := bits 56 [0, 1, 5, 6]
@[simp] def L35_0 (s0 s1 s5 s6 : V) : St := tab 56 9 (fu (fu (fu (fu dd 6 s6) 5 s5) 1 s1) 0 s0) dd
@[simp] def x35_1 : List Bool := bits 56 [0, 1, 5, 6]
@[simp] def X35_1 (s0 s1 s5 s6 : V) : St := tab 56 9 (fu (fu (fu (fu dd 6 s6) 5 s5) 1 s1) 0 s0) dd
def b35_0 : MC := .seq (.scr h35_0)
 (.seq (.seq (.ops [⟨none, .mv 11 (.t 6)⟩,
    ⟨none, .mv 12 (.t 0)⟩,
    ⟨none, .bin 13 .lss .num (.t 11) (.t 12)⟩])
  (.cnd (.t 13)
   .skip
   (.seq (.scr x35_0) (.ex 0))))
 (.seq (.seq (.blk 1 (.ops [⟨none, .mv 16 (.t 5)⟩,
    ⟨none, .mv 17 (.t 6)⟩,
    ⟨none, .ixs 18 1 (.t 16) (.t 17)⟩,
    ⟨none, .stn none 1 (.t 18) (.c (.v (.int .i64 1)))⟩])) (.scr x35_1))
 (.ops [⟨none, .mv 14 (.t 6)⟩,
  ⟨none, .bin 15 .add .num (.t 14) (.c (.v (.int .i64 1)))⟩,
  ⟨none, .asg 6 (.t 15)⟩])))
@[simp] def x35_2 : List Bool := bits 56 [5]
@[simp] def X35_2 (s5 : V) : St := tab 56 9 (fu dd 5 s5) dd
@[simp] def h35_1 : List Bool := bits 56 [0, 1, 5, 7]
@[simp] def L35_1 (s0 s1 s5 s7 : V) : St := tab 56 9 (fu (fu (fu (fu dd 7 s7) 5 s5) 1 s1) 0 s0) dd
@[simp] def x35_3 : List Bool := bits 56 [0, 1, 5, 7]
@[simp] def X35_3 (s0 s1 s5 s7 : V) : St := tab 56 9 (fu (fu (fu (fu dd 7 s7) 5 s5) 1 s1) 0 s0) dd
@[simp] def x35_4 : List Bool := bits 56 [0, 1, 5, 7]
@[simp] def X35_4 (s0 s1 s5 s7 : V) : St := tab 56 9 (fu (fu (fu (fu dd 7 s7) 5 s5) 1 s1) 0 s0) dd
@[simp] def h35_2 : List Bool := bits 56 [0, 1, 5, 7, 8]
@[simp] def L35_2 (s0 s1 s5 s7 s8 : V) : St := tab 56 9 (fu (fu (fu (fu (fu dd 8 s8) 7 s7) 5 s5) 1 s1) 0 s0) dd
@[simp] def x35_5 : List Bool := bits 56 [0, 1, 5, 7, 8]
@[simp] def X35_5 (s0 s1 s5 s7 s8 : V) : St := tab 56 9 (fu (fu (fu (fu (fu dd 8 s8) 7 s7) 5 s5) 1 s1) 0 s0) dd
def b35_2 : MC := .seq (.scr h35_2)
 (.seq (.seq (.ops [⟨none, .mv 24 (.t 8)⟩,
    ⟨none, .mv 25 (.t 1)⟩,
    ⟨none, .len 26 false (.t 25)⟩,
    ⟨none, .bin 27 .lss .num (.t 24) (.t 26)⟩])
  (.cnd (.t 27)
   .skip
   (.seq (.scr x35_4) (.ex 4))))
 (.seq (.seq (.blk 5 (.drw (⟨none, .mv 30 (.t 5)⟩ ::
    ⟨none, .mv 31 (.t 1)⟩ ::
    ⟨none, .mv 32 (.t 8)⟩ ::
    ⟨none, .ixs 33 2 (.t 31) (.t 32)⟩ ::
    ⟨none, .fa 34 1 (.t 33)⟩ ::
    ⟨none, .ld1 35 (.t 34)⟩ ::
    ⟨none, .mv 36 (.t 5)⟩ ::
    ⟨none, .mv 37 (.t 1)⟩ ::
    ⟨none, .mv 38 (.t 8)⟩ ::
    ⟨none, .ixs 39 2 (.t 37) (.t 38)⟩ ::
    ⟨none, .fa 40 1 (.t 39)⟩ ::
    ⟨none, .ld1 41 (.t 40)⟩ ::
    ⟨none, .ixs 42 1 (.t 36) (.t 41)⟩ ::
    ⟨none, .ld1 43 (.t 42)⟩ ::
    ⟨none, .mv 44 (.t 5)⟩ ::
    ⟨none, .mv 45 (.t 1)⟩ ::
    ⟨none, .mv 46 (.t 8)⟩ ::
    ⟨none, .ixs 47 2 (.t 45) (.t 46)⟩ ::
    ⟨none, .fa 48 0 (.t 47)⟩ ::
    ⟨none, .ld1 49 (.t 48)⟩ ::
    ⟨none, .ixs 50 1 (.t 44) (.t 49)⟩ ::
    ⟨none, .ld1 51 (.t 50)⟩ ::
    ⟨none, .bin 52 .add .num (.t 51) (.c (.v (.int .i64 1)))⟩ ::
    ⟨none, .mm 53 true (.t 43) (.t 52)⟩ :: []) [⟨none, .ixs 54 1 (.t 30) (.t 35)⟩,
    ⟨none, .stn none 1 (.t 54) (.t 53)⟩])) (.scr x35_5))
 (.ops [⟨none, .mv 28 (.t 8)⟩,
  ⟨none, .bin 29 .add .num (.t 28) (.c (.v (.int .i64 1)))⟩,
  ⟨none, .asg 8 (.t 29)⟩])))
def b35_1 : MC := .seq (.scr h35_1)
 (.seq (.seq (.ops [⟨none, .mv 19 (.t 7)⟩,
    ⟨none, .mv 20 (.t 0)⟩,
    ⟨none, .bin 21 .lss .num (.t 19) (.t 20)⟩])
  (.cnd (.t 21)
   .skip
   (.seq (.scr x35_2) (.ex 2))))
 (.seq (.seq (.blk 3 (.seq (.ops [⟨none, .asg 8 (.c (.v (.int .i64 0)))⟩])
   (.seq (.blk 4 (.lop b35_2)) (.scr x35_4)))) (.scr x35_3))
 (.ops [⟨none, .mv 22 (.t 7)⟩,
  ⟨none, .bin 23 .add .num (.t 22) (.c (.v (.int .i64 1)))⟩,
  ⟨none, .asg 7 (.t 23)⟩])))
def c35 : MF := ⟨(.seq (.ops [⟨none, .asg 4 (.c (.nd (.sl true 1 0) []))⟩])
 (.seq (.ops [⟨none, .mv 9 (.t 0)⟩,
   ⟨none, .mks 10 1 [(.v (.int .i64 0))] (.t 9) (.t 9)⟩,
   ⟨none, .asg 5 (.t 10)⟩])
 (.seq (.seq (.ops [⟨none, .asg 6 (.c (.v (.int .i64 0)))⟩])
  (.seq (.blk 0 (.lop b35_0)) (.scr x35_0)))
 (.seq (.seq (.ops [⟨none, .asg 7 (.c (.v (.int .i64 0)))⟩])
  (.seq (.blk 2 (.lop b35_1)) (.scr x35_2)))
 (.seq (.ops [⟨none, .mv 55 (.t 5)⟩,
   ⟨none, .asg 4 (.t 55)⟩])
 (.seq (.scr r35) .ret)))))),
  56, [4]⟩

def hints36 : List (List Bool) := [bits 15 [6]]
@[simp] def r36 : List Bool := bits 15 [6]
@[simp] def R36 (s6 : V) : St := tab 15 7 (fu dd 6 s6) dd
def c36 : MF := ⟨(.seq (.ops [⟨none, .asg 6 (.c (.v (.bool false)))⟩])
 (.seq (.ops [⟨none, .mv 7 (.t 0)⟩,
   ⟨none, .mv 8 (.t 1)⟩,
   ⟨none, .ixs 9 1 (.t 7) (.t 8)⟩,
   ⟨none, .ld1 10 (.t 9)⟩,
   ⟨none, .mv 11 (.t 2)⟩,
   ⟨none, .bin 12 .shr .num (.t 10) (.t 11)⟩,
   ⟨none, .bin 13 .and .num (.t 12) (.c (.v (.int .u64 1)))⟩,
   ⟨none, .bin 14 .neq .num (.t 13) (.c (.v (.int .u64 0)))⟩,
   ⟨none, .asg 6 (.t 14)⟩])
 (.seq (.scr r36) .ret))),
  15, [6]⟩

def hints37 : List (List Bool) := [bits 21 [], bits 21 [0, 1, 2, 6], bits 21 [0, 1, 2, 6], bits 21 []]
@[simp] def r37 : List Bool := bits 21 []
@[simp] def R37 : St := tab 21 7 dd dd
@[simp] def x37_0 : List Bool := bits 21 []
@[simp] def X37_0 : St := tab 21 7 dd dd
@[simp] def h37_0 : List Bool := bits 21 [0, 1, 2, 6]
@[simp] def L37_0 (s0 s1 s2 s6 : V) : St := tab 21 7 (fu (fu (fu (fu dd 6 s6) 2 s2) 1 s1) 0 s0) dd
@[simp] def x37_1 : List Bool := bits 21 [0, 1, 2, 6]
@[simp] def X37_1 (s0 s1 s2 s6 : V) : St := tab 21 7 (fu (fu (fu (fu dd 6 s6) 2 s2) 1 s1) 0 s0) dd
def b37_0 : MC := .seq (.scr h37_0)
 (.seq (.seq (.blk 1 (.seq (.seq (.ops [⟨none, .mv 12 (.t 6)⟩,
      ⟨none, .call (some 13) 38 [(.t 12)]⟩,
      ⟨none, .mv 14 (.t 1)⟩,
      ⟨none, .bin 15 .eql .num (.t 13) (.t 14)⟩])
    (.cnd (.t 15)
     (.ops [⟨none, .mv 16 (.t 2)⟩,
      ⟨none, .mv 17 (.t 6)⟩,
      ⟨none, .calv (some 18) (.t 16) [(.t 17)]⟩])
     .skip))
   (.seq (.ops [⟨none, .mv 19 (.t 6)⟩,
     ⟨none, .bin 20 .eql .num (.t 19) (.c (.v (.int .u64 0)))⟩])
   (.cnd (.t 20)
    (.seq (.scr r37) .ret)
    .skip)))) (.scr x37_1))
 (.ops [⟨none, .mv 8 (.t 6)⟩,
  ⟨none, .bin 9 .sub .num (.t 8) (.c (.v (.int .u64 1)))⟩,
  ⟨none, .mv 10 (.t 0)⟩,
  ⟨none, .bin 11 .and .num (.t 9) (.t 10)⟩,
  ⟨none, .asg 6 (.t 11)⟩]))
def c37 : MF := ⟨(.seq (.ops [⟨none, .mv 7 (.t 0)⟩,
   ⟨none, .asg 6 (.t 7)⟩])
 (.seq (.blk 0 (.lop b37_0)) (.scr x37_0))),
  21, []⟩

def hints38 : List (List Bool) := [bits 8 [2], bits 8 [2]]
@[simp] def r38 : List Bool := bits 8 [2]
@[simp] def R38 (s2 : V) : St := tab 8 3 (fu dd 2 s2) dd
def c38 : MF := ⟨(.seq (.ops [⟨none, .asg 2 (.c (.v (.int .i64 0)))⟩])
 (.seq (.cnd (.c (.v (.bool false)))
   (.seq (.ops [⟨none, .mv 3 (.t 0)⟩,
     ⟨none, .cvi 4 .u32 (.t 3)⟩,
     ⟨none, .call (some 5) 55 [(.t 4)]⟩,
     ⟨none, .asg 2 (.t 5)⟩])
   (.seq (.scr r38) .ret))
   .skip)
 (.seq (.ops [⟨none, .mv 6 (.t 0)⟩,
   ⟨none, .call (some 7) 56 [(.t 6)]⟩,
   ⟨none, .asg 2 (.t 7)⟩])
 (.seq (.scr r38) .ret)))),
  8, [2]⟩

def hints40 : List (List Bool) := [bits 28 [4], bits 28 [4], bits 28 [], bits 28 [0, 5, 6], bits 28 [], bits 28 [0, 5, 6], bits 28 [4], bits 28 [4]]
@[simp] def r40 : List Bool := bits 28 [4]
@[simp] def R40 (s4 : V) : St := tab 28 7 (fu dd 4 s4) dd
@[simp] def x40_0 : List Bool := bits 28 []
@[simp] def X40_0 : St := tab 28 7 dd dd
@[simp] def h40_0 : List Bool := bits 28 [0, 5, 6]
@[simp] def L40_0 (s0 s5 s6 : V) : St := tab 28 7 (fu (fu (fu dd 6 s6) 5 s5) 0 s0) dd
@[simp] def x40_1 : List Bool := bits 28 [0, 5, 6]
@[simp] def X40_1 (s0 s5 s6 : V) : St := tab 28 7 (fu (fu (fu dd 6 s6) 5 s5) 0 s0) dd
def b40_0 : MC := .seq (.scr h40_0)
 (.seq (.seq (.ops [⟨none, .mv 16 (.t 6)⟩,
    ⟨none, .mv 17 (.t 0)⟩,
    ⟨none, .bin 18 .lss .num (.t 16) (.t 17)⟩])
  (.cnd (.t 18)
   .skip
   (.seq (.scr x40_0) (.ex 0))))
 (.seq (.seq (.blk 1 (.seq (.ops [⟨none, .mv 21 (.t 5)⟩,
     ⟨none, .mv 22 (.t 6)⟩,
     ⟨none, .ixs 23 1 (.t 21) (.t 22)⟩,
     ⟨none, .ld1 24 (.t 23)⟩,
     ⟨none, .mv 25 (.t 6)⟩,
     ⟨none, .ixs 26 1 (.t 24) (.t 25)⟩,
     ⟨none, .ld1 27 (.t 26)⟩])
   (.cnd (.t 27)
    (.seq (.ops [⟨none, .asg 4 (.c (.v (.int .i64 11)))⟩])
    (.seq (.scr r40) .ret))
    .skip))) (.scr x40_1))
 (.ops [⟨none, .mv 19 (.t 6)⟩,
  ⟨none, .bin 20 .add .num (.t 19) (.c (.v (.int .i64 1)))⟩,
  ⟨none, .asg 6 (.t 20)⟩])))
def c40 : MF := ⟨(.seq (.ops [⟨none, .asg 4 (.c (.v (.int .i64 0)))⟩])
 (.seq (.seq (.ops [⟨none, .mv 7 (.t 0)⟩,
    ⟨none, .mv 8 (.t 1)⟩,
    ⟨none, .call (some 9) 21 [(.t 7), (.t 8)]⟩,
    ⟨none, .un 10 .not (.t 9)⟩])
  (.cnd (.t 10)
   (.seq (.ops [⟨none, .asg 4 (.c (.v (.int .i64 1)))⟩])
   (.seq (.scr r40) .ret))
   .skip))
 (.seq (.seq (.ops [⟨none, .mv 11 (.t 0)⟩,
    ⟨none, .bin 12 .gtr .num (.t 11) (.c (.v (.int .i64 12)))⟩])
  (.cnd (.t 12)
   (.seq (.ops [⟨none, .asg 4 (.c (.v (.int .i64 6)))⟩])
   (.seq (.scr r40) .ret))
   .skip))
 (.seq (.ops [⟨none, .mv 13 (.t 0)⟩,
   ⟨none, .mv 14 (.t 1)⟩,
   ⟨none, .call (some 15) 47 [(.t 13), (.t 14)]⟩,
   ⟨none, .asg 5 (.t 15)⟩])
 (.seq (.seq (.ops [⟨none, .asg 6 (.c (.v (.int .i64 0)))⟩])
  (.seq (.blk 0 (.lop b40_0)) (.scr x40_0)))
 (.seq (.ops [⟨none, .asg 4 (.c (.v (.int .i64 0)))⟩])
 (.seq (.scr r40) .ret))))))),
  28, [4]⟩

def hints41 : List (List Bool) := [bits 15 [6]]
@[simp] def r41 : List Bool := bits 15 [6]
@[simp] def R41 (s6 : V) : St := tab 15 7 (fu dd 6 s6) dd
def c41 : MF := ⟨(.seq (.ops [⟨none, .asg 6 (.c (.v (.bool false)))⟩])
 (.seq (.ops [⟨none, .mv 7 (.t 0)⟩,
   ⟨none, .mv 8 (.t 1)⟩,
   ⟨none, .bin 9 .geq .num (.t 7) (.t 8)⟩,
   ⟨none, .mv 10 (.t 9)⟩,
   ⟨some (10, true), .mv 11 (.t 0)⟩,
   ⟨some (10, true), .mv 12 (.t 2)⟩,
   ⟨some (10, true), .bin 13 .leq .num (.t 11) (.t 12)⟩,
   ⟨none, .pick 14 (.t 10) (.t 13) (.c (.v (.bool false)))⟩,
   ⟨none, .asg 6 (.t 14)⟩])
 (.seq (.scr r41) .ret))),
  15, [6]⟩

def hints42 : List (List Bool) := [bits 22 [5], bits 22 [0, 1, 5, 6], bits 22 [5], bits 22 [0, 1, 5, 6], bits 22 [4]]
@[simp] def r42 : List Bool := bits 22 [4]
@[simp] def R42 (s4 : V) : St := tab 22 7 (fu dd 4 s4) dd
@[simp] def x42_0 : List Bool := bits 22 [5]
@[simp] def X42_0 (s5 : V) : St := tab 22 7 (fu dd 5 s5) dd
@[simp] def h42_0 : List Bool := bits 22 [0, 1, 5, 6]
@[simp] def L42_0 (s0 s1 s5 s6 : V) : St := tab 22 7 (fu (fu (fu (fu dd 6 s6) 5 s5) 1 s1) 0 s0) dd
@[simp] def x42_1 : List Bool := bits 22 [0, 1, 5, 6]
@[simp] def X42_1 (s0 s1 s5 s6 : V) : St := tab 22 7 (fu (fu (fu (fu dd 6 s6) 5 s5) 1 s1) 0 s0) dd
def b42_0 : MC := .seq (.scr h42_0)
 (.seq (.seq (.ops [⟨none, .mv 7 (.t 6)⟩,
    ⟨none, .mv 8 (.t 0)⟩,
    ⟨none, .bin 9 .lss .num (.t 7) (.t 8)⟩])
  (.cnd (.t 9)
   .skip
   (.seq (.scr x42_0) (.ex 0))))
 (.seq (.seq (.blk 1 (.seq (.ops [⟨none, .mv 12 (.t 1)⟩,
     ⟨none, .mv 13 (.t 6)⟩,
     ⟨none, .bin 14 .shr .num (.t 12) (.t 13)⟩,
     ⟨none, .bin 15 .and .num (.t 14) (.c (.v (.int .i64 1)))⟩,
     ⟨none, .bin 16 .neq .num (.t 15) (.c (.v (.int .i64 0)))⟩])
   (.cnd (.t 16)
    (.ops [⟨none, .mv 17 (.t 5)⟩,
     ⟨none, .mv 18 (.t 6)⟩,
     ⟨none, .bs 19 1 1 [(.v (.int .i64 0))] [(0, 1, (.t 18))]⟩,
     ⟨none, .app 20 1 (.t 17) (.t 19)⟩,
     ⟨none, .asg 5 (.t 20)⟩])
    .skip))) (.scr x42_1))
 (.ops [⟨none, .mv 10 (.t 6)⟩,
  ⟨none, .bin 11 .add .num (.t 10) (.c (.v (.int .i64 1)))⟩,
  ⟨none, .asg 6 (.t 11)⟩])))
def c42 : MF := ⟨(.seq (.ops [⟨none, .asg 4 (.c (.nd (.sl true 1 0) []))⟩])
 (.seq (.ops [⟨none, .asg 5 (.c (.nd (.sl true 1 0) []))⟩])
 (.seq (.seq (.ops [⟨none, .asg 6 (.c (.v (.int .i64 0)))⟩])
  (.seq (.blk 0 (.lop b42_0)) (.scr x42_0)))
 (.seq (.ops [⟨none, .mv 21 (.t 5)⟩,
   ⟨none, .asg 4 (.t 21)⟩])
 (.seq (.scr r42) .ret))))),
  22, [4]⟩

def hints44 : List (List Bool) := [bits 83 [4], bits 83 [], bits 83 [0, 1, 13, 14, 15], bits 83 [], bits 83 [0, 1, 13, 14, 15], bits 83 [4], bits 83 [4], bits 83 [4]]
@[simp] def r44 : List Bool := bits 83 [4]
@[simp] def R44 (s4 : V) : St := tab 83 16 (fu dd 4 s4) dd
@[simp] def x44_0 : List Bool := bits 83 []
@[simp] def X44_0 : St := tab 83 16 dd dd
@[simp] def h44_0 : List Bool := bits 83 [0, 1, 13, 14, 15]
@[simp] def L44_0 (s0 s1 s13 s14 s15 : V) : St := tab 83 16 (fu (fu (fu (fu (fu dd 15 s15) 14 s14) 13 s13) 1 s1) 0 s0) dd
@[simp] def x44_1 : List Bool := bits 83 [0, 1, 13, 14, 15]
@[simp] def X44_1 (s0 s1 s13 s14 s15 : V) : St := tab 83 16 (fu (fu (fu (fu (fu dd 15 s15) 14 s14) 13 s13) 1 s1) 0 s0) dd
def b44_0 : MC := .seq (.scr h44_0)
 (.seq (.ops [⟨none, .bin 16 .lss .num (.t 15) (.t 14)⟩])
 (.seq (.cnd (.t 16)
   .skip
   (.seq (.scr x44_0) (.ex 0)))
 (.seq (.seq (.blk 1 (.seq (.ops [⟨none, .mv 17 (.t 15)⟩,
     ⟨none, .ixs 18 2 (.t 13) (.t 15)⟩,
     ⟨none, .ldn 19 2 (.t 18)⟩,
     ⟨none, .alc 6 [(.v (.int .i64 0)), (.v (.int .i64 0))]⟩,
     ⟨none, .asg 5 (.t 17)⟩,
     ⟨none, .stn none 2 (.t 6) (.t 19)⟩])
   (.seq (.seq (.ops (⟨none, .fa 20 0 (.t 6)⟩ ::
      ⟨none, .ld1 21 (.t 20)⟩ ::
      ⟨none, .bin 22 .lss .num (.t 21) (.c (.v (.int .i64 0)))⟩ ::
      ⟨none, .mv 23 (.t 22)⟩ ::
      ⟨some (23, false), .fa 24 0 (.t 6)⟩ ::
      ⟨some (23, false), .ld1 25 (.t 24)⟩ ::
      ⟨some (23, false), .mv 26 (.t 0)⟩ ::
      ⟨some (23, false), .bin 27 .geq .num (.t 25) (.t 26)⟩ ::
      ⟨none, .pick 28 (.t 23) (.c (.v (.bool true))) (.t 27)⟩ ::
      ⟨none, .mv 29 (.t 28)⟩ ::
      ⟨some (29, false), .fa 30 1 (.t 6)⟩ ::
      ⟨some (29, false), .ld1 31 (.t 30)⟩ ::
      ⟨some (29, false), .bin 32 .lss .num (.t 31) (.c (.v (.int .i64 0)))⟩ ::
      ⟨none, .pick 33 (.t 29) (.c (.v (.bool true))) (.t 32)⟩ ::
      ⟨none, .mv 34 (.t 33)⟩ ::
      ⟨some (34, false), .fa 35 1 (.t 6)⟩ ::
      ⟨some (34, false), .ld1 36 (.t 35)⟩ ::
      ⟨some (34, false), .mv 37 (.t 0)⟩ ::
      ⟨some (34, false), .bin 38 .geq .num (.t 36) (.t 37)⟩ ::
      ⟨none, .pick 39 (.t 34) (.c (.v (.bool true))) (.t 38)⟩ ::
      ⟨none, .mv 40 (.t 39)⟩ ::
      ⟨some (40, false), .fa 41 0 (.t 6)⟩ ::
      ⟨some (40, false), .ld1 42 (.t 41)⟩ ::
      ⟨some (40, false), .fa 43 1 (.t 6)⟩ ::
      ⟨some (40, false), .ld1 44 (.t 43)⟩ ::
      ⟨some (40, false), .bin 45 .eql .num (.t 42) (.t 44)⟩ ::
      ⟨none, .pick 46 (.t 40) (.c (.v (.bool true))) (.t 45)⟩ :: []))
    (.cnd (.t 46)
     (.seq (.ops [⟨none, .asg 4 (.c (.v (.bool false)))⟩])
     (.seq (.scr r44) .ret))
     .skip))
   (.seq (.drw (⟨none, .mv 47 (.t 5)⟩ ::
     ⟨none, .bin 48 .gtr .num (.t 47) (.c (.v (.int .i64 0)))⟩ ::
     ⟨none, .mv 49 (.t 48)⟩ ::
     ⟨some (49, true), .fa 50 0 (.t 6)⟩ ::
     ⟨some (49, true), .ld1 51 (.t 50)⟩ ::
     ⟨some (49, true), .mv 52 (.t 1)⟩ ::
     ⟨some (49, true), .mv 53 (.t 5)⟩ ::
     ⟨some (49, true), .bin 54 .sub .num (.t 53) (.c (.v (.int .i64 1)))⟩ ::
     ⟨some (49, true), .ixs 55 2 (.t 52) (.t 54)⟩ ::
     ⟨some (49, true), .fa 56 0 (.t 55)⟩ ::
     ⟨some (49, true), .ld1 57 (.t 56)⟩ ::
     ⟨some (49, true), .bin 58 .lss .num (.t 51) (.t 57)⟩ ::
     ⟨some (49, true), .mv 59 (.t 58)⟩ ::
     ⟨some (59, false), .fa 60 0 (.t 6)⟩ ::
     ⟨some (59, false), .ld1 61 (.t 60)⟩ ::
     ⟨some (59, false), .mv 62 (.t 1)⟩ ::
     ⟨some (59, false), .mv 63 (.t 5)⟩ ::
     ⟨some (59, false), .bin 64 .sub .num (.t 63) (.c (.v (.int .i64 1)))⟩ ::
     ⟨some (59, false), .ixs 65 2 (.t 62) (.t 64)⟩ ::
     ⟨some (59, false), .fa 66 0 (.t 65)⟩ ::
     ⟨some (59, false), .ld1 67 (.t 66)⟩ ::
     ⟨some (59, false), .bin 68 .eql .num (.t 61) (.t 67)⟩ ::
     ⟨some (59, false), .mv 69 (.t 68)⟩ ::
     ⟨some (69, true), .fa 70 1 (.t 6)⟩ ::
     ⟨some (69, true), .ld1 71 (.t 70)⟩ ::
     ⟨some (69, true), .mv 72 (.t 1)⟩ ::
     ⟨some (69, true), .mv 73 (.t 5)⟩ ::
     ⟨some (69, true), .bin 74 .sub .num (.t 73) (.c (.v (.int .i64 1)))⟩ ::
     ⟨some (69, true), .ixs 75 2 (.t 72) (.t 74)⟩ ::
     ⟨some (69, true), .fa 76 1 (.t 75)⟩ ::
     ⟨some (69, true), .ld1 77 (.t 76)⟩ :: []) [⟨some (69, true), .bin 78 .leq .num (.t 71) (.t 77)⟩,
     ⟨some (59, false), .pick 79 (.t 69) (.t 78) (.c (.v (.bool false)))⟩,
     ⟨some (49, true), .pick 80 (.t 59) (.c (.v (.bool true))) (.t 79)⟩,
     ⟨none, .pick 81 (.t 49) (.t 80) (.c (.v (.bool false)))⟩])
   (.cnd (.t 81)
    (.seq (.ops [⟨none, .asg 4 (.c (.v (.bool false)))⟩])
    (.seq (.scr r44) .ret))
    .skip))))) (.scr x44_1))
 (.ops [⟨none, .bin 82 .add .num (.t 15) (.c (.v (.int .i64 1)))⟩,
  ⟨none, .mv 15 (.t 82)⟩]))))
def c44 : MF := ⟨(.seq (.ops [⟨none, .asg 4 (.c (.v (.bool false)))⟩])
 (.seq (.seq (.ops [⟨none, .mv 7 (.t 0)⟩,
    ⟨none, .bin 8 .lss .num (.t 7) (.c (.v (.int .i64 0)))⟩,
    ⟨none, .mv 9 (.t 8)⟩,
    ⟨some (9, false), .mv 10 (.t 0)⟩,
    ⟨some (9, false), .bin 11 .gtr .num (.t 10) (.c (.v (.int .i64 24)))⟩,
    ⟨none, .pick 12 (.t 9) (.c (.v (.bool true))) (.t 11)⟩])
  (.cnd (.t 12)
   (.seq (.ops [⟨none, .asg 4 (.c (.v (.bool false)))⟩])
   (.seq (.scr r44) .ret))
   .skip))
 (.seq (.seq (.ops [⟨none, .mv 13 (.t 1)⟩,
    ⟨none, .len 14 false (.t 13)⟩,
    ⟨none, .mv 15 (.c (.v (.int .i64 0)))⟩])
  (.seq (.blk 0 (.lop b44_0)) (.scr x44_0)))
 (.seq (.ops [⟨none, .asg 4 (.c (.v (.bool true)))⟩])
 (.seq (.scr r44) .ret))))),
  83, [4]⟩

def hints45 : List (List Bool) := [bits 38 [5], bits 38 [0, 5, 11, 12], bits 38 [5], bits 38 [0, 5, 11, 12], bits 38 [0, 5, 11, 12], bits 38 [0, 5, 6, 11, 12, 15, 16], bits 38 [0, 5, 11, 12], bits 38 [0, 5, 6, 11, 12, 15, 16], bits 38 [4]]
@[simp] def r45 : List Bool := bits 38 [4]
@[simp] def R45 (s4 : V) : St := tab 38 17 (fu dd 4 s4) dd
@[simp] def x45_0 : List Bool := bits 38 [5]
@[simp] def X45_0 (s5 : V) : St := tab 38 17 (fu dd 5 s5) dd
@[simp] def h45_0 : List Bool := bits 38 [0, 5, 11, 12]
@[simp] def L45_0 (s0 s5 s11 s12 : V) : St := tab 38 17 (fu (fu (fu (fu dd 12 s12) 11 s11) 5 s5) 0 s0) dd
@[simp] def x45_1 : List Bool := bits 38 [0, 5, 11, 12]
@[simp] def X45_1 (s0 s5 s11 s12 : V) : St := tab 38 17 (fu (fu (fu (fu dd 12 s12) 11 s11) 5 s5) 0 s0) dd
@[simp] def x45_2 : List Bool := bits 38 [0, 5, 11, 12]
@[simp] def X45_2 (s0 s5 s11 s12 : V) : St := tab 38 17 (fu (fu (fu (fu dd 12 s12) 11 s11) 5 s5) 0 s0) dd
@[simp] def h45_1 : List Bool := bits 38 [0, 5, 6, 11, 12, 15, 16]
@[simp] def L45_1 (s0 s5 s6 s11 s12 s15 s16 : V) : St := tab 38 17 (fu (fu (fu (fu (fu (fu (fu dd 16 s16) 15 s15) 12 s12) 11 s11) 6 s6) 5 s5) 0 s0) dd
@[simp] def x45_3 : List Bool := bits 38 [0, 5, 6, 11, 12, 15, 16]
@[simp] def X45_3 (s0 s5 s6 s11 s12 s15 s16 : V) : St := tab 38 17 (fu (fu (fu (fu (fu (fu (fu dd 16 s16) 15 s15) 12 s12) 11 s11) 6 s6) 5 s5) 0 s0) dd
def b45_1 : MC := .seq (.scr h45_1)
 (.seq (.ops [⟨none, .bin 17 .lss .num (.t 16) (.t 15)⟩])
 (.seq (.cnd (.t 17)
   .skip
   (.seq (.scr x45_2) (.ex 2)))
 (.seq (.seq (.blk 3 (.seq (.ops [⟨none, .mv 18 (.t 16)⟩,
     ⟨none, .asg 7 (.t 18)⟩])
   (.seq (.ops [⟨none, .mv 19 (.t 5)⟩,
     ⟨none, .mv 20 (.t 7)⟩,
     ⟨none, .ixs 21 1 (.t 19) (.t 20)⟩,
     ⟨none, .ld1 22 (.t 21)⟩,
     ⟨none, .mv 23 (.t 6)⟩,
     ⟨none, .call (some 24) 46 [(.t 22), (.t 23)]⟩])
   (.cnd (.t 24)
    (.drw [⟨none, .mv 25 (.t 5)⟩,
     ⟨none, .mv 26 (.t 7)⟩,
     ⟨none, .ixs 27 1 (.t 25) (.t 26)⟩,
     ⟨none, .ld1 28 (.t 27)⟩,
     ⟨none, .mv 29 (.t 5)⟩,
     ⟨none, .mv 30 (.t 6)⟩,
     ⟨none, .ixs 31 1 (.t 29) (.t 30)⟩,
     ⟨none, .ld1 32 (.t 31)⟩] [⟨none, .bin 33 .or .num (.t 28) (.t 32)⟩,
     ⟨none, .ixs 34 1 (.t 25) (.t 26)⟩,
     ⟨none, .stn none 1 (.t 34) (.t 33)⟩])
    .skip)))) (.scr x45_3))
 (.ops [⟨none, .bin 35 .add .num (.t 16) (.c (.v (.int .i64 1)))⟩,
  ⟨none, .mv 16 (.t 35)⟩]))))
def b45_0 : MC := .seq (.scr h45_0)
 (.seq (.ops [⟨none, .bin 13 .lss .num (.t 12) (.t 11)⟩])
 (.seq (.cnd (.t 13)
   .skip
   (.seq (.scr x45_0) (.ex 0)))
 (.seq (.seq (.blk 1 (.seq (.ops [⟨none, .mv 14 (.t 12)⟩,
     ⟨none, .asg 6 (.t 14)⟩])
   (.seq (.ops [⟨none, .mv 15 (.t 0)⟩,
     ⟨none, .mv 16 (.c (.v (.int .i64 0)))⟩])
   (.seq (.blk 2 (.lop b45_1)) (.scr x45_2))))) (.scr x45_1))
 (.ops [⟨none, .bin 36 .add .num (.t 12) (.c (.v (.int .i64 1)))⟩,
  ⟨none, .mv 12 (.t 36)⟩]))))
def c45 : MF := ⟨(.seq (.ops [⟨none, .asg 4 (.c (.nd (.sl true 1 0) []))⟩])
 (.seq (.ops [⟨none, .mv 8 (.t 0)⟩,
   ⟨none, .mv 9 (.t 1)⟩,
   ⟨none, .call (some 10) 54 [(.t 8), (.t 9)]⟩,
   ⟨none, .asg 5 (.t 10)⟩])
 (.seq (.seq (.ops [⟨none, .mv 11 (.t 0)⟩,
    ⟨none, .mv 12 (.c (.v (.int .i64 0)))⟩])
  (.seq (.blk 0 (.lop b45_0)) (.scr x45_0)))
 (.seq (.ops [⟨none, .mv 37 (.t 5)⟩,
   ⟨none, .asg 4 (.t 37)⟩])
 (.seq (.scr r45) .ret))))),
  38, [4]⟩

def hints46 : List (List Bool) := [bits 10 [4]]
@[simp] def r46 : List Bool := bits 10 [4]
@[simp] def R46 (s4 : V) : St := tab 10 5 (fu dd 4 s4) dd
def c46 : MF := ⟨(.seq (.ops [⟨none, .asg 4 (.c (.v (.bool false)))⟩])
 (.seq (.ops [⟨none, .mv 5 (.t 0)⟩,
   ⟨none, .mv 6 (.t 1)⟩,
   ⟨none, .bin 7 .shr .num (.t 5) (.t 6)⟩,
   ⟨none, .bin 8 .and .num (.t 7) (.c (.v (.int .u32 1)))⟩,
   ⟨none, .bin 9 .neq .num (.t 8) (.c (.v (.int .u32 0)))⟩,
   ⟨none, .asg 4 (.t 9)⟩])
 (.seq (.scr r46) .ret))),
  10, [4]⟩

def hints47 : List (List Bool) := [bits 88 [0, 1, 5], bits 88 [0, 1, 5, 6], bits 88 [0, 1, 5], bits 88 [0, 1, 5, 6], bits 88 [0, 5], bits 88 [0, 1, 5, 7], bits 88 [0, 5], bits 88 [0, 1, 5, 7], bits 88 [5], bits 88 [0, 5, 8], bits 88 [5], bits 88 [0, 5, 8], bits 88 [0, 5, 8], bits 88 [0, 5, 8, 9], bits 88 [0, 5, 8], bits 88 [0, 5, 8, 9], bits 88 [0, 5, 8, 9], bits 88 [0, 5, 8, 9, 10], bits 88 [0, 5, 8, 9], bits 88 [0, 5, 8, 9, 10], bits 88 [4]]
@[simp] def r47 : List Bool := bits 88 [4]
@[simp] def R47 (s4 : V) : St := tab 88 11 (fu dd 4 s4) dd
@[simp] def x47_0 : List Bool := bits 88 [0, 1, 5]
@[simp] def X47_0 (s0 s1 s5 : V) : St := tab 88 11 (fu (fu (fu dd 5 s5) 1 s1) 0 s0) dd
@[simp] def h47_0 : List Bool := bits 88 [0, 1, 5, 6]
@[simp] def L47_0 (s0 s1 s5 s6 : V) : St := tab 88 11 (fu (fu (fu (fu dd 6 s6) 5 s5) 1 s1) 0 s0) dd
@[simp] def x47_1 : List Bool := bits 88 [0, 1, 5, 6]
@[simp] def X47_1 (s0 s1 s5 s6 : V) : St := tab 88 11 (fu (fu (fu (fu dd 6 s6) 5 s5) 1 s1) 0 s0) dd
def b47_0 : MC := .seq (.scr h47_0)
 (.seq (.seq (.ops [⟨none, .mv 11 (.t 6)⟩,
    ⟨none, .mv 12 (.t 0)⟩,
    ⟨none, .bin 13 .lss .num (.t 11) (.t 12)⟩])
  (.cnd (.t 13)
   .skip
   (.seq (.scr x47_0) (.ex 0))))
 (.seq (.seq (.blk 1 (.ops [⟨none, .mv 16 (.t 5)⟩,
    ⟨none, .mv 17 (.t 0)⟩,
    ⟨none, .mks 18 1 [(.v (.bool false))] (.t 17) (.t 17)⟩,
    ⟨none, .bs 19 1 1 [(.nd (.sl true 1 0) [])] [(0, 1, (.t 18))]⟩,
    ⟨none, .app 20 1 (.t 16) (.t 19)⟩,
    ⟨none, .asg 5 (.t 20)⟩])) (.scr x47_1))
 (.ops [⟨none, .mv 14 (.t 6)⟩,
  ⟨none, .bin 15 .add .num (.t 14) (.c (.v (.int .i64 1)))⟩,
  ⟨none, .asg 6 (.t 15)⟩])))
@[simp] def x47_2 : List Bool := bits 88 [0, 5]
@[simp] def X47_2 (s0 s5 : V) : St := tab 88 11 (fu (fu dd 5 s5) 0 s0) dd
@[simp] def h47_1 : List Bool := bits 88 [0, 1, 5, 7]
@[simp] def L47_1 (s0 s1 s5 s7 : V) : St := tab 88 11 (fu (fu (fu (fu dd 7 s7) 5 s5) 1 s1) 0 s0) dd
@[simp] def x47_3 : List Bool := bits 88 [0, 1, 5, 7]
@[simp] def X47_3 (s0 s1 s5 s7 : V) : St := tab 88 11 (fu (fu (fu (fu dd 7 s7) 5 s5) 1 s1) 0 s0) dd
def b47_1 : MC := .seq (.scr h47_1)
 (.seq (.seq (.ops [⟨none, .mv 21 (.t 7)⟩,
    ⟨none, .mv 22 (.t 1)⟩,
    ⟨none, .len 23 false (.t 22)⟩,
    ⟨none, .bin 24 .lss .num (.t 21) (.t 23)⟩])
  (.cnd (.t 24)
   .skip
   (.seq (.scr x47_2) (.ex 2))))
 (.seq (.seq (.blk 3 (.drw [⟨none, .mv 27 (.t 5)⟩,
    ⟨none, .mv 28 (.t 1)⟩,
    ⟨none, .mv 29 (.t 7)⟩,
    ⟨none, .ixs 30 2 (.t 28) (.t 29)⟩,
    ⟨none, .fa 31 0 (.t 30)⟩,
    ⟨none, .ld1 32 (.t 31)⟩,
    ⟨none, .ixs 33 1 (.t 27) (.t 32)⟩,
    ⟨none, .ld1 34 (.t 33)⟩,
    ⟨none, .mv 35 (.t 1)⟩,
    ⟨none, .mv 36 (.t 7)⟩,
    ⟨none, .ixs 37 2 (.t 35) (.t 36)⟩,
    ⟨none, .fa 38 1 (.t 37)⟩,
    ⟨none, .ld1 39 (.t 38)⟩] [⟨none, .ixs 40 1 (.t 34) (.t 39)⟩,
    ⟨none, .stn none 1 (.t 40) (.c (.v (.bool true)))⟩])) (.scr x47_3))
 (.ops [⟨none, .mv 25 (.t 7)⟩,
  ⟨none, .bin 26 .add .num (.t 25) (.c (.v (.int .i64 1)))⟩,
  ⟨none, .asg 7 (.t 26)⟩])))
@[simp] def x47_4 : List Bool := bits 88 [5]
@[simp] def X47_4 (s5 : V) : St := tab 88 11 (fu dd 5 s5) dd
@[simp] def h47_2 : List Bool := bits 88 [0, 5, 8]
@[simp] def L47_2 (s0 s5 s8 : V) : St := tab 88 11 (fu (fu (fu dd 8 s8) 5 s5) 0 s0) dd
@[simp] def x47_5 : List Bool := bits 88 [0, 5, 8]
@[simp] def X47_5 (s0 s5 s8 : V) : St := tab 88 11 (fu (fu (fu dd 8 s8) 5 s5) 0 s0) dd
@[simp] def x47_6 : List Bool := bits 88 [0, 5, 8]
@[simp] def X47_6 (s0 s5 s8 : V) : St := tab 88 11 (fu (fu (fu dd 8 s8) 5 s5) 0 s0) dd
@[simp] def h47_3 : List Bool := bits 88 [0, 5, 8, 9]
@[simp] def L47_3 (s0 s5 s8 s9 : V) : St := tab 88 11 (fu (fu (fu (fu dd 9 s9) 8 s8) 5 s5) 0 s0) dd
@[simp] def x47_7 : List Bool := bits 88 [0, 5, 8, 9]
@[simp] def X47_7 (s0 s5 s8 s9 : V) : St := tab 88 11 (fu (fu (fu (fu dd 9 s9) 8 s8) 5 s5) 0 s0) dd
@[simp] def x47_8 : List Bool := bits 88 [0, 5, 8, 9]
@[simp] def X47_8 (s0 s5 s8 s9 : V) : St := tab 88 11 (fu (fu (fu (fu dd 9 s9) 8 s8) 5 s5) 0 s0) dd
@[simp] def h47_4 : List Bool := bits 88 [0, 5, 8, 9, 10]
@[simp] def L47_4 (s0 s5 s8 s9 s10 : V) : St := tab 88 11 (fu (fu (fu (fu (fu dd 10 s10) 9 s9) 8 s8) 5 s5) 0 s0) dd
@[simp] def x47_9 : List Bool := bits 88 [0, 5, 8, 9, 10]
@[simp] def X47_9 (s0 s5 s8 s9 s10 : V) : St := tab 88 11 (fu (fu (fu (fu (fu dd 10 s10) 9 s9) 8 s8) 5 s5) 0 s0) dd
def b47_4 : MC := .seq (.scr h47_4)
 (.seq (.seq (.ops [⟨none, .mv 51 (.t 10)⟩,
    ⟨none, .mv 52 (.t 0)⟩,
    ⟨none, .bin 53 .lss .num (.t 51) (.t 52)⟩])
  (.cnd (.t 53)
   .skip
   (.seq (.scr x47_8) (.ex 8))))
 (.seq (.seq (.blk 9 (.drw (⟨none, .mv 56 (.t 5)⟩ ::
    ⟨none, .mv 57 (.t 9)⟩ ::
    ⟨none, .ixs 58 1 (.t 56) (.t 57)⟩ ::
    ⟨none, .ld1 59 (.t 58)⟩ ::
    ⟨none, .mv 60 (.t 10)⟩ ::
    ⟨none, .mv 61 (.t 5)⟩ ::
    ⟨none, .mv 62 (.t 9)⟩ ::
    ⟨none, .ixs 63 1 (.t 61) (.t 62)⟩ ::
    ⟨none, .ld1 64 (.t 63)⟩ ::
    ⟨none, .mv 65 (.t 10)⟩ ::
    ⟨none, .ixs 66 1 (.t 64) (.t 65)⟩ ::
    ⟨none, .ld1 67 (.t 66)⟩ ::
    ⟨none, .mv 68 (.t 67)⟩ ::
    ⟨some (68, false), .mv 69 (.t 5)⟩ ::
    ⟨some (68, false), .mv 70 (.t 9)⟩ ::
    ⟨some (68, false), .ixs 71 1 (.t 69) (.t 70)⟩ ::
    ⟨some (68, false), .ld1 72 (.t 71)⟩ ::
    ⟨some (68, false), .mv 73 (.t 8)⟩ ::
    ⟨some (68, false), .ixs 74 1 (.t 72) (.t 73)⟩ ::
    ⟨some (68, false), .ld1 75 (.t 74)⟩ ::
    ⟨some (68, false), .mv 76 (.t 75)⟩ ::
    ⟨some (76, true), .mv 77 (.t 5)⟩ ::
    ⟨some (76, true), .mv 78 (.t 8)⟩ ::
    ⟨some (76, true), .ixs 79 1 (.t 77) (.t 78)⟩ ::
    ⟨some (76, true), .ld1 80 (.t 79)⟩ ::
    ⟨some (76, true), .mv 81 (.t 10)⟩ ::
    ⟨some (76, true), .ixs 82 1 (.t 80) (.t 81)⟩ ::
    ⟨some (76, true), .ld1 83 (.t 82)⟩ ::
    ⟨some (68, false), .pick 84 (.t 76) (.t 83) (.c (.v (.bool false)))⟩ ::
    ⟨none, .pick 85 (.t 68) (.c (.v (.bool true))) (.t 84)⟩ :: []) [⟨none, .ixs 86 1 (.t 59) (.t 60)⟩,
    ⟨none, .stn none 1 (.t 86) (.t 85)⟩])) (.scr x47_9))
 (.ops [⟨none, .mv 54 (.t 10)⟩,
  ⟨none, .bin 55 .add .num (.t 54) (.c (.v (.int .i64 1)))⟩,
  ⟨none, .asg 10 (.t 55)⟩])))
def b47_3 : MC := .seq (.scr h47_3)
 (.seq (.seq (.ops [⟨none, .mv 46 (.t 9)⟩,
    ⟨none, .mv 47 (.t 0)⟩,
    ⟨none, .bin 48 .lss .num (.t 46) (.t 47)⟩])
  (.cnd (.t 48)
   .skip
   (.seq (.scr x47_6) (.ex 6))))
 (.seq (.seq (.blk 7 (.seq (.ops [⟨none, .asg 10 (.c (.v (.int .i64 0)))⟩])
   (.seq (.blk 8 (.lop b47_4)) (.scr x47_8)))) (.scr x47_7))
 (.ops [⟨none, .mv 49 (.t 9)⟩,
  ⟨none, .bin 50 .add .num (.t 49) (.c (.v (.int .i64 1)))⟩,
  ⟨none, .asg 9 (.t 50)⟩])))
def b47_2 : MC := .seq (.scr h47_2)
 (.seq (.seq (.ops [⟨none, .mv 41 (.t 8)⟩,
    ⟨none, .mv 42 (.t 0)⟩,
    ⟨none, .bin 43 .lss .num (.t 41) (.t 42)⟩])
  (.cnd (.t 43)
   .skip
   (.seq (.scr x47_4) (.ex 4))))
 (.seq (.seq (.blk 5 (.seq (.ops [⟨none, .asg 9 (.c (.v (.int .i64 0)))⟩])
   (.seq (.blk 6 (.lop b47_3)) (.scr x47_6)))) (.scr x47_5))
 (.ops [⟨none, .mv 44 (.t 8)⟩,
  ⟨none, .bin 45 .add .num (.t 44) (.c (.v (.int .i64 1)))⟩,
  ⟨none, .asg 8 (.t 45)⟩])))
def c47 : MF := ⟨(.seq (.ops [⟨none, .asg 4 (.c (.nd (.sl true 1 0) []))⟩])
 (.seq (.ops [⟨none, .asg 5 (.c (.nd (.sl true 1 0) []))⟩])
 (.seq (.seq (.ops [⟨none, .asg 6 (.c (.v (.int .i64 0)))⟩])
  (.seq (.blk 0 (.lop b47_0)) (.scr x47_0)))
 (.seq (.seq (.ops [⟨none, .asg 7 (.c (.v (.int .i64 0)))⟩])
  (.seq (.blk 2 (.lop b47_1)) (.scr x47_2)))
 (.seq (.seq (.ops [⟨none, .asg 8 (.c (.v (.int .i64 0)))⟩])
  (.seq (.blk 4 (.lop b47_2)) (.scr x47_4)))
 (.seq (.ops [⟨none, .mv 87 (.t 5)⟩,
   ⟨none, .asg 4 (.t 87)⟩])
 (.seq (.scr r47) .ret))))))),
  88, [4]⟩

def hints48 : List (List Bool) := [bits 30 [], bits 30 [0, 1, 5], bits 30 [], bits 30 [0, 1, 5], bits 30 [4], bits 30 [4]]
@[simp] def r48 : List Bool := bits 30 [4]
@[simp] def R48 (s4 : V) : St := tab 30 6 (fu dd 4 s4) dd
@[simp] def x48_0 : List Bool := bits 30 []
@[simp] def X48_0 : St := tab 30 6 dd dd
@[simp] def h48_0 : List Bool := bits 30 [0, 1, 5]
@[simp] def L48_0 (s0 s1 s5 : V) : St := tab 30 6 (fu (fu (fu dd 5 s5) 1 s1) 0 s0) dd
@[simp] def x48_1 : List Bool := bits 30 [0, 1, 5]
@[simp] def X48_1 (s0 s1 s5 : V) : St := tab 30 6 (fu (fu (fu dd 5 s5) 1 s1) 0 s0) dd
def b48_0 : MC := .seq (.scr h48_0)
 (.seq (.seq (.ops [⟨none, .mv 6 (.t 5)⟩,
    ⟨none, .mv 7 (.t 0)⟩,
    ⟨none, .len 8 false (.t 7)⟩,
    ⟨none, .bin 9 .lss .num (.t 6) (.t 8)⟩])
  (.cnd (.t 9)
   .skip
   (.seq (.scr x48_0) (.ex 0))))
 (.seq (.seq (.blk 1 (.seq (.drw [⟨none, .mv 12 (.t 0)⟩,
     ⟨none, .mv 13 (.t 5)⟩,
     ⟨none, .ixs 14 1 (.t 12) (.t 13)⟩,
     ⟨none, .ld1 15 (.t 14)⟩,
     ⟨none, .mv 16 (.t 1)⟩,
     ⟨none, .mv 17 (.t 5)⟩,
     ⟨none, .ixs 18 1 (.t 16) (.t 17)⟩,
     ⟨none, .ld1 19 (.t 18)⟩] [⟨none, .bin 20 .neq .num (.t 15) (.t 19)⟩])
   (.cnd (.t 20)
    (.seq (.drw [⟨none, .mv 21 (.t 0)⟩,
      ⟨none, .mv 22 (.t 5)⟩,
      ⟨none, .ixs 23 1 (.t 21) (.t 22)⟩,
      ⟨none, .ld1 24 (.t 23)⟩,
      ⟨none, .mv 25 (.t 1)⟩,
      ⟨none, .mv 26 (.t 5)⟩,
      ⟨none, .ixs 27 1 (.t 25) (.t 26)⟩,
      ⟨none, .ld1 28 (.t 27)⟩] [⟨none, .bin 29 .lss .num (.t 24) (.t 28)⟩,
      ⟨none, .asg 4 (.t 29)⟩])
    (.seq (.scr r48) .ret))
    .skip))) (.scr x48_1))
 (.ops [⟨none, .mv 10 (.t 5)⟩,
  ⟨none, .bin 11 .add .num (.t 10) (.c (.v (.int .i64 1)))⟩,
  ⟨none, .asg 5 (.t 11)⟩])))
def c48 : MF := ⟨(.seq (.ops [⟨none, .asg 4 (.c (.v (.bool false)))⟩])
 (.seq (.seq (.ops [⟨none, .asg 5 (.c (.v (.int .i64 0)))⟩])
  (.seq (.blk 0 (.lop b48_0)) (.scr x48_0)))
 (.seq (.ops [⟨none, .asg 4 (.c (.v (.bool false)))⟩])
 (.seq (.scr r48) .ret)))),
  30, [4]⟩

def hints51 : List (List Bool) := [bits 14 [4]]
@[simp] def r51 : List Bool := bits 14 [4]
@[simp] def R51 (s4 : V) : St := tab 14 5 (fu dd 4 s4) dd
def c51 : MF := ⟨(.seq (.ops [⟨none, .asg 4 (.c (.v (.bool false)))⟩])
 (.seq (.ops [⟨none, .mv 5 (.t 0)⟩,
   ⟨none, .mv 6 (.t 1)⟩,
   ⟨none, .call (some 7) 44 [(.t 5), (.t 6)]⟩,
   ⟨none, .mv 8 (.t 7)⟩,
   ⟨some (8, true), .mv 9 (.t 0)⟩,
   ⟨some (8, true), .mv 10 (.t 1)⟩,
   ⟨some (8, true), .call (some 11) 45 [(.t 9), (.t 10)]⟩,
   ⟨some (8, true), .call (some 12) 62 [(.t 11)]⟩,
   ⟨none, .pick 13 (.t 8) (.t 12) (.c (.v (.bool false)))⟩,
   ⟨none, .asg 4 (.t 13)⟩])
 (.seq (.scr r51) .ret))),
  14, [4]⟩

def hints52 : List (List Bool) := [bits 14 [4, 5], bits 14 [4, 5]]
@[simp] def r52 : List Bool := bits 14 [4, 5]
@[simp] def R52 (s4 s5 : V) : St := tab 14 6 (fu (fu dd 5 s5) 4 s4) dd
def c52 : MF := ⟨(.seq (.ops [⟨none, .asg 4 (.c (.nd (.sl true 2 0) []))⟩,
   ⟨none, .asg 5 (.c (.v (.int .i64 0)))⟩])
 (.seq (.seq (.ops [⟨none, .mv 6 (.t 0)⟩,
    ⟨none, .mv 7 (.t 1)⟩,
    ⟨none, .call (some 8) 44 [(.t 6), (.t 7)]⟩,
    ⟨none, .un 9 .not (.t 8)⟩])
  (.cnd (.t 9)
   (.seq (.ops [⟨none, .asg 4 (.c (.nd (.sl true 2 0) []))⟩,
     ⟨none, .asg 5 (.c (.v (.int .i64 1)))⟩])
   (.seq (.scr r52) .ret))
   .skip))
 (.seq (.ops [⟨none, .mv 10 (.t 0)⟩,
   ⟨none, .mv 11 (.t 1)⟩,
   ⟨none, .call (some 12) 45 [(.t 10), (.t 11)]⟩,
   ⟨none, .call (some 13) 63 [(.t 12)]⟩,
   ⟨none, .asg 4 (.t 13)⟩,
   ⟨none, .asg 5 (.c (.v (.int .i64 0)))⟩])
 (.seq (.scr r52) .ret)))),
  14, [4, 5]⟩

def hints53 : List (List Bool) := [bits 70 [4, 5], bits 70 [0, 6], bits 70 [0, 1, 6, 18, 19, 20], bits 70 [0, 6], bits 70 [0, 1, 6, 18, 19, 20], bits 70 [10], bits 70 [0, 6, 9, 10], bits 70 [10], bits 70 [0, 6, 9, 10], bits 70 [0, 6, 9, 10, 11], bits 70 [0, 6, 9, 10, 11], bits 70 [0, 6, 9, 10, 11], bits 70 [0, 6, 9, 10, 11], bits 70 [4, 5], bits 70 [4, 5]]
@[simp] def r53 : List Bool := bits 70 [4, 5]
@[simp] def R53 (s4 s5 : V) : St := tab 70 21 (fu (fu dd 5 s5) 4 s4) dd
@[simp] def x53_0 : List Bool := bits 70 [0, 6]
@[simp] def X53_0 (s0 s6 : V) : St := tab 70 21 (fu (fu dd 6 s6) 0 s0) dd
@[simp] def h53_0 : List Bool := bits 70 [0, 1, 6, 18, 19, 20]
@[simp] def L53_0 (s0 s1 s6 s18 s19 s20 : V) : St := tab 70 21 (fu (fu (fu (fu (fu (fu dd 20 s20) 19 s19) 18 s18) 6 s6) 1 s1) 0 s0) dd
@[simp] def x53_1 : List Bool := bits 70 [0, 1, 6, 18, 19, 20]
@[simp] def X53_1 (s0 s1 s6 s18 s19 s20 : V) : St := tab 70 21 (fu (fu (fu (fu (fu (fu dd 20 s20) 19 s19) 18 s18) 6 s6) 1 s1) 0 s0) dd
def b53_0 : MC := .seq (.scr h53_0)
 (.seq (.ops [⟨none, .bin 21 .lss .num (.t 20) (.t 19)⟩])
 (.seq (.cnd (.t 21)
   .skip
   (.seq (.scr x53_0) (.ex 0)))
 (.seq (.seq (.blk 1 (.seq (.ops [⟨none, .ixs 22 2 (.t 18) (.t 20)⟩,
     ⟨none, .ldn 23 2 (.t 22)⟩,
     ⟨none, .alc 8 [(.v (.int .i64 0)), (.v (.int .i64 0))]⟩,
     ⟨none, .stn none 2 (.t 8) (.t 23)⟩])
   (.drw [⟨none, .mv 24 (.t 6)⟩,
    ⟨none, .fa 25 1 (.t 8)⟩,
    ⟨none, .ld1 26 (.t 25)⟩,
    ⟨none, .ixs 27 1 (.t 24) (.t 26)⟩,
    ⟨none, .ld1 28 (.t 27)⟩,
    ⟨none, .fa 29 0 (.t 8)⟩,
    ⟨none, .ld1 30 (.t 29)⟩,
    ⟨none, .bin 31 .shl .num (.c (.v (.int .u32 1))) (.t 30)⟩] [⟨none, .bin 32 .or .num (.t 28) (.t 31)⟩,
    ⟨none, .ixs 33 1 (.t 24) (.t 26)⟩,
    ⟨none, .stn none 1 (.t 33) (.t 32)⟩]))) (.scr x53_1))
 (.ops [⟨none, .bin 34 .add .num (.t 20) (.c (.v (.int .i64 1)))⟩,
  ⟨none, .mv 20 (.t 34)⟩]))))
@[simp] def x53_2 : List Bool := bits 70 [10]
@[simp] def X53_2 (s10 : V) : St := tab 70 21 (fu dd 10 s10) dd
@[simp] def h53_1 : List Bool := bits 70 [0, 6, 9, 10]
@[simp] def L53_1 (s0 s6 s9 s10 : V) : St := tab 70 21 (fu (fu (fu (fu dd 10 s10) 9 s9) 6 s6) 0 s0) dd
@[simp] def x53_3 : List Bool := bits 70 [0, 6, 9, 10]
@[simp] def X53_3 (s0 s6 s9 s10 : V) : St := tab 70 21 (fu (fu (fu (fu dd 10 s10) 9 s9) 6 s6) 0 s0) dd
@[simp] def x53_4 : List Bool := bits 70 [0, 6, 9, 10, 11]
@[simp] def X53_4 (s0 s6 s9 s10 s11 : V) : St := tab 70 21 (fu (fu (fu (fu (fu dd 11 s11) 10 s10) 9 s9) 6 s6) 0 s0) dd
@[simp] def h53_2 : List Bool := bits 70 [0, 6, 9, 10, 11]
@[simp] def L53_2 (s0 s6 s9 s10 s11 : V) : St := tab 70 21 (fu (fu (fu (fu (fu dd 11 s11) 10 s10) 9 s9) 6 s6) 0 s0) dd
@[simp] def x53_5 : List Bool := bits 70 [0, 6, 9, 10, 11]
@[simp] def X53_5 (s0 s6 s9 s10 s11 : V) : St := tab 70 21 (fu (fu (fu (fu (fu dd 11 s11) 10 s10) 9 s9) 6 s6) 0 s0) dd
def b53_2 : MC := .seq (.scr h53_2)
 (.seq (.seq (.ops (⟨none, .mv 39 (.t 11)⟩ ::
    ⟨none, .mv 40 (.t 0)⟩ ::
    ⟨none, .bin 41 .lss .num (.t 39) (.t 40)⟩ ::
    ⟨none, .mv 42 (.t 41)⟩ ::
    ⟨some (42, true), .mv 43 (.t 9)⟩ ::
    ⟨some (42, true), .mv 44 (.t 11)⟩ ::
    ⟨some (42, true), .call (some 45) 46 [(.t 43), (.t 44)]⟩ ::
    ⟨some (42, true), .mv 46 (.t 45)⟩ ::
    ⟨some (46, false), .mv 47 (.t 6)⟩ ::
    ⟨some (46, false), .mv 48 (.t 11)⟩ ::
    ⟨some (46, false), .ixs 49 1 (.t 47) (.t 48)⟩ ::
    ⟨some (46, false), .ld1 50 (.t 49)⟩ ::
    ⟨some (46, false), .mv 51 (.t 9)⟩ ::
    ⟨some (46, false), .bin 52 .andNot .num (.t 50) (.t 51)⟩ ::
    ⟨some (46, false), .bin 53 .neq .num (.t 52) (.c (.v (.int .u32 0)))⟩ ::
    ⟨some (42, true), .pick 54 (.t 46) (.c (.v (.bool true))) (.t 53)⟩ ::
    ⟨none, .pick 55 (.t 42) (.t 54) (.c (.v (.bool false)))⟩ :: []))
  (.cnd (.t 55)
   .skip
   (.seq (.scr x53_4) (.ex 4))))
 (.seq (.blk 5 (.ops [⟨none, .mv 56 (.t 11)⟩,
   ⟨none, .bin 57 .add .num (.t 56) (.c (.v (.int .i64 1)))⟩,
   ⟨none, .asg 11 (.t 57)⟩])) (.scr x53_5)))
def b53_1 : MC := .seq (.scr h53_1)
 (.seq (.seq (.ops [⟨none, .mv 35 (.t 10)⟩,
    ⟨none, .len 36 false (.t 35)⟩,
    ⟨none, .mv 37 (.t 0)⟩,
    ⟨none, .bin 38 .lss .num (.t 36) (.t 37)⟩])
  (.cnd (.t 38)
   .skip
   (.seq (.scr x53_2) (.ex 2))))
 (.seq (.blk 3 (.seq (.ops [⟨none, .asg 11 (.c (.v (.int .i64 0)))⟩])
  (.seq (.seq (.blk 4 (.lop b53_2)) (.scr x53_4))
  (.seq (.seq (.ops [⟨none, .mv 58 (.t 11)⟩,
     ⟨none, .mv 59 (.t 0)⟩,
     ⟨none, .bin 60 .eql .num (.t 58) (.t 59)⟩])
   (.cnd (.t 60)
    (.seq (.ops [⟨none, .asg 4 (.c (.nd (.sl true 1 0) []))⟩,
      ⟨none, .asg 5 (.c (.v (.int .i64 11)))⟩])
    (.seq (.scr r53) .ret))
    .skip))
  (.seq (.ops [⟨none, .mv 61 (.t 9)⟩,
    ⟨none, .mv 62 (.t 11)⟩,
    ⟨none, .bin 63 .shl .num (.c (.v (.int .u32 1))) (.t 62)⟩,
    ⟨none, .bin 64 .or .num (.t 61) (.t 63)⟩,
    ⟨none, .asg 9 (.t 64)⟩])
  (.ops [⟨none, .mv 65 (.t 10)⟩,
   ⟨none, .mv 66 (.t 11)⟩,
   ⟨none, .bs 67 1 1 [(.v (.int .i64 0))] [(0, 1, (.t 66))]⟩,
   ⟨none, .app 68 1 (.t 65) (.t 67)⟩,
   ⟨none, .asg 10 (.t 68)⟩])))))) (.scr x53_3)))
def c53 : MF := ⟨(.seq (.ops [⟨none, .asg 4 (.c (.nd (.sl true 1 0) []))⟩,
   ⟨none, .asg 5 (.c (.v (.int .i64 0)))⟩])
 (.seq (.seq (.ops [⟨none, .mv 12 (.t 0)⟩,
    ⟨none, .mv 13 (.t 1)⟩,
    ⟨none, .call (some 14) 44 [(.t 12), (.t 13)]⟩,
    ⟨none, .un 15 .not (.t 14)⟩])
  (.cnd (.t 15)
   (.seq (.ops [⟨none, .asg 4 (.c (.nd (.sl true 1 0) []))⟩,
     ⟨none, .asg 5 (.c (.v (.int .i64 1)))⟩])
   (.seq (.scr r53) .ret))
   .skip))
 (.seq (.ops [⟨none, .mv 16 (.t 0)⟩,
   ⟨none, .mks 17 1 [(.v (.int .u32 0))] (.t 16) (.t 16)⟩,
   ⟨none, .asg 6 (.t 17)⟩])
 (.seq (.seq (.ops [⟨none, .mv 18 (.t 1)⟩,
    ⟨none, .len 19 false (.t 18)⟩,
    ⟨none, .mv 20 (.c (.v (.int .i64 0)))⟩])
  (.seq (.blk 0 (.lop b53_0)) (.scr x53_0)))
 (.seq (.ops [⟨none, .asg 9 (.c (.v (.int .u32 0)))⟩])
 (.seq (.ops [⟨none, .asg 10 (.c (.nd (.sl true 1 0) []))⟩])
 (.seq (.seq (.blk 2 (.lop b53_1)) (.scr x53_2))
 (.seq (.ops [⟨none, .mv 69 (.t 10)⟩,
   ⟨none, .asg 4 (.t 69)⟩,
   ⟨none, .asg 5 (.c (.v (.int .i64 0)))⟩])
 (.seq (.scr r53) .ret))))))))),
  70, [4, 5]⟩

def hints54 : List (List Bool) := [bits 28 [5], bits 28 [1, 5, 10, 11, 12], bits 28 [5], bits 28 [1, 5, 10, 11, 12], bits 28 [4]]
@[simp] def r54 : List Bool := bits 28 [4]
@[simp] def R54 (s4 : V) : St := tab 28 13 (fu dd 4 s4) dd
@[simp] def x54_0 : List Bool := bits 28 [5]
@[simp] def X54_0 (s5 : V) : St := tab 28 13 (fu dd 5 s5) dd
@[simp] def h54_0 : List Bool := bits 28 [1, 5, 10, 11, 12]
@[simp] def L54_0 (s1 s5 s10 s11 s12 : V) : St := tab 28 13 (fu (fu (fu (fu (fu dd 12 s12) 11 s11) 10 s10) 5 s5) 1 s1) dd
@[simp] def x54_1 : List Bool := bits 28 [1, 5, 10, 11, 12]
@[simp] def X54_1 (s1 s5 s10 s11 s12 : V) : St := tab 28 13 (fu (fu (fu (fu (fu dd 12 s12) 11 s11) 10 s10) 5 s5) 1 s1) dd
def b54_0 : MC := .seq (.scr h54_0)
 (.seq (.ops [⟨none, .bin 13 .lss .num (.t 12) (.t 11)⟩])
 (.seq (.cnd (.t 13)
   .skip
   (.seq (.scr x54_0) (.ex 0)))
 (.seq (.seq (.blk 1 (.seq (.ops [⟨none, .ixs 14 2 (.t 10) (.t 12)⟩,
     ⟨none, .ldn 15 2 (.t 14)⟩,
     ⟨none, .alc 7 [(.v (.int .i64 0)), (.v (.int .i64 0))]⟩,
     ⟨none, .stn none 2 (.t 7) (.t 15)⟩])
   (.drw [⟨none, .mv 16 (.t 5)⟩,
    ⟨none, .fa 17 0 (.t 7)⟩,
    ⟨none, .ld1 18 (.t 17)⟩,
    ⟨none, .ixs 19 1 (.t 16) (.t 18)⟩,
    ⟨none, .ld1 20 (.t 19)⟩,
    ⟨none, .fa 21 1 (.t 7)⟩,
    ⟨none, .ld1 22 (.t 21)⟩,
    ⟨none, .bin 23 .shl .num (.c (.v (.int .u32 1))) (.t 22)⟩] [⟨none, .bin 24 .or .num (.t 20) (.t 23)⟩,
    ⟨none, .ixs 25 1 (.t 16) (.t 18)⟩,
    ⟨none, .stn none 1 (.t 25) (.t 24)⟩]))) (.scr x54_1))
 (.ops [⟨none, .bin 26 .add .num (.t 12) (.c (.v (.int .i64 1)))⟩,
  ⟨none, .mv 12 (.t 26)⟩]))))
def c54 : MF := ⟨(.seq (.ops [⟨none, .asg 4 (.c (.nd (.sl true 1 0) []))⟩])
 (.seq (.ops [⟨none, .mv 8 (.t 0)⟩,
   ⟨none, .mks 9 1 [(.v (.int .u32 0))] (.t 8) (.t 8)⟩,
   ⟨none, .asg 5 (.t 9)⟩])
 (.seq (.seq (.ops [⟨none, .mv 10 (.t 1)⟩,
    ⟨none, .len 11 false (.t 10)⟩,
    ⟨none, .mv 12 (.c (.v (.int .i64 0)))⟩])
  (.seq (.blk 0 (.lop b54_0)) (.scr x54_0)))
 (.seq (.ops [⟨none, .mv 27 (.t 5)⟩,
   ⟨none, .asg 4 (.t 27)⟩])
 (.seq (.scr r54) .ret))))),
  28, [4]⟩

def hints56 : List (List Bool) := [bits 35 [2]]
@[simp] def r56 : List Bool := bits 35 [2]
@[simp] def R56 (s2 : V) : St := tab 35 3 (fu dd 2 s2) dd
def c56 : MF := ⟨(.seq (.ops [⟨none, .asg 2 (.c (.v (.int .i64 0)))⟩])
 (.seq (.ops [⟨none, .mv 3 (.t 0)⟩,
   ⟨none, .bin 4 .shr .num (.t 3) (.c (.v (.int .u64 1)))⟩,
   ⟨none, .bin 5 .and .num (.t 4) (.c (.v (.int .u64 6148914691236517205)))⟩,
   ⟨none, .mv 6 (.t 0)⟩,
   ⟨none, .bin 7 .and .num (.t 6) (.c (.v (.int .u64 6148914691236517205)))⟩,
   ⟨none, .bin 8 .add .num (.t 5) (.t 7)⟩,
   ⟨none, .asg 0 (.t 8)⟩])
 (.seq (.ops [⟨none, .mv 9 (.t 0)⟩,
   ⟨none, .bin 10 .shr .num (.t 9) (.c (.v (.int .u64 2)))⟩,
   ⟨none, .bin 11 .and .num (.t 10) (.c (.v (.int .u64 3689348814741910323)))⟩,
   ⟨none, .mv 12 (.t 0)⟩,
   ⟨none, .bin 13 .and .num (.t 12) (.c (.v (.int .u64 3689348814741910323)))⟩,
   ⟨none, .bin 14 .add .num (.t 11) (.t 13)⟩,
   ⟨none, .asg 0 (.t 14)⟩])
 (.seq (.ops [⟨none, .mv 15 (.t 0)⟩,
   ⟨none, .bin 16 .shr .num (.t 15) (.c (.v (.int .u64 4)))⟩,
   ⟨none, .mv 17 (.t 0)⟩,
   ⟨none, .bin 18 .add .num (.t 16) (.t 17)⟩,
   ⟨none, .bin 19 .and .num (.t 18) (.c (.v (.int .u64 1085102592571150095)))⟩,
   ⟨none, .asg 0 (.t 19)⟩])
 (.seq (.ops [⟨none, .mv 20 (.t 0)⟩,
   ⟨none, .mv 21 (.t 0)⟩,
   ⟨none, .bin 22 .shr .num (.t 21) (.c (.v (.int .u64 8)))⟩,
   ⟨none, .bin 23 .add .num (.t 20) (.t 22)⟩,
   ⟨none, .asg 0 (.t 23)⟩])
 (.seq (.ops [⟨none, .mv 24 (.t 0)⟩,
   ⟨none, .mv 25 (.t 0)⟩,
   ⟨none, .bin 26 .shr .num (.t 25) (.c (.v (.int .u64 16)))⟩,
   ⟨none, .bin 27 .add .num (.t 24) (.t 26)⟩,
   ⟨none, .asg 0 (.t 27)⟩])
 (.seq (.ops [⟨none, .mv 28 (.t 0)⟩,
   ⟨none, .mv 29 (.t 0)⟩,
   ⟨none, .bin 30 .shr .num (.t 29) (.c (.v (.int .u64 32)))⟩,
   ⟨none, .bin 31 .add .num (.t 28) (.t 30)⟩,
   ⟨none, .asg 0 (.t 31)⟩])
 (.seq (.ops [⟨none, .mv 32 (.t 0)⟩,
   ⟨none, .cvi 33 .i64 (.t 32)⟩,
   ⟨none, .bin 34 .and .num (.t 33) (.c (.v (.int .i64 127)))⟩,
   ⟨none, .asg 2 (.t 34)⟩])
 (.seq (.scr r56) .ret))))))))),
  35, [2]⟩

def hints58 : List (List Bool) := [bits 8 [2], bits 8 [2]]
@[simp] def r58 : List Bool := bits 8 [2]
@[simp] def R58 (s2 : V) : St := tab 8 3 (fu dd 2 s2) dd
def c58 : MF := ⟨(.seq (.ops [⟨none, .asg 2 (.c (.nd (.sl true 1 0) []))⟩])
 (.seq (.seq (.ops [⟨none, .mv 3 (.t 0)⟩,
    ⟨none, .bin 4 .eql (.nilT false) (.t 3) (.c (.nd (.sl true 0 0) []))⟩])
  (.cnd (.t 4)
   (.seq (.ops [⟨none, .asg 2 (.c (.nd (.sl true 1 0) []))⟩])
   (.seq (.scr r58) .ret))
   .skip))
 (.seq (.ops [⟨none, .mz 5 1⟩,
   ⟨none, .mv 6 (.t 0)⟩,
   ⟨none, .app 7 1 (.t 5) (.t 6)⟩,
   ⟨none, .asg 2 (.t 7)⟩])
 (.seq (.scr r58) .ret)))),
  8, [2]⟩

def hints59 : List (List Bool) := [bits 9 [4]]
@[simp] def r59 : List Bool := bits 9 [4]
@[simp] def R59 (s4 : V) : St := tab 9 5 (fu dd 4 s4) dd
def c59 : MF := ⟨(.seq (.ops [⟨none, .asg 4 (.c (.v (.bool false)))⟩])
 (.seq (.ops [⟨none, .mv 5 (.t 0)⟩,
   ⟨none, .mv 6 (.t 1)⟩,
   ⟨none, .call (some 7) 64 [(.t 5), (.t 6)]⟩,
   ⟨none, .bin 8 .geq .num (.t 7) (.c (.v (.int .i64 0)))⟩,
   ⟨none, .asg 4 (.t 8)⟩])
 (.seq (.scr r59) .ret))),
  9, [4]⟩

def hints60 : List (List Bool) := [bits 15 [4]]
@[simp] def r60 : List Bool := bits 15 [4]
@[simp] def R60 (s4 : V) : St := tab 15 5 (fu dd 4 s4) dd
def c60 : MF := ⟨(.seq (.ops [⟨none, .asg 4 (.c (.v (.bool false)))⟩])
 (.seq (.ops [⟨none, .ld1 5 (.t 1)⟩,
   ⟨none, .mv 6 (.t 0)⟩,
   ⟨none, .ld1 7 (.t 2)⟩,
   ⟨none, .call (some 8) 36 [(.t 5), (.t 6), (.t 7)]⟩,
   ⟨none, .mv 9 (.t 8)⟩,
   ⟨some (9, false), .ld1 10 (.t 1)⟩,
   ⟨some (9, false), .ld1 11 (.t 2)⟩,
   ⟨some (9, false), .mv 12 (.t 0)⟩,
   ⟨some (9, false), .call (some 13) 36 [(.t 10), (.t 11), (.t 12)]⟩,
   ⟨none, .pick 14 (.t 9) (.c (.v (.bool true))) (.t 13)⟩,
   ⟨none, .asg 4 (.t 14)⟩])
 (.seq (.scr r60) .ret))),
  15, [4]⟩

def hints61 : List (List Bool) := [bits 30 [4, 5], bits 30 [4, 5]]
@[simp] def r61 : List Bool := bits 30 [4, 5]
@[simp] def R61 (s4 s5 : V) : St := tab 30 23 (fu (fu dd 5 s5) 4 s4) dd
def c61 : MF := ⟨(.seq (.ops [⟨none, .asg 4 (.c (.v (.int .u64 0)))⟩,
   ⟨none, .asg 5 (.c (.v (.int .u64 0)))⟩])
 (.seq (.cnd (.c (.v (.bool false)))
   (.seq (.ops [⟨none, .mv 11 (.t 0)⟩,
     ⟨none, .cvi 12 .u32 (.t 11)⟩,
     ⟨none, .mv 13 (.t 1)⟩,
     ⟨none, .cvi 14 .u32 (.t 13)⟩,
     ⟨none, .call (some 15) 65 [(.t 12), (.t 14)]⟩,
     ⟨none, .mv 10 (.t 15)⟩,
     ⟨none, .ext 16 (.t 10) 0⟩,
     ⟨none, .ext 17 (.t 10) 1⟩,
     ⟨none, .asg 6 (.t 16)⟩,
     ⟨none, .asg 7 (.t 17)⟩])
   (.seq (.ops [⟨none, .mv 18 (.t 6)⟩,
     ⟨none, .cvi 19 .u64 (.t 18)⟩,
     ⟨none, .mv 20 (.t 7)⟩,
     ⟨none, .cvi 21 .u64 (.t 20)⟩,
     ⟨none, .asg 4 (.t 19)⟩,
     ⟨none, .asg 5 (.t 21)⟩])
   (.seq (.scr r61) .ret)))
   .skip)
 (.seq (.ops [⟨none, .mv 23 (.t 0)⟩,
   ⟨none, .mv 24 (.t 1)⟩,
   ⟨none, .call (some 25) 66 [(.t 23), (.t 24)]⟩,
   ⟨none, .mv 22 (.t 25)⟩,
   ⟨none, .ext 26 (.t 22) 0⟩,
   ⟨none, .ext 27 (.t 22) 1⟩,
   ⟨none, .asg 8 (.t 26)⟩,
   ⟨none, .asg 9 (.t 27)⟩])
 (.seq (.ops [⟨none, .mv 28 (.t 8)⟩,
   ⟨none, .mv 29 (.t 9)⟩,
   ⟨none, .asg 4 (.t 28)⟩,
   ⟨none, .asg 5 (.t 29)⟩])
 (.seq (.scr r61) .ret))))),
  30, [4, 5]⟩

def hints62 : List (List Bool) := [bits 16 [], bits 16 [0, 5, 6, 7], bits 16 [], bits 16 [0, 5, 6, 7], bits 16 [2], bits 16 [2]]
@[simp] def r62 : List Bool := bits 16 [2]
@[simp] def R62 (s2 : V) : St := tab 16 8 (fu dd 2 s2) dd
@[simp] def x62_0 : List Bool := bits 16 []
@[simp] def X62_0 : St := tab 16 8 dd dd
@[simp] def h62_0 : List Bool := bits 16 [0, 5, 6, 7]
@[simp] def L62_0 (s0 s5 s6 s7 : V) : St := tab 16 8 (fu (fu (fu (fu dd 7 s7) 6 s6) 5 s5) 0 s0) dd
@[simp] def x62_1 : List Bool := bits 16 [0, 5, 6, 7]
@[simp] def X62_1 (s0 s5 s6 s7 : V) : St := tab 16 8 (fu (fu (fu (fu dd 7 s7) 6 s6) 5 s5) 0 s0) dd
def b62_0 : MC := .seq (.scr h62_0)
 (.seq (.ops [⟨none, .bin 8 .lss .num (.t 7) (.t 6)⟩])
 (.seq (.cnd (.t 8)
   .skip
   (.seq (.scr x62_0) (.ex 0)))
 (.seq (.seq (.blk 1 (.seq (.ops [⟨none, .mv 9 (.t 7)⟩,
     ⟨none, .ixs 10 1 (.t 5) (.t 7)⟩,
     ⟨none, .ld1 11 (.t 10)⟩,
     ⟨none, .asg 3 (.t 9)⟩,
     ⟨none, .asg 4 (.t 11)⟩])
   (.seq (.ops [⟨none, .mv 12 (.t 4)⟩,
     ⟨none, .mv 13 (.t 3)⟩,
     ⟨none, .call (some 14) 46 [(.t 12), (.t 13)]⟩])
   (.cnd (.t 14)
    (.seq (.ops [⟨none, .asg 2 (.c (.v (.bool false)))⟩])
    (.seq (.scr r62) .ret))
    .skip)))) (.scr x62_1))
 (.ops [⟨none, .bin 15 .add .num (.t 7) (.c (.v (.int .i64 1)))⟩,
  ⟨none, .mv 7 (.t 15)⟩]))))
def c62 : MF := ⟨(.seq (.ops [⟨none, .asg 2 (.c (.v (.bool false)))⟩])
 (.seq (.seq (.ops [⟨none, .mv 5 (.t 0)⟩,
    ⟨none, .len 6 false (.t 5)⟩,
    ⟨none, .mv 7 (.c (.v (.int .i64 0)))⟩])
  (.seq (.blk 0 (.lop b62_0)) (.scr x62_0)))
 (.seq (.ops [⟨none, .asg 2 (.c (.v (.bool true)))⟩])
 (.seq (.scr r62) .ret)))),
  16, [2]⟩

def hints63 : List (List Bool) := [bits 36 [3], bits 36 [0, 3, 7, 8, 9], bits 36 [3], bits 36 [0, 3, 7, 8, 9], bits 36 [0, 3, 7, 8, 9], bits 36 [0, 3, 4, 5, 7, 8, 9, 15, 16], bits 36 [0, 3, 7, 8, 9], bits 36 [0, 3, 4, 5, 7, 8, 9, 15, 16], bits 36 [2]]
@[simp] def r63 : List Bool := bits 36 [2]
@[simp] def R63 (s2 : V) : St := tab 36 17 (fu dd 2 s2) dd
@[simp] def x63_0 : List Bool := bits 36 [3]
@[simp] def X63_0 (s3 : V) : St := tab 36 17 (fu dd 3 s3) dd
@[simp] def h63_0 : List Bool := bits 36 [0, 3, 7, 8, 9]
@[simp] def L63_0 (s0 s3 s7 s8 s9 : V) : St := tab 36 17 (fu (fu (fu (fu (fu dd 9 s9) 8 s8) 7 s7) 3 s3) 0 s0) dd
@[simp] def x63_1 : List Bool := bits 36 [0, 3, 7, 8, 9]
@[simp] def X63_1 (s0 s3 s7 s8 s9 : V) : St := tab 36 17 (fu (fu (fu (fu (fu dd 9 s9) 8 s8) 7 s7) 3 s3) 0 s0) dd
@[simp] def x63_2 : List Bool := bits 36 [0, 3, 7, 8, 9]
@[simp] def X63_2 (s0 s3 s7 s8 s9 : V) : St := tab 36 17 (fu (fu (fu (fu (fu dd 9 s9) 8 s8) 7 s7) 3 s3) 0 s0) dd
@[simp] def h63_1 : List Bool := bits 36 [0, 3, 4, 5, 7, 8, 9, 15, 16]
@[simp] def L63_1 (s0 s3 s4 s5 s7 s8 s9 s15 s16 : V) : St := tab 36 17 (fu (fu (fu (fu (fu (fu (fu (fu (fu dd 16 s16) 15 s15) 9 s9) 8 s8) 7 s7) 5 s5) 4 s4) 3 s3) 0 s0) dd
@[simp] def x63_3 : List Bool := bits 36 [0, 3, 4, 5, 7, 8, 9, 15, 16]
@[simp] def X63_3 (s0 s3 s4 s5 s7 s8 s9 s15 s16 : V) : St := tab 36 17 (fu (fu (fu (fu (fu (fu (fu (fu (fu dd 16 s16) 15 s15) 9 s9) 8 s8) 7 s7) 5 s5) 4 s4) 3 s3) 0 s0) dd
def b63_1 : MC := .seq (.scr h63_1)
 (.seq (.ops [⟨none, .bin 17 .lss .num (.t 16) (.t 15)⟩])
 (.seq (.cnd (.t 17)
   .skip
   (.seq (.scr x63_2) (.ex 2)))
 (.seq (.seq (.blk 3 (.seq (.ops [⟨none, .mv 18 (.t 16)⟩,
     ⟨none, .asg 6 (.t 18)⟩])
   (.seq (.ops [⟨none, .mv 19 (.t 4)⟩,
     ⟨none, .mv 20 (.t 6)⟩,
     ⟨none, .bin 21 .neq .num (.t 19) (.t 20)⟩,
     ⟨none, .mv 22 (.t 21)⟩,
     ⟨some (22, true), .mv 23 (.t 5)⟩,
     ⟨some (22, true), .mv 24 (.t 6)⟩,
     ⟨some (22, true), .call (some 25) 46 [(.t 23), (.t 24)]⟩,
     ⟨none, .pick 26 (.t 22) (.t 25) (.c (.v (.bool false)))⟩])
   (.cnd (.t 26)
    (.ops [⟨none, .mv 27 (.t 3)⟩,
     ⟨none, .mv 28 (.t 4)⟩,
     ⟨none, .mv 29 (.t 6)⟩,
     ⟨none, .bld 30 [(.v (.int .i64 0)), (.v (.int .i64 0))] [(0, 1, (.t 28)), (1, 1, (.t 29))]⟩,
     ⟨none, .bs 31 2 1 [(.v (.int .i64 0)), (.v (.int .i64 0))] [(0, 2, (.t 30))]⟩,
     ⟨none, .app 32 2 (.t 27) (.t 31)⟩,
     ⟨none, .asg 3 (.t 32)⟩])
    .skip)))) (.scr x63_3))
 (.ops [⟨none, .bin 33 .add .num (.t 16) (.c (.v (.int .i64 1)))⟩,
  ⟨none, .mv 16 (.t 33)⟩]))))
def b63_0 : MC := .seq (.scr h63_0)
 (.seq (.ops [⟨none, .bin 10 .lss .num (.t 9) (.t 8)⟩])
 (.seq (.cnd (.t 10)
   .skip
   (.seq (.scr x63_0) (.ex 0)))
 (.seq (.seq (.blk 1 (.seq (.ops [⟨none, .mv 11 (.t 9)⟩,
     ⟨none, .ixs 12 1 (.t 7) (.t 9)⟩,
     ⟨none, .ld1 13 (.t 12)⟩,
     ⟨none, .asg 4 (.t 11)⟩,
     ⟨none, .asg 5 (.t 13)⟩])
   (.seq (.ops [⟨none, .mv 14 (.t 0)⟩,
     ⟨none, .len 15 false (.t 14)⟩,
     ⟨none, .mv 16 (.c (.v (.int .i64 0)))⟩])
   (.seq (.blk 2 (.lop b63_1)) (.scr x63_2))))) (.scr x63_1))
 (.ops [⟨none, .bin 34 .add .num (.t 9) (.c (.v (.int .i64 1)))⟩,
  ⟨none, .mv 9 (.t 34)⟩]))))
def c63 : MF := ⟨(.seq (.ops [⟨none, .asg 2 (.c (.nd (.sl true 2 0) []))⟩])
 (.seq (.ops [⟨none, .asg 3 (.c (.nd (.sl true 2 0) []))⟩])
 (.seq (.seq (.ops [⟨none, .mv 7 (.t 0)⟩,
    ⟨none, .len 8 false (.t 7)⟩,
    ⟨none, .mv 9 (.c (.v (.int .i64 0)))⟩])
  (.seq (.blk 0 (.lop b63_0)) (.scr x63_0)))
 (.seq (.ops [⟨none, .mv 35 (.t 3)⟩,
   ⟨none, .asg 2 (.t 35)⟩])
 (.seq (.scr r63) .ret))))),
  36, [2]⟩

def hints64 : List (List Bool) := [bits 19 [], bits 19 [0, 1, 7, 8], bits 19 [], bits 19 [0, 1, 7, 8], bits 19 [4], bits 19 [4]]
@[simp] def r64 : List Bool := bits 19 [4]
@[simp] def R64 (s4 : V) : St := tab 19 9 (fu dd 4 s4) dd
@[simp] def x64_0 : List Bool := bits 19 []
@[simp] def X64_0 : St := tab 19 9 dd dd
@[simp] def h64_0 : List Bool := bits 19 [0, 1, 7, 8]
@[simp] def L64_0 (s0 s1 s7 s8 : V) : St := tab 19 9 (fu (fu (fu (fu dd 8 s8) 7 s7) 1 s1) 0 s0) dd
@[simp] def x64_1 : List Bool := bits 19 [0, 1, 7, 8]
@[simp] def X64_1 (s0 s1 s7 s8 : V) : St := tab 19 9 (fu (fu (fu (fu dd 8 s8) 7 s7) 1 s1) 0 s0) dd
def b64_0 : MC := .seq (.scr h64_0)
 (.seq (.ops [⟨none, .bin 9 .lss .num (.t 8) (.t 7)⟩])
 (.seq (.cnd (.t 9)
   .skip
   (.seq (.scr x64_0) (.ex 0)))
 (.seq (.seq (.blk 1 (.seq (.ops [⟨none, .mv 10 (.t 8)⟩,
     ⟨none, .asg 5 (.t 10)⟩])
   (.seq (.ops [⟨none, .mv 11 (.t 1)⟩,
     ⟨none, .mv 12 (.t 0)⟩,
     ⟨none, .mv 13 (.t 5)⟩,
     ⟨none, .ixs 14 1 (.t 12) (.t 13)⟩,
     ⟨none, .ld1 15 (.t 14)⟩,
     ⟨none, .calv (some 16) (.t 11) [(.t 15)]⟩])
   (.cnd (.t 16)
    (.seq (.ops [⟨none, .mv 17 (.t 5)⟩,
      ⟨none, .asg 4 (.t 17)⟩])
    (.seq (.scr r64) .ret))
    .skip)))) (.scr x64_1))
 (.ops [⟨none, .bin 18 .add .num (.t 8) (.c (.v (.int .i64 1)))⟩,
  ⟨none, .mv 8 (.t 18)⟩]))))
def c64 : MF := ⟨(.seq (.ops [⟨none, .asg 4 (.c (.v (.int .i64 0)))⟩])
 (.seq (.seq (.ops [⟨none, .mv 6 (.t 0)⟩,
    ⟨none, .len 7 false (.t 6)⟩,
    ⟨none, .mv 8 (.c (.v (.int .i64 0)))⟩])
  (.seq (.blk 0 (.lop b64_0)) (.scr x64_0)))
 (.seq (.ops [⟨none, .asg 4 (.c (.v (.int .i64 (-1))))⟩])
 (.seq (.scr r64) .ret)))),
  19, [4]⟩

def hints65 : List (List Bool) := [bits 17 [4, 5]]
@[simp] def r65 : List Bool := bits 17 [4, 5]
@[simp] def R65 (s4 s5 : V) : St := tab 17 7 (fu (fu dd 5 s5) 4 s4) dd
def c65 : MF := ⟨(.seq (.ops [⟨none, .asg 4 (.c (.v (.int .u32 0)))⟩,
   ⟨none, .asg 5 (.c (.v (.int .u32 0)))⟩])
 (.seq (.ops [⟨none, .mv 7 (.t 0)⟩,
   ⟨none, .cvi 8 .u64 (.t 7)⟩,
   ⟨none, .mv 9 (.t 1)⟩,
   ⟨none, .cvi 10 .u64 (.t 9)⟩,
   ⟨none, .bin 11 .mul .num (.t 8) (.t 10)⟩,
   ⟨none, .asg 6 (.t 11)⟩])
 (.seq (.ops [⟨none, .mv 12 (.t 6)⟩,
   ⟨none, .bin 13 .shr .num (.t 12) (.c (.v (.int .u64 32)))⟩,
   ⟨none, .cvi 14 .u32 (.t 13)⟩,
   ⟨none, .mv 15 (.t 6)⟩,
   ⟨none, .cvi 16 .u32 (.t 15)⟩,
   ⟨none, .asg 4 (.t 14)⟩,
   ⟨none, .asg 5 (.t 16)⟩])
 (.seq (.scr r65) .ret)))),
  17, [4, 5]⟩

def hints66 : List (List Bool) := [bits 51 [4, 5]]
@[simp] def r66 : List Bool := bits 51 [4, 5]
@[simp] def R66 (s4 s5 : V) : St := tab 51 14 (fu (fu dd 5 s5) 4 s4) dd
def c66 : MF := ⟨(.seq (.ops [⟨none, .asg 4 (.c (.v (.int .u64 0)))⟩,
   ⟨none, .asg 5 (.c (.v (.int .u64 0)))⟩])
 (.seq (.ops [⟨none, .mv 14 (.t 0)⟩,
   ⟨none, .bin 15 .and .num (.t 14) (.c (.v (.int .u64 4294967295)))⟩,
   ⟨none, .asg 6 (.t 15)⟩])
 (.seq (.ops [⟨none, .mv 16 (.t 0)⟩,
   ⟨none, .bin 17 .shr .num (.t 16) (.c (.v (.int .u64 32)))⟩,
   ⟨none, .asg 7 (.t 17)⟩])
 (.seq (.ops [⟨none, .mv 18 (.t 1)⟩,
   ⟨none, .bin 19 .and .num (.t 18) (.c (.v (.int .u64 4294967295)))⟩,
   ⟨none, .asg 8 (.t 19)⟩])
 (.seq (.ops [⟨none, .mv 20 (.t 1)⟩,
   ⟨none, .bin 21 .shr .num (.t 20) (.c (.v (.int .u64 32)))⟩,
   ⟨none, .asg 9 (.t 21)⟩])
 (.seq (.ops [⟨none, .mv 22 (.t 6)⟩,
   ⟨none, .mv 23 (.t 8)⟩,
   ⟨none, .bin 24 .mul .num (.t 22) (.t 23)⟩,
   ⟨none, .asg 10 (.t 24)⟩])
 (.seq (.ops [⟨none, .mv 25 (.t 7)⟩,
   ⟨none, .mv 26 (.t 8)⟩,
   ⟨none, .bin 27 .mul .num (.t 25) (.t 26)⟩,
   ⟨none, .mv 28 (.t 10)⟩,
   ⟨none, .bin 29 .shr .num (.t 28) (.c (.v (.int .u64 32)))⟩,
   ⟨none, .bin 30 .add .num (.t 27) (.t 29)⟩,
   ⟨none, .asg 11 (.t 30)⟩])
 (.seq (.ops [⟨none, .mv 31 (.t 11)⟩,
   ⟨none, .bin 32 .and .num (.t 31) (.c (.v (.int .u64 4294967295)))⟩,
   ⟨none, .asg 12 (.t 32)⟩])
 (.seq (.ops [⟨none, .mv 33 (.t 11)⟩,
   ⟨none, .bin 34 .shr .num (.t 33) (.c (.v (.int .u64 32)))⟩,
   ⟨none, .asg 13 (.t 34)⟩])
 (.seq (.ops [⟨none, .mv 35 (.t 12)⟩,
   ⟨none, .mv 36 (.t 6)⟩,
   ⟨none, .mv 37 (.t 9)⟩,
   ⟨none, .bin 38 .mul .num (.t 36) (.t 37)⟩,
   ⟨none, .bin 39 .add .num (.t 35) (.t 38)⟩,
   ⟨none, .asg 12 (.t 39)⟩])
 (.seq (.ops [⟨none, .mv 40 (.t 7)⟩,
   ⟨none, .mv 41 (.t 9)⟩,
   ⟨none, .bin 42 .mul .num (.t 40) (.t 41)⟩,
   ⟨none, .mv 43 (.t 13)⟩,
   ⟨none, .bin 44 .add .num (.t 42) (.t 43)⟩,
   ⟨none, .mv 45 (.t 12)⟩,
   ⟨none, .bin 46 .shr .num (.t 45) (.c (.v (.int .u64 32)))⟩,
   ⟨none, .bin 47 .add .num (.t 44) (.t 46)⟩,
   ⟨none, .asg 4 (.t 47)⟩])
 (.seq (.ops [⟨none, .mv 48 (.t 0)⟩,
   ⟨none, .mv 49 (.t 1)⟩,
   ⟨none, .bin 50 .mul .num (.t 48) (.t 49)⟩,
   ⟨none, .asg 5 (.t 50)⟩])
 (.seq (.scr r66) .ret))))))))))))),
  51, [4, 5]⟩


theorem comp11 : compF Go.Proofs.Try.prog hints11 11 = some c11 := by kernel_rfl
theorem comp12 : compF Go.Proofs.Try.prog hints12 12 = some c12 := by kernel_rfl
theorem comp13 : compF Go.Proofs.Try.prog hints13 13 = some c13 := by kernel_rfl
theorem comp14 : compF Go.Proofs.Try.prog hints14 14 = some c14 := by kernel_rfl
theorem comp16 : compF Go.Proofs.Try.prog hints16 16 = some c16 := by kernel_rfl
theorem comp17 : compF Go.Proofs.Try.prog hints17 17 = some c17 := by kernel_rfl
theorem comp18 : compF Go.Proofs.Try.prog hints18 18 = some c18 := by kernel_rfl
theorem comp19 : compF Go.Proofs.Try.prog hints19 19 = some c19 := by kernel_rfl
theorem comp20 : compF Go.Proofs.Try.prog hints20 20 = some c20 := by kernel_rfl
theorem comp21 : compF Go.Proofs.Try.prog hints21 21 = some c21 := by kernel_rfl
theorem comp22 : compF Go.Proofs.Try.prog hints22 22 = some c22 := by kernel_rfl
theorem comp23 : compF Go.Proofs.Try.prog hints23 23 = some c23 := by kernel_rfl
theorem comp24 : compF Go.Proofs.Try.prog hints24 24 = some c24 := by kernel_rfl
theorem comp25 : compF Go.Proofs.Try.prog hints25 25 = some c25 := by kernel_rfl
theorem comp26 : compF Go.Proofs.Try.prog hints26 26 = some c26 := by kernel_rfl
theorem comp27 : compF Go.Proofs.Try.prog hints27 27 = some c27 := by kernel_rfl
theorem comp28 : compF Go.Proofs.Try.prog hints28 28 = some c28 := by kernel_rfl
theorem comp30 : compF Go.Proofs.Try.prog hints30 30 = some c30 := by kernel_rfl
theorem comp31 : compF Go.Proofs.Try.prog hints31 31 = some c31 := by kernel_rfl
theorem comp32 : compF Go.Proofs.Try.prog hints32 32 = some c32 := by kernel_rfl
theorem comp33 : compF Go.Proofs.Try.prog hints33 33 = some c33 := by kernel_rfl
theorem comp34 : compF Go.Proofs.Try.prog hints34 34 = some c34 := by kernel_rfl
theorem comp35 : compF Go.Proofs.Try.prog hints35 35 = some c35 := by kernel_rfl
theorem comp36 : compF Go.Proofs.Try.prog hints36 36 = some c36 := by kernel_rfl
theorem comp37 : compF Go.Proofs.Try.prog hints37 37 = some c37 := by kernel_rfl
theorem comp38 : compF Go.Proofs.Try.prog hints38 38 = some c38 := by kernel_rfl
theorem comp40 : compF Go.Proofs.Try.prog hints40 40 = some c40 := by kernel_rfl
theorem comp41 : compF Go.Proofs.Try.prog hints41 41 = some c41 := by kernel_rfl
theorem comp42 : compF Go.Proofs.Try.prog hints42 42 = some c42 := by kernel_rfl
theorem comp44 : compF Go.Proofs.Try.prog hints44 44 = some c44 := by kernel_rfl
theorem comp45 : compF Go.Proofs.Try.prog hints45 45 = some c45 := by kernel_rfl
theorem comp46 : compF Go.Proofs.Try.prog hints46 46 = some c46 := by kernel_rfl
theorem comp47 : compF Go.Proofs.Try.prog hints47 47 = some c47 := by kernel_rfl
theorem comp48 : compF Go.Proofs.Try.prog hints48 48 = some c48 := by kernel_rfl
theorem comp51 : compF Go.Proofs.Try.prog hints51 51 = some c51 := by kernel_rfl
theorem comp52 : compF Go.Proofs.Try.prog hints52 52 = some c52 := by kernel_rfl
theorem comp53 : compF Go.Proofs.Try.prog hints53 53 = some c53 := by kernel_rfl
theorem comp54 : compF Go.Proofs.Try.prog hints54 54 = some c54 := by kernel_rfl
theorem comp56 : compF Go.Proofs.Try.prog hints56 56 = some c56 := by kernel_rfl
theorem comp58 : compF Go.Proofs.Try.prog hints58 58 = some c58 := by kernel_rfl
theorem comp59 : compF Go.Proofs.Try.prog hints59 59 = some c59 := by kernel_rfl
theorem comp60 : compF Go.Proofs.Try.prog hints60 60 = some c60 := by kernel_rfl
theorem comp61 : compF Go.Proofs.Try.prog hints61 61 = some c61 := by kernel_rfl
theorem comp62 : compF Go.Proofs.Try.prog hints62 62 = some c62 := by kernel_rfl
theorem comp63 : compF Go.Proofs.Try.prog hints63 63 = some c63 := by kernel_rfl
theorem comp64 : compF Go.Proofs.Try.prog hints64 64 = some c64 := by kernel_rfl
theorem comp65 : compF Go.Proofs.Try.prog hints65 65 = some c65 := by kernel_rfl
theorem comp66 : compF Go.Proofs.Try.prog hints66 66 = some c66 := by kernel_rfl

def tbl : FuncId → Option MF
  | 11 => some c11
  | 12 => some c12
  | 13 => some c13
  | 14 => some c14
  | 16 => some c16
  | 17 => some c17
  | 18 => some c18
  | 19 => some c19
  | 20 => some c20
  | 21 => some c21
  | 22 => some c22
  | 23 => some c23
  | 24 => some c24
  | 25 => some c25
  | 26 => some c26
  | 27 => some c27
  | 28 => some c28
  | 30 => some c30
  | 31 => some c31
  | 32 => some c32
  | 33 => some c33
  | 34 => some c34
  | 35 => some c35
  | 36 => some c36
  | 37 => some c37
  | 38 => some c38
  | 40 => some c40
  | 41 => some c41
  | 42 => some c42
  | 44 => some c44
  | 45 => some c45
  | 46 => some c46
  | 47 => some c47
  | 48 => some c48
  | 51 => some c51
  | 52 => some c52
  | 53 => some c53
  | 54 => some c54
  | 56 => some c56
  | 58 => some c58
  | 59 => some c59
  | 60 => some c60
  | 61 => some c61
  | 62 => some c62
  | 63 => some c63
  | 64 => some c64
  | 65 => some c65
  | 66 => some c66
  | _ => none

theorem tbl_ok (f : FuncId) (mf : MF) (h : tbl f = some mf) : ∃ hints, compF Go.Proofs.Try.prog hints f = some mf := by
  unfold tbl at h
  split at h
  · cases h; exact ⟨_, comp11⟩
  · cases h; exact ⟨_, comp12⟩
  · cases h; exact ⟨_, comp13⟩
  · cases h; exact ⟨_, comp14⟩
  · cases h; exact ⟨_, comp16⟩
  · cases h; exact ⟨_, comp17⟩
  · cases h; exact ⟨_, comp18⟩
  · cases h; exact ⟨_, comp19⟩
  · cases h; exact ⟨_, comp20⟩
  · cases h; exact ⟨_, comp21⟩
  · cases h; exact ⟨_, comp22⟩
  · cases h; exact ⟨_, comp23⟩
  · cases h; exact ⟨_, comp24⟩
  · cases h; exact ⟨_, comp25⟩
  · cases h; exact ⟨_, comp26⟩
  · cases h; exact ⟨_, comp27⟩
  · cases h; exact ⟨_, comp28⟩
  · cases h; exact ⟨_, comp30⟩
  · cases h; exact ⟨_, comp31⟩
  · cases h; exact ⟨_, comp32⟩
  · cases h; exact ⟨_, comp33⟩
  · cases h; exact ⟨_, comp34⟩
  · cases h; exact ⟨_, comp35⟩
  · cases h; exact ⟨_, comp36⟩
  · cases h; exact ⟨_, comp37⟩
  · cases h; exact ⟨_, comp38⟩
  · cases h; exact ⟨_, comp40⟩
  · cases h; exact ⟨_, comp41⟩
  · cases h; exact ⟨_, comp42⟩
  · cases h; exact ⟨_, comp44⟩
  · cases h; exact ⟨_, comp45⟩
  · cases h; exact ⟨_, comp46⟩
  · cases h; exact ⟨_, comp47⟩
  · cases h; exact ⟨_, comp48⟩
  · cases h; exact ⟨_, comp51⟩
  · cases h; exact ⟨_, comp52⟩
  · cases h; exact ⟨_, comp53⟩
  · cases h; exact ⟨_, comp54⟩
  · cases h; exact ⟨_, comp56⟩
  · cases h; exact ⟨_, comp58⟩
  · cases h; exact ⟨_, comp59⟩
  · cases h; exact ⟨_, comp60⟩
  · cases h; exact ⟨_, comp61⟩
  · cases h; exact ⟨_, comp62⟩
  · cases h; exact ⟨_, comp63⟩
  · cases h; exact ⟨_, comp64⟩
  · cases h; exact ⟨_, comp65⟩
  · cases h; exact ⟨_, comp66⟩
  · cases h

end Go.Mx
