import Derived.Test.YtigplgminjhgmaaMxRa
import Derived.KernelRfl
import Derived.Test.YtigplgminjhgmaaChecked
/-
  The functions of this chapter in the machine's code, and that the given program's code is this one. Printed by a program of this repo (gencodes.py).
-/
namespace Go.Mx
set_option linter.unusedVariables false
set_option linter.unusedSimpArgs false
set_option linter.unusedSectionVars false
open Go

/-- coinage/coinagelaw08.JournalAppends -/
abbrev K3 : Nat := 6
def hints3 : List (List Bool) := [bits 50 [2], bits 50 [3, 4], bits 50 [0, 3, 4, 5], bits 50 [3, 4], bits 50 [0, 3, 4, 5], bits 50 [2], bits 50 [2]]
@[simp] def r3 : List Bool := bits 50 [2]
@[simp] def R3 (s2 : V) : St := tab 50 6 (fu dd 2 s2) dd
@[simp] def x3_0 : List Bool := bits 50 [3, 4]
@[simp] def X3_0 (s3 s4 : V) : St := tab 50 6 (fu (fu dd 4 s4) 3 s3) dd
@[simp] def h3_0 : List Bool := bits 50 [0, 3, 4, 5]
@[simp] def L3_0 (s0 s3 s4 s5 : V) : St := tab 50 6 (fu (fu (fu (fu dd 5 s5) 4 s4) 3 s3) 0 s0) dd
@[simp] def x3_1 : List Bool := bits 50 [0, 3, 4, 5]
@[simp] def X3_1 (s0 s3 s4 s5 : V) : St := tab 50 6 (fu (fu (fu (fu dd 5 s5) 4 s4) 3 s3) 0 s0) dd
def b3_0 : MC := .seq (.scr h3_0)
 (.seq (.seq (.ops [⟨none, .mv 16 (.t 5)⟩,
    ⟨none, .mv 17 (.t 0)⟩,
    ⟨none, .len 18 false (.t 17)⟩,
    ⟨none, .bin 19 .lss .num (.t 16) (.t 18)⟩])
  (.cnd (.t 19)
   .skip
   (.seq (.scr x3_0) (.ex 0))))
 (.seq (.seq (.blk 1 (.seq (.drx (⟨none, .mv 22 (.t 3)⟩ ::
     ⟨none, .mv 23 (.t 0)⟩ ::
     ⟨none, .mv 24 (.t 5)⟩ ::
     ⟨none, .mv 28 (.t 0)⟩ ::
     ⟨none, .mv 29 (.t 5)⟩ ::
     ⟨none, .mv 34 (.t 4)⟩ ::
     ⟨none, .mv 35 (.t 0)⟩ ::
     ⟨none, .mv 36 (.t 5)⟩ ::
     ⟨none, .mv 40 (.t 0)⟩ ::
     ⟨none, .mv 41 (.t 5)⟩ ::
     ⟨none, .ixs 25 2 (.t 23) (.t 24)⟩ ::
     ⟨none, .fa 26 0 (.t 25)⟩ ::
     ⟨none, .ld1 27 (.t 26)⟩ ::
     ⟨none, .ixs 30 2 (.t 28) (.t 29)⟩ ::
     ⟨none, .fa 31 1 (.t 30)⟩ ::
     ⟨none, .ld1 32 (.t 31)⟩ ::
     ⟨none, .ixs 37 2 (.t 35) (.t 36)⟩ ::
     ⟨none, .fa 38 0 (.t 37)⟩ ::
     ⟨none, .ld1 39 (.t 38)⟩ ::
     ⟨none, .ixs 42 2 (.t 40) (.t 41)⟩ ::
     ⟨none, .fa 43 1 (.t 42)⟩ ::
     ⟨none, .ld1 44 (.t 43)⟩ :: []) [(⟨none, .calI (some 33) 14 (.t 22) [(.t 27), (.t 32)]⟩, [(37, [35, 36]), (38, [37]), (39, [38]), (42, [40, 41]), (43, [42]), (44, [43])]),
     (⟨none, .calI (some 45) 15 (.t 34) [(.t 39), (.t 44)]⟩, []),
     (⟨none, .bin 46 .neq .num (.t 33) (.t 45)⟩, [])] [])
   (.cnd (.t 46)
    (.seq (.ops [⟨none, .asg 2 (.c (.v (.bool false)))⟩])
    (.seq (.scr r3) .ret))
    .skip))) (.scr x3_1))
 (.ops [⟨none, .mv 20 (.t 5)⟩,
  ⟨none, .bin 21 .add .num (.t 20) (.c (.v (.int .i64 1)))⟩,
  ⟨none, .asg 5 (.t 21)⟩])))
def c3 : MF := ⟨(.seq (.ops [⟨none, .asg 2 (.c (.v (.bool false)))⟩])
 (.seq (.seq (.ops [⟨none, .call (some 6) 10 []⟩,
    ⟨none, .un 7 .not (.t 6)⟩,
    ⟨none, .mv 8 (.t 7)⟩,
    ⟨some (8, false), .mv 9 (.t 0)⟩,
    ⟨some (8, false), .call (some 10) 11 [(.t 9)]⟩,
    ⟨some (8, false), .un 11 .not (.t 10)⟩,
    ⟨none, .pick 12 (.t 8) (.c (.v (.bool true))) (.t 11)⟩])
  (.cnd (.t 12)
   (.seq (.ops [⟨none, .call (some 13) 10 []⟩,
     ⟨none, .asg 2 (.t 13)⟩])
   (.seq (.scr r3) .ret))
   .skip))
 (.seq (.ops [⟨none, .call (some 14) 12 []⟩,
   ⟨none, .asg 3 (.t 14)⟩])
 (.seq (.ops [⟨none, .call (some 15) 13 []⟩,
   ⟨none, .asg 4 (.t 15)⟩])
 (.seq (.seq (.ops [⟨none, .asg 5 (.c (.v (.int .i64 0)))⟩])
  (.seq (.blk 0 (.lop b3_0)) (.scr x3_0)))
 (.seq (.ops [⟨none, .mv 47 (.t 3)⟩,
   ⟨none, .mv 48 (.t 4)⟩,
   ⟨none, .call (some 49) 16 [(.t 47), (.t 48)]⟩,
   ⟨none, .asg 2 (.t 49)⟩])
 (.seq (.scr r3) .ret))))))),
  50, [2]⟩

/-- coinage/coinagelaw08.JournalFills -/
abbrev K4 : Nat := 13
def hints4 : List (List Bool) := [bits 61 [6], bits 61 [0, 2, 8, 9], bits 61 [0, 2, 7, 8, 9, 10], bits 61 [0, 2, 8, 9], bits 61 [0, 2, 7, 8, 9, 10], bits 61 [6], bits 61 [6]]
@[simp] def r4 : List Bool := bits 61 [6]
@[simp] def R4 (s6 : V) : St := tab 61 13 (fu dd 6 s6) dd
@[simp] def x4_0 : List Bool := bits 61 [0, 2, 8, 9]
@[simp] def X4_0 (s0 s2 s8 s9 : V) : St := tab 61 13 (fu (fu (fu (fu dd 9 s9) 8 s8) 2 s2) 0 s0) dd
@[simp] def h4_0 : List Bool := bits 61 [0, 2, 7, 8, 9, 10]
@[simp] def L4_0 (s0 s2 s7 s8 s9 s10 : V) : St := tab 61 13 (fu (fu (fu (fu (fu (fu dd 10 s10) 9 s9) 8 s8) 7 s7) 2 s2) 0 s0) dd
@[simp] def x4_1 : List Bool := bits 61 [0, 2, 7, 8, 9, 10]
@[simp] def X4_1 (s0 s2 s7 s8 s9 s10 : V) : St := tab 61 13 (fu (fu (fu (fu (fu (fu dd 10 s10) 9 s9) 8 s8) 7 s7) 2 s2) 0 s0) dd
def b4_0 : MC := .seq (.scr h4_0)
 (.seq (.seq (.ops [⟨none, .mv 20 (.t 10)⟩,
    ⟨none, .bin 21 .lss .num (.t 20) (.c (.v (.int .i64 20)))⟩])
  (.cnd (.t 21)
   .skip
   (.seq (.scr x4_0) (.ex 0))))
 (.seq (.seq (.blk 1 (.seq (.ops [⟨none, .asg 11 (.c (.v (.int .i64 0)))⟩])
   (.seq (.seq (.ops [⟨none, .mv 24 (.t 7)⟩,
      ⟨none, .bin 25 .gtr .num (.t 24) (.c (.v (.int .i64 8192)))⟩,
      ⟨none, .mv 26 (.t 25)⟩,
      ⟨some (26, false), .mv 27 (.t 9)⟩,
      ⟨some (26, false), .mv 28 (.t 7)⟩,
      ⟨some (26, false), .bin 29 .add .num (.t 27) (.t 28)⟩,
      ⟨some (26, false), .bin 30 .add .num (.t 29) (.c (.v (.int .i64 9)))⟩,
      ⟨some (26, false), .bin 31 .gtr .num (.t 30) (.c (.v (.int .i64 65536)))⟩,
      ⟨none, .pick 32 (.t 26) (.c (.v (.bool true))) (.t 31)⟩])
    (.cnd (.t 32)
     (.ops [⟨none, .asg 11 (.c (.v (.int .i64 6)))⟩])
     .skip))
   (.seq (.seq (.ops [⟨none, .mv 33 (.t 8)⟩,
      ⟨none, .mv 34 (.t 0)⟩,
      ⟨none, .mv 35 (.t 7)⟩,
      ⟨none, .mks 36 1 [(.v (.int .u8 0))] (.t 35) (.t 35)⟩,
      ⟨none, .calI (some 37) 14 (.t 33) [(.t 34), (.t 36)]⟩,
      ⟨none, .mv 38 (.t 11)⟩,
      ⟨none, .bin 39 .neq .num (.t 37) (.t 38)⟩])
    (.cnd (.t 39)
     (.seq (.ops [⟨none, .asg 6 (.c (.v (.bool false)))⟩])
     (.seq (.scr r4) .ret))
     .skip))
   (.seq (.ops [⟨none, .mv 40 (.t 11)⟩,
     ⟨none, .bin 41 .eql .num (.t 40) (.c (.v (.int .i64 0)))⟩])
   (.cnd (.t 41)
    (.ops [⟨none, .mv 42 (.t 9)⟩,
     ⟨none, .mv 43 (.t 7)⟩,
     ⟨none, .bin 44 .add .num (.t 42) (.t 43)⟩,
     ⟨none, .bin 45 .add .num (.t 44) (.c (.v (.int .i64 9)))⟩,
     ⟨none, .asg 9 (.t 45)⟩])
    .skip)))))) (.scr x4_1))
 (.ops [⟨none, .mv 22 (.t 10)⟩,
  ⟨none, .bin 23 .add .num (.t 22) (.c (.v (.int .i64 1)))⟩,
  ⟨none, .asg 10 (.t 23)⟩])))
def c4 : MF := ⟨(.seq (.ops [⟨none, .asg 6 (.c (.v (.bool false)))⟩])
 (.seq (.seq (.ops [⟨none, .call (some 13) 10 []⟩,
    ⟨none, .un 14 .not (.t 13)⟩])
  (.cnd (.t 14)
   (.seq (.ops [⟨none, .asg 6 (.c (.v (.bool false)))⟩])
   (.seq (.scr r4) .ret))
   .skip))
 (.seq (.ops [⟨none, .mv 15 (.t 1)⟩,
   ⟨none, .cvi 16 .i64 (.t 15)⟩,
   ⟨none, .bin 17 .rem .num (.t 16) (.c (.v (.int .i64 5000)))⟩,
   ⟨none, .bin 18 .add .num (.c (.v (.int .i64 4000))) (.t 17)⟩,
   ⟨none, .asg 7 (.t 18)⟩])
 (.seq (.ops [⟨none, .call (some 19) 12 []⟩,
   ⟨none, .asg 8 (.t 19)⟩])
 (.seq (.ops [⟨none, .asg 9 (.c (.v (.int .i64 5)))⟩])
 (.seq (.seq (.ops [⟨none, .asg 10 (.c (.v (.int .i64 0)))⟩])
  (.seq (.blk 0 (.lop b4_0)) (.scr x4_0)))
 (.seq (.ops [⟨none, .mv 46 (.t 2)⟩,
   ⟨none, .cvi 47 .i64 (.t 46)⟩,
   ⟨none, .bin 48 .rem .num (.t 47) (.c (.v (.int .i64 8193)))⟩,
   ⟨none, .asg 12 (.t 48)⟩])
 (.seq (.ops [⟨none, .mv 49 (.t 8)⟩,
   ⟨none, .mv 50 (.t 0)⟩,
   ⟨none, .mv 51 (.t 12)⟩,
   ⟨none, .mks 52 1 [(.v (.int .u8 0))] (.t 51) (.t 51)⟩,
   ⟨none, .calI (some 53) 14 (.t 49) [(.t 50), (.t 52)]⟩,
   ⟨none, .bin 54 .eql .num (.t 53) (.c (.v (.int .i64 0)))⟩,
   ⟨none, .mv 55 (.t 9)⟩,
   ⟨none, .mv 56 (.t 12)⟩,
   ⟨none, .bin 57 .add .num (.t 55) (.t 56)⟩,
   ⟨none, .bin 58 .add .num (.t 57) (.c (.v (.int .i64 9)))⟩,
   ⟨none, .bin 59 .leq .num (.t 58) (.c (.v (.int .i64 65536)))⟩,
   ⟨none, .bin 60 .eql .bool (.t 54) (.t 59)⟩,
   ⟨none, .asg 6 (.t 60)⟩])
 (.seq (.scr r4) .ret))))))))),
  61, [6]⟩

/-- coinage/coinagelaw08.JournalOpens -/
abbrev K5 : Nat := 47
def hints5 : List (List Bool) := [bits 115 [4], bits 115 [4], bits 115 [4], bits 115 [8, 9, 10, 11, 15, 16], bits 115 [0, 8, 9, 10, 11, 15, 16], bits 115 [8, 9, 10, 11, 15, 16], bits 115 [0, 8, 9, 10, 11, 15, 16], bits 115 [4]]
@[simp] def r5 : List Bool := bits 115 [4]
@[simp] def R5 (s4 : V) : St := tab 115 47 (fu dd 4 s4) dd
@[simp] def x5_0 : List Bool := bits 115 [8, 9, 10, 11, 15, 16]
@[simp] def X5_0 (s8 s9 s10 s11 s15 s16 : V) : St := tab 115 47 (fu (fu (fu (fu (fu (fu dd 16 s16) 15 s15) 11 s11) 10 s10) 9 s9) 8 s8) dd
@[simp] def h5_0 : List Bool := bits 115 [0, 8, 9, 10, 11, 15, 16]
@[simp] def L5_0 (s0 s8 s9 s10 s11 s15 s16 : V) : St := tab 115 47 (fu (fu (fu (fu (fu (fu (fu dd 16 s16) 15 s15) 11 s11) 10 s10) 9 s9) 8 s8) 0 s0) dd
@[simp] def x5_1 : List Bool := bits 115 [0, 8, 9, 10, 11, 15, 16]
@[simp] def X5_1 (s0 s8 s9 s10 s11 s15 s16 : V) : St := tab 115 47 (fu (fu (fu (fu (fu (fu (fu dd 16 s16) 15 s15) 11 s11) 10 s10) 9 s9) 8 s8) 0 s0) dd
def b5_0 : MC := .seq (.scr h5_0)
 (.seq (.seq (.ops (⟨none, .mv 72 (.t 16)⟩ ::
    ⟨none, .mv 73 (.t 0)⟩ ::
    ⟨none, .len 74 false (.t 73)⟩ ::
    ⟨none, .bin 75 .lss .num (.t 72) (.t 74)⟩ ::
    ⟨none, .mv 76 (.t 75)⟩ ::
    ⟨some (76, true), .mv 77 (.t 15)⟩ ::
    ⟨some (76, true), .mv 78 (.t 0)⟩ ::
    ⟨some (76, true), .mv 79 (.t 16)⟩ ::
    ⟨some (76, true), .ixs 80 2 (.t 78) (.t 79)⟩ ::
    ⟨some (76, true), .fa 81 1 (.t 80)⟩ ::
    ⟨some (76, true), .ld1 82 (.t 81)⟩ ::
    ⟨some (76, true), .len 83 false (.t 82)⟩ ::
    ⟨some (76, true), .bin 84 .add .num (.t 77) (.t 83)⟩ ::
    ⟨some (76, true), .bin 85 .add .num (.t 84) (.c (.v (.int .i64 9)))⟩ ::
    ⟨some (76, true), .mv 86 (.t 8)⟩ ::
    ⟨some (76, true), .bin 87 .leq .num (.t 85) (.t 86)⟩ ::
    ⟨none, .pick 88 (.t 76) (.t 87) (.c (.v (.bool false)))⟩ :: []))
  (.cnd (.t 88)
   .skip
   (.seq (.scr x5_0) (.ex 0))))
 (.seq (.blk 1 (.seq (.ops [⟨none, .mv 89 (.t 15)⟩,
    ⟨none, .mv 90 (.t 0)⟩,
    ⟨none, .mv 91 (.t 16)⟩,
    ⟨none, .ixs 92 2 (.t 90) (.t 91)⟩,
    ⟨none, .fa 93 1 (.t 92)⟩,
    ⟨none, .ld1 94 (.t 93)⟩,
    ⟨none, .len 95 false (.t 94)⟩,
    ⟨none, .bin 96 .add .num (.t 89) (.t 95)⟩,
    ⟨none, .bin 97 .add .num (.t 96) (.c (.v (.int .i64 9)))⟩,
    ⟨none, .asg 15 (.t 97)⟩])
  (.ops [⟨none, .mv 98 (.t 16)⟩,
   ⟨none, .bin 99 .add .num (.t 98) (.c (.v (.int .i64 1)))⟩,
   ⟨none, .asg 16 (.t 99)⟩]))) (.scr x5_1)))
def c5 : MF := ⟨(.seq (.ops [⟨none, .asg 4 (.c (.v (.bool false)))⟩])
 (.seq (.seq (.ops [⟨none, .call (some 17) 10 []⟩,
    ⟨none, .un 18 .not (.t 17)⟩,
    ⟨none, .mv 19 (.t 18)⟩,
    ⟨some (19, false), .mv 20 (.t 0)⟩,
    ⟨some (19, false), .call (some 21) 11 [(.t 20)]⟩,
    ⟨some (19, false), .un 22 .not (.t 21)⟩,
    ⟨none, .pick 23 (.t 19) (.c (.v (.bool true))) (.t 22)⟩])
  (.cnd (.t 23)
   (.seq (.ops [⟨none, .call (some 24) 10 []⟩,
     ⟨none, .asg 4 (.t 24)⟩])
   (.seq (.scr r5) .ret))
   .skip))
 (.seq (.ops [⟨none, .mv 26 (.t 0)⟩,
   ⟨none, .call (some 27) 17 [(.t 26)]⟩,
   ⟨none, .mv 25 (.t 27)⟩,
   ⟨none, .ext 28 (.t 25) 0⟩,
   ⟨none, .ext 29 (.t 25) 1⟩,
   ⟨none, .asg 5 (.t 28)⟩,
   ⟨none, .asg 6 (.t 29)⟩])
 (.seq (.ops [⟨none, .mv 30 (.t 5)⟩,
   ⟨none, .call (some 31) 18 [(.t 30)]⟩,
   ⟨none, .asg 7 (.t 31)⟩])
 (.seq (.ops [⟨none, .mv 32 (.t 1)⟩,
   ⟨none, .cvi 33 .i64 (.t 32)⟩,
   ⟨none, .mv 34 (.t 7)⟩,
   ⟨none, .len 35 false (.t 34)⟩,
   ⟨none, .bin 36 .add .num (.t 35) (.c (.v (.int .i64 1)))⟩,
   ⟨none, .bin 37 .rem .num (.t 33) (.t 36)⟩,
   ⟨none, .asg 8 (.t 37)⟩])
 (.seq (.ops [⟨none, .mv 39 (.t 7)⟩,
   ⟨none, .mv 40 (.t 8)⟩,
   ⟨none, .sl 41 1 (.t 39) none (some (.t 40))⟩,
   ⟨none, .call (some 42) 19 [(.t 41)]⟩,
   ⟨none, .mv 38 (.t 42)⟩,
   ⟨none, .ext 43 (.t 38) 0⟩,
   ⟨none, .ext 44 (.t 38) 1⟩,
   ⟨none, .ext 45 (.t 38) 2⟩,
   ⟨none, .asg 9 (.t 43)⟩,
   ⟨none, .asg 10 (.t 44)⟩,
   ⟨none, .asg 11 (.t 45)⟩])
 (.seq (.ops [⟨none, .mv 47 (.t 7)⟩,
   ⟨none, .mv 48 (.t 8)⟩,
   ⟨none, .sl 49 1 (.t 47) none (some (.t 48))⟩,
   ⟨none, .call (some 50) 20 [(.t 49)]⟩,
   ⟨none, .mv 46 (.t 50)⟩,
   ⟨none, .ext 51 (.t 46) 0⟩,
   ⟨none, .ext 52 (.t 46) 1⟩,
   ⟨none, .ext 53 (.t 46) 2⟩,
   ⟨none, .asg 12 (.t 51)⟩,
   ⟨none, .asg 13 (.t 52)⟩,
   ⟨none, .asg 14 (.t 53)⟩])
 (.seq (.seq (.ops [⟨none, .mv 54 (.t 9)⟩,
    ⟨none, .mv 55 (.t 12)⟩,
    ⟨none, .call (some 56) 16 [(.t 54), (.t 55)]⟩,
    ⟨none, .un 57 .not (.t 56)⟩,
    ⟨none, .mv 58 (.t 57)⟩,
    ⟨some (58, false), .mv 59 (.t 10)⟩,
    ⟨some (58, false), .mv 60 (.t 13)⟩,
    ⟨some (58, false), .bin 61 .neq .num (.t 59) (.t 60)⟩,
    ⟨none, .pick 62 (.t 58) (.c (.v (.bool true))) (.t 61)⟩,
    ⟨none, .mv 63 (.t 62)⟩,
    ⟨some (63, false), .mv 64 (.t 11)⟩,
    ⟨some (63, false), .mv 65 (.t 14)⟩,
    ⟨some (63, false), .bin 66 .neq .num (.t 64) (.t 65)⟩,
    ⟨none, .pick 67 (.t 63) (.c (.v (.bool true))) (.t 66)⟩])
  (.cnd (.t 67)
   (.seq (.ops [⟨none, .asg 4 (.c (.v (.bool false)))⟩])
   (.seq (.scr r5) .ret))
   .skip))
 (.seq (.seq (.ops [⟨none, .mv 68 (.t 8)⟩,
    ⟨none, .bin 69 .lss .num (.t 68) (.c (.v (.int .i64 5)))⟩])
  (.cnd (.t 69)
   (.seq (.ops [⟨none, .mv 70 (.t 11)⟩,
     ⟨none, .bin 71 .eql .num (.t 70) (.c (.v (.int .i64 4)))⟩,
     ⟨none, .asg 4 (.t 71)⟩])
   (.seq (.scr r5) .ret))
   .skip))
 (.seq (.ops [⟨none, .asg 15 (.c (.v (.int .i64 5)))⟩])
 (.seq (.ops [⟨none, .asg 16 (.c (.v (.int .i64 0)))⟩])
 (.seq (.seq (.blk 0 (.lop b5_0)) (.scr x5_0))
 (.seq (.ops [⟨none, .mv 100 (.t 11)⟩,
   ⟨none, .bin 101 .eql .num (.t 100) (.c (.v (.int .i64 0)))⟩,
   ⟨none, .mv 102 (.t 101)⟩,
   ⟨some (102, true), .mv 103 (.t 9)⟩,
   ⟨some (102, true), .call (some 104) 21 [(.t 103)]⟩,
   ⟨some (102, true), .mv 105 (.t 16)⟩,
   ⟨some (102, true), .bin 106 .eql .num (.t 104) (.t 105)⟩,
   ⟨none, .pick 107 (.t 102) (.t 106) (.c (.v (.bool false)))⟩,
   ⟨none, .mv 108 (.t 107)⟩,
   ⟨some (108, true), .mv 109 (.t 10)⟩,
   ⟨some (108, true), .mv 110 (.t 8)⟩,
   ⟨some (108, true), .mv 111 (.t 15)⟩,
   ⟨some (108, true), .bin 112 .sub .num (.t 110) (.t 111)⟩,
   ⟨some (108, true), .bin 113 .eql .num (.t 109) (.t 112)⟩,
   ⟨none, .pick 114 (.t 108) (.t 113) (.c (.v (.bool false)))⟩,
   ⟨none, .asg 4 (.t 114)⟩])
 (.seq (.scr r5) .ret)))))))))))))),
  115, [4]⟩

/-- coinage/coinagelaw08.JournalReads -/
abbrev K6 : Nat := 24
def hints6 : List (List Bool) := [bits 42 [2], bits 42 [2]]
@[simp] def r6 : List Bool := bits 42 [2]
@[simp] def R6 (s2 : V) : St := tab 42 24 (fu dd 2 s2) dd
def c6 : MF := ⟨(.seq (.ops [⟨none, .asg 2 (.c (.v (.bool false)))⟩])
 (.seq (.seq (.ops [⟨none, .call (some 9) 10 []⟩,
    ⟨none, .un 10 .not (.t 9)⟩,
    ⟨none, .mv 11 (.t 10)⟩,
    ⟨some (11, false), .mv 12 (.t 0)⟩,
    ⟨some (11, false), .len 13 false (.t 12)⟩,
    ⟨some (11, false), .bin 14 .gtr .num (.t 13) (.c (.v (.int .i64 3000)))⟩,
    ⟨none, .pick 15 (.t 11) (.c (.v (.bool true))) (.t 14)⟩])
  (.cnd (.t 15)
   (.seq (.ops [⟨none, .call (some 16) 10 []⟩,
     ⟨none, .asg 2 (.t 16)⟩])
   (.seq (.scr r6) .ret))
   .skip))
 (.seq (.ops [⟨none, .mv 18 (.t 0)⟩,
   ⟨none, .call (some 19) 19 [(.t 18)]⟩,
   ⟨none, .mv 17 (.t 19)⟩,
   ⟨none, .ext 20 (.t 17) 0⟩,
   ⟨none, .ext 21 (.t 17) 1⟩,
   ⟨none, .ext 22 (.t 17) 2⟩,
   ⟨none, .asg 3 (.t 20)⟩,
   ⟨none, .asg 4 (.t 21)⟩,
   ⟨none, .asg 5 (.t 22)⟩])
 (.seq (.ops [⟨none, .mv 24 (.t 0)⟩,
   ⟨none, .call (some 25) 20 [(.t 24)]⟩,
   ⟨none, .mv 23 (.t 25)⟩,
   ⟨none, .ext 26 (.t 23) 0⟩,
   ⟨none, .ext 27 (.t 23) 1⟩,
   ⟨none, .ext 28 (.t 23) 2⟩,
   ⟨none, .asg 6 (.t 26)⟩,
   ⟨none, .asg 7 (.t 27)⟩,
   ⟨none, .asg 8 (.t 28)⟩])
 (.seq (.ops [⟨none, .mv 29 (.t 3)⟩,
   ⟨none, .mv 30 (.t 6)⟩,
   ⟨none, .call (some 31) 16 [(.t 29), (.t 30)]⟩,
   ⟨none, .mv 32 (.t 31)⟩,
   ⟨some (32, true), .mv 33 (.t 4)⟩,
   ⟨some (32, true), .mv 34 (.t 7)⟩,
   ⟨some (32, true), .bin 35 .eql .num (.t 33) (.t 34)⟩,
   ⟨none, .pick 36 (.t 32) (.t 35) (.c (.v (.bool false)))⟩,
   ⟨none, .mv 37 (.t 36)⟩,
   ⟨some (37, true), .mv 38 (.t 5)⟩,
   ⟨some (37, true), .mv 39 (.t 8)⟩,
   ⟨some (37, true), .bin 40 .eql .num (.t 38) (.t 39)⟩,
   ⟨none, .pick 41 (.t 37) (.t 40) (.c (.v (.bool false)))⟩,
   ⟨none, .asg 2 (.t 41)⟩])
 (.seq (.scr r6) .ret)))))),
  42, [2]⟩

/-- coinage/coinagelaw08.JournalAgain -/
abbrev K7 : Nat := 30
def hints7 : List (List Bool) := [bits 89 [4], bits 89 [4], bits 89 [5, 7], bits 89 [1, 5, 7, 10], bits 89 [5, 7], bits 89 [1, 5, 7, 10], bits 89 [4], bits 89 [4]]
@[simp] def r7 : List Bool := bits 89 [4]
@[simp] def R7 (s4 : V) : St := tab 89 30 (fu dd 4 s4) dd
@[simp] def x7_0 : List Bool := bits 89 [5, 7]
@[simp] def X7_0 (s5 s7 : V) : St := tab 89 30 (fu (fu dd 7 s7) 5 s5) dd
@[simp] def h7_0 : List Bool := bits 89 [1, 5, 7, 10]
@[simp] def L7_0 (s1 s5 s7 s10 : V) : St := tab 89 30 (fu (fu (fu (fu dd 10 s10) 7 s7) 5 s5) 1 s1) dd
@[simp] def x7_1 : List Bool := bits 89 [1, 5, 7, 10]
@[simp] def X7_1 (s1 s5 s7 s10 : V) : St := tab 89 30 (fu (fu (fu (fu dd 10 s10) 7 s7) 5 s5) 1 s1) dd
def b7_0 : MC := .seq (.scr h7_0)
 (.seq (.seq (.ops [⟨none, .mv 46 (.t 10)⟩,
    ⟨none, .mv 47 (.t 1)⟩,
    ⟨none, .len 48 false (.t 47)⟩,
    ⟨none, .bin 49 .lss .num (.t 46) (.t 48)⟩])
  (.cnd (.t 49)
   .skip
   (.seq (.scr x7_0) (.ex 0))))
 (.seq (.seq (.blk 1 (.seq (.drx (⟨none, .mv 52 (.t 5)⟩ ::
     ⟨none, .mv 53 (.t 1)⟩ ::
     ⟨none, .mv 54 (.t 10)⟩ ::
     ⟨none, .mv 58 (.t 1)⟩ ::
     ⟨none, .mv 59 (.t 10)⟩ ::
     ⟨none, .mv 64 (.t 7)⟩ ::
     ⟨none, .mv 65 (.t 1)⟩ ::
     ⟨none, .mv 66 (.t 10)⟩ ::
     ⟨none, .mv 70 (.t 1)⟩ ::
     ⟨none, .mv 71 (.t 10)⟩ ::
     ⟨none, .ixs 55 2 (.t 53) (.t 54)⟩ ::
     ⟨none, .fa 56 0 (.t 55)⟩ ::
     ⟨none, .ld1 57 (.t 56)⟩ ::
     ⟨none, .ixs 60 2 (.t 58) (.t 59)⟩ ::
     ⟨none, .fa 61 1 (.t 60)⟩ ::
     ⟨none, .ld1 62 (.t 61)⟩ ::
     ⟨none, .ixs 67 2 (.t 65) (.t 66)⟩ ::
     ⟨none, .fa 68 0 (.t 67)⟩ ::
     ⟨none, .ld1 69 (.t 68)⟩ ::
     ⟨none, .ixs 72 2 (.t 70) (.t 71)⟩ ::
     ⟨none, .fa 73 1 (.t 72)⟩ ::
     ⟨none, .ld1 74 (.t 73)⟩ :: []) [(⟨none, .calI (some 63) 14 (.t 52) [(.t 57), (.t 62)]⟩, [(67, [65, 66]), (68, [67]), (69, [68]), (72, [70, 71]), (73, [72]), (74, [73])]),
     (⟨none, .calI (some 75) 14 (.t 64) [(.t 69), (.t 74)]⟩, []),
     (⟨none, .bin 76 .neq .num (.t 63) (.t 75)⟩, [])] [])
   (.cnd (.t 76)
    (.seq (.ops [⟨none, .asg 4 (.c (.v (.bool false)))⟩])
    (.seq (.scr r7) .ret))
    .skip))) (.scr x7_1))
 (.ops [⟨none, .mv 50 (.t 10)⟩,
  ⟨none, .bin 51 .add .num (.t 50) (.c (.v (.int .i64 1)))⟩,
  ⟨none, .asg 10 (.t 51)⟩])))
def c7 : MF := ⟨(.seq (.ops [⟨none, .asg 4 (.c (.v (.bool false)))⟩])
 (.seq (.seq (.ops [⟨none, .call (some 11) 10 []⟩,
    ⟨none, .un 12 .not (.t 11)⟩,
    ⟨none, .mv 13 (.t 12)⟩,
    ⟨some (13, false), .mv 14 (.t 0)⟩,
    ⟨some (13, false), .call (some 15) 11 [(.t 14)]⟩,
    ⟨some (13, false), .un 16 .not (.t 15)⟩,
    ⟨none, .pick 17 (.t 13) (.c (.v (.bool true))) (.t 16)⟩,
    ⟨none, .mv 18 (.t 17)⟩,
    ⟨some (18, false), .mv 19 (.t 1)⟩,
    ⟨some (18, false), .call (some 20) 11 [(.t 19)]⟩,
    ⟨some (18, false), .un 21 .not (.t 20)⟩,
    ⟨none, .pick 22 (.t 18) (.c (.v (.bool true))) (.t 21)⟩])
  (.cnd (.t 22)
   (.seq (.ops [⟨none, .call (some 23) 10 []⟩,
     ⟨none, .asg 4 (.t 23)⟩])
   (.seq (.scr r7) .ret))
   .skip))
 (.seq (.ops [⟨none, .mv 25 (.t 0)⟩,
   ⟨none, .call (some 26) 17 [(.t 25)]⟩,
   ⟨none, .mv 24 (.t 26)⟩,
   ⟨none, .ext 27 (.t 24) 0⟩,
   ⟨none, .ext 28 (.t 24) 1⟩,
   ⟨none, .asg 5 (.t 27)⟩,
   ⟨none, .asg 6 (.t 28)⟩])
 (.seq (.ops [⟨none, .mv 30 (.t 5)⟩,
   ⟨none, .call (some 31) 18 [(.t 30)]⟩,
   ⟨none, .call (some 32) 19 [(.t 31)]⟩,
   ⟨none, .mv 29 (.t 32)⟩,
   ⟨none, .ext 33 (.t 29) 0⟩,
   ⟨none, .ext 34 (.t 29) 1⟩,
   ⟨none, .ext 35 (.t 29) 2⟩,
   ⟨none, .asg 7 (.t 33)⟩,
   ⟨none, .asg 8 (.t 34)⟩,
   ⟨none, .asg 9 (.t 35)⟩])
 (.seq (.seq (.ops [⟨none, .mv 36 (.t 9)⟩,
    ⟨none, .bin 37 .neq .num (.t 36) (.c (.v (.int .i64 0)))⟩,
    ⟨none, .mv 38 (.t 37)⟩,
    ⟨some (38, false), .mv 39 (.t 8)⟩,
    ⟨some (38, false), .bin 40 .neq .num (.t 39) (.c (.v (.int .i64 0)))⟩,
    ⟨none, .pick 41 (.t 38) (.c (.v (.bool true))) (.t 40)⟩,
    ⟨none, .mv 42 (.t 41)⟩,
    ⟨some (42, false), .mv 43 (.t 7)⟩,
    ⟨some (42, false), .bin 44 .eql (.nilT true) (.t 43) (.c (.v (.pointer none)))⟩,
    ⟨none, .pick 45 (.t 42) (.c (.v (.bool true))) (.t 44)⟩])
  (.cnd (.t 45)
   (.seq (.ops [⟨none, .asg 4 (.c (.v (.bool false)))⟩])
   (.seq (.scr r7) .ret))
   .skip))
 (.seq (.seq (.ops [⟨none, .asg 10 (.c (.v (.int .i64 0)))⟩])
  (.seq (.blk 0 (.lop b7_0)) (.scr x7_0)))
 (.seq (.ops [⟨none, .mv 77 (.t 5)⟩,
   ⟨none, .call (some 78) 18 [(.t 77)]⟩,
   ⟨none, .mv 79 (.t 7)⟩,
   ⟨none, .call (some 80) 18 [(.t 79)]⟩,
   ⟨none, .call (some 81) 22 [(.t 78), (.t 80)]⟩,
   ⟨none, .mv 82 (.t 81)⟩,
   ⟨some (82, true), .mv 83 (.t 5)⟩,
   ⟨some (82, true), .call (some 84) 21 [(.t 83)]⟩,
   ⟨some (82, true), .mv 85 (.t 7)⟩,
   ⟨some (82, true), .call (some 86) 21 [(.t 85)]⟩,
   ⟨some (82, true), .bin 87 .eql .num (.t 84) (.t 86)⟩,
   ⟨none, .pick 88 (.t 82) (.t 87) (.c (.v (.bool false)))⟩,
   ⟨none, .asg 4 (.t 88)⟩])
 (.seq (.scr r7) .ret)))))))),
  89, [4]⟩

/-- coinage/coinagelaw08.JournalCuts -/
abbrev K8 : Nat := 53
def hints8 : List (List Bool) := [bits 64 [4], bits 64 [4], bits 64 [4], bits 64 [4]]
@[simp] def r8 : List Bool := bits 64 [4]
@[simp] def R8 (s4 : V) : St := tab 64 53 (fu dd 4 s4) dd
def c8 : MF := ⟨(.seq (.ops [⟨none, .asg 4 (.c (.v (.bool false)))⟩])
 (.seq (.seq (.ops [⟨none, .call (some 9) 10 []⟩,
    ⟨none, .un 10 .not (.t 9)⟩,
    ⟨none, .mv 11 (.t 10)⟩,
    ⟨some (11, false), .mv 12 (.t 0)⟩,
    ⟨some (11, false), .call (some 13) 11 [(.t 12)]⟩,
    ⟨some (11, false), .un 14 .not (.t 13)⟩,
    ⟨none, .pick 15 (.t 11) (.c (.v (.bool true))) (.t 14)⟩])
  (.cnd (.t 15)
   (.seq (.ops [⟨none, .call (some 16) 10 []⟩,
     ⟨none, .asg 4 (.t 16)⟩])
   (.seq (.scr r8) .ret))
   .skip))
 (.seq (.ops [⟨none, .mv 18 (.t 0)⟩,
   ⟨none, .call (some 19) 17 [(.t 18)]⟩,
   ⟨none, .mv 17 (.t 19)⟩,
   ⟨none, .ext 20 (.t 17) 0⟩,
   ⟨none, .ext 21 (.t 17) 1⟩,
   ⟨none, .asg 5 (.t 20)⟩,
   ⟨none, .asg 6 (.t 21)⟩])
 (.seq (.seq (.ops [⟨none, .mv 22 (.t 5)⟩,
    ⟨none, .mv 23 (.t 1)⟩,
    ⟨none, .cvi 24 .i64 (.t 23)⟩,
    ⟨none, .calI (some 25) 23 (.t 22) [(.t 24)]⟩,
    ⟨none, .mv 26 (.t 6)⟩,
    ⟨none, .mv 27 (.t 1)⟩,
    ⟨none, .cvi 28 .i64 (.t 27)⟩,
    ⟨none, .calI (some 29) 24 (.t 26) [(.t 28)]⟩,
    ⟨none, .bin 30 .neq .num (.t 25) (.t 29)⟩,
    ⟨none, .mv 31 (.t 30)⟩,
    ⟨some (31, false), .mv 32 (.t 5)⟩,
    ⟨some (31, false), .mv 33 (.t 6)⟩,
    ⟨some (31, false), .call (some 34) 16 [(.t 32), (.t 33)]⟩,
    ⟨some (31, false), .un 35 .not (.t 34)⟩,
    ⟨none, .pick 36 (.t 31) (.c (.v (.bool true))) (.t 35)⟩])
  (.cnd (.t 36)
   (.seq (.ops [⟨none, .asg 4 (.c (.v (.bool false)))⟩])
   (.seq (.scr r8) .ret))
   .skip))
 (.seq (.seq (.ops [⟨none, .mv 37 (.t 1)⟩,
    ⟨none, .cvi 38 .i64 (.t 37)⟩,
    ⟨none, .bin 39 .lss .num (.t 38) (.c (.v (.int .i64 0)))⟩,
    ⟨none, .mv 40 (.t 39)⟩,
    ⟨some (40, false), .mv 41 (.t 1)⟩,
    ⟨some (40, false), .cvi 42 .i64 (.t 41)⟩,
    ⟨some (40, false), .mv 43 (.t 0)⟩,
    ⟨some (40, false), .len 44 false (.t 43)⟩,
    ⟨some (40, false), .bin 45 .gtr .num (.t 42) (.t 44)⟩,
    ⟨none, .pick 46 (.t 40) (.c (.v (.bool true))) (.t 45)⟩])
  (.cnd (.t 46)
   (.seq (.ops [⟨none, .mv 47 (.t 5)⟩,
     ⟨none, .call (some 48) 21 [(.t 47)]⟩,
     ⟨none, .mv 49 (.t 0)⟩,
     ⟨none, .len 50 false (.t 49)⟩,
     ⟨none, .bin 51 .eql .num (.t 48) (.t 50)⟩,
     ⟨none, .asg 4 (.t 51)⟩])
   (.seq (.scr r8) .ret))
   .skip))
 (.seq (.ops [⟨none, .mv 53 (.t 0)⟩,
   ⟨none, .mv 54 (.t 1)⟩,
   ⟨none, .sl 55 2 (.t 53) none (some (.t 54))⟩,
   ⟨none, .call (some 56) 17 [(.t 55)]⟩,
   ⟨none, .mv 52 (.t 56)⟩,
   ⟨none, .ext 57 (.t 52) 0⟩,
   ⟨none, .ext 58 (.t 52) 1⟩,
   ⟨none, .asg 7 (.t 57)⟩,
   ⟨none, .asg 8 (.t 58)⟩])
 (.seq (.ops [⟨none, .mv 59 (.t 5)⟩,
   ⟨none, .call (some 60) 18 [(.t 59)]⟩,
   ⟨none, .mv 61 (.t 7)⟩,
   ⟨none, .call (some 62) 18 [(.t 61)]⟩,
   ⟨none, .call (some 63) 22 [(.t 60), (.t 62)]⟩,
   ⟨none, .asg 4 (.t 63)⟩])
 (.seq (.scr r8) .ret)))))))),
  64, [4]⟩

/-- coinage/coinagelaw08.JournalClones -/
abbrev K9 : Nat := 83
def hints9 : List (List Bool) := [bits 109 [6], bits 109 [6], bits 109 [0, 1, 2, 8, 9, 10], bits 109 [0, 1, 2, 8, 9, 10, 11, 12], bits 109 [0, 1, 2, 8, 9, 10], bits 109 [0, 1, 2, 8, 9, 10, 11, 12], bits 109 [0, 1, 2, 8, 9], bits 109 [0, 1, 2, 8, 9, 10, 13], bits 109 [0, 1, 2, 8, 9], bits 109 [0, 1, 2, 8, 9, 10, 13], bits 109 [1, 2, 8, 9], bits 109 [1, 2, 8, 9, 15, 17], bits 109 [1, 2, 8, 9], bits 109 [1, 2, 8, 9, 15, 17], bits 109 [6]]
@[simp] def r9 : List Bool := bits 109 [6]
@[simp] def R9 (s6 : V) : St := tab 109 83 (fu dd 6 s6) dd
@[simp] def x9_0 : List Bool := bits 109 [0, 1, 2, 8, 9, 10]
@[simp] def X9_0 (s0 s1 s2 s8 s9 s10 : V) : St := tab 109 83 (fu (fu (fu (fu (fu (fu dd 10 s10) 9 s9) 8 s8) 2 s2) 1 s1) 0 s0) dd
@[simp] def h9_0 : List Bool := bits 109 [0, 1, 2, 8, 9, 10, 11, 12]
@[simp] def L9_0 (s0 s1 s2 s8 s9 s10 s11 s12 : V) : St := tab 109 83 (fu (fu (fu (fu (fu (fu (fu (fu dd 12 s12) 11 s11) 10 s10) 9 s9) 8 s8) 2 s2) 1 s1) 0 s0) dd
@[simp] def x9_1 : List Bool := bits 109 [0, 1, 2, 8, 9, 10, 11, 12]
@[simp] def X9_1 (s0 s1 s2 s8 s9 s10 s11 s12 : V) : St := tab 109 83 (fu (fu (fu (fu (fu (fu (fu (fu dd 12 s12) 11 s11) 10 s10) 9 s9) 8 s8) 2 s2) 1 s1) 0 s0) dd
def b9_0 : MC := .seq (.scr h9_0)
 (.seq (.seq (.ops [⟨none, .mv 58 (.t 12)⟩,
    ⟨none, .mv 59 (.t 11)⟩,
    ⟨none, .len 60 false (.t 59)⟩,
    ⟨none, .bin 61 .lss .num (.t 58) (.t 60)⟩])
  (.cnd (.t 61)
   .skip
   (.seq (.scr x9_0) (.ex 0))))
 (.seq (.seq (.blk 1 (.ops [⟨none, .mv 64 (.t 11)⟩,
    ⟨none, .mv 65 (.t 12)⟩,
    ⟨none, .ixs 66 1 (.t 64) (.t 65)⟩,
    ⟨none, .ld1 67 (.t 66)⟩,
    ⟨none, .bin 68 .add .num (.t 67) (.c (.v (.int .u8 1)))⟩,
    ⟨none, .ixs 69 1 (.t 64) (.t 65)⟩,
    ⟨none, .stn none 1 (.t 69) (.t 68)⟩])) (.scr x9_1))
 (.ops [⟨none, .mv 62 (.t 12)⟩,
  ⟨none, .bin 63 .add .num (.t 62) (.c (.v (.int .i64 1)))⟩,
  ⟨none, .asg 12 (.t 63)⟩])))
@[simp] def x9_2 : List Bool := bits 109 [0, 1, 2, 8, 9]
@[simp] def X9_2 (s0 s1 s2 s8 s9 : V) : St := tab 109 83 (fu (fu (fu (fu (fu dd 9 s9) 8 s8) 2 s2) 1 s1) 0 s0) dd
@[simp] def h9_1 : List Bool := bits 109 [0, 1, 2, 8, 9, 10, 13]
@[simp] def L9_1 (s0 s1 s2 s8 s9 s10 s13 : V) : St := tab 109 83 (fu (fu (fu (fu (fu (fu (fu dd 13 s13) 10 s10) 9 s9) 8 s8) 2 s2) 1 s1) 0 s0) dd
@[simp] def x9_3 : List Bool := bits 109 [0, 1, 2, 8, 9, 10, 13]
@[simp] def X9_3 (s0 s1 s2 s8 s9 s10 s13 : V) : St := tab 109 83 (fu (fu (fu (fu (fu (fu (fu dd 13 s13) 10 s10) 9 s9) 8 s8) 2 s2) 1 s1) 0 s0) dd
def b9_1 : MC := .seq (.scr h9_1)
 (.seq (.seq (.ops [⟨none, .mv 70 (.t 13)⟩,
    ⟨none, .mv 71 (.t 10)⟩,
    ⟨none, .len 72 false (.t 71)⟩,
    ⟨none, .bin 73 .lss .num (.t 70) (.t 72)⟩])
  (.cnd (.t 73)
   .skip
   (.seq (.scr x9_2) (.ex 2))))
 (.seq (.seq (.blk 3 (.ops [⟨none, .mv 76 (.t 10)⟩,
    ⟨none, .mv 77 (.t 13)⟩,
    ⟨none, .ixs 78 1 (.t 76) (.t 77)⟩,
    ⟨none, .ld1 79 (.t 78)⟩,
    ⟨none, .bin 80 .add .num (.t 79) (.c (.v (.int .u8 1)))⟩,
    ⟨none, .ixs 81 1 (.t 76) (.t 77)⟩,
    ⟨none, .stn none 1 (.t 81) (.t 80)⟩])) (.scr x9_3))
 (.ops [⟨none, .mv 74 (.t 13)⟩,
  ⟨none, .bin 75 .add .num (.t 74) (.c (.v (.int .i64 1)))⟩,
  ⟨none, .asg 13 (.t 75)⟩])))
@[simp] def x9_4 : List Bool := bits 109 [1, 2, 8, 9]
@[simp] def X9_4 (s1 s2 s8 s9 : V) : St := tab 109 83 (fu (fu (fu (fu dd 9 s9) 8 s8) 2 s2) 1 s1) dd
@[simp] def h9_2 : List Bool := bits 109 [1, 2, 8, 9, 15, 17]
@[simp] def L9_2 (s1 s2 s8 s9 s15 s17 : V) : St := tab 109 83 (fu (fu (fu (fu (fu (fu dd 17 s17) 15 s15) 9 s9) 8 s8) 2 s2) 1 s1) dd
@[simp] def x9_5 : List Bool := bits 109 [1, 2, 8, 9, 15, 17]
@[simp] def X9_5 (s1 s2 s8 s9 s15 s17 : V) : St := tab 109 83 (fu (fu (fu (fu (fu (fu dd 17 s17) 15 s15) 9 s9) 8 s8) 2 s2) 1 s1) dd
def b9_2 : MC := .seq (.scr h9_2)
 (.seq (.seq (.ops [⟨none, .mv 90 (.t 17)⟩,
    ⟨none, .mv 91 (.t 15)⟩,
    ⟨none, .len 92 false (.t 91)⟩,
    ⟨none, .bin 93 .lss .num (.t 90) (.t 92)⟩])
  (.cnd (.t 93)
   .skip
   (.seq (.scr x9_4) (.ex 4))))
 (.seq (.seq (.blk 5 (.ops [⟨none, .mv 96 (.t 15)⟩,
    ⟨none, .mv 97 (.t 17)⟩,
    ⟨none, .ixs 98 1 (.t 96) (.t 97)⟩,
    ⟨none, .ld1 99 (.t 98)⟩,
    ⟨none, .bin 100 .add .num (.t 99) (.c (.v (.int .u8 1)))⟩,
    ⟨none, .ixs 101 1 (.t 96) (.t 97)⟩,
    ⟨none, .stn none 1 (.t 101) (.t 100)⟩])) (.scr x9_5))
 (.ops [⟨none, .mv 94 (.t 17)⟩,
  ⟨none, .bin 95 .add .num (.t 94) (.c (.v (.int .i64 1)))⟩,
  ⟨none, .asg 17 (.t 95)⟩])))
def c9 : MF := ⟨(.seq (.ops [⟨none, .asg 6 (.c (.v (.bool false)))⟩])
 (.seq (.seq (.ops [⟨none, .call (some 18) 10 []⟩,
    ⟨none, .un 19 .not (.t 18)⟩,
    ⟨none, .mv 20 (.t 19)⟩,
    ⟨some (20, false), .mv 21 (.t 0)⟩,
    ⟨some (20, false), .call (some 22) 11 [(.t 21)]⟩,
    ⟨some (20, false), .un 23 .not (.t 22)⟩,
    ⟨none, .pick 24 (.t 20) (.c (.v (.bool true))) (.t 23)⟩,
    ⟨none, .mv 25 (.t 24)⟩,
    ⟨some (25, false), .mv 26 (.t 2)⟩,
    ⟨some (25, false), .len 27 false (.t 26)⟩,
    ⟨some (25, false), .bin 28 .gtr .num (.t 27) (.c (.v (.int .i64 500)))⟩,
    ⟨none, .pick 29 (.t 25) (.c (.v (.bool true))) (.t 28)⟩])
  (.cnd (.t 29)
   (.seq (.ops [⟨none, .call (some 30) 10 []⟩,
     ⟨none, .asg 6 (.t 30)⟩])
   (.seq (.scr r9) .ret))
   .skip))
 (.seq (.ops [⟨none, .mv 32 (.t 0)⟩,
   ⟨none, .call (some 33) 17 [(.t 32)]⟩,
   ⟨none, .mv 31 (.t 33)⟩,
   ⟨none, .ext 34 (.t 31) 0⟩,
   ⟨none, .ext 35 (.t 31) 1⟩,
   ⟨none, .asg 7 (.t 34)⟩,
   ⟨none, .asg 8 (.t 35)⟩])
 (.seq (.ops [⟨none, .mv 36 (.t 7)⟩,
   ⟨none, .call (some 37) 25 [(.t 36)]⟩,
   ⟨none, .asg 9 (.t 37)⟩])
 (.seq (.ops [⟨none, .mz 38 1⟩,
   ⟨none, .mv 39 (.t 2)⟩,
   ⟨none, .app 40 1 (.t 38) (.t 39)⟩,
   ⟨none, .asg 10 (.t 40)⟩])
 (.seq (.seq (.ops [⟨none, .mv 41 (.t 9)⟩,
    ⟨none, .bin 42 .eql (.nilT true) (.t 41) (.c (.v (.pointer none)))⟩,
    ⟨none, .mv 43 (.t 42)⟩,
    ⟨some (43, false), .mv 44 (.t 9)⟩,
    ⟨some (43, false), .mv 45 (.t 1)⟩,
    ⟨some (43, false), .mv 46 (.t 10)⟩,
    ⟨some (43, false), .calI (some 47) 14 (.t 44) [(.t 45), (.t 46)]⟩,
    ⟨some (43, false), .bin 48 .neq .num (.t 47) (.c (.v (.int .i64 0)))⟩,
    ⟨none, .pick 49 (.t 43) (.c (.v (.bool true))) (.t 48)⟩,
    ⟨none, .mv 50 (.t 49)⟩,
    ⟨some (50, false), .mv 51 (.t 7)⟩,
    ⟨some (50, false), .mv 52 (.t 8)⟩,
    ⟨some (50, false), .call (some 53) 16 [(.t 51), (.t 52)]⟩,
    ⟨some (50, false), .un 54 .not (.t 53)⟩,
    ⟨none, .pick 55 (.t 50) (.c (.v (.bool true))) (.t 54)⟩])
  (.cnd (.t 55)
   (.seq (.ops [⟨none, .asg 6 (.c (.v (.bool false)))⟩])
   (.seq (.scr r9) .ret))
   .skip))
 (.seq (.ops [⟨none, .mv 56 (.t 9)⟩,
   ⟨none, .call (some 57) 18 [(.t 56)]⟩,
   ⟨none, .asg 11 (.t 57)⟩])
 (.seq (.seq (.ops [⟨none, .asg 12 (.c (.v (.int .i64 0)))⟩])
  (.seq (.blk 0 (.lop b9_0)) (.scr x9_0)))
 (.seq (.seq (.ops [⟨none, .asg 13 (.c (.v (.int .i64 0)))⟩])
  (.seq (.blk 2 (.lop b9_1)) (.scr x9_2)))
 (.seq (.ops [⟨none, .mv 83 (.t 9)⟩,
   ⟨none, .mv 84 (.t 0)⟩,
   ⟨none, .len 85 false (.t 84)⟩,
   ⟨none, .call (some 86) 26 [(.t 83), (.t 85)]⟩,
   ⟨none, .mv 82 (.t 86)⟩,
   ⟨none, .ext 87 (.t 82) 0⟩,
   ⟨none, .ext 88 (.t 82) 1⟩,
   ⟨none, .ext 89 (.t 82) 2⟩,
   ⟨none, .asg 14 (.t 87)⟩,
   ⟨none, .asg 15 (.t 88)⟩,
   ⟨none, .asg 16 (.t 89)⟩])
 (.seq (.seq (.ops [⟨none, .asg 17 (.c (.v (.int .i64 0)))⟩])
  (.seq (.blk 4 (.lop b9_2)) (.scr x9_4)))
 (.seq (.ops [⟨none, .mv 102 (.t 8)⟩,
   ⟨none, .mv 103 (.t 1)⟩,
   ⟨none, .mv 104 (.t 2)⟩,
   ⟨none, .calI (some 105) 15 (.t 102) [(.t 103), (.t 104)]⟩])
 (.seq (.ops [⟨none, .mv 106 (.t 9)⟩,
   ⟨none, .mv 107 (.t 8)⟩,
   ⟨none, .call (some 108) 16 [(.t 106), (.t 107)]⟩,
   ⟨none, .asg 6 (.t 108)⟩])
 (.seq (.scr r9) .ret)))))))))))))),
  109, [6]⟩

/-- coinage/coinagelaw08.awake -/
abbrev K10 : Nat := 89
def hints10 : List (List Bool) := [bits 110 [0], bits 110 [0], bits 110 [0]]
@[simp] def r10 : List Bool := bits 110 [0]
@[simp] def R10 (s0 : V) : St := tab 110 89 (fu dd 0 s0) dd
def c10 : MF := ⟨(.seq (.ops [⟨none, .asg 0 (.c (.v (.bool false)))⟩])
 (.seq (.ops [⟨none, .call (some 13) 12 []⟩,
   ⟨none, .asg 1 (.t 13)⟩])
 (.seq (.ops [⟨none, .asg 2 (.c (.v (.pointer none)))⟩])
 (.seq (.seq (.ops (⟨none, .mv 14 (.t 1)⟩ ::
    ⟨none, .bin 15 .eql (.nilT true) (.t 14) (.c (.v (.pointer none)))⟩ ::
    ⟨none, .mv 16 (.t 15)⟩ ::
    ⟨some (16, false), .mv 17 (.t 2)⟩ ::
    ⟨some (16, false), .call (some 18) 25 [(.t 17)]⟩ ::
    ⟨some (16, false), .bin 19 .neq (.nilT true) (.t 18) (.c (.v (.pointer none)))⟩ ::
    ⟨none, .pick 20 (.t 16) (.c (.v (.bool true))) (.t 19)⟩ ::
    ⟨none, .mv 21 (.t 20)⟩ ::
    ⟨some (21, false), .mv 22 (.t 2)⟩ ::
    ⟨some (21, false), .call (some 23) 21 [(.t 22)]⟩ ::
    ⟨some (21, false), .bin 24 .neq .num (.t 23) (.c (.v (.int .i64 0)))⟩ ::
    ⟨none, .pick 25 (.t 21) (.c (.v (.bool true))) (.t 24)⟩ ::
    ⟨none, .mv 26 (.t 25)⟩ ::
    ⟨some (26, false), .mv 27 (.t 2)⟩ ::
    ⟨some (26, false), .calI (some 28) 14 (.t 27) [(.c (.v (.int .u8 1))), (.c (.nd (.sl true 1 0) []))]⟩ ::
    ⟨some (26, false), .bin 29 .neq .num (.t 28) (.c (.v (.int .i64 1)))⟩ ::
    ⟨none, .pick 30 (.t 26) (.c (.v (.bool true))) (.t 29)⟩ ::
    ⟨none, .mv 31 (.t 30)⟩ ::
    ⟨some (31, false), .mv 32 (.t 1)⟩ ::
    ⟨some (31, false), .bs 33 1 1 [(.v (.int .u8 0))] [(0, 1, (.c (.v (.int .u8 7))))]⟩ ::
    ⟨some (31, false), .calI (some 34) 14 (.t 32) [(.c (.v (.int .u8 2))), (.t 33)]⟩ ::
    ⟨some (31, false), .bin 35 .neq .num (.t 34) (.c (.v (.int .i64 0)))⟩ ::
    ⟨none, .pick 36 (.t 31) (.c (.v (.bool true))) (.t 35)⟩ ::
    ⟨none, .mv 37 (.t 36)⟩ ::
    ⟨some (37, false), .mv 38 (.t 1)⟩ ::
    ⟨some (37, false), .call (some 39) 21 [(.t 38)]⟩ ::
    ⟨some (37, false), .bin 40 .neq .num (.t 39) (.c (.v (.int .i64 1)))⟩ ::
    ⟨none, .pick 41 (.t 37) (.c (.v (.bool true))) (.t 40)⟩ :: []))
  (.cnd (.t 41)
   (.seq (.ops [⟨none, .asg 0 (.c (.v (.bool false)))⟩])
   (.seq (.scr r10) .ret))
   .skip))
 (.seq (.ops [⟨none, .mv 43 (.t 1)⟩,
   ⟨none, .call (some 44) 26 [(.t 43), (.c (.v (.int .i64 0)))]⟩,
   ⟨none, .mv 42 (.t 44)⟩,
   ⟨none, .ext 45 (.t 42) 0⟩,
   ⟨none, .ext 46 (.t 42) 1⟩,
   ⟨none, .ext 47 (.t 42) 2⟩,
   ⟨none, .asg 3 (.t 45)⟩,
   ⟨none, .asg 4 (.t 46)⟩,
   ⟨none, .asg 5 (.t 47)⟩])
 (.seq (.ops [⟨none, .mv 49 (.t 1)⟩,
   ⟨none, .call (some 50) 26 [(.t 49), (.c (.v (.int .i64 1)))]⟩,
   ⟨none, .mv 48 (.t 50)⟩,
   ⟨none, .ext 51 (.t 48) 0⟩,
   ⟨none, .ext 52 (.t 48) 1⟩,
   ⟨none, .ext 53 (.t 48) 2⟩,
   ⟨none, .asg 6 (.t 51)⟩,
   ⟨none, .asg 7 (.t 52)⟩,
   ⟨none, .asg 8 (.t 53)⟩])
 (.seq (.ops [⟨none, .mv 54 (.t 1)⟩,
   ⟨none, .call (some 55) 18 [(.t 54)]⟩,
   ⟨none, .asg 9 (.t 55)⟩])
 (.seq (.seq (.ops (⟨none, .mv 56 (.t 3)⟩ ::
    ⟨none, .bin 57 .neq .num (.t 56) (.c (.v (.int .u8 2)))⟩ ::
    ⟨none, .mv 58 (.t 57)⟩ ::
    ⟨some (58, false), .mv 59 (.t 4)⟩ ::
    ⟨some (58, false), .bs 60 1 1 [(.v (.int .u8 0))] [(0, 1, (.c (.v (.int .u8 7))))]⟩ ::
    ⟨some (58, false), .call (some 61) 22 [(.t 59), (.t 60)]⟩ ::
    ⟨some (58, false), .un 62 .not (.t 61)⟩ ::
    ⟨none, .pick 63 (.t 58) (.c (.v (.bool true))) (.t 62)⟩ ::
    ⟨none, .mv 64 (.t 63)⟩ ::
    ⟨some (64, false), .mv 65 (.t 5)⟩ ::
    ⟨some (64, false), .bin 66 .neq .num (.t 65) (.c (.v (.int .i64 0)))⟩ ::
    ⟨none, .pick 67 (.t 64) (.c (.v (.bool true))) (.t 66)⟩ ::
    ⟨none, .mv 68 (.t 67)⟩ ::
    ⟨some (68, false), .mv 69 (.t 8)⟩ ::
    ⟨some (68, false), .bin 70 .neq .num (.t 69) (.c (.v (.int .i64 7)))⟩ ::
    ⟨none, .pick 71 (.t 68) (.c (.v (.bool true))) (.t 70)⟩ ::
    ⟨none, .mv 72 (.t 71)⟩ ::
    ⟨some (72, false), .mv 73 (.t 9)⟩ ::
    ⟨some (72, false), .len 74 false (.t 73)⟩ ::
    ⟨some (72, false), .bin 75 .neq .num (.t 74) (.c (.v (.int .i64 15)))⟩ ::
    ⟨none, .pick 76 (.t 72) (.c (.v (.bool true))) (.t 75)⟩ ::
    ⟨none, .mv 77 (.t 76)⟩ ::
    ⟨some (77, false), .mv 78 (.t 9)⟩ ::
    ⟨some (77, false), .sl 79 1 (.t 78) none (some (.c (.v (.int .i64 5))))⟩ ::
    ⟨some (77, false), .cvs 80 (.t 79)⟩ ::
    ⟨some (77, false), .bin 81 .neq .num (.t 80) (.c (.v (.string ⟨#[67, 79, 73, 78, 49]⟩)))⟩ ::
    ⟨none, .pick 82 (.t 77) (.c (.v (.bool true))) (.t 81)⟩ ::
    ⟨none, .mv 83 (.t 82)⟩ ::
    ⟨some (83, false), .mv 84 (.t 1)⟩ ::
    ⟨some (83, false), .calI (some 85) 23 (.t 84) [(.c (.v (.int .i64 2)))]⟩ ::
    ⟨some (83, false), .bin 86 .neq .num (.t 85) (.c (.v (.int .i64 7)))⟩ ::
    ⟨none, .pick 87 (.t 83) (.c (.v (.bool true))) (.t 86)⟩ :: []))
  (.cnd (.t 87)
   (.seq (.ops [⟨none, .asg 0 (.c (.v (.bool false)))⟩])
   (.seq (.scr r10) .ret))
   .skip))
 (.seq (.ops [⟨none, .mv 89 (.t 9)⟩,
   ⟨none, .sl 90 1 (.t 89) none (some (.c (.v (.int .i64 14))))⟩,
   ⟨none, .call (some 91) 19 [(.t 90)]⟩,
   ⟨none, .mv 88 (.t 91)⟩,
   ⟨none, .ext 92 (.t 88) 0⟩,
   ⟨none, .ext 93 (.t 88) 1⟩,
   ⟨none, .ext 94 (.t 88) 2⟩,
   ⟨none, .asg 10 (.t 92)⟩,
   ⟨none, .asg 11 (.t 93)⟩,
   ⟨none, .asg 12 (.t 94)⟩])
 (.seq (.ops [⟨none, .mv 95 (.t 12)⟩,
   ⟨none, .bin 96 .eql .num (.t 95) (.c (.v (.int .i64 0)))⟩,
   ⟨none, .mv 97 (.t 96)⟩,
   ⟨some (97, true), .mv 98 (.t 10)⟩,
   ⟨some (97, true), .bin 99 .neq (.nilT true) (.t 98) (.c (.v (.pointer none)))⟩,
   ⟨none, .pick 100 (.t 97) (.t 99) (.c (.v (.bool false)))⟩,
   ⟨none, .mv 101 (.t 100)⟩,
   ⟨some (101, true), .mv 102 (.t 10)⟩,
   ⟨some (101, true), .call (some 103) 21 [(.t 102)]⟩,
   ⟨some (101, true), .bin 104 .eql .num (.t 103) (.c (.v (.int .i64 0)))⟩,
   ⟨none, .pick 105 (.t 101) (.t 104) (.c (.v (.bool false)))⟩,
   ⟨none, .mv 106 (.t 105)⟩,
   ⟨some (106, true), .mv 107 (.t 11)⟩,
   ⟨some (106, true), .bin 108 .eql .num (.t 107) (.c (.v (.int .i64 9)))⟩,
   ⟨none, .pick 109 (.t 106) (.t 108) (.c (.v (.bool false)))⟩,
   ⟨none, .asg 0 (.t 109)⟩])
 (.seq (.scr r10) .ret))))))))))),
  110, [0]⟩

/-- coinage/coinageref08.Few -/
abbrev K11 : Nat := 5
def hints11 : List (List Bool) := [bits 31 [0, 3], bits 31 [0, 3, 4], bits 31 [0, 3], bits 31 [0, 3, 4], bits 31 [2]]
@[simp] def r11 : List Bool := bits 31 [2]
@[simp] def R11 (s2 : V) : St := tab 31 5 (fu dd 2 s2) dd
@[simp] def x11_0 : List Bool := bits 31 [0, 3]
@[simp] def X11_0 (s0 s3 : V) : St := tab 31 5 (fu (fu dd 3 s3) 0 s0) dd
@[simp] def h11_0 : List Bool := bits 31 [0, 3, 4]
@[simp] def L11_0 (s0 s3 s4 : V) : St := tab 31 5 (fu (fu (fu dd 4 s4) 3 s3) 0 s0) dd
@[simp] def x11_1 : List Bool := bits 31 [0, 3, 4]
@[simp] def X11_1 (s0 s3 s4 : V) : St := tab 31 5 (fu (fu (fu dd 4 s4) 3 s3) 0 s0) dd
def b11_0 : MC := .seq (.scr h11_0)
 (.seq (.seq (.ops [⟨none, .mv 5 (.t 4)⟩,
    ⟨none, .mv 6 (.t 0)⟩,
    ⟨none, .len 7 false (.t 6)⟩,
    ⟨none, .bin 8 .lss .num (.t 5) (.t 7)⟩,
    ⟨none, .mv 9 (.t 8)⟩,
    ⟨some (9, true), .mv 10 (.t 4)⟩,
    ⟨some (9, true), .bin 11 .lss .num (.t 10) (.c (.v (.int .i64 50)))⟩,
    ⟨none, .pick 12 (.t 9) (.t 11) (.c (.v (.bool false)))⟩])
  (.cnd (.t 12)
   .skip
   (.seq (.scr x11_0) (.ex 0))))
 (.seq (.seq (.blk 1 (.ops [⟨none, .mv 15 (.t 3)⟩,
    ⟨none, .mv 16 (.t 0)⟩,
    ⟨none, .mv 17 (.t 4)⟩,
    ⟨none, .ixs 18 2 (.t 16) (.t 17)⟩,
    ⟨none, .fa 19 1 (.t 18)⟩,
    ⟨none, .ld1 20 (.t 19)⟩,
    ⟨none, .len 21 false (.t 20)⟩,
    ⟨none, .mm 22 false (.t 21) (.c (.v (.int .i64 10000)))⟩,
    ⟨none, .bin 23 .add .num (.t 15) (.t 22)⟩,
    ⟨none, .asg 3 (.t 23)⟩])) (.scr x11_1))
 (.ops [⟨none, .mv 13 (.t 4)⟩,
  ⟨none, .bin 14 .add .num (.t 13) (.c (.v (.int .i64 1)))⟩,
  ⟨none, .asg 4 (.t 14)⟩])))
def c11 : MF := ⟨(.seq (.ops [⟨none, .asg 2 (.c (.v (.bool false)))⟩])
 (.seq (.ops [⟨none, .asg 3 (.c (.v (.int .i64 0)))⟩])
 (.seq (.seq (.ops [⟨none, .asg 4 (.c (.v (.int .i64 0)))⟩])
  (.seq (.blk 0 (.lop b11_0)) (.scr x11_0)))
 (.seq (.ops [⟨none, .mv 24 (.t 0)⟩,
   ⟨none, .len 25 false (.t 24)⟩,
   ⟨none, .bin 26 .leq .num (.t 25) (.c (.v (.int .i64 30)))⟩,
   ⟨none, .mv 27 (.t 26)⟩,
   ⟨some (27, true), .mv 28 (.t 3)⟩,
   ⟨some (27, true), .bin 29 .leq .num (.t 28) (.c (.v (.int .i64 1000)))⟩,
   ⟨none, .pick 30 (.t 27) (.t 29) (.c (.v (.bool false)))⟩,
   ⟨none, .asg 2 (.t 30)⟩])
 (.seq (.scr r11) .ret))))),
  31, [2]⟩

/-- coinage/journal.New -/
abbrev K12 : Nat := 1
def hints12 : List (List Bool) := [bits 5 [0]]
@[simp] def r12 : List Bool := bits 5 [0]
@[simp] def R12 (s0 : V) : St := tab 5 1 (fu dd 0 s0) dd
def c12 : MF := ⟨(.seq (.ops [⟨none, .asg 0 (.c (.v (.pointer none)))⟩])
 (.seq (.ops [⟨none, .bs 1 1 5 [(.v (.int .u8 0))] [(0, 1, (.c (.v (.int .u8 67)))), (1, 1, (.c (.v (.int .u8 79)))), (2, 1, (.c (.v (.int .u8 73)))), (3, 1, (.c (.v (.int .u8 78)))), (4, 1, (.c (.v (.int .u8 49))))]⟩,
   ⟨none, .cvm 2 (.t 1)⟩,
   ⟨none, .bld 3 [(.nd (.sl true 1 0) []), (.nd (.sl true 1 0) [])] [(0, 1, (.t 2))]⟩,
   ⟨none, .box 4 (.t 3)⟩,
   ⟨none, .asg 0 (.t 4)⟩])
 (.seq (.scr r12) .ret))),
  5, [0]⟩

/-- coinage/coinageref08.New -/
abbrev K13 : Nat := 1
def hints13 : List (List Bool) := [bits 3 [0]]
@[simp] def r13 : List Bool := bits 3 [0]
@[simp] def R13 (s0 : V) : St := tab 3 1 (fu dd 0 s0) dd
def c13 : MF := ⟨(.seq (.ops [⟨none, .asg 0 (.c (.v (.pointer none)))⟩])
 (.seq (.ops [⟨none, .bld 1 [(.nd (.sl true 2 0) [])] []⟩,
   ⟨none, .box 2 (.t 1)⟩,
   ⟨none, .asg 0 (.t 2)⟩])
 (.seq (.scr r13) .ret))),
  3, [0]⟩

/-- (*coinage/journal.Journal).Append -/
abbrev K14 : Nat := 12
def hints14 : List (List Bool) := [bits 53 [0, 6], bits 53 [0, 6], bits 53 [0, 6]]
@[simp] def r14 : List Bool := bits 53 [0, 6]
@[simp] def R14 (s0 s6 : V) : St := tab 53 12 (fu (fu dd 6 s6) 0 s0) dd
def c14 : MF := ⟨(.seq (.ops [⟨none, .asg 6 (.c (.v (.int .i64 0)))⟩])
 (.seq (.seq (.ops [⟨none, .mv 9 (.t 0)⟩,
    ⟨none, .bin 10 .eql (.nilT true) (.t 9) (.c (.v (.pointer none)))⟩])
  (.cnd (.t 10)
   (.seq (.ops [⟨none, .asg 6 (.c (.v (.int .i64 1)))⟩])
   (.seq (.scr r14) .ret))
   .skip))
 (.seq (.ops [⟨none, .mv 12 (.t 1)⟩,
   ⟨none, .mv 13 (.t 2)⟩,
   ⟨none, .call (some 14) 27 [(.t 12), (.t 13)]⟩,
   ⟨none, .mv 11 (.t 14)⟩,
   ⟨none, .ext 15 (.t 11) 0⟩,
   ⟨none, .ext 16 (.t 11) 1⟩,
   ⟨none, .asg 7 (.t 15)⟩,
   ⟨none, .asg 8 (.t 16)⟩])
 (.seq (.seq (.ops [⟨none, .mv 17 (.t 8)⟩,
    ⟨none, .bin 18 .neq .num (.t 17) (.c (.v (.int .i64 0)))⟩,
    ⟨none, .mv 19 (.t 18)⟩,
    ⟨some (19, false), .mv 20 (.t 0)⟩,
    ⟨some (19, false), .nc 21 (.t 20)⟩,
    ⟨some (19, false), .fa 22 0 (.t 21)⟩,
    ⟨some (19, false), .ld1 23 (.t 22)⟩,
    ⟨some (19, false), .len 24 false (.t 23)⟩,
    ⟨some (19, false), .mv 25 (.t 7)⟩,
    ⟨some (19, false), .len 26 false (.t 25)⟩,
    ⟨some (19, false), .bin 27 .add .num (.t 24) (.t 26)⟩,
    ⟨some (19, false), .bin 28 .gtr .num (.t 27) (.c (.v (.int .i64 65536)))⟩,
    ⟨none, .pick 29 (.t 19) (.c (.v (.bool true))) (.t 28)⟩])
  (.cnd (.t 29)
   (.seq (.ops [⟨none, .asg 6 (.c (.v (.int .i64 6)))⟩])
   (.seq (.scr r14) .ret))
   .skip))
 (.seq (.ops [⟨none, .mv 30 (.t 0)⟩,
   ⟨none, .mv 31 (.t 0)⟩,
   ⟨none, .nc 32 (.t 31)⟩,
   ⟨none, .fa 33 0 (.t 32)⟩,
   ⟨none, .ld1 34 (.t 33)⟩,
   ⟨none, .mv 35 (.t 7)⟩,
   ⟨none, .app 36 1 (.t 34) (.t 35)⟩,
   ⟨none, .nc 37 (.t 30)⟩,
   ⟨none, .fa 38 0 (.t 37)⟩,
   ⟨none, .stn none 1 (.t 38) (.t 36)⟩])
 (.seq (.drw [⟨none, .mv 39 (.t 0)⟩,
   ⟨none, .mv 40 (.t 0)⟩,
   ⟨none, .mv 44 (.t 0)⟩,
   ⟨none, .nc 41 (.t 40)⟩,
   ⟨none, .fa 42 1 (.t 41)⟩,
   ⟨none, .ld1 43 (.t 42)⟩,
   ⟨none, .nc 45 (.t 44)⟩,
   ⟨none, .fa 46 0 (.t 45)⟩,
   ⟨none, .ld1 47 (.t 46)⟩,
   ⟨none, .len 48 false (.t 47)⟩,
   ⟨none, .bs 49 1 1 [(.v (.int .i64 0))] [(0, 1, (.t 48))]⟩] [⟨none, .app 50 1 (.t 43) (.t 49)⟩,
   ⟨none, .nc 51 (.t 39)⟩,
   ⟨none, .fa 52 1 (.t 51)⟩,
   ⟨none, .stn none 1 (.t 52) (.t 50)⟩])
 (.seq (.ops [⟨none, .asg 6 (.c (.v (.int .i64 0)))⟩])
 (.seq (.scr r14) .ret)))))))),
  53, [6]⟩

/-- (*coinage/coinageref08.Journal).Append -/
abbrev K15 : Nat := 12
def hints15 : List (List Bool) := [bits 42 [0, 6], bits 42 [0, 6], bits 42 [0, 6]]
@[simp] def r15 : List Bool := bits 42 [0, 6]
@[simp] def R15 (s0 s6 : V) : St := tab 42 12 (fu (fu dd 6 s6) 0 s0) dd
def c15 : MF := ⟨(.seq (.ops [⟨none, .asg 6 (.c (.v (.int .i64 0)))⟩])
 (.seq (.seq (.ops [⟨none, .mv 9 (.t 0)⟩,
    ⟨none, .bin 10 .eql (.nilT true) (.t 9) (.c (.v (.pointer none)))⟩])
  (.cnd (.t 10)
   (.seq (.ops [⟨none, .asg 6 (.c (.v (.int .i64 1)))⟩])
   (.seq (.scr r15) .ret))
   .skip))
 (.seq (.ops [⟨none, .mv 12 (.t 1)⟩,
   ⟨none, .mv 13 (.t 2)⟩,
   ⟨none, .call (some 14) 28 [(.t 12), (.t 13)]⟩,
   ⟨none, .mv 11 (.t 14)⟩,
   ⟨none, .ext 15 (.t 11) 0⟩,
   ⟨none, .ext 16 (.t 11) 1⟩,
   ⟨none, .asg 7 (.t 15)⟩,
   ⟨none, .asg 8 (.t 16)⟩])
 (.seq (.seq (.ops [⟨none, .mv 17 (.t 8)⟩,
    ⟨none, .bin 18 .neq .num (.t 17) (.c (.v (.int .i64 0)))⟩,
    ⟨none, .mv 19 (.t 18)⟩,
    ⟨some (19, false), .mv 20 (.t 0)⟩,
    ⟨some (19, false), .call (some 21) 29 [(.t 20)]⟩,
    ⟨some (19, false), .len 22 false (.t 21)⟩,
    ⟨some (19, false), .mv 23 (.t 7)⟩,
    ⟨some (19, false), .len 24 false (.t 23)⟩,
    ⟨some (19, false), .bin 25 .add .num (.t 22) (.t 24)⟩,
    ⟨some (19, false), .bin 26 .gtr .num (.t 25) (.c (.v (.int .i64 65536)))⟩,
    ⟨none, .pick 27 (.t 19) (.c (.v (.bool true))) (.t 26)⟩])
  (.cnd (.t 27)
   (.seq (.ops [⟨none, .asg 6 (.c (.v (.int .i64 6)))⟩])
   (.seq (.scr r15) .ret))
   .skip))
 (.seq (.drx [⟨none, .mv 28 (.t 0)⟩,
   ⟨none, .mv 29 (.t 0)⟩,
   ⟨none, .mv 33 (.t 1)⟩,
   ⟨none, .mv 35 (.t 2)⟩,
   ⟨none, .nc 30 (.t 29)⟩,
   ⟨none, .fa 31 0 (.t 30)⟩,
   ⟨none, .ld1 32 (.t 31)⟩,
   ⟨none, .mz 34 1⟩,
   ⟨none, .app 36 1 (.t 34) (.t 35)⟩,
   ⟨none, .bv 37 [(.v (.int .u8 0)), (.nd (.sl true 1 0) [])] [(0, 1, (.t 33)), (1, 1, (.t 36))]⟩] [(⟨none, .bs 38 2 1 [(.v (.int .u8 0)), (.nd (.sl true 1 0) [])] [(0, 2, (.t 37))]⟩, [(30, [29]), (31, [30]), (32, [31])]),
   (⟨none, .app 39 2 (.t 32) (.t 38)⟩, []),
   (⟨none, .nc 40 (.t 28)⟩, []),
   (⟨none, .fa 41 0 (.t 40)⟩, []),
   (⟨none, .stn none 1 (.t 41) (.t 39)⟩, [])] [])
 (.seq (.ops [⟨none, .asg 6 (.c (.v (.int .i64 0)))⟩])
 (.seq (.scr r15) .ret))))))),
  42, [6]⟩

/-- coinage/coinagelaw08.same -/
abbrev K16 : Nat := 44
def hints16 : List (List Bool) := [bits 64 [4], bits 64 [4], bits 64 [], bits 64 [0, 1, 5], bits 64 [], bits 64 [0, 1, 5], bits 64 [4], bits 64 [4]]
@[simp] def r16 : List Bool := bits 64 [4]
@[simp] def R16 (s4 : V) : St := tab 64 44 (fu dd 4 s4) dd
@[simp] def x16_0 : List Bool := bits 64 []
@[simp] def X16_0 : St := tab 64 44 dd dd
@[simp] def h16_0 : List Bool := bits 64 [0, 1, 5]
@[simp] def L16_0 (s0 s1 s5 : V) : St := tab 64 44 (fu (fu (fu dd 5 s5) 1 s1) 0 s0) dd
@[simp] def x16_1 : List Bool := bits 64 [0, 1, 5]
@[simp] def X16_1 (s0 s1 s5 : V) : St := tab 64 44 (fu (fu (fu dd 5 s5) 1 s1) 0 s0) dd
def b16_0 : MC := .seq (.scr h16_0)
 (.seq (.seq (.ops [⟨none, .mv 30 (.t 5)⟩,
    ⟨none, .mv 31 (.t 1)⟩,
    ⟨none, .call (some 32) 30 [(.t 31)]⟩,
    ⟨none, .bin 33 .leq .num (.t 30) (.t 32)⟩])
  (.cnd (.t 33)
   .skip
   (.seq (.scr x16_0) (.ex 0))))
 (.seq (.seq (.blk 1 (.seq (.ops [⟨none, .mv 37 (.t 0)⟩,
     ⟨none, .mv 38 (.t 5)⟩,
     ⟨none, .call (some 39) 26 [(.t 37), (.t 38)]⟩,
     ⟨none, .mv 36 (.t 39)⟩,
     ⟨none, .ext 40 (.t 36) 0⟩,
     ⟨none, .ext 41 (.t 36) 1⟩,
     ⟨none, .ext 42 (.t 36) 2⟩,
     ⟨none, .asg 6 (.t 40)⟩,
     ⟨none, .asg 7 (.t 41)⟩,
     ⟨none, .asg 8 (.t 42)⟩])
   (.seq (.ops [⟨none, .mv 44 (.t 1)⟩,
     ⟨none, .mv 45 (.t 5)⟩,
     ⟨none, .call (some 46) 31 [(.t 44), (.t 45)]⟩,
     ⟨none, .mv 43 (.t 46)⟩,
     ⟨none, .ext 47 (.t 43) 0⟩,
     ⟨none, .ext 48 (.t 43) 1⟩,
     ⟨none, .ext 49 (.t 43) 2⟩,
     ⟨none, .asg 9 (.t 47)⟩,
     ⟨none, .asg 10 (.t 48)⟩,
     ⟨none, .asg 11 (.t 49)⟩])
   (.seq (.ops [⟨none, .mv 50 (.t 6)⟩,
     ⟨none, .mv 51 (.t 9)⟩,
     ⟨none, .bin 52 .neq .num (.t 50) (.t 51)⟩,
     ⟨none, .mv 53 (.t 52)⟩,
     ⟨some (53, false), .mv 54 (.t 7)⟩,
     ⟨some (53, false), .mv 55 (.t 10)⟩,
     ⟨some (53, false), .call (some 56) 22 [(.t 54), (.t 55)]⟩,
     ⟨some (53, false), .un 57 .not (.t 56)⟩,
     ⟨none, .pick 58 (.t 53) (.c (.v (.bool true))) (.t 57)⟩,
     ⟨none, .mv 59 (.t 58)⟩,
     ⟨some (59, false), .mv 60 (.t 8)⟩,
     ⟨some (59, false), .mv 61 (.t 11)⟩,
     ⟨some (59, false), .bin 62 .neq .num (.t 60) (.t 61)⟩,
     ⟨none, .pick 63 (.t 59) (.c (.v (.bool true))) (.t 62)⟩])
   (.cnd (.t 63)
    (.seq (.ops [⟨none, .asg 4 (.c (.v (.bool false)))⟩])
    (.seq (.scr r16) .ret))
    .skip))))) (.scr x16_1))
 (.ops [⟨none, .mv 34 (.t 5)⟩,
  ⟨none, .bin 35 .add .num (.t 34) (.c (.v (.int .i64 1)))⟩,
  ⟨none, .asg 5 (.t 35)⟩])))
def c16 : MF := ⟨(.seq (.ops [⟨none, .asg 4 (.c (.v (.bool false)))⟩])
 (.seq (.seq (.ops [⟨none, .mv 12 (.t 0)⟩,
    ⟨none, .bin 13 .eql (.nilT true) (.t 12) (.c (.v (.pointer none)))⟩,
    ⟨none, .mv 14 (.t 1)⟩,
    ⟨none, .bin 15 .eql (.nilT true) (.t 14) (.c (.v (.pointer none)))⟩,
    ⟨none, .bin 16 .neq .bool (.t 13) (.t 15)⟩])
  (.cnd (.t 16)
   (.seq (.ops [⟨none, .asg 4 (.c (.v (.bool false)))⟩])
   (.seq (.scr r16) .ret))
   .skip))
 (.seq (.seq (.ops [⟨none, .mv 17 (.t 0)⟩,
    ⟨none, .call (some 18) 21 [(.t 17)]⟩,
    ⟨none, .mv 19 (.t 1)⟩,
    ⟨none, .call (some 20) 30 [(.t 19)]⟩,
    ⟨none, .bin 21 .neq .num (.t 18) (.t 20)⟩,
    ⟨none, .mv 22 (.t 21)⟩,
    ⟨some (22, false), .mv 23 (.t 0)⟩,
    ⟨some (22, false), .call (some 24) 18 [(.t 23)]⟩,
    ⟨some (22, false), .mv 25 (.t 1)⟩,
    ⟨some (22, false), .call (some 26) 29 [(.t 25)]⟩,
    ⟨some (22, false), .call (some 27) 22 [(.t 24), (.t 26)]⟩,
    ⟨some (22, false), .un 28 .not (.t 27)⟩,
    ⟨none, .pick 29 (.t 22) (.c (.v (.bool true))) (.t 28)⟩])
  (.cnd (.t 29)
   (.seq (.ops [⟨none, .asg 4 (.c (.v (.bool false)))⟩])
   (.seq (.scr r16) .ret))
   .skip))
 (.seq (.seq (.ops [⟨none, .asg 5 (.c (.v (.int .i64 (-1))))⟩])
  (.seq (.blk 0 (.lop b16_0)) (.scr x16_0)))
 (.seq (.ops [⟨none, .asg 4 (.c (.v (.bool true)))⟩])
 (.seq (.scr r16) .ret)))))),
  64, [4]⟩

/-- coinage/coinagelaw08.made -/
abbrev K17 : Nat := 7
def hints17 : List (List Bool) := [bits 41 [4, 5], bits 41 [0, 4, 5, 6], bits 41 [4, 5], bits 41 [0, 4, 5, 6], bits 41 [2, 3]]
@[simp] def r17 : List Bool := bits 41 [2, 3]
@[simp] def R17 (s2 s3 : V) : St := tab 41 7 (fu (fu dd 3 s3) 2 s2) dd
@[simp] def x17_0 : List Bool := bits 41 [4, 5]
@[simp] def X17_0 (s4 s5 : V) : St := tab 41 7 (fu (fu dd 5 s5) 4 s4) dd
@[simp] def h17_0 : List Bool := bits 41 [0, 4, 5, 6]
@[simp] def L17_0 (s0 s4 s5 s6 : V) : St := tab 41 7 (fu (fu (fu (fu dd 6 s6) 5 s5) 4 s4) 0 s0) dd
@[simp] def x17_1 : List Bool := bits 41 [0, 4, 5, 6]
@[simp] def X17_1 (s0 s4 s5 s6 : V) : St := tab 41 7 (fu (fu (fu (fu dd 6 s6) 5 s5) 4 s4) 0 s0) dd
def b17_0 : MC := .seq (.scr h17_0)
 (.seq (.seq (.ops [⟨none, .mv 9 (.t 6)⟩,
    ⟨none, .mv 10 (.t 0)⟩,
    ⟨none, .len 11 false (.t 10)⟩,
    ⟨none, .bin 12 .lss .num (.t 9) (.t 11)⟩])
  (.cnd (.t 12)
   .skip
   (.seq (.scr x17_0) (.ex 0))))
 (.seq (.seq (.blk 1 (.seq (.drw [⟨none, .mv 15 (.t 4)⟩,
     ⟨none, .mv 16 (.t 0)⟩,
     ⟨none, .mv 17 (.t 6)⟩,
     ⟨none, .ixs 18 2 (.t 16) (.t 17)⟩,
     ⟨none, .fa 19 0 (.t 18)⟩,
     ⟨none, .ld1 20 (.t 19)⟩,
     ⟨none, .mv 21 (.t 0)⟩,
     ⟨none, .mv 22 (.t 6)⟩,
     ⟨none, .ixs 23 2 (.t 21) (.t 22)⟩,
     ⟨none, .fa 24 1 (.t 23)⟩,
     ⟨none, .ld1 25 (.t 24)⟩] [⟨none, .calI (some 26) 14 (.t 15) [(.t 20), (.t 25)]⟩])
   (.drw [⟨none, .mv 27 (.t 5)⟩,
    ⟨none, .mv 28 (.t 0)⟩,
    ⟨none, .mv 29 (.t 6)⟩,
    ⟨none, .ixs 30 2 (.t 28) (.t 29)⟩,
    ⟨none, .fa 31 0 (.t 30)⟩,
    ⟨none, .ld1 32 (.t 31)⟩,
    ⟨none, .mv 33 (.t 0)⟩,
    ⟨none, .mv 34 (.t 6)⟩,
    ⟨none, .ixs 35 2 (.t 33) (.t 34)⟩,
    ⟨none, .fa 36 1 (.t 35)⟩,
    ⟨none, .ld1 37 (.t 36)⟩] [⟨none, .calI (some 38) 15 (.t 27) [(.t 32), (.t 37)]⟩]))) (.scr x17_1))
 (.ops [⟨none, .mv 13 (.t 6)⟩,
  ⟨none, .bin 14 .add .num (.t 13) (.c (.v (.int .i64 1)))⟩,
  ⟨none, .asg 6 (.t 14)⟩])))
def c17 : MF := ⟨(.seq (.ops [⟨none, .asg 2 (.c (.v (.pointer none)))⟩,
   ⟨none, .asg 3 (.c (.v (.pointer none)))⟩])
 (.seq (.ops [⟨none, .call (some 7) 12 []⟩,
   ⟨none, .asg 4 (.t 7)⟩])
 (.seq (.ops [⟨none, .call (some 8) 13 []⟩,
   ⟨none, .asg 5 (.t 8)⟩])
 (.seq (.seq (.ops [⟨none, .asg 6 (.c (.v (.int .i64 0)))⟩])
  (.seq (.blk 0 (.lop b17_0)) (.scr x17_0)))
 (.seq (.ops [⟨none, .mv 39 (.t 4)⟩,
   ⟨none, .mv 40 (.t 5)⟩,
   ⟨none, .asg 2 (.t 39)⟩,
   ⟨none, .asg 3 (.t 40)⟩])
 (.seq (.scr r17) .ret)))))),
  41, [2, 3]⟩

/-- (*coinage/journal.Journal).Bytes -/
abbrev K18 : Nat := 3
def hints18 : List (List Bool) := [bits 10 [2], bits 10 [2]]
@[simp] def r18 : List Bool := bits 10 [2]
@[simp] def R18 (s2 : V) : St := tab 10 3 (fu dd 2 s2) dd
def c18 : MF := ⟨(.seq (.ops [⟨none, .asg 2 (.c (.nd (.sl true 1 0) []))⟩])
 (.seq (.seq (.ops [⟨none, .mv 3 (.t 0)⟩,
    ⟨none, .bin 4 .eql (.nilT true) (.t 3) (.c (.v (.pointer none)))⟩])
  (.cnd (.t 4)
   (.seq (.ops [⟨none, .asg 2 (.c (.nd (.sl true 1 0) []))⟩])
   (.seq (.scr r18) .ret))
   .skip))
 (.seq (.ops [⟨none, .mv 5 (.t 0)⟩,
   ⟨none, .nc 6 (.t 5)⟩,
   ⟨none, .fa 7 0 (.t 6)⟩,
   ⟨none, .ld1 8 (.t 7)⟩,
   ⟨none, .call (some 9) 32 [(.t 8)]⟩,
   ⟨none, .asg 2 (.t 9)⟩])
 (.seq (.scr r18) .ret)))),
  10, [2]⟩

/-- coinage/journal.Open -/
abbrev K19 : Nat := 66
def hints19 : List (List Bool) := [bits 69 [0, 9, 65], bits 69 [2, 3, 4], bits 69 [2, 3, 4], bits 69 [2, 3, 4], bits 69 [0, 5, 6, 9, 25, 26, 65], bits 69 [0, 5, 6, 9, 25, 26, 65], bits 69 [0, 5, 6, 9, 25, 26, 65], bits 69 [0, 5, 6, 9, 25, 26, 65], bits 69 [2, 3, 4]]
@[simp] def r19 : List Bool := bits 69 [2, 3, 4]
@[simp] def R19 (s2 s3 s4 : V) : St := tab 69 66 (fu (fu (fu dd 4 s4) 3 s3) 2 s2) dd
@[simp] def x19_0 : List Bool := bits 69 [0, 9, 65]
@[simp] def X19_0 (s0 s9 s65 : V) : St := tab 69 66 (fu (fu (fu dd 65 s65) 9 s9) 0 s0) dd
@[simp] def x19_1 : List Bool := bits 69 [0, 5, 6, 9, 25, 26, 65]
@[simp] def X19_1 (s0 s5 s6 s9 s25 s26 s65 : V) : St := tab 69 66 (fu (fu (fu (fu (fu (fu (fu dd 65 s65) 26 s26) 25 s25) 9 s9) 6 s6) 5 s5) 0 s0) dd
@[simp] def h19_0 : List Bool := bits 69 [0, 5, 6, 9, 25, 26, 65]
@[simp] def L19_0 (s0 s5 s6 s9 s25 s26 s65 : V) : St := tab 69 66 (fu (fu (fu (fu (fu (fu (fu dd 65 s65) 26 s26) 25 s25) 9 s9) 6 s6) 5 s5) 0 s0) dd
@[simp] def x19_2 : List Bool := bits 69 [0, 5, 6, 9, 25, 26, 65]
@[simp] def X19_2 (s0 s5 s6 s9 s25 s26 s65 : V) : St := tab 69 66 (fu (fu (fu (fu (fu (fu (fu dd 65 s65) 26 s26) 25 s25) 9 s9) 6 s6) 5 s5) 0 s0) dd
def b19_0 : MC := .seq (.scr h19_0)
 (.seq (.blk 2 (.seq (.ops [⟨none, .mv 28 (.t 6)⟩,
    ⟨none, .call (some 29) 34 [(.t 28)]⟩,
    ⟨none, .mv 27 (.t 29)⟩,
    ⟨none, .ext 30 (.t 27) 0⟩,
    ⟨none, .ext 31 (.t 27) 1⟩,
    ⟨none, .ext 32 (.t 27) 2⟩,
    ⟨none, .ext 33 (.t 27) 3⟩,
    ⟨none, .asg 7 (.t 30)⟩,
    ⟨none, .asg 8 (.t 31)⟩,
    ⟨none, .asg 9 (.t 32)⟩,
    ⟨none, .asg 10 (.t 33)⟩])
  (.seq (.seq (.ops [⟨none, .mv 34 (.t 10)⟩,
     ⟨none, .bin 35 .neq .num (.t 34) (.c (.v (.int .i64 0)))⟩])
   (.cnd (.t 35)
    (.seq (.scr x19_1) (.ex 1))
    .skip))
  (.seq (.drw [⟨none, .mv 36 (.t 5)⟩,
    ⟨none, .mv 37 (.t 5)⟩,
    ⟨none, .mv 41 (.t 6)⟩,
    ⟨none, .mv 42 (.t 6)⟩,
    ⟨none, .mv 44 (.t 9)⟩,
    ⟨none, .nc 38 (.t 37)⟩,
    ⟨none, .fa 39 0 (.t 38)⟩,
    ⟨none, .ld1 40 (.t 39)⟩,
    ⟨none, .len 43 false (.t 42)⟩,
    ⟨none, .len 45 false (.t 44)⟩,
    ⟨none, .bin 46 .sub .num (.t 43) (.t 45)⟩,
    ⟨none, .sl 47 1 (.t 41) none (some (.t 46))⟩] [⟨none, .app 48 1 (.t 40) (.t 47)⟩,
    ⟨none, .nc 49 (.t 36)⟩,
    ⟨none, .fa 50 0 (.t 49)⟩,
    ⟨none, .stn none 1 (.t 50) (.t 48)⟩])
  (.seq (.drw [⟨none, .mv 51 (.t 5)⟩,
    ⟨none, .mv 52 (.t 5)⟩,
    ⟨none, .mv 56 (.t 5)⟩,
    ⟨none, .nc 53 (.t 52)⟩,
    ⟨none, .fa 54 1 (.t 53)⟩,
    ⟨none, .ld1 55 (.t 54)⟩,
    ⟨none, .nc 57 (.t 56)⟩,
    ⟨none, .fa 58 0 (.t 57)⟩,
    ⟨none, .ld1 59 (.t 58)⟩,
    ⟨none, .len 60 false (.t 59)⟩,
    ⟨none, .bs 61 1 1 [(.v (.int .i64 0))] [(0, 1, (.t 60))]⟩] [⟨none, .app 62 1 (.t 55) (.t 61)⟩,
    ⟨none, .nc 63 (.t 51)⟩,
    ⟨none, .fa 64 1 (.t 63)⟩,
    ⟨none, .stn none 1 (.t 64) (.t 62)⟩])
  (.ops [⟨none, .mv 65 (.t 9)⟩,
   ⟨none, .asg 6 (.t 65)⟩])))))) (.scr x19_2))
def c19 : MF := ⟨(.seq (.ops [⟨none, .asg 2 (.c (.v (.pointer none)))⟩,
   ⟨none, .asg 3 (.c (.v (.int .i64 0)))⟩,
   ⟨none, .asg 4 (.c (.v (.int .i64 0)))⟩])
 (.seq (.seq (.blk 0 (.seq (.ops [⟨none, .mv 12 (.t 0)⟩,
     ⟨none, .len 13 false (.t 12)⟩,
     ⟨none, .bin 14 .gtr .num (.t 13) (.c (.v (.int .i64 65536)))⟩,
     ⟨none, .asg 11 (.t 14)⟩])
   (.cnd (.t 11)
    (.seq (.ops [⟨none, .asg 2 (.c (.v (.pointer none)))⟩,
      ⟨none, .asg 3 (.c (.v (.int .i64 0)))⟩,
      ⟨none, .asg 4 (.c (.v (.int .i64 6)))⟩])
    (.seq (.scr r19) .ret))
    (.seq (.ops [⟨none, .mv 16 (.t 0)⟩,
      ⟨none, .len 17 false (.t 16)⟩,
      ⟨none, .bin 18 .lss .num (.t 17) (.c (.v (.int .i64 5)))⟩,
      ⟨none, .asg 15 (.t 18)⟩])
    (.cnd (.t 15)
     (.seq (.ops [⟨none, .asg 2 (.c (.v (.pointer none)))⟩,
       ⟨none, .asg 3 (.c (.v (.int .i64 0)))⟩,
       ⟨none, .asg 4 (.c (.v (.int .i64 4)))⟩])
     (.seq (.scr r19) .ret))
     (.seq (.ops [⟨none, .mv 20 (.t 0)⟩,
       ⟨none, .cvs 21 (.t 20)⟩,
       ⟨none, .call (some 22) 33 [(.t 21), (.c (.v (.string ⟨#[67, 79, 73, 78, 49]⟩)))]⟩,
       ⟨none, .un 23 .not (.t 22)⟩,
       ⟨none, .asg 19 (.t 23)⟩])
     (.cnd (.t 19)
      (.seq (.ops [⟨none, .asg 2 (.c (.v (.pointer none)))⟩,
        ⟨none, .asg 3 (.c (.v (.int .i64 0)))⟩,
        ⟨none, .asg 4 (.c (.v (.int .i64 3)))⟩])
      (.seq (.scr r19) .ret))
      .skip))))))) (.scr x19_0))
 (.seq (.ops [⟨none, .call (some 24) 12 []⟩,
   ⟨none, .asg 5 (.t 24)⟩])
 (.seq (.ops [⟨none, .mv 25 (.t 0)⟩,
   ⟨none, .sl 26 1 (.t 25) (some (.c (.v (.int .i64 5)))) none⟩,
   ⟨none, .asg 6 (.t 26)⟩])
 (.seq (.seq (.blk 1 (.lop b19_0)) (.scr x19_1))
 (.seq (.ops [⟨none, .mv 66 (.t 5)⟩,
   ⟨none, .mv 67 (.t 6)⟩,
   ⟨none, .len 68 false (.t 67)⟩,
   ⟨none, .asg 2 (.t 66)⟩,
   ⟨none, .asg 3 (.t 68)⟩,
   ⟨none, .asg 4 (.c (.v (.int .i64 0)))⟩])
 (.seq (.scr r19) .ret))))))),
  69, [2, 3, 4]⟩

/-- coinage/coinageref08.Open -/
abbrev K20 : Nat := 49
def hints20 : List (List Bool) := [bits 49 [2, 3, 4], bits 49 [2, 3, 4], bits 49 [2, 3, 4], bits 49 [2, 3, 4, 5, 33], bits 49 [0, 5, 6, 9, 22, 23, 48], bits 49 [0, 5, 6, 9, 22, 23, 48], bits 49 [2, 3, 4]]
@[simp] def r20 : List Bool := bits 49 [2, 3, 4]
@[simp] def R20 (s2 s3 s4 : V) : St := tab 49 49 (fu (fu (fu dd 4 s4) 3 s3) 2 s2) dd
@[simp] def x20_0 : List Bool := bits 49 [2, 3, 4, 5, 33]
@[simp] def X20_0 (s2 s3 s4 s5 s33 : V) : St := tab 49 49 (fu (fu (fu (fu (fu dd 33 s33) 5 s5) 4 s4) 3 s3) 2 s2) dd
@[simp] def h20_0 : List Bool := bits 49 [0, 5, 6, 9, 22, 23, 48]
@[simp] def L20_0 (s0 s5 s6 s9 s22 s23 s48 : V) : St := tab 49 49 (fu (fu (fu (fu (fu (fu (fu dd 48 s48) 23 s23) 22 s22) 9 s9) 6 s6) 5 s5) 0 s0) dd
@[simp] def x20_1 : List Bool := bits 49 [0, 5, 6, 9, 22, 23, 48]
@[simp] def X20_1 (s0 s5 s6 s9 s22 s23 s48 : V) : St := tab 49 49 (fu (fu (fu (fu (fu (fu (fu dd 48 s48) 23 s23) 22 s22) 9 s9) 6 s6) 5 s5) 0 s0) dd
def b20_0 : MC := .seq (.scr h20_0)
 (.seq (.blk 1 (.seq (.ops [⟨none, .mv 25 (.t 6)⟩,
    ⟨none, .call (some 26) 35 [(.t 25)]⟩,
    ⟨none, .mv 24 (.t 26)⟩,
    ⟨none, .ext 27 (.t 24) 0⟩,
    ⟨none, .ext 28 (.t 24) 1⟩,
    ⟨none, .ext 29 (.t 24) 2⟩,
    ⟨none, .ext 30 (.t 24) 3⟩,
    ⟨none, .asg 7 (.t 27)⟩,
    ⟨none, .asg 8 (.t 28)⟩,
    ⟨none, .asg 9 (.t 29)⟩,
    ⟨none, .asg 10 (.t 30)⟩])
  (.seq (.seq (.ops [⟨none, .mv 31 (.t 10)⟩,
     ⟨none, .bin 32 .neq .num (.t 31) (.c (.v (.int .i64 0)))⟩])
   (.cnd (.t 32)
    (.seq (.ops [⟨none, .mv 33 (.t 5)⟩,
      ⟨none, .mv 34 (.t 6)⟩,
      ⟨none, .len 35 false (.t 34)⟩,
      ⟨none, .asg 2 (.t 33)⟩,
      ⟨none, .asg 3 (.t 35)⟩,
      ⟨none, .asg 4 (.c (.v (.int .i64 0)))⟩])
    (.seq (.scr r20) .ret))
    .skip))
  (.seq (.ops [⟨none, .mv 36 (.t 5)⟩,
    ⟨none, .mv 37 (.t 5)⟩,
    ⟨none, .nc 38 (.t 37)⟩,
    ⟨none, .fa 39 0 (.t 38)⟩,
    ⟨none, .ld1 40 (.t 39)⟩,
    ⟨none, .mv 41 (.t 7)⟩,
    ⟨none, .mv 42 (.t 8)⟩,
    ⟨none, .bld 43 [(.v (.int .u8 0)), (.nd (.sl true 1 0) [])] [(0, 1, (.t 41)), (1, 1, (.t 42))]⟩,
    ⟨none, .bs 44 2 1 [(.v (.int .u8 0)), (.nd (.sl true 1 0) [])] [(0, 2, (.t 43))]⟩,
    ⟨none, .app 45 2 (.t 40) (.t 44)⟩,
    ⟨none, .nc 46 (.t 36)⟩,
    ⟨none, .fa 47 0 (.t 46)⟩,
    ⟨none, .stn none 1 (.t 47) (.t 45)⟩])
  (.ops [⟨none, .mv 48 (.t 9)⟩,
   ⟨none, .asg 6 (.t 48)⟩]))))) (.scr x20_1))
def c20 : MF := ⟨(.seq (.ops [⟨none, .asg 2 (.c (.v (.pointer none)))⟩,
   ⟨none, .asg 3 (.c (.v (.int .i64 0)))⟩,
   ⟨none, .asg 4 (.c (.v (.int .i64 0)))⟩])
 (.seq (.seq (.ops [⟨none, .mv 11 (.t 0)⟩,
    ⟨none, .len 12 false (.t 11)⟩,
    ⟨none, .bin 13 .gtr .num (.t 12) (.c (.v (.int .i64 65536)))⟩])
  (.cnd (.t 13)
   (.seq (.ops [⟨none, .asg 2 (.c (.v (.pointer none)))⟩,
     ⟨none, .asg 3 (.c (.v (.int .i64 0)))⟩,
     ⟨none, .asg 4 (.c (.v (.int .i64 6)))⟩])
   (.seq (.scr r20) .ret))
   .skip))
 (.seq (.seq (.ops [⟨none, .mv 14 (.t 0)⟩,
    ⟨none, .len 15 false (.t 14)⟩,
    ⟨none, .bin 16 .lss .num (.t 15) (.c (.v (.int .i64 5)))⟩])
  (.cnd (.t 16)
   (.seq (.ops [⟨none, .asg 2 (.c (.v (.pointer none)))⟩,
     ⟨none, .asg 3 (.c (.v (.int .i64 0)))⟩,
     ⟨none, .asg 4 (.c (.v (.int .i64 4)))⟩])
   (.seq (.scr r20) .ret))
   .skip))
 (.seq (.seq (.ops [⟨none, .mv 17 (.t 0)⟩,
    ⟨none, .sl 18 1 (.t 17) none (some (.c (.v (.int .i64 5))))⟩,
    ⟨none, .cvs 19 (.t 18)⟩,
    ⟨none, .bin 20 .neq .num (.t 19) (.c (.v (.string ⟨#[67, 79, 73, 78, 49]⟩)))⟩])
  (.cnd (.t 20)
   (.seq (.ops [⟨none, .asg 2 (.c (.v (.pointer none)))⟩,
     ⟨none, .asg 3 (.c (.v (.int .i64 0)))⟩,
     ⟨none, .asg 4 (.c (.v (.int .i64 3)))⟩])
   (.seq (.scr r20) .ret))
   .skip))
 (.seq (.ops [⟨none, .call (some 21) 13 []⟩,
   ⟨none, .asg 5 (.t 21)⟩])
 (.seq (.ops [⟨none, .mv 22 (.t 0)⟩,
   ⟨none, .sl 23 1 (.t 22) (some (.c (.v (.int .i64 5)))) none⟩,
   ⟨none, .asg 6 (.t 23)⟩])
 (.seq (.blk 0 (.lop b20_0)) (.scr x20_0)))))))),
  49, [2, 3, 4]⟩

/-- (*coinage/journal.Journal).Len -/
abbrev K21 : Nat := 3
def hints21 : List (List Bool) := [bits 10 [2], bits 10 [2]]
@[simp] def r21 : List Bool := bits 10 [2]
@[simp] def R21 (s2 : V) : St := tab 10 3 (fu dd 2 s2) dd
def c21 : MF := ⟨(.seq (.ops [⟨none, .asg 2 (.c (.v (.int .i64 0)))⟩])
 (.seq (.seq (.ops [⟨none, .mv 3 (.t 0)⟩,
    ⟨none, .bin 4 .eql (.nilT true) (.t 3) (.c (.v (.pointer none)))⟩])
  (.cnd (.t 4)
   (.seq (.ops [⟨none, .asg 2 (.c (.v (.int .i64 0)))⟩])
   (.seq (.scr r21) .ret))
   .skip))
 (.seq (.ops [⟨none, .mv 5 (.t 0)⟩,
   ⟨none, .nc 6 (.t 5)⟩,
   ⟨none, .fa 7 1 (.t 6)⟩,
   ⟨none, .ld1 8 (.t 7)⟩,
   ⟨none, .len 9 false (.t 8)⟩,
   ⟨none, .asg 2 (.t 9)⟩])
 (.seq (.scr r21) .ret)))),
  10, [2]⟩

/-- coinage/coinagebase.Bytes -/
abbrev K22 : Nat := 5
def hints22 : List (List Bool) := [bits 10 [4]]
@[simp] def r22 : List Bool := bits 10 [4]
@[simp] def R22 (s4 : V) : St := tab 10 5 (fu dd 4 s4) dd
def c22 : MF := ⟨(.seq (.ops [⟨none, .asg 4 (.c (.v (.bool false)))⟩])
 (.seq (.ops [⟨none, .mv 5 (.t 0)⟩,
   ⟨none, .cvs 6 (.t 5)⟩,
   ⟨none, .mv 7 (.t 1)⟩,
   ⟨none, .cvs 8 (.t 7)⟩,
   ⟨none, .bin 9 .eql .num (.t 6) (.t 8)⟩,
   ⟨none, .asg 4 (.t 9)⟩])
 (.seq (.scr r22) .ret))),
  10, [4]⟩

/-- (*coinage/journal.Journal).Cut -/
abbrev K23 : Nat := 9
def hints23 : List (List Bool) := [bits 40 [0, 1], bits 40 [0, 4], bits 40 [0, 4], bits 40 [0, 4]]
@[simp] def r23 : List Bool := bits 40 [0, 4]
@[simp] def R23 (s0 s4 : V) : St := tab 40 9 (fu (fu dd 4 s4) 0 s0) dd
@[simp] def x23_0 : List Bool := bits 40 [0, 1]
@[simp] def X23_0 (s0 s1 : V) : St := tab 40 9 (fu (fu dd 1 s1) 0 s0) dd
def c23 : MF := ⟨(.seq (.ops [⟨none, .asg 4 (.c (.v (.int .i64 0)))⟩])
 (.seq (.seq (.blk 0 (.seq (.ops [⟨none, .mv 6 (.t 0)⟩,
     ⟨none, .bin 7 .eql (.nilT true) (.t 6) (.c (.v (.pointer none)))⟩,
     ⟨none, .asg 5 (.t 7)⟩])
   (.cnd (.t 5)
    (.seq (.ops [⟨none, .asg 4 (.c (.v (.int .i64 1)))⟩])
    (.seq (.scr r23) .ret))
    (.seq (.ops [⟨none, .mv 9 (.t 1)⟩,
      ⟨none, .bin 10 .lss .num (.t 9) (.c (.v (.int .i64 0)))⟩,
      ⟨none, .mv 11 (.t 10)⟩,
      ⟨some (11, false), .mv 12 (.t 1)⟩,
      ⟨some (11, false), .mv 13 (.t 0)⟩,
      ⟨some (11, false), .nc 14 (.t 13)⟩,
      ⟨some (11, false), .fa 15 1 (.t 14)⟩,
      ⟨some (11, false), .ld1 16 (.t 15)⟩,
      ⟨some (11, false), .len 17 false (.t 16)⟩,
      ⟨some (11, false), .bin 18 .gtr .num (.t 12) (.t 17)⟩,
      ⟨none, .pick 19 (.t 11) (.c (.v (.bool true))) (.t 18)⟩,
      ⟨none, .asg 8 (.t 19)⟩])
    (.cnd (.t 8)
     (.seq (.ops [⟨none, .asg 4 (.c (.v (.int .i64 7)))⟩])
     (.seq (.scr r23) .ret))
     .skip))))) (.scr x23_0))
 (.seq (.drw [⟨none, .mv 20 (.t 0)⟩,
   ⟨none, .mv 21 (.t 0)⟩,
   ⟨none, .nc 22 (.t 21)⟩,
   ⟨none, .fa 23 0 (.t 22)⟩,
   ⟨none, .ld1 24 (.t 23)⟩,
   ⟨none, .mv 25 (.t 0)⟩,
   ⟨none, .mv 26 (.t 1)⟩,
   ⟨none, .call (some 27) 36 [(.t 25), (.t 26)]⟩,
   ⟨none, .sl 28 1 (.t 24) none (some (.t 27))⟩] [⟨none, .nc 29 (.t 20)⟩,
   ⟨none, .fa 30 0 (.t 29)⟩,
   ⟨none, .stn none 1 (.t 30) (.t 28)⟩])
 (.seq (.ops [⟨none, .mv 31 (.t 0)⟩,
   ⟨none, .mv 32 (.t 0)⟩,
   ⟨none, .nc 33 (.t 32)⟩,
   ⟨none, .fa 34 1 (.t 33)⟩,
   ⟨none, .ld1 35 (.t 34)⟩,
   ⟨none, .mv 36 (.t 1)⟩,
   ⟨none, .sl 37 1 (.t 35) none (some (.t 36))⟩,
   ⟨none, .nc 38 (.t 31)⟩,
   ⟨none, .fa 39 1 (.t 38)⟩,
   ⟨none, .stn none 1 (.t 39) (.t 37)⟩])
 (.seq (.ops [⟨none, .asg 4 (.c (.v (.int .i64 0)))⟩])
 (.seq (.scr r23) .ret)))))),
  40, [4]⟩

/-- (*coinage/coinageref08.Journal).Cut -/
abbrev K24 : Nat := 5
def hints24 : List (List Bool) := [bits 29 [0, 4], bits 29 [0, 4], bits 29 [0, 4]]
@[simp] def r24 : List Bool := bits 29 [0, 4]
@[simp] def R24 (s0 s4 : V) : St := tab 29 5 (fu (fu dd 4 s4) 0 s0) dd
def c24 : MF := ⟨(.seq (.ops [⟨none, .asg 4 (.c (.v (.int .i64 0)))⟩])
 (.seq (.seq (.ops [⟨none, .mv 5 (.t 0)⟩,
    ⟨none, .bin 6 .eql (.nilT true) (.t 5) (.c (.v (.pointer none)))⟩])
  (.cnd (.t 6)
   (.seq (.ops [⟨none, .asg 4 (.c (.v (.int .i64 1)))⟩])
   (.seq (.scr r24) .ret))
   .skip))
 (.seq (.seq (.ops [⟨none, .mv 7 (.t 1)⟩,
    ⟨none, .bin 8 .lss .num (.t 7) (.c (.v (.int .i64 0)))⟩,
    ⟨none, .mv 9 (.t 8)⟩,
    ⟨some (9, false), .mv 10 (.t 1)⟩,
    ⟨some (9, false), .mv 11 (.t 0)⟩,
    ⟨some (9, false), .nc 12 (.t 11)⟩,
    ⟨some (9, false), .fa 13 0 (.t 12)⟩,
    ⟨some (9, false), .ld1 14 (.t 13)⟩,
    ⟨some (9, false), .len 15 false (.t 14)⟩,
    ⟨some (9, false), .bin 16 .gtr .num (.t 10) (.t 15)⟩,
    ⟨none, .pick 17 (.t 9) (.c (.v (.bool true))) (.t 16)⟩])
  (.cnd (.t 17)
   (.seq (.ops [⟨none, .asg 4 (.c (.v (.int .i64 7)))⟩])
   (.seq (.scr r24) .ret))
   .skip))
 (.seq (.ops [⟨none, .mv 18 (.t 0)⟩,
   ⟨none, .mz 19 2⟩,
   ⟨none, .mv 20 (.t 0)⟩,
   ⟨none, .nc 21 (.t 20)⟩,
   ⟨none, .fa 22 0 (.t 21)⟩,
   ⟨none, .ld1 23 (.t 22)⟩,
   ⟨none, .mv 24 (.t 1)⟩,
   ⟨none, .sl 25 2 (.t 23) none (some (.t 24))⟩,
   ⟨none, .app 26 2 (.t 19) (.t 25)⟩,
   ⟨none, .nc 27 (.t 18)⟩,
   ⟨none, .fa 28 0 (.t 27)⟩,
   ⟨none, .stn none 1 (.t 28) (.t 26)⟩])
 (.seq (.ops [⟨none, .asg 4 (.c (.v (.int .i64 0)))⟩])
 (.seq (.scr r24) .ret)))))),
  29, [4]⟩

/-- (*coinage/journal.Journal).Clone -/
abbrev K25 : Nat := 3
def hints25 : List (List Bool) := [bits 17 [2], bits 17 [2]]
@[simp] def r25 : List Bool := bits 17 [2]
@[simp] def R25 (s2 : V) : St := tab 17 3 (fu dd 2 s2) dd
def c25 : MF := ⟨(.seq (.ops [⟨none, .asg 2 (.c (.v (.pointer none)))⟩])
 (.seq (.seq (.ops [⟨none, .mv 3 (.t 0)⟩,
    ⟨none, .bin 4 .eql (.nilT true) (.t 3) (.c (.v (.pointer none)))⟩])
  (.cnd (.t 4)
   (.seq (.ops [⟨none, .asg 2 (.c (.v (.pointer none)))⟩])
   (.seq (.scr r25) .ret))
   .skip))
 (.seq (.drw [⟨none, .mv 5 (.t 0)⟩,
   ⟨none, .nc 6 (.t 5)⟩,
   ⟨none, .fa 7 0 (.t 6)⟩,
   ⟨none, .ld1 8 (.t 7)⟩,
   ⟨none, .call (some 9) 32 [(.t 8)]⟩,
   ⟨none, .mv 10 (.t 0)⟩,
   ⟨none, .nc 11 (.t 10)⟩,
   ⟨none, .fa 12 1 (.t 11)⟩,
   ⟨none, .ld1 13 (.t 12)⟩] [⟨none, .call (some 14) 37 [(.t 13)]⟩,
   ⟨none, .bld 15 [(.nd (.sl true 1 0) []), (.nd (.sl true 1 0) [])] [(0, 1, (.t 9)), (1, 1, (.t 14))]⟩,
   ⟨none, .box 16 (.t 15)⟩,
   ⟨none, .asg 2 (.t 16)⟩])
 (.seq (.scr r25) .ret)))),
  17, [2]⟩

/-- (*coinage/journal.Journal).Entry -/
abbrev K26 : Nat := 15
def hints26 : List (List Bool) := [bits 50 [0, 1], bits 50 [4, 5, 6], bits 50 [4, 5, 6], bits 50 [4, 5, 6]]
@[simp] def r26 : List Bool := bits 50 [4, 5, 6]
@[simp] def R26 (s4 s5 s6 : V) : St := tab 50 15 (fu (fu (fu dd 6 s6) 5 s5) 4 s4) dd
@[simp] def x26_0 : List Bool := bits 50 [0, 1]
@[simp] def X26_0 (s0 s1 : V) : St := tab 50 15 (fu (fu dd 1 s1) 0 s0) dd
def c26 : MF := ⟨(.seq (.ops [⟨none, .asg 4 (.c (.v (.int .u8 0)))⟩,
   ⟨none, .asg 5 (.c (.nd (.sl true 1 0) []))⟩,
   ⟨none, .asg 6 (.c (.v (.int .i64 0)))⟩])
 (.seq (.seq (.blk 0 (.seq (.ops [⟨none, .mv 12 (.t 0)⟩,
     ⟨none, .bin 13 .eql (.nilT true) (.t 12) (.c (.v (.pointer none)))⟩,
     ⟨none, .asg 11 (.t 13)⟩])
   (.cnd (.t 11)
    (.seq (.ops [⟨none, .asg 4 (.c (.v (.int .u8 0)))⟩,
      ⟨none, .asg 5 (.c (.nd (.sl true 1 0) []))⟩,
      ⟨none, .asg 6 (.c (.v (.int .i64 1)))⟩])
    (.seq (.scr r26) .ret))
    (.seq (.ops [⟨none, .mv 15 (.t 1)⟩,
      ⟨none, .bin 16 .lss .num (.t 15) (.c (.v (.int .i64 0)))⟩,
      ⟨none, .mv 17 (.t 16)⟩,
      ⟨some (17, false), .mv 18 (.t 1)⟩,
      ⟨some (17, false), .mv 19 (.t 0)⟩,
      ⟨some (17, false), .nc 20 (.t 19)⟩,
      ⟨some (17, false), .fa 21 1 (.t 20)⟩,
      ⟨some (17, false), .ld1 22 (.t 21)⟩,
      ⟨some (17, false), .len 23 false (.t 22)⟩,
      ⟨some (17, false), .bin 24 .geq .num (.t 18) (.t 23)⟩,
      ⟨none, .pick 25 (.t 17) (.c (.v (.bool true))) (.t 24)⟩,
      ⟨none, .asg 14 (.t 25)⟩])
    (.cnd (.t 14)
     (.seq (.ops [⟨none, .asg 4 (.c (.v (.int .u8 0)))⟩,
       ⟨none, .asg 5 (.c (.nd (.sl true 1 0) []))⟩,
       ⟨none, .asg 6 (.c (.v (.int .i64 7)))⟩])
     (.seq (.scr r26) .ret))
     .skip))))) (.scr x26_0))
 (.seq (.drw (⟨none, .mv 27 (.t 0)⟩ ::
   ⟨none, .nc 28 (.t 27)⟩ ::
   ⟨none, .fa 29 0 (.t 28)⟩ ::
   ⟨none, .ld1 30 (.t 29)⟩ ::
   ⟨none, .mv 31 (.t 0)⟩ ::
   ⟨none, .mv 32 (.t 1)⟩ ::
   ⟨none, .call (some 33) 36 [(.t 31), (.t 32)]⟩ ::
   ⟨none, .mv 34 (.t 0)⟩ ::
   ⟨none, .nc 35 (.t 34)⟩ ::
   ⟨none, .fa 36 1 (.t 35)⟩ ::
   ⟨none, .ld1 37 (.t 36)⟩ ::
   ⟨none, .mv 38 (.t 1)⟩ ::
   ⟨none, .ixs 39 1 (.t 37) (.t 38)⟩ ::
   ⟨none, .ld1 40 (.t 39)⟩ ::
   ⟨none, .sl 41 1 (.t 30) (some (.t 33)) (some (.t 40))⟩ ::
   ⟨none, .call (some 42) 32 [(.t 41)]⟩ ::
   ⟨none, .call (some 43) 34 [(.t 42)]⟩ ::
   ⟨none, .mv 26 (.t 43)⟩ ::
   ⟨none, .exb 44 (.t 26) 0⟩ ::
   ⟨none, .exb 45 (.t 26) 1⟩ ::
   ⟨none, .exb 46 (.t 26) 2⟩ ::
   ⟨none, .exb 47 (.t 26) 3⟩ ::
   ⟨none, .mv 7 (.t 44)⟩ ::
   ⟨none, .mv 8 (.t 45)⟩ ::
   ⟨none, .mv 9 (.t 46)⟩ :: []) [⟨none, .asg 10 (.t 47)⟩,
   ⟨none, .asg 7 (.t 7)⟩,
   ⟨none, .asg 8 (.t 8)⟩,
   ⟨none, .asg 9 (.t 9)⟩])
 (.seq (.ops [⟨none, .mv 48 (.t 7)⟩,
   ⟨none, .mv 49 (.t 8)⟩,
   ⟨none, .asg 4 (.t 48)⟩,
   ⟨none, .asg 5 (.t 49)⟩,
   ⟨none, .asg 6 (.c (.v (.int .i64 0)))⟩])
 (.seq (.scr r26) .ret))))),
  50, [4, 5, 6]⟩

/-- coinage/frame.Seal -/
abbrev K27 : Nat := 8
def hints27 : List (List Bool) := [bits 30 [4, 5], bits 30 [4, 5]]
@[simp] def r27 : List Bool := bits 30 [4, 5]
@[simp] def R27 (s4 s5 : V) : St := tab 30 8 (fu (fu dd 5 s5) 4 s4) dd
def c27 : MF := ⟨(.seq (.ops [⟨none, .asg 4 (.c (.nd (.sl true 1 0) []))⟩,
   ⟨none, .asg 5 (.c (.v (.int .i64 0)))⟩])
 (.seq (.ops [⟨none, .mv 8 (.t 1)⟩,
   ⟨none, .len 9 false (.t 8)⟩,
   ⟨none, .asg 6 (.t 9)⟩])
 (.seq (.seq (.ops [⟨none, .mv 10 (.t 6)⟩,
    ⟨none, .bin 11 .gtr .num (.t 10) (.c (.v (.int .i64 8192)))⟩])
  (.cnd (.t 11)
   (.seq (.ops [⟨none, .asg 4 (.c (.nd (.sl true 1 0) []))⟩,
     ⟨none, .asg 5 (.c (.v (.int .i64 6)))⟩])
   (.seq (.scr r27) .ret))
   .skip))
 (.seq (.ops [⟨none, .mv 12 (.t 0)⟩,
   ⟨none, .mv 13 (.t 6)⟩,
   ⟨none, .bin 14 .shr .num (.t 13) (.c (.v (.int .u64 16)))⟩,
   ⟨none, .cvi 15 .u8 (.t 14)⟩,
   ⟨none, .mv 16 (.t 6)⟩,
   ⟨none, .bin 17 .shr .num (.t 16) (.c (.v (.int .u64 8)))⟩,
   ⟨none, .cvi 18 .u8 (.t 17)⟩,
   ⟨none, .mv 19 (.t 6)⟩,
   ⟨none, .cvi 20 .u8 (.t 19)⟩,
   ⟨none, .bs 21 1 5 [(.v (.int .u8 0))] [(0, 1, (.c (.v (.int .u8 209)))), (1, 1, (.t 12)), (2, 1, (.t 15)), (3, 1, (.t 18)), (4, 1, (.t 20))]⟩,
   ⟨none, .mv 22 (.t 1)⟩,
   ⟨none, .app 23 1 (.t 21) (.t 22)⟩,
   ⟨none, .asg 7 (.t 23)⟩])
 (.seq (.ops [⟨none, .mv 24 (.t 7)⟩,
   ⟨none, .mv 25 (.t 7)⟩,
   ⟨none, .call (some 26) 39 [(.t 25)]⟩,
   ⟨none, .cvi 27 .u64 (.t 26)⟩,
   ⟨none, .call (some 28) 38 [(.t 27), (.c (.v (.int .i64 4)))]⟩,
   ⟨none, .app 29 1 (.t 24) (.t 28)⟩,
   ⟨none, .asg 4 (.t 29)⟩,
   ⟨none, .asg 5 (.c (.v (.int .i64 0)))⟩])
 (.seq (.scr r27) .ret)))))),
  30, [4, 5]⟩

/-- coinage/coinageref07.Seal -/
abbrev K28 : Nat := 7
def hints28 : List (List Bool) := [bits 26 [4, 5], bits 26 [4, 5]]
@[simp] def r28 : List Bool := bits 26 [4, 5]
@[simp] def R28 (s4 s5 : V) : St := tab 26 7 (fu (fu dd 5 s5) 4 s4) dd
def c28 : MF := ⟨(.seq (.ops [⟨none, .asg 4 (.c (.nd (.sl true 1 0) []))⟩,
   ⟨none, .asg 5 (.c (.v (.int .i64 0)))⟩])
 (.seq (.seq (.ops [⟨none, .mv 7 (.t 1)⟩,
    ⟨none, .len 8 false (.t 7)⟩,
    ⟨none, .bin 9 .gtr .num (.t 8) (.c (.v (.int .i64 8192)))⟩])
  (.cnd (.t 9)
   (.seq (.ops [⟨none, .asg 4 (.c (.nd (.sl true 1 0) []))⟩,
     ⟨none, .asg 5 (.c (.v (.int .i64 6)))⟩])
   (.seq (.scr r28) .ret))
   .skip))
 (.seq (.ops [⟨none, .mv 10 (.t 0)⟩,
   ⟨none, .bs 11 1 2 [(.v (.int .u8 0))] [(0, 1, (.c (.v (.int .u8 209)))), (1, 1, (.t 10))]⟩,
   ⟨none, .mv 12 (.t 1)⟩,
   ⟨none, .len 13 false (.t 12)⟩,
   ⟨none, .cvi 14 .u64 (.t 13)⟩,
   ⟨none, .call (some 15) 40 [(.t 14), (.c (.v (.int .i64 3)))]⟩,
   ⟨none, .app 16 1 (.t 11) (.t 15)⟩,
   ⟨none, .asg 6 (.t 16)⟩])
 (.seq (.ops [⟨none, .mv 17 (.t 6)⟩,
   ⟨none, .mv 18 (.t 1)⟩,
   ⟨none, .app 19 1 (.t 17) (.t 18)⟩,
   ⟨none, .asg 6 (.t 19)⟩])
 (.seq (.ops [⟨none, .mv 20 (.t 6)⟩,
   ⟨none, .mv 21 (.t 6)⟩,
   ⟨none, .call (some 22) 41 [(.t 21)]⟩,
   ⟨none, .cvi 23 .u64 (.t 22)⟩,
   ⟨none, .call (some 24) 40 [(.t 23), (.c (.v (.int .i64 4)))]⟩,
   ⟨none, .app 25 1 (.t 20) (.t 24)⟩,
   ⟨none, .asg 4 (.t 25)⟩,
   ⟨none, .asg 5 (.c (.v (.int .i64 0)))⟩])
 (.seq (.scr r28) .ret)))))),
  26, [4, 5]⟩

/-- (*coinage/coinageref08.Journal).Bytes -/
abbrev K29 : Nat := 11
def hints29 : List (List Bool) := [bits 44 [2], bits 44 [3, 10], bits 44 [0, 3, 4, 10], bits 44 [3, 10], bits 44 [0, 3, 4, 10], bits 44 [2]]
@[simp] def r29 : List Bool := bits 44 [2]
@[simp] def R29 (s2 : V) : St := tab 44 11 (fu dd 2 s2) dd
@[simp] def x29_0 : List Bool := bits 44 [3, 10]
@[simp] def X29_0 (s3 s10 : V) : St := tab 44 11 (fu (fu dd 10 s10) 3 s3) dd
@[simp] def h29_0 : List Bool := bits 44 [0, 3, 4, 10]
@[simp] def L29_0 (s0 s3 s4 s10 : V) : St := tab 44 11 (fu (fu (fu (fu dd 10 s10) 4 s4) 3 s3) 0 s0) dd
@[simp] def x29_1 : List Bool := bits 44 [0, 3, 4, 10]
@[simp] def X29_1 (s0 s3 s4 s10 : V) : St := tab 44 11 (fu (fu (fu (fu dd 10 s10) 4 s4) 3 s3) 0 s0) dd
def b29_0 : MC := .seq (.scr h29_0)
 (.seq (.seq (.ops [⟨none, .mv 11 (.t 4)⟩,
    ⟨none, .mv 12 (.t 0)⟩,
    ⟨none, .nc 13 (.t 12)⟩,
    ⟨none, .fa 14 0 (.t 13)⟩,
    ⟨none, .ld1 15 (.t 14)⟩,
    ⟨none, .len 16 false (.t 15)⟩,
    ⟨none, .bin 17 .lss .num (.t 11) (.t 16)⟩])
  (.cnd (.t 17)
   .skip
   (.seq (.scr x29_0) (.ex 0))))
 (.seq (.seq (.blk 1 (.seq (.drw (⟨none, .mv 21 (.t 0)⟩ ::
     ⟨none, .nc 22 (.t 21)⟩ ::
     ⟨none, .fa 23 0 (.t 22)⟩ ::
     ⟨none, .ld1 24 (.t 23)⟩ ::
     ⟨none, .mv 25 (.t 4)⟩ ::
     ⟨none, .ixs 26 2 (.t 24) (.t 25)⟩ ::
     ⟨none, .fa 27 0 (.t 26)⟩ ::
     ⟨none, .ld1 28 (.t 27)⟩ ::
     ⟨none, .mv 29 (.t 0)⟩ ::
     ⟨none, .nc 30 (.t 29)⟩ ::
     ⟨none, .fa 31 0 (.t 30)⟩ ::
     ⟨none, .ld1 32 (.t 31)⟩ ::
     ⟨none, .mv 33 (.t 4)⟩ ::
     ⟨none, .ixs 34 2 (.t 32) (.t 33)⟩ ::
     ⟨none, .fa 35 1 (.t 34)⟩ ::
     ⟨none, .ld1 36 (.t 35)⟩ ::
     ⟨none, .call (some 37) 28 [(.t 28), (.t 36)]⟩ ::
     ⟨none, .mv 20 (.t 37)⟩ ::
     ⟨none, .exb 38 (.t 20) 0⟩ ::
     ⟨none, .exb 39 (.t 20) 1⟩ ::
     ⟨none, .mv 5 (.t 38)⟩ :: []) [⟨none, .asg 6 (.t 39)⟩,
     ⟨none, .asg 5 (.t 5)⟩])
   (.ops [⟨none, .mv 40 (.t 3)⟩,
    ⟨none, .mv 41 (.t 5)⟩,
    ⟨none, .app 42 1 (.t 40) (.t 41)⟩,
    ⟨none, .asg 3 (.t 42)⟩]))) (.scr x29_1))
 (.ops [⟨none, .mv 18 (.t 4)⟩,
  ⟨none, .bin 19 .add .num (.t 18) (.c (.v (.int .i64 1)))⟩,
  ⟨none, .asg 4 (.t 19)⟩])))
def c29 : MF := ⟨(.seq (.ops [⟨none, .asg 2 (.c (.nd (.sl true 1 0) []))⟩])
 (.seq (.seq (.ops [⟨none, .mv 7 (.t 0)⟩,
    ⟨none, .bin 8 .eql (.nilT true) (.t 7) (.c (.v (.pointer none)))⟩])
  (.cnd (.t 8)
   (.seq (.ops [⟨none, .asg 2 (.c (.nd (.sl true 1 0) []))⟩])
   (.seq (.scr r29) .ret))
   .skip))
 (.seq (.ops [⟨none, .bs 9 1 5 [(.v (.int .u8 0))] [(0, 1, (.c (.v (.int .u8 67)))), (1, 1, (.c (.v (.int .u8 79)))), (2, 1, (.c (.v (.int .u8 73)))), (3, 1, (.c (.v (.int .u8 78)))), (4, 1, (.c (.v (.int .u8 49))))]⟩,
   ⟨none, .cvm 10 (.t 9)⟩,
   ⟨none, .asg 3 (.t 10)⟩])
 (.seq (.seq (.ops [⟨none, .asg 4 (.c (.v (.int .i64 0)))⟩])
  (.seq (.blk 0 (.lop b29_0)) (.scr x29_0)))
 (.seq (.ops [⟨none, .mv 43 (.t 3)⟩,
   ⟨none, .asg 2 (.t 43)⟩])
 (.seq (.scr r29) .ret)))))),
  44, [2]⟩

/-- (*coinage/coinageref08.Journal).Len -/
abbrev K30 : Nat := 3
def hints30 : List (List Bool) := [bits 10 [2], bits 10 [2]]
@[simp] def r30 : List Bool := bits 10 [2]
@[simp] def R30 (s2 : V) : St := tab 10 3 (fu dd 2 s2) dd
def c30 : MF := ⟨(.seq (.ops [⟨none, .asg 2 (.c (.v (.int .i64 0)))⟩])
 (.seq (.seq (.ops [⟨none, .mv 3 (.t 0)⟩,
    ⟨none, .bin 4 .eql (.nilT true) (.t 3) (.c (.v (.pointer none)))⟩])
  (.cnd (.t 4)
   (.seq (.ops [⟨none, .asg 2 (.c (.v (.int .i64 0)))⟩])
   (.seq (.scr r30) .ret))
   .skip))
 (.seq (.ops [⟨none, .mv 5 (.t 0)⟩,
   ⟨none, .nc 6 (.t 5)⟩,
   ⟨none, .fa 7 0 (.t 6)⟩,
   ⟨none, .ld1 8 (.t 7)⟩,
   ⟨none, .len 9 false (.t 8)⟩,
   ⟨none, .asg 2 (.t 9)⟩])
 (.seq (.scr r30) .ret)))),
  10, [2]⟩

/-- (*coinage/coinageref08.Journal).Entry -/
abbrev K31 : Nat := 7
def hints31 : List (List Bool) := [bits 38 [4, 5, 6], bits 38 [4, 5, 6], bits 38 [4, 5, 6]]
@[simp] def r31 : List Bool := bits 38 [4, 5, 6]
@[simp] def R31 (s4 s5 s6 : V) : St := tab 38 7 (fu (fu (fu dd 6 s6) 5 s5) 4 s4) dd
def c31 : MF := ⟨(.seq (.ops [⟨none, .asg 4 (.c (.v (.int .u8 0)))⟩,
   ⟨none, .asg 5 (.c (.nd (.sl true 1 0) []))⟩,
   ⟨none, .asg 6 (.c (.v (.int .i64 0)))⟩])
 (.seq (.seq (.ops [⟨none, .mv 7 (.t 0)⟩,
    ⟨none, .bin 8 .eql (.nilT true) (.t 7) (.c (.v (.pointer none)))⟩])
  (.cnd (.t 8)
   (.seq (.ops [⟨none, .asg 4 (.c (.v (.int .u8 0)))⟩,
     ⟨none, .asg 5 (.c (.nd (.sl true 1 0) []))⟩,
     ⟨none, .asg 6 (.c (.v (.int .i64 1)))⟩])
   (.seq (.scr r31) .ret))
   .skip))
 (.seq (.seq (.ops [⟨none, .mv 9 (.t 1)⟩,
    ⟨none, .bin 10 .lss .num (.t 9) (.c (.v (.int .i64 0)))⟩,
    ⟨none, .mv 11 (.t 10)⟩,
    ⟨some (11, false), .mv 12 (.t 1)⟩,
    ⟨some (11, false), .mv 13 (.t 0)⟩,
    ⟨some (11, false), .nc 14 (.t 13)⟩,
    ⟨some (11, false), .fa 15 0 (.t 14)⟩,
    ⟨some (11, false), .ld1 16 (.t 15)⟩,
    ⟨some (11, false), .len 17 false (.t 16)⟩,
    ⟨some (11, false), .bin 18 .geq .num (.t 12) (.t 17)⟩,
    ⟨none, .pick 19 (.t 11) (.c (.v (.bool true))) (.t 18)⟩])
  (.cnd (.t 19)
   (.seq (.ops [⟨none, .asg 4 (.c (.v (.int .u8 0)))⟩,
     ⟨none, .asg 5 (.c (.nd (.sl true 1 0) []))⟩,
     ⟨none, .asg 6 (.c (.v (.int .i64 7)))⟩])
   (.seq (.scr r31) .ret))
   .skip))
 (.seq (.drw (⟨none, .mv 20 (.t 0)⟩ ::
   ⟨none, .nc 21 (.t 20)⟩ ::
   ⟨none, .fa 22 0 (.t 21)⟩ ::
   ⟨none, .ld1 23 (.t 22)⟩ ::
   ⟨none, .mv 24 (.t 1)⟩ ::
   ⟨none, .ixs 25 2 (.t 23) (.t 24)⟩ ::
   ⟨none, .fa 26 0 (.t 25)⟩ ::
   ⟨none, .ld1 27 (.t 26)⟩ ::
   ⟨none, .mz 28 1⟩ ::
   ⟨none, .mv 29 (.t 0)⟩ ::
   ⟨none, .nc 30 (.t 29)⟩ ::
   ⟨none, .fa 31 0 (.t 30)⟩ ::
   ⟨none, .ld1 32 (.t 31)⟩ ::
   ⟨none, .mv 33 (.t 1)⟩ ::
   ⟨none, .ixs 34 2 (.t 32) (.t 33)⟩ ::
   ⟨none, .fa 35 1 (.t 34)⟩ ::
   ⟨none, .ld1 36 (.t 35)⟩ ::
   ⟨none, .app 37 1 (.t 28) (.t 36)⟩ :: []) [⟨none, .asg 4 (.t 27)⟩,
   ⟨none, .asg 5 (.t 37)⟩,
   ⟨none, .asg 6 (.c (.v (.int .i64 0)))⟩])
 (.seq (.scr r31) .ret))))),
  38, [4, 5, 6]⟩

/-- slices.Clone[[]byte,byte] -/
abbrev K32 : Nat := 3
def hints32 : List (List Bool) := [bits 8 [2], bits 8 [2]]
@[simp] def r32 : List Bool := bits 8 [2]
@[simp] def R32 (s2 : V) : St := tab 8 3 (fu dd 2 s2) dd
def c32 : MF := ⟨(.seq (.ops [⟨none, .asg 2 (.c (.nd (.sl true 1 0) []))⟩])
 (.seq (.seq (.ops [⟨none, .mv 3 (.t 0)⟩,
    ⟨none, .bin 4 .eql (.nilT false) (.t 3) (.c (.nd (.sl true 0 0) []))⟩])
  (.cnd (.t 4)
   (.seq (.ops [⟨none, .asg 2 (.c (.nd (.sl true 1 0) []))⟩])
   (.seq (.scr r32) .ret))
   .skip))
 (.seq (.ops [⟨none, .mz 5 1⟩,
   ⟨none, .mv 6 (.t 0)⟩,
   ⟨none, .app 7 1 (.t 5) (.t 6)⟩,
   ⟨none, .asg 2 (.t 7)⟩])
 (.seq (.scr r32) .ret)))),
  8, [2]⟩

/-- strings.HasPrefix -/
abbrev K33 : Nat := 5
def hints33 : List (List Bool) := [bits 8 [4]]
@[simp] def r33 : List Bool := bits 8 [4]
@[simp] def R33 (s4 : V) : St := tab 8 5 (fu dd 4 s4) dd
def c33 : MF := ⟨(.seq (.ops [⟨none, .asg 4 (.c (.v (.bool false)))⟩])
 (.seq (.ops [⟨none, .mv 5 (.t 0)⟩,
   ⟨none, .mv 6 (.t 1)⟩,
   ⟨none, .call (some 7) 42 [(.t 5), (.t 6)]⟩,
   ⟨none, .asg 4 (.t 7)⟩])
 (.seq (.scr r33) .ret))),
  8, [4]⟩

/-- coinage/frame.Open -/
abbrev K34 : Nat := 47
def hints34 : List (List Bool) := [bits 76 [0], bits 76 [2, 3, 4, 5], bits 76 [2, 3, 4, 5], bits 76 [2, 3, 4, 5], bits 76 [0, 6], bits 76 [2, 3, 4, 5], bits 76 [2, 3, 4, 5], bits 76 [2, 3, 4, 5], bits 76 [2, 3, 4, 5]]
@[simp] def r34 : List Bool := bits 76 [2, 3, 4, 5]
@[simp] def R34 (s2 s3 s4 s5 : V) : St := tab 76 47 (fu (fu (fu (fu dd 5 s5) 4 s4) 3 s3) 2 s2) dd
@[simp] def x34_0 : List Bool := bits 76 [0]
@[simp] def X34_0 (s0 : V) : St := tab 76 47 (fu dd 0 s0) dd
@[simp] def x34_1 : List Bool := bits 76 [0, 6]
@[simp] def X34_1 (s0 s6 : V) : St := tab 76 47 (fu (fu dd 6 s6) 0 s0) dd
def c34 : MF := ⟨(.seq (.ops [⟨none, .asg 2 (.c (.v (.int .u8 0)))⟩,
   ⟨none, .asg 3 (.c (.nd (.sl true 1 0) []))⟩,
   ⟨none, .asg 4 (.c (.nd (.sl true 1 0) []))⟩,
   ⟨none, .asg 5 (.c (.v (.int .i64 0)))⟩])
 (.seq (.seq (.blk 0 (.seq (.ops [⟨none, .mv 8 (.t 0)⟩,
     ⟨none, .len 9 false (.t 8)⟩,
     ⟨none, .bin 10 .eql .num (.t 9) (.c (.v (.int .i64 0)))⟩,
     ⟨none, .asg 7 (.t 10)⟩])
   (.cnd (.t 7)
    (.seq (.ops [⟨none, .asg 2 (.c (.v (.int .u8 0)))⟩,
      ⟨none, .asg 3 (.c (.nd (.sl true 1 0) []))⟩,
      ⟨none, .asg 4 (.c (.nd (.sl true 1 0) []))⟩,
      ⟨none, .asg 5 (.c (.v (.int .i64 4)))⟩])
    (.seq (.scr r34) .ret))
    (.seq (.ops [⟨none, .mv 12 (.t 0)⟩,
      ⟨none, .ixs 13 1 (.t 12) (.c (.v (.int .i64 0)))⟩,
      ⟨none, .ld1 14 (.t 13)⟩,
      ⟨none, .bin 15 .neq .num (.t 14) (.c (.v (.int .u8 209)))⟩,
      ⟨none, .asg 11 (.t 15)⟩])
    (.cnd (.t 11)
     (.seq (.ops [⟨none, .asg 2 (.c (.v (.int .u8 0)))⟩,
       ⟨none, .asg 3 (.c (.nd (.sl true 1 0) []))⟩,
       ⟨none, .asg 4 (.c (.nd (.sl true 1 0) []))⟩,
       ⟨none, .asg 5 (.c (.v (.int .i64 3)))⟩])
     (.seq (.scr r34) .ret))
     (.seq (.ops [⟨none, .mv 17 (.t 0)⟩,
       ⟨none, .len 18 false (.t 17)⟩,
       ⟨none, .bin 19 .lss .num (.t 18) (.c (.v (.int .i64 5)))⟩,
       ⟨none, .asg 16 (.t 19)⟩])
     (.cnd (.t 16)
      (.seq (.ops [⟨none, .asg 2 (.c (.v (.int .u8 0)))⟩,
        ⟨none, .asg 3 (.c (.nd (.sl true 1 0) []))⟩,
        ⟨none, .asg 4 (.c (.nd (.sl true 1 0) []))⟩,
        ⟨none, .asg 5 (.c (.v (.int .i64 4)))⟩])
      (.seq (.scr r34) .ret))
      .skip))))))) (.scr x34_0))
 (.seq (.drw [⟨none, .mv 20 (.t 0)⟩,
   ⟨none, .ixs 21 1 (.t 20) (.c (.v (.int .i64 2)))⟩,
   ⟨none, .ld1 22 (.t 21)⟩,
   ⟨none, .cvi 23 .i64 (.t 22)⟩,
   ⟨none, .bin 24 .shl .num (.t 23) (.c (.v (.int .u64 16)))⟩,
   ⟨none, .mv 25 (.t 0)⟩,
   ⟨none, .ixs 26 1 (.t 25) (.c (.v (.int .i64 3)))⟩,
   ⟨none, .ld1 27 (.t 26)⟩,
   ⟨none, .cvi 28 .i64 (.t 27)⟩,
   ⟨none, .bin 29 .shl .num (.t 28) (.c (.v (.int .u64 8)))⟩,
   ⟨none, .bin 30 .or .num (.t 24) (.t 29)⟩,
   ⟨none, .mv 31 (.t 0)⟩,
   ⟨none, .ixs 32 1 (.t 31) (.c (.v (.int .i64 4)))⟩,
   ⟨none, .ld1 33 (.t 32)⟩,
   ⟨none, .cvi 34 .i64 (.t 33)⟩] [⟨none, .bin 35 .or .num (.t 30) (.t 34)⟩,
   ⟨none, .asg 6 (.t 35)⟩])
 (.seq (.seq (.blk 1 (.seq (.ops [⟨none, .mv 37 (.t 6)⟩,
     ⟨none, .bin 38 .gtr .num (.t 37) (.c (.v (.int .i64 8192)))⟩,
     ⟨none, .asg 36 (.t 38)⟩])
   (.cnd (.t 36)
    (.seq (.ops [⟨none, .asg 2 (.c (.v (.int .u8 0)))⟩,
      ⟨none, .asg 3 (.c (.nd (.sl true 1 0) []))⟩,
      ⟨none, .asg 4 (.c (.nd (.sl true 1 0) []))⟩,
      ⟨none, .asg 5 (.c (.v (.int .i64 6)))⟩])
    (.seq (.scr r34) .ret))
    (.seq (.ops [⟨none, .mv 40 (.t 0)⟩,
      ⟨none, .len 41 false (.t 40)⟩,
      ⟨none, .mv 42 (.t 6)⟩,
      ⟨none, .bin 43 .add .num (.c (.v (.int .i64 5))) (.t 42)⟩,
      ⟨none, .bin 44 .add .num (.t 43) (.c (.v (.int .i64 4)))⟩,
      ⟨none, .bin 45 .lss .num (.t 41) (.t 44)⟩,
      ⟨none, .asg 39 (.t 45)⟩])
    (.cnd (.t 39)
     (.seq (.ops [⟨none, .asg 2 (.c (.v (.int .u8 0)))⟩,
       ⟨none, .asg 3 (.c (.nd (.sl true 1 0) []))⟩,
       ⟨none, .asg 4 (.c (.nd (.sl true 1 0) []))⟩,
       ⟨none, .asg 5 (.c (.v (.int .i64 4)))⟩])
     (.seq (.scr r34) .ret))
     (.seq (.drw [⟨none, .mv 47 (.t 0)⟩,
       ⟨none, .mv 48 (.t 6)⟩,
       ⟨none, .bin 49 .add .num (.c (.v (.int .i64 5))) (.t 48)⟩,
       ⟨none, .mv 50 (.t 6)⟩,
       ⟨none, .bin 51 .add .num (.c (.v (.int .i64 5))) (.t 50)⟩,
       ⟨none, .bin 52 .add .num (.t 51) (.c (.v (.int .i64 4)))⟩,
       ⟨none, .sl 53 1 (.t 47) (some (.t 49)) (some (.t 52))⟩,
       ⟨none, .call (some 54) 43 [(.t 53)]⟩,
       ⟨none, .mv 55 (.t 0)⟩,
       ⟨none, .mv 56 (.t 6)⟩,
       ⟨none, .bin 57 .add .num (.c (.v (.int .i64 5))) (.t 56)⟩,
       ⟨none, .sl 58 1 (.t 55) none (some (.t 57))⟩] [⟨none, .call (some 59) 39 [(.t 58)]⟩,
       ⟨none, .cvi 60 .u64 (.t 59)⟩,
       ⟨none, .bin 61 .neq .num (.t 54) (.t 60)⟩,
       ⟨none, .asg 46 (.t 61)⟩])
     (.cnd (.t 46)
      (.seq (.ops [⟨none, .asg 2 (.c (.v (.int .u8 0)))⟩,
        ⟨none, .asg 3 (.c (.nd (.sl true 1 0) []))⟩,
        ⟨none, .asg 4 (.c (.nd (.sl true 1 0) []))⟩,
        ⟨none, .asg 5 (.c (.v (.int .i64 5)))⟩])
      (.seq (.scr r34) .ret))
      .skip))))))) (.scr x34_1))
 (.seq (.drw [⟨none, .mv 62 (.t 0)⟩,
   ⟨none, .ixs 63 1 (.t 62) (.c (.v (.int .i64 1)))⟩,
   ⟨none, .ld1 64 (.t 63)⟩,
   ⟨none, .mv 65 (.t 0)⟩,
   ⟨none, .mv 66 (.t 6)⟩,
   ⟨none, .bin 67 .add .num (.c (.v (.int .i64 5))) (.t 66)⟩,
   ⟨none, .sl 68 1 (.t 65) (some (.c (.v (.int .i64 5)))) (some (.t 67))⟩,
   ⟨none, .call (some 69) 32 [(.t 68)]⟩,
   ⟨none, .mv 70 (.t 0)⟩,
   ⟨none, .mv 71 (.t 6)⟩,
   ⟨none, .bin 72 .add .num (.c (.v (.int .i64 5))) (.t 71)⟩,
   ⟨none, .bin 73 .add .num (.t 72) (.c (.v (.int .i64 4)))⟩,
   ⟨none, .sl 74 1 (.t 70) (some (.t 73)) none⟩,
   ⟨none, .call (some 75) 32 [(.t 74)]⟩] [⟨none, .asg 2 (.t 64)⟩,
   ⟨none, .asg 3 (.t 69)⟩,
   ⟨none, .asg 4 (.t 75)⟩,
   ⟨none, .asg 5 (.c (.v (.int .i64 0)))⟩])
 (.seq (.scr r34) .ret)))))),
  76, [2, 3, 4, 5]⟩

/-- coinage/coinageref07.Open -/
abbrev K35 : Nat := 7
def hints35 : List (List Bool) := [bits 57 [2, 3, 4, 5], bits 57 [2, 3, 4, 5], bits 57 [2, 3, 4, 5], bits 57 [2, 3, 4, 5], bits 57 [2, 3, 4, 5], bits 57 [2, 3, 4, 5], bits 57 [2, 3, 4, 5]]
@[simp] def r35 : List Bool := bits 57 [2, 3, 4, 5]
@[simp] def R35 (s2 s3 s4 s5 : V) : St := tab 57 7 (fu (fu (fu (fu dd 5 s5) 4 s4) 3 s3) 2 s2) dd
def c35 : MF := ⟨(.seq (.ops [⟨none, .asg 2 (.c (.v (.int .u8 0)))⟩,
   ⟨none, .asg 3 (.c (.nd (.sl true 1 0) []))⟩,
   ⟨none, .asg 4 (.c (.nd (.sl true 1 0) []))⟩,
   ⟨none, .asg 5 (.c (.v (.int .i64 0)))⟩])
 (.seq (.seq (.ops [⟨none, .mv 7 (.t 0)⟩,
    ⟨none, .len 8 false (.t 7)⟩,
    ⟨none, .bin 9 .eql .num (.t 8) (.c (.v (.int .i64 0)))⟩])
  (.cnd (.t 9)
   (.seq (.ops [⟨none, .asg 2 (.c (.v (.int .u8 0)))⟩,
     ⟨none, .asg 3 (.c (.nd (.sl true 1 0) []))⟩,
     ⟨none, .asg 4 (.c (.nd (.sl true 1 0) []))⟩,
     ⟨none, .asg 5 (.c (.v (.int .i64 4)))⟩])
   (.seq (.scr r35) .ret))
   .skip))
 (.seq (.seq (.ops [⟨none, .mv 10 (.t 0)⟩,
    ⟨none, .ixs 11 1 (.t 10) (.c (.v (.int .i64 0)))⟩,
    ⟨none, .ld1 12 (.t 11)⟩,
    ⟨none, .bin 13 .neq .num (.t 12) (.c (.v (.int .u8 209)))⟩])
  (.cnd (.t 13)
   (.seq (.ops [⟨none, .asg 2 (.c (.v (.int .u8 0)))⟩,
     ⟨none, .asg 3 (.c (.nd (.sl true 1 0) []))⟩,
     ⟨none, .asg 4 (.c (.nd (.sl true 1 0) []))⟩,
     ⟨none, .asg 5 (.c (.v (.int .i64 3)))⟩])
   (.seq (.scr r35) .ret))
   .skip))
 (.seq (.seq (.ops [⟨none, .mv 14 (.t 0)⟩,
    ⟨none, .len 15 false (.t 14)⟩,
    ⟨none, .bin 16 .lss .num (.t 15) (.c (.v (.int .i64 5)))⟩])
  (.cnd (.t 16)
   (.seq (.ops [⟨none, .asg 2 (.c (.v (.int .u8 0)))⟩,
     ⟨none, .asg 3 (.c (.nd (.sl true 1 0) []))⟩,
     ⟨none, .asg 4 (.c (.nd (.sl true 1 0) []))⟩,
     ⟨none, .asg 5 (.c (.v (.int .i64 4)))⟩])
   (.seq (.scr r35) .ret))
   .skip))
 (.seq (.ops [⟨none, .mv 17 (.t 0)⟩,
   ⟨none, .sl 18 1 (.t 17) (some (.c (.v (.int .i64 2)))) (some (.c (.v (.int .i64 5))))⟩,
   ⟨none, .call (some 19) 44 [(.t 18)]⟩,
   ⟨none, .cvi 20 .i64 (.t 19)⟩,
   ⟨none, .asg 6 (.t 20)⟩])
 (.seq (.seq (.ops [⟨none, .mv 21 (.t 6)⟩,
    ⟨none, .bin 22 .gtr .num (.t 21) (.c (.v (.int .i64 8192)))⟩])
  (.cnd (.t 22)
   (.seq (.ops [⟨none, .asg 2 (.c (.v (.int .u8 0)))⟩,
     ⟨none, .asg 3 (.c (.nd (.sl true 1 0) []))⟩,
     ⟨none, .asg 4 (.c (.nd (.sl true 1 0) []))⟩,
     ⟨none, .asg 5 (.c (.v (.int .i64 6)))⟩])
   (.seq (.scr r35) .ret))
   .skip))
 (.seq (.seq (.ops [⟨none, .mv 23 (.t 0)⟩,
    ⟨none, .len 24 false (.t 23)⟩,
    ⟨none, .mv 25 (.t 6)⟩,
    ⟨none, .bin 26 .add .num (.t 25) (.c (.v (.int .i64 9)))⟩,
    ⟨none, .bin 27 .lss .num (.t 24) (.t 26)⟩])
  (.cnd (.t 27)
   (.seq (.ops [⟨none, .asg 2 (.c (.v (.int .u8 0)))⟩,
     ⟨none, .asg 3 (.c (.nd (.sl true 1 0) []))⟩,
     ⟨none, .asg 4 (.c (.nd (.sl true 1 0) []))⟩,
     ⟨none, .asg 5 (.c (.v (.int .i64 4)))⟩])
   (.seq (.scr r35) .ret))
   .skip))
 (.seq (.seq (.drw [⟨none, .mv 28 (.t 0)⟩,
    ⟨none, .mv 29 (.t 6)⟩,
    ⟨none, .bin 30 .add .num (.t 29) (.c (.v (.int .i64 5)))⟩,
    ⟨none, .mv 31 (.t 6)⟩,
    ⟨none, .bin 32 .add .num (.t 31) (.c (.v (.int .i64 9)))⟩,
    ⟨none, .sl 33 1 (.t 28) (some (.t 30)) (some (.t 32))⟩,
    ⟨none, .call (some 34) 44 [(.t 33)]⟩,
    ⟨none, .mv 35 (.t 0)⟩,
    ⟨none, .mv 36 (.t 6)⟩,
    ⟨none, .bin 37 .add .num (.t 36) (.c (.v (.int .i64 5)))⟩,
    ⟨none, .sl 38 1 (.t 35) none (some (.t 37))⟩] [⟨none, .call (some 39) 41 [(.t 38)]⟩,
    ⟨none, .cvi 40 .u64 (.t 39)⟩,
    ⟨none, .bin 41 .neq .num (.t 34) (.t 40)⟩])
  (.cnd (.t 41)
   (.seq (.ops [⟨none, .asg 2 (.c (.v (.int .u8 0)))⟩,
     ⟨none, .asg 3 (.c (.nd (.sl true 1 0) []))⟩,
     ⟨none, .asg 4 (.c (.nd (.sl true 1 0) []))⟩,
     ⟨none, .asg 5 (.c (.v (.int .i64 5)))⟩])
   (.seq (.scr r35) .ret))
   .skip))
 (.seq (.drw [⟨none, .mv 42 (.t 0)⟩,
   ⟨none, .ixs 43 1 (.t 42) (.c (.v (.int .i64 1)))⟩,
   ⟨none, .ld1 44 (.t 43)⟩,
   ⟨none, .mz 45 1⟩,
   ⟨none, .mv 46 (.t 0)⟩,
   ⟨none, .mv 47 (.t 6)⟩,
   ⟨none, .bin 48 .add .num (.t 47) (.c (.v (.int .i64 5)))⟩,
   ⟨none, .sl 49 1 (.t 46) (some (.c (.v (.int .i64 5)))) (some (.t 48))⟩,
   ⟨none, .app 50 1 (.t 45) (.t 49)⟩,
   ⟨none, .mz 51 1⟩,
   ⟨none, .mv 52 (.t 0)⟩,
   ⟨none, .mv 53 (.t 6)⟩,
   ⟨none, .bin 54 .add .num (.t 53) (.c (.v (.int .i64 9)))⟩,
   ⟨none, .sl 55 1 (.t 52) (some (.t 54)) none⟩,
   ⟨none, .app 56 1 (.t 51) (.t 55)⟩] [⟨none, .asg 2 (.t 44)⟩,
   ⟨none, .asg 3 (.t 50)⟩,
   ⟨none, .asg 4 (.t 56)⟩,
   ⟨none, .asg 5 (.c (.v (.int .i64 0)))⟩])
 (.seq (.scr r35) .ret)))))))))),
  57, [2, 3, 4, 5]⟩

/-- (*coinage/journal.Journal).begin -/
abbrev K36 : Nat := 5
def hints36 : List (List Bool) := [bits 15 [4], bits 15 [4]]
@[simp] def r36 : List Bool := bits 15 [4]
@[simp] def R36 (s4 : V) : St := tab 15 5 (fu dd 4 s4) dd
def c36 : MF := ⟨(.seq (.ops [⟨none, .asg 4 (.c (.v (.int .i64 0)))⟩])
 (.seq (.seq (.ops [⟨none, .mv 5 (.t 1)⟩,
    ⟨none, .bin 6 .eql .num (.t 5) (.c (.v (.int .i64 0)))⟩])
  (.cnd (.t 6)
   (.seq (.ops [⟨none, .asg 4 (.c (.v (.int .i64 5)))⟩])
   (.seq (.scr r36) .ret))
   .skip))
 (.seq (.ops [⟨none, .mv 7 (.t 0)⟩,
   ⟨none, .nc 8 (.t 7)⟩,
   ⟨none, .fa 9 1 (.t 8)⟩,
   ⟨none, .ld1 10 (.t 9)⟩,
   ⟨none, .mv 11 (.t 1)⟩,
   ⟨none, .bin 12 .sub .num (.t 11) (.c (.v (.int .i64 1)))⟩,
   ⟨none, .ixs 13 1 (.t 10) (.t 12)⟩,
   ⟨none, .ld1 14 (.t 13)⟩,
   ⟨none, .asg 4 (.t 14)⟩])
 (.seq (.scr r36) .ret)))),
  15, [4]⟩

/-- slices.Clone[[]int,int] -/
abbrev K37 : Nat := 3
def hints37 : List (List Bool) := [bits 8 [2], bits 8 [2]]
@[simp] def r37 : List Bool := bits 8 [2]
@[simp] def R37 (s2 : V) : St := tab 8 3 (fu dd 2 s2) dd
def c37 : MF := ⟨(.seq (.ops [⟨none, .asg 2 (.c (.nd (.sl true 1 0) []))⟩])
 (.seq (.seq (.ops [⟨none, .mv 3 (.t 0)⟩,
    ⟨none, .bin 4 .eql (.nilT false) (.t 3) (.c (.nd (.sl true 0 0) []))⟩])
  (.cnd (.t 4)
   (.seq (.ops [⟨none, .asg 2 (.c (.nd (.sl true 1 0) []))⟩])
   (.seq (.scr r37) .ret))
   .skip))
 (.seq (.ops [⟨none, .mz 5 1⟩,
   ⟨none, .mv 6 (.t 0)⟩,
   ⟨none, .app 7 1 (.t 5) (.t 6)⟩,
   ⟨none, .asg 2 (.t 7)⟩])
 (.seq (.scr r37) .ret)))),
  8, [2]⟩

/-- coinage/frame.big -/
abbrev K38 : Nat := 12
def hints38 : List (List Bool) := [bits 27 [5], bits 27 [0, 1, 5, 10, 11], bits 27 [5], bits 27 [0, 1, 5, 10, 11], bits 27 [4]]
@[simp] def r38 : List Bool := bits 27 [4]
@[simp] def R38 (s4 : V) : St := tab 27 12 (fu dd 4 s4) dd
@[simp] def x38_0 : List Bool := bits 27 [5]
@[simp] def X38_0 (s5 : V) : St := tab 27 12 (fu dd 5 s5) dd
@[simp] def h38_0 : List Bool := bits 27 [0, 1, 5, 10, 11]
@[simp] def L38_0 (s0 s1 s5 s10 s11 : V) : St := tab 27 12 (fu (fu (fu (fu (fu dd 11 s11) 10 s10) 5 s5) 1 s1) 0 s0) dd
@[simp] def x38_1 : List Bool := bits 27 [0, 1, 5, 10, 11]
@[simp] def X38_1 (s0 s1 s5 s10 s11 : V) : St := tab 27 12 (fu (fu (fu (fu (fu dd 11 s11) 10 s10) 5 s5) 1 s1) 0 s0) dd
def b38_0 : MC := .seq (.scr h38_0)
 (.seq (.ops [⟨none, .bin 12 .lss .num (.t 11) (.t 10)⟩])
 (.seq (.cnd (.t 12)
   .skip
   (.seq (.scr x38_0) (.ex 0)))
 (.seq (.seq (.blk 1 (.seq (.ops [⟨none, .mv 13 (.t 11)⟩,
     ⟨none, .asg 6 (.t 13)⟩])
   (.ops [⟨none, .mv 14 (.t 5)⟩,
    ⟨none, .mv 15 (.t 1)⟩,
    ⟨none, .bin 16 .sub .num (.t 15) (.c (.v (.int .i64 1)))⟩,
    ⟨none, .mv 17 (.t 6)⟩,
    ⟨none, .bin 18 .sub .num (.t 16) (.t 17)⟩,
    ⟨none, .mv 19 (.t 0)⟩,
    ⟨none, .mv 20 (.t 6)⟩,
    ⟨none, .bin 21 .mul .num (.c (.v (.int .i64 8))) (.t 20)⟩,
    ⟨none, .bin 22 .shr .num (.t 19) (.t 21)⟩,
    ⟨none, .cvi 23 .u8 (.t 22)⟩,
    ⟨none, .ixs 24 1 (.t 14) (.t 18)⟩,
    ⟨none, .stn none 1 (.t 24) (.t 23)⟩]))) (.scr x38_1))
 (.ops [⟨none, .bin 25 .add .num (.t 11) (.c (.v (.int .i64 1)))⟩,
  ⟨none, .mv 11 (.t 25)⟩]))))
def c38 : MF := ⟨(.seq (.ops [⟨none, .asg 4 (.c (.nd (.sl true 1 0) []))⟩])
 (.seq (.ops [⟨none, .mv 7 (.t 1)⟩,
   ⟨none, .mks 8 1 [(.v (.int .u8 0))] (.t 7) (.t 7)⟩,
   ⟨none, .asg 5 (.t 8)⟩])
 (.seq (.seq (.ops [⟨none, .mv 9 (.t 5)⟩,
    ⟨none, .len 10 false (.t 9)⟩,
    ⟨none, .mv 11 (.c (.v (.int .i64 0)))⟩])
  (.seq (.blk 0 (.lop b38_0)) (.scr x38_0)))
 (.seq (.ops [⟨none, .mv 26 (.t 5)⟩,
   ⟨none, .asg 4 (.t 26)⟩])
 (.seq (.scr r38) .ret))))),
  27, [4]⟩

/-- coinage/frame.Adler -/
abbrev K39 : Nat := 10
def hints39 : List (List Bool) := [bits 27 [3, 4], bits 27 [0, 3, 4, 7, 8, 9], bits 27 [3, 4], bits 27 [0, 3, 4, 7, 8, 9], bits 27 [2]]
@[simp] def r39 : List Bool := bits 27 [2]
@[simp] def R39 (s2 : V) : St := tab 27 10 (fu dd 2 s2) dd
@[simp] def x39_0 : List Bool := bits 27 [3, 4]
@[simp] def X39_0 (s3 s4 : V) : St := tab 27 10 (fu (fu dd 4 s4) 3 s3) dd
@[simp] def h39_0 : List Bool := bits 27 [0, 3, 4, 7, 8, 9]
@[simp] def L39_0 (s0 s3 s4 s7 s8 s9 : V) : St := tab 27 10 (fu (fu (fu (fu (fu (fu dd 9 s9) 8 s8) 7 s7) 4 s4) 3 s3) 0 s0) dd
@[simp] def x39_1 : List Bool := bits 27 [0, 3, 4, 7, 8, 9]
@[simp] def X39_1 (s0 s3 s4 s7 s8 s9 : V) : St := tab 27 10 (fu (fu (fu (fu (fu (fu dd 9 s9) 8 s8) 7 s7) 4 s4) 3 s3) 0 s0) dd
def b39_0 : MC := .seq (.scr h39_0)
 (.seq (.ops [⟨none, .bin 10 .lss .num (.t 9) (.t 8)⟩])
 (.seq (.cnd (.t 10)
   .skip
   (.seq (.scr x39_0) (.ex 0)))
 (.seq (.seq (.blk 1 (.seq (.ops [⟨none, .ixs 11 1 (.t 7) (.t 9)⟩,
     ⟨none, .ld1 12 (.t 11)⟩,
     ⟨none, .asg 6 (.t 12)⟩])
   (.seq (.ops [⟨none, .mv 13 (.t 3)⟩,
     ⟨none, .mv 14 (.t 6)⟩,
     ⟨none, .cvi 15 .u32 (.t 14)⟩,
     ⟨none, .bin 16 .add .num (.t 13) (.t 15)⟩,
     ⟨none, .bin 17 .rem .num (.t 16) (.c (.v (.int .u32 65521)))⟩,
     ⟨none, .asg 3 (.t 17)⟩])
   (.ops [⟨none, .mv 18 (.t 4)⟩,
    ⟨none, .mv 19 (.t 3)⟩,
    ⟨none, .bin 20 .add .num (.t 18) (.t 19)⟩,
    ⟨none, .bin 21 .rem .num (.t 20) (.c (.v (.int .u32 65521)))⟩,
    ⟨none, .asg 4 (.t 21)⟩])))) (.scr x39_1))
 (.ops [⟨none, .bin 22 .add .num (.t 9) (.c (.v (.int .i64 1)))⟩,
  ⟨none, .mv 9 (.t 22)⟩]))))
def c39 : MF := ⟨(.seq (.ops [⟨none, .asg 2 (.c (.v (.int .u32 0)))⟩])
 (.seq (.ops [⟨none, .asg 3 (.c (.v (.int .u32 1)))⟩,
   ⟨none, .asg 4 (.c (.v (.int .u32 0)))⟩])
 (.seq (.seq (.ops [⟨none, .mv 7 (.t 0)⟩,
    ⟨none, .len 8 false (.t 7)⟩,
    ⟨none, .mv 9 (.c (.v (.int .i64 0)))⟩])
  (.seq (.blk 0 (.lop b39_0)) (.scr x39_0)))
 (.seq (.ops [⟨none, .mv 23 (.t 4)⟩,
   ⟨none, .bin 24 .shl .num (.t 23) (.c (.v (.int .u64 16)))⟩,
   ⟨none, .mv 25 (.t 3)⟩,
   ⟨none, .bin 26 .or .num (.t 24) (.t 25)⟩,
   ⟨none, .asg 2 (.t 26)⟩])
 (.seq (.scr r39) .ret))))),
  27, [2]⟩

/-- coinage/coinageref07.big -/
abbrev K40 : Nat := 7
def hints40 : List (List Bool) := [bits 24 [5], bits 24 [0, 5, 6], bits 24 [5], bits 24 [0, 5, 6], bits 24 [4]]
@[simp] def r40 : List Bool := bits 24 [4]
@[simp] def R40 (s4 : V) : St := tab 24 7 (fu dd 4 s4) dd
@[simp] def x40_0 : List Bool := bits 24 [5]
@[simp] def X40_0 (s5 : V) : St := tab 24 7 (fu dd 5 s5) dd
@[simp] def h40_0 : List Bool := bits 24 [0, 5, 6]
@[simp] def L40_0 (s0 s5 s6 : V) : St := tab 24 7 (fu (fu (fu dd 6 s6) 5 s5) 0 s0) dd
@[simp] def x40_1 : List Bool := bits 24 [0, 5, 6]
@[simp] def X40_1 (s0 s5 s6 : V) : St := tab 24 7 (fu (fu (fu dd 6 s6) 5 s5) 0 s0) dd
def b40_0 : MC := .seq (.scr h40_0)
 (.seq (.seq (.ops [⟨none, .mv 11 (.t 6)⟩,
    ⟨none, .bin 12 .geq .num (.t 11) (.c (.v (.int .i64 0)))⟩])
  (.cnd (.t 12)
   .skip
   (.seq (.scr x40_0) (.ex 0))))
 (.seq (.seq (.blk 1 (.seq (.ops [⟨none, .mv 15 (.t 5)⟩,
     ⟨none, .mv 16 (.t 6)⟩,
     ⟨none, .mv 17 (.t 0)⟩,
     ⟨none, .bin 18 .rem .num (.t 17) (.c (.v (.int .u64 256)))⟩,
     ⟨none, .cvi 19 .u8 (.t 18)⟩,
     ⟨none, .ixs 20 1 (.t 15) (.t 16)⟩,
     ⟨none, .stn none 1 (.t 20) (.t 19)⟩])
   (.ops [⟨none, .mv 21 (.t 0)⟩,
    ⟨none, .bin 22 .quo .num (.t 21) (.c (.v (.int .u64 256)))⟩,
    ⟨none, .asg 0 (.t 22)⟩]))) (.scr x40_1))
 (.ops [⟨none, .mv 13 (.t 6)⟩,
  ⟨none, .bin 14 .sub .num (.t 13) (.c (.v (.int .i64 1)))⟩,
  ⟨none, .asg 6 (.t 14)⟩])))
def c40 : MF := ⟨(.seq (.ops [⟨none, .asg 4 (.c (.nd (.sl true 1 0) []))⟩])
 (.seq (.ops [⟨none, .mv 7 (.t 1)⟩,
   ⟨none, .mks 8 1 [(.v (.int .u8 0))] (.t 7) (.t 7)⟩,
   ⟨none, .asg 5 (.t 8)⟩])
 (.seq (.seq (.ops [⟨none, .mv 9 (.t 1)⟩,
    ⟨none, .bin 10 .sub .num (.t 9) (.c (.v (.int .i64 1)))⟩,
    ⟨none, .asg 6 (.t 10)⟩])
  (.seq (.blk 0 (.lop b40_0)) (.scr x40_0)))
 (.seq (.ops [⟨none, .mv 23 (.t 5)⟩,
   ⟨none, .asg 4 (.t 23)⟩])
 (.seq (.scr r40) .ret))))),
  24, [4]⟩

/-- coinage/coinageref07.Adler -/
abbrev K41 : Nat := 6
def hints41 : List (List Bool) := [bits 29 [3, 4], bits 29 [0, 3, 4, 5], bits 29 [3, 4], bits 29 [0, 3, 4, 5], bits 29 [2]]
@[simp] def r41 : List Bool := bits 29 [2]
@[simp] def R41 (s2 : V) : St := tab 29 6 (fu dd 2 s2) dd
@[simp] def x41_0 : List Bool := bits 29 [3, 4]
@[simp] def X41_0 (s3 s4 : V) : St := tab 29 6 (fu (fu dd 4 s4) 3 s3) dd
@[simp] def h41_0 : List Bool := bits 29 [0, 3, 4, 5]
@[simp] def L41_0 (s0 s3 s4 s5 : V) : St := tab 29 6 (fu (fu (fu (fu dd 5 s5) 4 s4) 3 s3) 0 s0) dd
@[simp] def x41_1 : List Bool := bits 29 [0, 3, 4, 5]
@[simp] def X41_1 (s0 s3 s4 s5 : V) : St := tab 29 6 (fu (fu (fu (fu dd 5 s5) 4 s4) 3 s3) 0 s0) dd
def b41_0 : MC := .seq (.scr h41_0)
 (.seq (.seq (.ops [⟨none, .mv 6 (.t 5)⟩,
    ⟨none, .mv 7 (.t 0)⟩,
    ⟨none, .len 8 false (.t 7)⟩,
    ⟨none, .bin 9 .lss .num (.t 6) (.t 8)⟩])
  (.cnd (.t 9)
   .skip
   (.seq (.scr x41_0) (.ex 0))))
 (.seq (.seq (.blk 1 (.seq (.ops [⟨none, .mv 12 (.t 3)⟩,
     ⟨none, .mv 13 (.t 0)⟩,
     ⟨none, .mv 14 (.t 5)⟩,
     ⟨none, .ixs 15 1 (.t 13) (.t 14)⟩,
     ⟨none, .ld1 16 (.t 15)⟩,
     ⟨none, .cvi 17 .i64 (.t 16)⟩,
     ⟨none, .bin 18 .add .num (.t 12) (.t 17)⟩,
     ⟨none, .bin 19 .rem .num (.t 18) (.c (.v (.int .i64 65521)))⟩,
     ⟨none, .asg 3 (.t 19)⟩])
   (.ops [⟨none, .mv 20 (.t 4)⟩,
    ⟨none, .mv 21 (.t 3)⟩,
    ⟨none, .bin 22 .add .num (.t 20) (.t 21)⟩,
    ⟨none, .bin 23 .rem .num (.t 22) (.c (.v (.int .i64 65521)))⟩,
    ⟨none, .asg 4 (.t 23)⟩]))) (.scr x41_1))
 (.ops [⟨none, .mv 10 (.t 5)⟩,
  ⟨none, .bin 11 .add .num (.t 10) (.c (.v (.int .i64 1)))⟩,
  ⟨none, .asg 5 (.t 11)⟩])))
def c41 : MF := ⟨(.seq (.ops [⟨none, .asg 2 (.c (.v (.int .u32 0)))⟩])
 (.seq (.ops [⟨none, .asg 3 (.c (.v (.int .i64 1)))⟩])
 (.seq (.ops [⟨none, .asg 4 (.c (.v (.int .i64 0)))⟩])
 (.seq (.seq (.ops [⟨none, .asg 5 (.c (.v (.int .i64 0)))⟩])
  (.seq (.blk 0 (.lop b41_0)) (.scr x41_0)))
 (.seq (.ops [⟨none, .mv 24 (.t 4)⟩,
   ⟨none, .bin 25 .mul .num (.t 24) (.c (.v (.int .i64 65536)))⟩,
   ⟨none, .mv 26 (.t 3)⟩,
   ⟨none, .bin 27 .add .num (.t 25) (.t 26)⟩,
   ⟨none, .cvi 28 .u32 (.t 27)⟩,
   ⟨none, .asg 2 (.t 28)⟩])
 (.seq (.scr r41) .ret)))))),
  29, [2]⟩

/-- internal/stringslite.HasPrefix -/
abbrev K42 : Nat := 5
def hints42 : List (List Bool) := [bits 18 [4]]
@[simp] def r42 : List Bool := bits 18 [4]
@[simp] def R42 (s4 : V) : St := tab 18 5 (fu dd 4 s4) dd
def c42 : MF := ⟨(.seq (.ops [⟨none, .asg 4 (.c (.v (.bool false)))⟩])
 (.seq (.ops [⟨none, .mv 5 (.t 0)⟩,
   ⟨none, .len 6 true (.t 5)⟩,
   ⟨none, .mv 7 (.t 1)⟩,
   ⟨none, .len 8 true (.t 7)⟩,
   ⟨none, .bin 9 .geq .num (.t 6) (.t 8)⟩,
   ⟨none, .mv 10 (.t 9)⟩,
   ⟨some (10, true), .mv 11 (.t 0)⟩,
   ⟨some (10, true), .mv 12 (.t 1)⟩,
   ⟨some (10, true), .len 13 true (.t 12)⟩,
   ⟨some (10, true), .ssl 14 (.t 11) none (some (.t 13))⟩,
   ⟨some (10, true), .mv 15 (.t 1)⟩,
   ⟨some (10, true), .bin 16 .eql .num (.t 14) (.t 15)⟩,
   ⟨none, .pick 17 (.t 10) (.t 16) (.c (.v (.bool false)))⟩,
   ⟨none, .asg 4 (.t 17)⟩])
 (.seq (.scr r42) .ret))),
  18, [4]⟩

/-- coinage/frame.value -/
abbrev K43 : Nat := 9
def hints43 : List (List Bool) := [bits 19 [3], bits 19 [0, 3, 6, 7, 8], bits 19 [3], bits 19 [0, 3, 6, 7, 8], bits 19 [2]]
@[simp] def r43 : List Bool := bits 19 [2]
@[simp] def R43 (s2 : V) : St := tab 19 9 (fu dd 2 s2) dd
@[simp] def x43_0 : List Bool := bits 19 [3]
@[simp] def X43_0 (s3 : V) : St := tab 19 9 (fu dd 3 s3) dd
@[simp] def h43_0 : List Bool := bits 19 [0, 3, 6, 7, 8]
@[simp] def L43_0 (s0 s3 s6 s7 s8 : V) : St := tab 19 9 (fu (fu (fu (fu (fu dd 8 s8) 7 s7) 6 s6) 3 s3) 0 s0) dd
@[simp] def x43_1 : List Bool := bits 19 [0, 3, 6, 7, 8]
@[simp] def X43_1 (s0 s3 s6 s7 s8 : V) : St := tab 19 9 (fu (fu (fu (fu (fu dd 8 s8) 7 s7) 6 s6) 3 s3) 0 s0) dd
def b43_0 : MC := .seq (.scr h43_0)
 (.seq (.ops [⟨none, .bin 9 .lss .num (.t 8) (.t 7)⟩])
 (.seq (.cnd (.t 9)
   .skip
   (.seq (.scr x43_0) (.ex 0)))
 (.seq (.seq (.blk 1 (.seq (.ops [⟨none, .ixs 10 1 (.t 6) (.t 8)⟩,
     ⟨none, .ld1 11 (.t 10)⟩,
     ⟨none, .asg 5 (.t 11)⟩])
   (.ops [⟨none, .mv 12 (.t 3)⟩,
    ⟨none, .bin 13 .shl .num (.t 12) (.c (.v (.int .u64 8)))⟩,
    ⟨none, .mv 14 (.t 5)⟩,
    ⟨none, .cvi 15 .u64 (.t 14)⟩,
    ⟨none, .bin 16 .or .num (.t 13) (.t 15)⟩,
    ⟨none, .asg 3 (.t 16)⟩]))) (.scr x43_1))
 (.ops [⟨none, .bin 17 .add .num (.t 8) (.c (.v (.int .i64 1)))⟩,
  ⟨none, .mv 8 (.t 17)⟩]))))
def c43 : MF := ⟨(.seq (.ops [⟨none, .asg 2 (.c (.v (.int .u64 0)))⟩])
 (.seq (.ops [⟨none, .asg 3 (.c (.v (.int .u64 0)))⟩])
 (.seq (.seq (.ops [⟨none, .mv 6 (.t 0)⟩,
    ⟨none, .len 7 false (.t 6)⟩,
    ⟨none, .mv 8 (.c (.v (.int .i64 0)))⟩])
  (.seq (.blk 0 (.lop b43_0)) (.scr x43_0)))
 (.seq (.ops [⟨none, .mv 18 (.t 3)⟩,
   ⟨none, .asg 2 (.t 18)⟩])
 (.seq (.scr r43) .ret))))),
  19, [2]⟩

/-- coinage/coinageref07.number -/
abbrev K44 : Nat := 5
def hints44 : List (List Bool) := [bits 20 [3], bits 20 [0, 3, 4], bits 20 [3], bits 20 [0, 3, 4], bits 20 [2]]
@[simp] def r44 : List Bool := bits 20 [2]
@[simp] def R44 (s2 : V) : St := tab 20 5 (fu dd 2 s2) dd
@[simp] def x44_0 : List Bool := bits 20 [3]
@[simp] def X44_0 (s3 : V) : St := tab 20 5 (fu dd 3 s3) dd
@[simp] def h44_0 : List Bool := bits 20 [0, 3, 4]
@[simp] def L44_0 (s0 s3 s4 : V) : St := tab 20 5 (fu (fu (fu dd 4 s4) 3 s3) 0 s0) dd
@[simp] def x44_1 : List Bool := bits 20 [0, 3, 4]
@[simp] def X44_1 (s0 s3 s4 : V) : St := tab 20 5 (fu (fu (fu dd 4 s4) 3 s3) 0 s0) dd
def b44_0 : MC := .seq (.scr h44_0)
 (.seq (.seq (.ops [⟨none, .mv 5 (.t 4)⟩,
    ⟨none, .mv 6 (.t 0)⟩,
    ⟨none, .len 7 false (.t 6)⟩,
    ⟨none, .bin 8 .lss .num (.t 5) (.t 7)⟩])
  (.cnd (.t 8)
   .skip
   (.seq (.scr x44_0) (.ex 0))))
 (.seq (.seq (.blk 1 (.ops [⟨none, .mv 11 (.t 3)⟩,
    ⟨none, .bin 12 .mul .num (.t 11) (.c (.v (.int .u64 256)))⟩,
    ⟨none, .mv 13 (.t 0)⟩,
    ⟨none, .mv 14 (.t 4)⟩,
    ⟨none, .ixs 15 1 (.t 13) (.t 14)⟩,
    ⟨none, .ld1 16 (.t 15)⟩,
    ⟨none, .cvi 17 .u64 (.t 16)⟩,
    ⟨none, .bin 18 .add .num (.t 12) (.t 17)⟩,
    ⟨none, .asg 3 (.t 18)⟩])) (.scr x44_1))
 (.ops [⟨none, .mv 9 (.t 4)⟩,
  ⟨none, .bin 10 .add .num (.t 9) (.c (.v (.int .i64 1)))⟩,
  ⟨none, .asg 4 (.t 10)⟩])))
def c44 : MF := ⟨(.seq (.ops [⟨none, .asg 2 (.c (.v (.int .u64 0)))⟩])
 (.seq (.ops [⟨none, .asg 3 (.c (.v (.int .u64 0)))⟩])
 (.seq (.seq (.ops [⟨none, .asg 4 (.c (.v (.int .i64 0)))⟩])
  (.seq (.blk 0 (.lop b44_0)) (.scr x44_0)))
 (.seq (.ops [⟨none, .mv 19 (.t 3)⟩,
   ⟨none, .asg 2 (.t 19)⟩])
 (.seq (.scr r44) .ret))))),
  20, [2]⟩


theorem comp3 : compF Go.Proofs.Try.prog hints3 3 = some c3 := by kernel_rfl
theorem comp4 : compF Go.Proofs.Try.prog hints4 4 = some c4 := by kernel_rfl
theorem comp5 : compF Go.Proofs.Try.prog hints5 5 = some c5 := by kernel_rfl
theorem comp6 : compF Go.Proofs.Try.prog hints6 6 = some c6 := by kernel_rfl
theorem comp7 : compF Go.Proofs.Try.prog hints7 7 = some c7 := by kernel_rfl
theorem comp8 : compF Go.Proofs.Try.prog hints8 8 = some c8 := by kernel_rfl
theorem comp9 : compF Go.Proofs.Try.prog hints9 9 = some c9 := by kernel_rfl
theorem comp10 : compF Go.Proofs.Try.prog hints10 10 = some c10 := by kernel_rfl
theorem comp11 : compF Go.Proofs.Try.prog hints11 11 = some c11 := by kernel_rfl
theorem comp12 : compF Go.Proofs.Try.prog hints12 12 = some c12 := by kernel_rfl
theorem comp13 : compF Go.Proofs.Try.prog hints13 13 = some c13 := by kernel_rfl
theorem comp14 : compF Go.Proofs.Try.prog hints14 14 = some c14 := by kernel_rfl
theorem comp15 : compF Go.Proofs.Try.prog hints15 15 = some c15 := by kernel_rfl
theorem comp16 : compF Go.Proofs.Try.prog hints16 16 = some c16 := by kernel_rfl
theorem comp17 : compF Go.Proofs.Try.prog hints17 17 = some c17 := by kernel_rfl
theorem comp18 : compF Go.Proofs.Try.prog hints18 18 = some c18 := by kernel_rfl
theorem comp19 : compF Go.Proofs.Try.prog hints19 19 = some c19 := by kernel_rfl
theorem comp20 : compF Go.Proofs.Try.prog hints20 20 = some c20 := by kernel_rfl
theorem comp21 : compF Go.Proofs.Try.prog hints21 21 = some c21 := by kernel_rfl
theorem comp22 : compF Go.Proofs.Try.prog hints22 22 = some c22 := by kernel_rfl
theorem comp23 : compF Go.Proofs.Try.prog hints23 23 = some c23 := by kernel_rfl
theorem comp24 : compF Go.Proofs.Try.prog hints24 24 = some c24 := by kernel_rfl
theorem comp25 : compF Go.Proofs.Try.prog hints25 25 = some c25 := by kernel_rfl
theorem comp26 : compF Go.Proofs.Try.prog hints26 26 = some c26 := by kernel_rfl
theorem comp27 : compF Go.Proofs.Try.prog hints27 27 = some c27 := by kernel_rfl
theorem comp28 : compF Go.Proofs.Try.prog hints28 28 = some c28 := by kernel_rfl
theorem comp29 : compF Go.Proofs.Try.prog hints29 29 = some c29 := by kernel_rfl
theorem comp30 : compF Go.Proofs.Try.prog hints30 30 = some c30 := by kernel_rfl
theorem comp31 : compF Go.Proofs.Try.prog hints31 31 = some c31 := by kernel_rfl
theorem comp32 : compF Go.Proofs.Try.prog hints32 32 = some c32 := by kernel_rfl
theorem comp33 : compF Go.Proofs.Try.prog hints33 33 = some c33 := by kernel_rfl
theorem comp34 : compF Go.Proofs.Try.prog hints34 34 = some c34 := by kernel_rfl
theorem comp35 : compF Go.Proofs.Try.prog hints35 35 = some c35 := by kernel_rfl
theorem comp36 : compF Go.Proofs.Try.prog hints36 36 = some c36 := by kernel_rfl
theorem comp37 : compF Go.Proofs.Try.prog hints37 37 = some c37 := by kernel_rfl
theorem comp38 : compF Go.Proofs.Try.prog hints38 38 = some c38 := by kernel_rfl
theorem comp39 : compF Go.Proofs.Try.prog hints39 39 = some c39 := by kernel_rfl
theorem comp40 : compF Go.Proofs.Try.prog hints40 40 = some c40 := by kernel_rfl
theorem comp41 : compF Go.Proofs.Try.prog hints41 41 = some c41 := by kernel_rfl
theorem comp42 : compF Go.Proofs.Try.prog hints42 42 = some c42 := by kernel_rfl
theorem comp43 : compF Go.Proofs.Try.prog hints43 43 = some c43 := by kernel_rfl
theorem comp44 : compF Go.Proofs.Try.prog hints44 44 = some c44 := by kernel_rfl

def tbl : FuncId → Option MF
  | 3 => some c3
  | 4 => some c4
  | 5 => some c5
  | 6 => some c6
  | 7 => some c7
  | 8 => some c8
  | 9 => some c9
  | 10 => some c10
  | 11 => some c11
  | 12 => some c12
  | 13 => some c13
  | 14 => some c14
  | 15 => some c15
  | 16 => some c16
  | 17 => some c17
  | 18 => some c18
  | 19 => some c19
  | 20 => some c20
  | 21 => some c21
  | 22 => some c22
  | 23 => some c23
  | 24 => some c24
  | 25 => some c25
  | 26 => some c26
  | 27 => some c27
  | 28 => some c28
  | 29 => some c29
  | 30 => some c30
  | 31 => some c31
  | 32 => some c32
  | 33 => some c33
  | 34 => some c34
  | 35 => some c35
  | 36 => some c36
  | 37 => some c37
  | 38 => some c38
  | 39 => some c39
  | 40 => some c40
  | 41 => some c41
  | 42 => some c42
  | 43 => some c43
  | 44 => some c44
  | _ => none

theorem tbl_ok (f : FuncId) (mf : MF) (h : tbl f = some mf) : ∃ hints, compF Go.Proofs.Try.prog hints f = some mf := by
  unfold tbl at h
  split at h
  · cases h; exact ⟨_, comp3⟩
  · cases h; exact ⟨_, comp4⟩
  · cases h; exact ⟨_, comp5⟩
  · cases h; exact ⟨_, comp6⟩
  · cases h; exact ⟨_, comp7⟩
  · cases h; exact ⟨_, comp8⟩
  · cases h; exact ⟨_, comp9⟩
  · cases h; exact ⟨_, comp10⟩
  · cases h; exact ⟨_, comp11⟩
  · cases h; exact ⟨_, comp12⟩
  · cases h; exact ⟨_, comp13⟩
  · cases h; exact ⟨_, comp14⟩
  · cases h; exact ⟨_, comp15⟩
  · cases h; exact ⟨_, comp16⟩
  · cases h; exact ⟨_, comp17⟩
  · cases h; exact ⟨_, comp18⟩
  · cases h; exact ⟨_, comp19⟩
  · cases h; exact ⟨_, comp20⟩
  · cases h; exact ⟨_, comp21⟩
  · cases h; exact ⟨_, comp22⟩
  · cases h; exact ⟨_, comp23⟩
  · cases h; exact ⟨_, comp24⟩
  · cases h; exact ⟨_, comp25⟩
  · cases h; exact ⟨_, comp26⟩
  · cases h; exact ⟨_, comp27⟩
  · cases h; exact ⟨_, comp28⟩
  · cases h; exact ⟨_, comp29⟩
  · cases h; exact ⟨_, comp30⟩
  · cases h; exact ⟨_, comp31⟩
  · cases h; exact ⟨_, comp32⟩
  · cases h; exact ⟨_, comp33⟩
  · cases h; exact ⟨_, comp34⟩
  · cases h; exact ⟨_, comp35⟩
  · cases h; exact ⟨_, comp36⟩
  · cases h; exact ⟨_, comp37⟩
  · cases h; exact ⟨_, comp38⟩
  · cases h; exact ⟨_, comp39⟩
  · cases h; exact ⟨_, comp40⟩
  · cases h; exact ⟨_, comp41⟩
  · cases h; exact ⟨_, comp42⟩
  · cases h; exact ⟨_, comp43⟩
  · cases h; exact ⟨_, comp44⟩
  · cases h

end Go.Mx
