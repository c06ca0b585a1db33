import Derived.Test.YthahhbbfhohhfaaDoorMgI
import Derived.KernelRfl
import Derived.Test.YthahhbbfhohhfaaDoorChecked
/-
  The functions of this chapter in the machine's code, and that the given program's code is this one. Printed by a program of this repo (gencodes.py).
-/
namespace Go.Mx
set_option linter.unusedVariables false
set_option linter.unusedSimpArgs false
set_option linter.unusedSectionVars false
open Go

/-- coinage/coinagetop.WholeLoss -/
abbrev K3 : Nat := 261
def hints3 : List (List Bool) := [bits 288 [6], bits 288 [2, 7, 8, 9, 10, 11], bits 288 [0, 1, 2, 7, 8, 9, 10, 11, 12], bits 288 [2, 7, 8, 9, 10, 11], bits 288 [0, 1, 2, 7, 8, 9, 10, 11, 12], bits 288 [7, 8, 9, 10, 11, 13], bits 288 [2, 7, 8, 9, 10, 11, 13, 14, 15], bits 288 [7, 8, 9, 10, 11, 13], bits 288 [2, 7, 8, 9, 10, 11, 13, 14, 15], bits 288 [6], bits 288 [7, 8, 10, 11, 18, 20, 22], bits 288 [7, 8, 10, 11, 13, 16, 18, 20, 22, 23], bits 288 [7, 8, 10, 11, 18, 20, 22], bits 288 [7, 8, 10, 11, 13, 16, 18, 20, 22, 23], bits 288 [6], bits 288 [6], bits 288 [26], bits 288 [7, 8, 24, 26, 28], bits 288 [26], bits 288 [7, 8, 24, 26, 28], bits 288 [6], bits 288 [6], bits 288 [6]]
@[simp] def r3 : List Bool := bits 288 [6]
@[simp] def R3 (s6 : V) : St := tab 288 261 (fu dd 6 s6) dd
@[simp] def x3_0 : List Bool := bits 288 [2, 7, 8, 9, 10, 11]
@[simp] def X3_0 (s2 s7 s8 s9 s10 s11 : V) : St := tab 288 261 (fu (fu (fu (fu (fu (fu dd 11 s11) 10 s10) 9 s9) 8 s8) 7 s7) 2 s2) dd
@[simp] def h3_0 : List Bool := bits 288 [0, 1, 2, 7, 8, 9, 10, 11, 12]
@[simp] def L3_0 (s0 s1 s2 s7 s8 s9 s10 s11 s12 : V) : St := tab 288 261 (fu (fu (fu (fu (fu (fu (fu (fu (fu dd 12 s12) 11 s11) 10 s10) 9 s9) 8 s8) 7 s7) 2 s2) 1 s1) 0 s0) dd
@[simp] def x3_1 : List Bool := bits 288 [0, 1, 2, 7, 8, 9, 10, 11, 12]
@[simp] def X3_1 (s0 s1 s2 s7 s8 s9 s10 s11 s12 : V) : St := tab 288 261 (fu (fu (fu (fu (fu (fu (fu (fu (fu dd 12 s12) 11 s11) 10 s10) 9 s9) 8 s8) 7 s7) 2 s2) 1 s1) 0 s0) dd
def b3_0 : MC := .seq (.scr h3_0)
 (.seq (.seq (.ops [⟨none, .mv 57 (.t 12)⟩,
    ⟨none, .mv 58 (.t 7)⟩,
    ⟨none, .bin 59 .lss .num (.t 57) (.t 58)⟩])
  (.cnd (.t 59)
   .skip
   (.seq (.scr x3_0) (.ex 0))))
 (.seq (.seq (.blk 1 (.seq (.ops [⟨none, .mv 62 (.t 8)⟩,
     ⟨none, .mv 63 (.t 0)⟩,
     ⟨none, .mv 64 (.t 12)⟩,
     ⟨none, .ixs 65 1 (.t 63) (.t 64)⟩,
     ⟨none, .ld1 66 (.t 65)⟩,
     ⟨none, .cvi 67 .i64 (.t 66)⟩,
     ⟨none, .bin 68 .add .num (.c (.v (.int .i64 1))) (.t 67)⟩,
     ⟨none, .bs 69 1 1 [(.v (.int .i64 0))] [(0, 1, (.t 68))]⟩,
     ⟨none, .app 70 1 (.t 62) (.t 69)⟩,
     ⟨none, .asg 8 (.t 70)⟩])
   (.seq (.ops [⟨none, .mv 71 (.t 9)⟩,
     ⟨none, .mv 72 (.t 1)⟩,
     ⟨none, .mv 73 (.t 12)⟩,
     ⟨none, .ixs 74 1 (.t 72) (.t 73)⟩,
     ⟨none, .ld1 75 (.t 74)⟩,
     ⟨none, .cvi 76 .i64 (.t 75)⟩,
     ⟨none, .bin 77 .rem .num (.t 76) (.c (.v (.int .i64 9)))⟩,
     ⟨none, .bin 78 .add .num (.c (.v (.int .i64 1))) (.t 77)⟩,
     ⟨none, .bs 79 1 1 [(.v (.int .i64 0))] [(0, 1, (.t 78))]⟩,
     ⟨none, .app 80 1 (.t 71) (.t 79)⟩,
     ⟨none, .asg 9 (.t 80)⟩])
   (.seq (.ops [⟨none, .mv 81 (.t 10)⟩,
     ⟨none, .bs 82 1 1 [(.v (.int .i64 0))] [(0, 1, (.c (.v (.int .i64 1))))]⟩,
     ⟨none, .app 83 1 (.t 81) (.t 82)⟩,
     ⟨none, .asg 10 (.t 83)⟩])
   (.drw [⟨none, .mv 84 (.t 11)⟩,
    ⟨none, .mv 85 (.t 84)⟩,
    ⟨some (85, true), .mv 86 (.t 12)⟩,
    ⟨some (85, true), .bin 87 .eql .num (.t 86) (.c (.v (.int .i64 0)))⟩,
    ⟨some (85, true), .mv 88 (.t 87)⟩,
    ⟨some (88, false), .mv 89 (.t 0)⟩,
    ⟨some (88, false), .mv 90 (.t 12)⟩,
    ⟨some (88, false), .ixs 91 1 (.t 89) (.t 90)⟩,
    ⟨some (88, false), .ld1 92 (.t 91)⟩,
    ⟨some (88, false), .mv 93 (.t 0)⟩,
    ⟨some (88, false), .mv 94 (.t 12)⟩,
    ⟨some (88, false), .bin 95 .sub .num (.t 94) (.c (.v (.int .i64 1)))⟩,
    ⟨some (88, false), .ixs 96 1 (.t 93) (.t 95)⟩,
    ⟨some (88, false), .ld1 97 (.t 96)⟩] [⟨some (88, false), .bin 98 .leq .num (.t 92) (.t 97)⟩,
    ⟨some (85, true), .pick 99 (.t 88) (.c (.v (.bool true))) (.t 98)⟩,
    ⟨none, .pick 100 (.t 85) (.t 99) (.c (.v (.bool false)))⟩,
    ⟨none, .asg 11 (.t 100)⟩]))))) (.scr x3_1))
 (.ops [⟨none, .mv 60 (.t 12)⟩,
  ⟨none, .bin 61 .add .num (.t 60) (.c (.v (.int .i64 1)))⟩,
  ⟨none, .asg 12 (.t 61)⟩])))
@[simp] def x3_2 : List Bool := bits 288 [7, 8, 9, 10, 11, 13]
@[simp] def X3_2 (s7 s8 s9 s10 s11 s13 : V) : St := tab 288 261 (fu (fu (fu (fu (fu (fu dd 13 s13) 11 s11) 10 s10) 9 s9) 8 s8) 7 s7) dd
@[simp] def h3_1 : List Bool := bits 288 [2, 7, 8, 9, 10, 11, 13, 14, 15]
@[simp] def L3_1 (s2 s7 s8 s9 s10 s11 s13 s14 s15 : V) : St := tab 288 261 (fu (fu (fu (fu (fu (fu (fu (fu (fu dd 15 s15) 14 s14) 13 s13) 11 s11) 10 s10) 9 s9) 8 s8) 7 s7) 2 s2) dd
@[simp] def x3_3 : List Bool := bits 288 [2, 7, 8, 9, 10, 11, 13, 14, 15]
@[simp] def X3_3 (s2 s7 s8 s9 s10 s11 s13 s14 s15 : V) : St := tab 288 261 (fu (fu (fu (fu (fu (fu (fu (fu (fu dd 15 s15) 14 s14) 13 s13) 11 s11) 10 s10) 9 s9) 8 s8) 7 s7) 2 s2) dd
def b3_1 : MC := .seq (.scr h3_1)
 (.seq (.seq (.ops [⟨none, .mv 101 (.t 15)⟩,
    ⟨none, .mv 102 (.t 7)⟩,
    ⟨none, .bin 103 .lss .num (.t 101) (.t 102)⟩])
  (.cnd (.t 103)
   .skip
   (.seq (.scr x3_2) (.ex 2))))
 (.seq (.seq (.blk 3 (.seq (.ops [⟨none, .mv 106 (.t 14)⟩,
     ⟨none, .mv 107 (.t 2)⟩,
     ⟨none, .mv 108 (.t 15)⟩,
     ⟨none, .ixs 109 1 (.t 107) (.t 108)⟩,
     ⟨none, .ld1 110 (.t 109)⟩,
     ⟨none, .cvi 111 .i64 (.t 110)⟩,
     ⟨none, .mm 112 false (.t 106) (.t 111)⟩,
     ⟨none, .asg 14 (.t 112)⟩])
   (.ops [⟨none, .mv 113 (.t 13)⟩,
    ⟨none, .mv 114 (.t 14)⟩,
    ⟨none, .call (some 115) 7 [(.t 114), (.c (.v (.int .i64 1)))]⟩,
    ⟨none, .bs 116 3 1 [(.v (.bool false)), (.nd (.sl true 1 0) []), (.nd (.sl true 1 0) [])] [(0, 3, (.t 115))]⟩,
    ⟨none, .app 117 3 (.t 113) (.t 116)⟩,
    ⟨none, .asg 13 (.t 117)⟩]))) (.scr x3_3))
 (.ops [⟨none, .mv 104 (.t 15)⟩,
  ⟨none, .bin 105 .add .num (.t 104) (.c (.v (.int .i64 1)))⟩,
  ⟨none, .asg 15 (.t 105)⟩])))
@[simp] def x3_4 : List Bool := bits 288 [7, 8, 10, 11, 18, 20, 22]
@[simp] def X3_4 (s7 s8 s10 s11 s18 s20 s22 : V) : St := tab 288 261 (fu (fu (fu (fu (fu (fu (fu dd 22 s22) 20 s20) 18 s18) 11 s11) 10 s10) 8 s8) 7 s7) dd
@[simp] def h3_2 : List Bool := bits 288 [7, 8, 10, 11, 13, 16, 18, 20, 22, 23]
@[simp] def L3_2 (s7 s8 s10 s11 s13 s16 s18 s20 s22 s23 : V) : St := tab 288 261 (fu (fu (fu (fu (fu (fu (fu (fu (fu (fu dd 23 s23) 22 s22) 20 s20) 18 s18) 16 s16) 13 s13) 11 s11) 10 s10) 8 s8) 7 s7) dd
@[simp] def x3_5 : List Bool := bits 288 [7, 8, 10, 11, 13, 16, 18, 20, 22, 23]
@[simp] def X3_5 (s7 s8 s10 s11 s13 s16 s18 s20 s22 s23 : V) : St := tab 288 261 (fu (fu (fu (fu (fu (fu (fu (fu (fu (fu dd 23 s23) 22 s22) 20 s20) 18 s18) 16 s16) 13 s13) 11 s11) 10 s10) 8 s8) 7 s7) dd
def b3_2 : MC := .seq (.scr h3_2)
 (.seq (.seq (.ops [⟨none, .mv 170 (.t 23)⟩,
    ⟨none, .mv 171 (.t 7)⟩,
    ⟨none, .bin 172 .lss .num (.t 170) (.t 171)⟩])
  (.cnd (.t 172)
   .skip
   (.seq (.scr x3_4) (.ex 4))))
 (.seq (.seq (.blk 5 (.drw [⟨none, .mv 175 (.t 22)⟩,
    ⟨none, .mv 176 (.t 175)⟩,
    ⟨some (176, true), .mv 177 (.t 16)⟩,
    ⟨some (176, true), .mv 178 (.t 23)⟩,
    ⟨some (176, true), .ixs 179 3 (.t 177) (.t 178)⟩,
    ⟨some (176, true), .ldn 180 3 (.t 179)⟩,
    ⟨some (176, true), .mv 181 (.t 13)⟩,
    ⟨some (176, true), .mv 182 (.t 23)⟩,
    ⟨some (176, true), .ixs 183 3 (.t 181) (.t 182)⟩,
    ⟨some (176, true), .ldn 184 3 (.t 183)⟩] [⟨some (176, true), .call (some 185) 11 [(.t 180), (.t 184)]⟩,
    ⟨some (176, true), .bin 186 .eql .num (.t 185) (.c (.v (.int .i64 0)))⟩,
    ⟨none, .pick 187 (.t 176) (.t 186) (.c (.v (.bool false)))⟩,
    ⟨none, .asg 22 (.t 187)⟩])) (.scr x3_5))
 (.ops [⟨none, .mv 173 (.t 23)⟩,
  ⟨none, .bin 174 .add .num (.t 173) (.c (.v (.int .i64 1)))⟩,
  ⟨none, .asg 23 (.t 174)⟩])))
@[simp] def x3_6 : List Bool := bits 288 [26]
@[simp] def X3_6 (s26 : V) : St := tab 288 261 (fu dd 26 s26) dd
@[simp] def h3_3 : List Bool := bits 288 [7, 8, 24, 26, 28]
@[simp] def L3_3 (s7 s8 s24 s26 s28 : V) : St := tab 288 261 (fu (fu (fu (fu (fu dd 28 s28) 26 s26) 24 s24) 8 s8) 7 s7) dd
@[simp] def x3_7 : List Bool := bits 288 [7, 8, 24, 26, 28]
@[simp] def X3_7 (s7 s8 s24 s26 s28 : V) : St := tab 288 261 (fu (fu (fu (fu (fu dd 28 s28) 26 s26) 24 s24) 8 s8) 7 s7) dd
def b3_3 : MC := .seq (.scr h3_3)
 (.seq (.seq (.ops [⟨none, .mv 225 (.t 28)⟩,
    ⟨none, .mv 226 (.t 26)⟩,
    ⟨none, .len 227 false (.t 226)⟩,
    ⟨none, .bin 228 .lss .num (.t 225) (.t 227)⟩])
  (.cnd (.t 228)
   .skip
   (.seq (.scr x3_6) (.ex 6))))
 (.seq (.seq (.blk 7 (.seq (.ops [⟨none, .mv 231 (.t 7)⟩,
     ⟨none, .asg 29 (.t 231)⟩])
   (.seq (.seq (.ops [⟨none, .mv 232 (.t 28)⟩,
      ⟨none, .bin 233 .add .num (.t 232) (.c (.v (.int .i64 1)))⟩,
      ⟨none, .mv 234 (.t 26)⟩,
      ⟨none, .len 235 false (.t 234)⟩,
      ⟨none, .bin 236 .lss .num (.t 233) (.t 235)⟩])
    (.cnd (.t 236)
     (.ops [⟨none, .mv 237 (.t 26)⟩,
      ⟨none, .mv 238 (.t 28)⟩,
      ⟨none, .bin 239 .add .num (.t 238) (.c (.v (.int .i64 1)))⟩,
      ⟨none, .ixs 240 1 (.t 237) (.t 239)⟩,
      ⟨none, .ld1 241 (.t 240)⟩,
      ⟨none, .asg 29 (.t 241)⟩])
     .skip))
   (.seq (.seq (.ops (⟨none, .mv 242 (.t 26)⟩ ::
      ⟨none, .mv 243 (.t 28)⟩ ::
      ⟨none, .ixs 244 1 (.t 242) (.t 243)⟩ ::
      ⟨none, .ld1 245 (.t 244)⟩ ::
      ⟨none, .bin 246 .lss .num (.t 245) (.c (.v (.int .i64 0)))⟩ ::
      ⟨none, .mv 247 (.t 246)⟩ ::
      ⟨some (247, false), .mv 248 (.t 26)⟩ ::
      ⟨some (247, false), .mv 249 (.t 28)⟩ ::
      ⟨some (247, false), .ixs 250 1 (.t 248) (.t 249)⟩ ::
      ⟨some (247, false), .ld1 251 (.t 250)⟩ ::
      ⟨some (247, false), .mv 252 (.t 29)⟩ ::
      ⟨some (247, false), .bin 253 .geq .num (.t 251) (.t 252)⟩ ::
      ⟨none, .pick 254 (.t 247) (.c (.v (.bool true))) (.t 253)⟩ ::
      ⟨none, .mv 255 (.t 254)⟩ ::
      ⟨some (255, false), .mv 256 (.t 29)⟩ ::
      ⟨some (255, false), .mv 257 (.t 7)⟩ ::
      ⟨some (255, false), .bin 258 .gtr .num (.t 256) (.t 257)⟩ ::
      ⟨none, .pick 259 (.t 255) (.c (.v (.bool true))) (.t 258)⟩ :: []))
    (.cnd (.t 259)
     (.seq (.ops [⟨none, .asg 6 (.c (.v (.bool false)))⟩])
     (.seq (.scr r3) .ret))
     .skip))
   (.seq (.ops [⟨none, .mv 261 (.t 8)⟩,
     ⟨none, .mv 262 (.t 26)⟩,
     ⟨none, .mv 263 (.t 28)⟩,
     ⟨none, .ixs 264 1 (.t 262) (.t 263)⟩,
     ⟨none, .ld1 265 (.t 264)⟩,
     ⟨none, .mv 266 (.t 29)⟩,
     ⟨none, .sl 267 1 (.t 261) (some (.t 265)) (some (.t 266))⟩,
     ⟨none, .call (some 268) 14 [(.t 267)]⟩,
     ⟨none, .mv 260 (.t 268)⟩,
     ⟨none, .ext 269 (.t 260) 0⟩,
     ⟨none, .ext 270 (.t 260) 1⟩,
     ⟨none, .alc 30 [(.v (.bool false)), (.nd (.sl true 1 0) []), (.nd (.sl true 1 0) [])]⟩,
     ⟨none, .stn none 3 (.t 30) (.t 269)⟩,
     ⟨none, .asg 31 (.t 270)⟩])
   (.seq (.drw [⟨none, .mv 271 (.t 31)⟩,
     ⟨none, .bin 272 .neq .num (.t 271) (.c (.v (.int .i64 0)))⟩,
     ⟨none, .mv 273 (.t 272)⟩,
     ⟨some (273, false), .ldn 274 3 (.t 30)⟩,
     ⟨some (273, false), .mv 275 (.t 24)⟩,
     ⟨some (273, false), .mv 276 (.t 26)⟩,
     ⟨some (273, false), .mv 277 (.t 28)⟩,
     ⟨some (273, false), .ixs 278 1 (.t 276) (.t 277)⟩,
     ⟨some (273, false), .ld1 279 (.t 278)⟩,
     ⟨some (273, false), .ixs 280 3 (.t 275) (.t 279)⟩,
     ⟨some (273, false), .ldn 281 3 (.t 280)⟩] [⟨some (273, false), .call (some 282) 11 [(.t 274), (.t 281)]⟩,
     ⟨some (273, false), .bin 283 .neq .num (.t 282) (.c (.v (.int .i64 0)))⟩,
     ⟨none, .pick 284 (.t 273) (.c (.v (.bool true))) (.t 283)⟩])
   (.cnd (.t 284)
    (.seq (.ops [⟨none, .asg 6 (.c (.v (.bool false)))⟩])
    (.seq (.scr r3) .ret))
    .skip))))))) (.scr x3_7))
 (.ops [⟨none, .mv 229 (.t 28)⟩,
  ⟨none, .bin 230 .add .num (.t 229) (.c (.v (.int .i64 1)))⟩,
  ⟨none, .asg 28 (.t 230)⟩])))
def c3 : MF := ⟨(.seq (.ops [⟨none, .asg 6 (.c (.v (.bool false)))⟩])
 (.seq (.ops [⟨none, .mv 32 (.t 0)⟩,
   ⟨none, .len 33 false (.t 32)⟩,
   ⟨none, .asg 7 (.t 33)⟩])
 (.seq (.seq (.ops (⟨none, .call (some 34) 6 []⟩ ::
    ⟨none, .un 35 .not (.t 34)⟩ ::
    ⟨none, .mv 36 (.t 35)⟩ ::
    ⟨some (36, false), .mv 37 (.t 7)⟩ ::
    ⟨some (36, false), .bin 38 .lss .num (.t 37) (.c (.v (.int .i64 1)))⟩ ::
    ⟨none, .pick 39 (.t 36) (.c (.v (.bool true))) (.t 38)⟩ ::
    ⟨none, .mv 40 (.t 39)⟩ ::
    ⟨some (40, false), .mv 41 (.t 7)⟩ ::
    ⟨some (40, false), .bin 42 .gtr .num (.t 41) (.c (.v (.int .i64 8)))⟩ ::
    ⟨none, .pick 43 (.t 40) (.c (.v (.bool true))) (.t 42)⟩ ::
    ⟨none, .mv 44 (.t 43)⟩ ::
    ⟨some (44, false), .mv 45 (.t 1)⟩ ::
    ⟨some (44, false), .len 46 false (.t 45)⟩ ::
    ⟨some (44, false), .mv 47 (.t 7)⟩ ::
    ⟨some (44, false), .bin 48 .neq .num (.t 46) (.t 47)⟩ ::
    ⟨none, .pick 49 (.t 44) (.c (.v (.bool true))) (.t 48)⟩ ::
    ⟨none, .mv 50 (.t 49)⟩ ::
    ⟨some (50, false), .mv 51 (.t 2)⟩ ::
    ⟨some (50, false), .len 52 false (.t 51)⟩ ::
    ⟨some (50, false), .mv 53 (.t 7)⟩ ::
    ⟨some (50, false), .bin 54 .neq .num (.t 52) (.t 53)⟩ ::
    ⟨none, .pick 55 (.t 50) (.c (.v (.bool true))) (.t 54)⟩ :: []))
  (.cnd (.t 55)
   (.seq (.ops [⟨none, .call (some 56) 6 []⟩,
     ⟨none, .asg 6 (.t 56)⟩])
   (.seq (.scr r3) .ret))
   .skip))
 (.seq (.ops [⟨none, .asg 8 (.c (.nd (.sl true 1 0) []))⟩])
 (.seq (.ops [⟨none, .asg 9 (.c (.nd (.sl true 1 0) []))⟩])
 (.seq (.ops [⟨none, .asg 10 (.c (.nd (.sl true 1 0) []))⟩])
 (.seq (.ops [⟨none, .asg 11 (.c (.v (.bool true)))⟩])
 (.seq (.seq (.ops [⟨none, .asg 12 (.c (.v (.int .i64 0)))⟩])
  (.seq (.blk 0 (.lop b3_0)) (.scr x3_0)))
 (.seq (.ops [⟨none, .asg 13 (.c (.nd (.sl true 3 0) []))⟩])
 (.seq (.ops [⟨none, .asg 14 (.c (.v (.int .i64 300)))⟩])
 (.seq (.seq (.ops [⟨none, .asg 15 (.c (.v (.int .i64 0)))⟩])
  (.seq (.blk 2 (.lop b3_1)) (.scr x3_2)))
 (.seq (.ops [⟨none, .mv 119 (.t 8)⟩,
   ⟨none, .mv 120 (.t 9)⟩,
   ⟨none, .call (some 121) 8 [(.t 119), (.t 120)]⟩,
   ⟨none, .mv 118 (.t 121)⟩,
   ⟨none, .ext 122 (.t 118) 0⟩,
   ⟨none, .ext 123 (.t 118) 1⟩,
   ⟨none, .asg 16 (.t 122)⟩,
   ⟨none, .asg 17 (.t 123)⟩])
 (.seq (.ops [⟨none, .mv 125 (.t 8)⟩,
   ⟨none, .mv 126 (.t 9)⟩,
   ⟨none, .mv 127 (.t 16)⟩,
   ⟨none, .call (some 128) 9 [(.t 125), (.t 126), (.t 127)]⟩,
   ⟨none, .mv 124 (.t 128)⟩,
   ⟨none, .ext 129 (.t 124) 0⟩,
   ⟨none, .ext 130 (.t 124) 1⟩,
   ⟨none, .alc 18 [(.v (.bool false)), (.nd (.sl true 1 0) []), (.nd (.sl true 1 0) [])]⟩,
   ⟨none, .stn none 3 (.t 18) (.t 129)⟩,
   ⟨none, .asg 19 (.t 130)⟩])
 (.seq (.ops [⟨none, .mv 132 (.t 8)⟩,
   ⟨none, .mv 133 (.t 9)⟩,
   ⟨none, .mv 134 (.t 13)⟩,
   ⟨none, .call (some 135) 9 [(.t 132), (.t 133), (.t 134)]⟩,
   ⟨none, .mv 131 (.t 135)⟩,
   ⟨none, .ext 136 (.t 131) 0⟩,
   ⟨none, .ext 137 (.t 131) 1⟩,
   ⟨none, .alc 20 [(.v (.bool false)), (.nd (.sl true 1 0) []), (.nd (.sl true 1 0) [])]⟩,
   ⟨none, .stn none 3 (.t 20) (.t 136)⟩,
   ⟨none, .asg 21 (.t 137)⟩])
 (.seq (.seq (.ops (⟨none, .mv 138 (.t 17)⟩ ::
    ⟨none, .bin 139 .neq .num (.t 138) (.c (.v (.int .i64 0)))⟩ ::
    ⟨none, .mv 140 (.t 139)⟩ ::
    ⟨some (140, false), .mv 141 (.t 19)⟩ ::
    ⟨some (140, false), .bin 142 .neq .num (.t 141) (.c (.v (.int .i64 0)))⟩ ::
    ⟨none, .pick 143 (.t 140) (.c (.v (.bool true))) (.t 142)⟩ ::
    ⟨none, .mv 144 (.t 143)⟩ ::
    ⟨some (144, false), .mv 145 (.t 21)⟩ ::
    ⟨some (144, false), .bin 146 .neq .num (.t 145) (.c (.v (.int .i64 0)))⟩ ::
    ⟨none, .pick 147 (.t 144) (.c (.v (.bool true))) (.t 146)⟩ ::
    ⟨none, .mv 148 (.t 147)⟩ ::
    ⟨some (148, false), .mv 149 (.t 16)⟩ ::
    ⟨some (148, false), .len 150 false (.t 149)⟩ ::
    ⟨some (148, false), .mv 151 (.t 7)⟩ ::
    ⟨some (148, false), .bin 152 .neq .num (.t 150) (.t 151)⟩ ::
    ⟨none, .pick 153 (.t 148) (.c (.v (.bool true))) (.t 152)⟩ ::
    ⟨none, .mv 154 (.t 153)⟩ ::
    ⟨some (154, false), .mv 155 (.t 16)⟩ ::
    ⟨some (154, false), .call (some 156) 10 [(.t 155)]⟩ ::
    ⟨some (154, false), .un 157 .not (.t 156)⟩ ::
    ⟨none, .pick 158 (.t 154) (.c (.v (.bool true))) (.t 157)⟩ ::
    ⟨none, .mv 159 (.t 158)⟩ ::
    ⟨some (159, false), .mv 160 (.t 13)⟩ ::
    ⟨some (159, false), .call (some 161) 10 [(.t 160)]⟩ ::
    ⟨some (159, false), .un 162 .not (.t 161)⟩ ::
    ⟨none, .pick 163 (.t 159) (.c (.v (.bool true))) (.t 162)⟩ ::
    ⟨none, .mv 164 (.t 163)⟩ ::
    ⟨some (164, false), .ldn 165 3 (.t 18)⟩ ::
    ⟨some (164, false), .ldn 166 3 (.t 20)⟩ ::
    ⟨some (164, false), .call (some 167) 11 [(.t 165), (.t 166)]⟩ ::
    ⟨some (164, false), .bin 168 .gtr .num (.t 167) (.c (.v (.int .i64 0)))⟩ ::
    ⟨none, .pick 169 (.t 164) (.c (.v (.bool true))) (.t 168)⟩ :: []))
  (.cnd (.t 169)
   (.seq (.ops [⟨none, .asg 6 (.c (.v (.bool false)))⟩])
   (.seq (.scr r3) .ret))
   .skip))
 (.seq (.ops [⟨none, .asg 22 (.c (.v (.bool true)))⟩])
 (.seq (.seq (.ops [⟨none, .asg 23 (.c (.v (.int .i64 0)))⟩])
  (.seq (.blk 4 (.lop b3_2)) (.scr x3_4)))
 (.seq (.seq (.ops [⟨none, .mv 188 (.t 22)⟩,
    ⟨none, .ldn 189 3 (.t 18)⟩,
    ⟨none, .ldn 190 3 (.t 20)⟩,
    ⟨none, .call (some 191) 11 [(.t 189), (.t 190)]⟩,
    ⟨none, .bin 192 .eql .num (.t 191) (.c (.v (.int .i64 0)))⟩,
    ⟨none, .bin 193 .neq .bool (.t 188) (.t 192)⟩,
    ⟨none, .mv 194 (.t 193)⟩,
    ⟨some (194, false), .mv 195 (.t 11)⟩,
    ⟨some (194, false), .ldn 196 3 (.t 18)⟩,
    ⟨some (194, false), .call (some 197) 12 [(.t 196)]⟩,
    ⟨some (194, false), .bin 198 .eql .num (.t 197) (.c (.v (.int .i64 0)))⟩,
    ⟨some (194, false), .bin 199 .neq .bool (.t 195) (.t 198)⟩,
    ⟨none, .pick 200 (.t 194) (.c (.v (.bool true))) (.t 199)⟩])
  (.cnd (.t 200)
   (.seq (.ops [⟨none, .asg 6 (.c (.v (.bool false)))⟩])
   (.seq (.scr r3) .ret))
   .skip))
 (.seq (.ops [⟨none, .mv 202 (.t 8)⟩,
   ⟨none, .mv 203 (.t 10)⟩,
   ⟨none, .call (some 204) 8 [(.t 202), (.t 203)]⟩,
   ⟨none, .mv 201 (.t 204)⟩,
   ⟨none, .ext 205 (.t 201) 0⟩,
   ⟨none, .ext 206 (.t 201) 1⟩,
   ⟨none, .asg 24 (.t 205)⟩,
   ⟨none, .asg 25 (.t 206)⟩])
 (.seq (.ops [⟨none, .mv 208 (.t 8)⟩,
   ⟨none, .mv 209 (.t 10)⟩,
   ⟨none, .call (some 210) 13 [(.t 208), (.t 209)]⟩,
   ⟨none, .mv 207 (.t 210)⟩,
   ⟨none, .ext 211 (.t 207) 0⟩,
   ⟨none, .ext 212 (.t 207) 1⟩,
   ⟨none, .asg 26 (.t 211)⟩,
   ⟨none, .asg 27 (.t 212)⟩])
 (.seq (.seq (.ops [⟨none, .mv 213 (.t 25)⟩,
    ⟨none, .bin 214 .neq .num (.t 213) (.c (.v (.int .i64 0)))⟩,
    ⟨none, .mv 215 (.t 214)⟩,
    ⟨some (215, false), .mv 216 (.t 27)⟩,
    ⟨some (215, false), .bin 217 .neq .num (.t 216) (.c (.v (.int .i64 0)))⟩,
    ⟨none, .pick 218 (.t 215) (.c (.v (.bool true))) (.t 217)⟩,
    ⟨none, .mv 219 (.t 218)⟩,
    ⟨some (219, false), .mv 220 (.t 24)⟩,
    ⟨some (219, false), .len 221 false (.t 220)⟩,
    ⟨some (219, false), .mv 222 (.t 7)⟩,
    ⟨some (219, false), .bin 223 .neq .num (.t 221) (.t 222)⟩,
    ⟨none, .pick 224 (.t 219) (.c (.v (.bool true))) (.t 223)⟩])
  (.cnd (.t 224)
   (.seq (.ops [⟨none, .asg 6 (.c (.v (.bool false)))⟩])
   (.seq (.scr r3) .ret))
   .skip))
 (.seq (.seq (.ops [⟨none, .asg 28 (.c (.v (.int .i64 0)))⟩])
  (.seq (.blk 6 (.lop b3_3)) (.scr x3_6)))
 (.seq (.ops [⟨none, .mv 285 (.t 26)⟩,
   ⟨none, .len 286 false (.t 285)⟩,
   ⟨none, .bin 287 .gtr .num (.t 286) (.c (.v (.int .i64 0)))⟩,
   ⟨none, .asg 6 (.t 287)⟩])
 (.seq (.scr r3) .ret)))))))))))))))))))))))),
  288, [6]⟩

def hints4 : List (List Bool) := [bits 177 [4], bits 177 [0, 1, 5, 6, 7], bits 177 [0, 1, 5, 6, 7, 8], bits 177 [0, 1, 5, 6, 7], bits 177 [0, 1, 5, 6, 7, 8], bits 177 [4], bits 177 [4], bits 177 [5, 6, 9, 10], bits 177 [0, 1, 5, 6, 7, 9, 10, 11], bits 177 [5, 6, 9, 10], bits 177 [0, 1, 5, 6, 7, 9, 10, 11], bits 177 [0, 1, 5, 6, 7, 9, 10, 11, 12], bits 177 [0, 1, 5, 6, 7, 9, 10, 11, 12, 13], bits 177 [0, 1, 5, 6, 7, 9, 10, 11, 12], bits 177 [0, 1, 5, 6, 7, 9, 10, 11, 12, 13], bits 177 [5, 6, 9, 10, 14], bits 177 [5, 6, 9, 10, 14, 15], bits 177 [5, 6, 9, 10, 14], bits 177 [5, 6, 9, 10, 14, 15], bits 177 [5, 6, 9, 10, 14, 15, 16], bits 177 [5, 6, 9, 10, 14, 15, 16, 17], bits 177 [5, 6, 9, 10, 14, 15, 16], bits 177 [5, 6, 9, 10, 14, 15, 16, 17], bits 177 [4], bits 177 [4], bits 177 [4]]
@[simp] def r4 : List Bool := bits 177 [4]
@[simp] def R4 (s4 : V) : St := tab 177 148 (fu dd 4 s4) dd
@[simp] def x4_0 : List Bool := bits 177 [0, 1, 5, 6, 7]
@[simp] def X4_0 (s0 s1 s5 s6 s7 : V) : St := tab 177 148 (fu (fu (fu (fu (fu dd 7 s7) 6 s6) 5 s5) 1 s1) 0 s0) dd
@[simp] def h4_0 : List Bool := bits 177 [0, 1, 5, 6, 7, 8]
@[simp] def L4_0 (s0 s1 s5 s6 s7 s8 : V) : St := tab 177 148 (fu (fu (fu (fu (fu (fu dd 8 s8) 7 s7) 6 s6) 5 s5) 1 s1) 0 s0) dd
@[simp] def x4_1 : List Bool := bits 177 [0, 1, 5, 6, 7, 8]
@[simp] def X4_1 (s0 s1 s5 s6 s7 s8 : V) : St := tab 177 148 (fu (fu (fu (fu (fu (fu dd 8 s8) 7 s7) 6 s6) 5 s5) 1 s1) 0 s0) dd
def b4_0 : MC := .seq (.scr h4_0)
 (.seq (.seq (.ops [⟨none, .mv 47 (.t 8)⟩,
    ⟨none, .mv 48 (.t 5)⟩,
    ⟨none, .bin 49 .lss .num (.t 47) (.t 48)⟩])
  (.cnd (.t 49)
   .skip
   (.seq (.scr x4_0) (.ex 0))))
 (.seq (.seq (.blk 1 (.seq (.seq (.ops [⟨none, .mv 52 (.t 0)⟩,
      ⟨none, .mv 53 (.t 8)⟩,
      ⟨none, .ixs 54 1 (.t 52) (.t 53)⟩,
      ⟨none, .ld1 55 (.t 54)⟩,
      ⟨none, .len 56 false (.t 55)⟩,
      ⟨none, .mv 57 (.t 6)⟩,
      ⟨none, .bin 58 .neq .num (.t 56) (.t 57)⟩,
      ⟨none, .mv 59 (.t 58)⟩,
      ⟨some (59, false), .mv 60 (.t 6)⟩,
      ⟨some (59, false), .bin 61 .gtr .num (.t 60) (.c (.v (.int .i64 4)))⟩,
      ⟨none, .pick 62 (.t 59) (.c (.v (.bool true))) (.t 61)⟩])
    (.cnd (.t 62)
     (.seq (.ops [⟨none, .asg 4 (.c (.v (.bool true)))⟩])
     (.seq (.scr r4) .ret))
     .skip))
   (.ops [⟨none, .mv 63 (.t 7)⟩,
    ⟨none, .mv 64 (.t 1)⟩,
    ⟨none, .mv 65 (.t 8)⟩,
    ⟨none, .ixs 66 1 (.t 64) (.t 65)⟩,
    ⟨none, .ld1 67 (.t 66)⟩,
    ⟨none, .cvi 68 .i64 (.t 67)⟩,
    ⟨none, .bin 69 .add .num (.t 63) (.t 68)⟩,
    ⟨none, .asg 7 (.t 69)⟩]))) (.scr x4_1))
 (.ops [⟨none, .mv 50 (.t 8)⟩,
  ⟨none, .bin 51 .add .num (.t 50) (.c (.v (.int .i64 1)))⟩,
  ⟨none, .asg 8 (.t 51)⟩])))
@[simp] def x4_2 : List Bool := bits 177 [5, 6, 9, 10]
@[simp] def X4_2 (s5 s6 s9 s10 : V) : St := tab 177 148 (fu (fu (fu (fu dd 10 s10) 9 s9) 6 s6) 5 s5) dd
@[simp] def h4_1 : List Bool := bits 177 [0, 1, 5, 6, 7, 9, 10, 11]
@[simp] def L4_1 (s0 s1 s5 s6 s7 s9 s10 s11 : V) : St := tab 177 148 (fu (fu (fu (fu (fu (fu (fu (fu dd 11 s11) 10 s10) 9 s9) 7 s7) 6 s6) 5 s5) 1 s1) 0 s0) dd
@[simp] def x4_3 : List Bool := bits 177 [0, 1, 5, 6, 7, 9, 10, 11]
@[simp] def X4_3 (s0 s1 s5 s6 s7 s9 s10 s11 : V) : St := tab 177 148 (fu (fu (fu (fu (fu (fu (fu (fu dd 11 s11) 10 s10) 9 s9) 7 s7) 6 s6) 5 s5) 1 s1) 0 s0) dd
@[simp] def x4_4 : List Bool := bits 177 [0, 1, 5, 6, 7, 9, 10, 11, 12]
@[simp] def X4_4 (s0 s1 s5 s6 s7 s9 s10 s11 s12 : V) : St := tab 177 148 (fu (fu (fu (fu (fu (fu (fu (fu (fu dd 12 s12) 11 s11) 10 s10) 9 s9) 7 s7) 6 s6) 5 s5) 1 s1) 0 s0) dd
@[simp] def h4_2 : List Bool := bits 177 [0, 1, 5, 6, 7, 9, 10, 11, 12, 13]
@[simp] def L4_2 (s0 s1 s5 s6 s7 s9 s10 s11 s12 s13 : V) : St := tab 177 148 (fu (fu (fu (fu (fu (fu (fu (fu (fu (fu dd 13 s13) 12 s12) 11 s11) 10 s10) 9 s9) 7 s7) 6 s6) 5 s5) 1 s1) 0 s0) dd
@[simp] def x4_5 : List Bool := bits 177 [0, 1, 5, 6, 7, 9, 10, 11, 12, 13]
@[simp] def X4_5 (s0 s1 s5 s6 s7 s9 s10 s11 s12 s13 : V) : St := tab 177 148 (fu (fu (fu (fu (fu (fu (fu (fu (fu (fu dd 13 s13) 12 s12) 11 s11) 10 s10) 9 s9) 7 s7) 6 s6) 5 s5) 1 s1) 0 s0) dd
def b4_2 : MC := .seq (.scr h4_2)
 (.seq (.seq (.ops [⟨none, .mv 81 (.t 13)⟩,
    ⟨none, .mv 82 (.t 6)⟩,
    ⟨none, .bin 83 .lss .num (.t 81) (.t 82)⟩])
  (.cnd (.t 83)
   .skip
   (.seq (.scr x4_4) (.ex 4))))
 (.seq (.seq (.blk 5 (.ops [⟨none, .mv 86 (.t 12)⟩,
    ⟨none, .mv 87 (.t 0)⟩,
    ⟨none, .mv 88 (.t 11)⟩,
    ⟨none, .ixs 89 1 (.t 87) (.t 88)⟩,
    ⟨none, .ld1 90 (.t 89)⟩,
    ⟨none, .mv 91 (.t 13)⟩,
    ⟨none, .ixs 92 1 (.t 90) (.t 91)⟩,
    ⟨none, .ld1 93 (.t 92)⟩,
    ⟨none, .cvi 94 .i64 (.t 93)⟩,
    ⟨none, .call (some 95) 7 [(.t 94), (.c (.v (.int .i64 1)))]⟩,
    ⟨none, .bs 96 3 1 [(.v (.bool false)), (.nd (.sl true 1 0) []), (.nd (.sl true 1 0) [])] [(0, 3, (.t 95))]⟩,
    ⟨none, .app 97 3 (.t 86) (.t 96)⟩,
    ⟨none, .asg 12 (.t 97)⟩])) (.scr x4_5))
 (.ops [⟨none, .mv 84 (.t 13)⟩,
  ⟨none, .bin 85 .add .num (.t 84) (.c (.v (.int .i64 1)))⟩,
  ⟨none, .asg 13 (.t 85)⟩])))
def b4_1 : MC := .seq (.scr h4_1)
 (.seq (.seq (.ops [⟨none, .mv 76 (.t 11)⟩,
    ⟨none, .mv 77 (.t 5)⟩,
    ⟨none, .bin 78 .lss .num (.t 76) (.t 77)⟩])
  (.cnd (.t 78)
   .skip
   (.seq (.scr x4_2) (.ex 2))))
 (.seq (.seq (.blk 3 (.seq (.ops [⟨none, .asg 12 (.c (.nd (.sl true 3 0) []))⟩])
   (.seq (.seq (.ops [⟨none, .asg 13 (.c (.v (.int .i64 0)))⟩])
    (.seq (.blk 4 (.lop b4_2)) (.scr x4_4)))
   (.seq (.ops [⟨none, .mv 98 (.t 9)⟩,
     ⟨none, .mv 99 (.t 12)⟩,
     ⟨none, .bs 100 1 1 [(.nd (.sl true 3 0) [])] [(0, 1, (.t 99))]⟩,
     ⟨none, .app 101 1 (.t 98) (.t 100)⟩,
     ⟨none, .asg 9 (.t 101)⟩])
   (.ops [⟨none, .mv 102 (.t 10)⟩,
    ⟨none, .mv 103 (.t 1)⟩,
    ⟨none, .mv 104 (.t 11)⟩,
    ⟨none, .ixs 105 1 (.t 103) (.t 104)⟩,
    ⟨none, .ld1 106 (.t 105)⟩,
    ⟨none, .cvi 107 .i64 (.t 106)⟩,
    ⟨none, .mv 108 (.t 7)⟩,
    ⟨none, .call (some 109) 7 [(.t 107), (.t 108)]⟩,
    ⟨none, .bs 110 3 1 [(.v (.bool false)), (.nd (.sl true 1 0) []), (.nd (.sl true 1 0) [])] [(0, 3, (.t 109))]⟩,
    ⟨none, .app 111 3 (.t 102) (.t 110)⟩,
    ⟨none, .asg 10 (.t 111)⟩]))))) (.scr x4_3))
 (.ops [⟨none, .mv 79 (.t 11)⟩,
  ⟨none, .bin 80 .add .num (.t 79) (.c (.v (.int .i64 1)))⟩,
  ⟨none, .asg 11 (.t 80)⟩])))
@[simp] def x4_6 : List Bool := bits 177 [5, 6, 9, 10, 14]
@[simp] def X4_6 (s5 s6 s9 s10 s14 : V) : St := tab 177 148 (fu (fu (fu (fu (fu dd 14 s14) 10 s10) 9 s9) 6 s6) 5 s5) dd
@[simp] def h4_3 : List Bool := bits 177 [5, 6, 9, 10, 14, 15]
@[simp] def L4_3 (s5 s6 s9 s10 s14 s15 : V) : St := tab 177 148 (fu (fu (fu (fu (fu (fu dd 15 s15) 14 s14) 10 s10) 9 s9) 6 s6) 5 s5) dd
@[simp] def x4_7 : List Bool := bits 177 [5, 6, 9, 10, 14, 15]
@[simp] def X4_7 (s5 s6 s9 s10 s14 s15 : V) : St := tab 177 148 (fu (fu (fu (fu (fu (fu dd 15 s15) 14 s14) 10 s10) 9 s9) 6 s6) 5 s5) dd
@[simp] def x4_8 : List Bool := bits 177 [5, 6, 9, 10, 14, 15, 16]
@[simp] def X4_8 (s5 s6 s9 s10 s14 s15 s16 : V) : St := tab 177 148 (fu (fu (fu (fu (fu (fu (fu dd 16 s16) 15 s15) 14 s14) 10 s10) 9 s9) 6 s6) 5 s5) dd
@[simp] def h4_4 : List Bool := bits 177 [5, 6, 9, 10, 14, 15, 16, 17]
@[simp] def L4_4 (s5 s6 s9 s10 s14 s15 s16 s17 : V) : St := tab 177 148 (fu (fu (fu (fu (fu (fu (fu (fu dd 17 s17) 16 s16) 15 s15) 14 s14) 10 s10) 9 s9) 6 s6) 5 s5) dd
@[simp] def x4_9 : List Bool := bits 177 [5, 6, 9, 10, 14, 15, 16, 17]
@[simp] def X4_9 (s5 s6 s9 s10 s14 s15 s16 s17 : V) : St := tab 177 148 (fu (fu (fu (fu (fu (fu (fu (fu dd 17 s17) 16 s16) 15 s15) 14 s14) 10 s10) 9 s9) 6 s6) 5 s5) dd
def b4_4 : MC := .seq (.scr h4_4)
 (.seq (.seq (.ops [⟨none, .mv 117 (.t 17)⟩,
    ⟨none, .mv 118 (.t 5)⟩,
    ⟨none, .bin 119 .lss .num (.t 117) (.t 118)⟩])
  (.cnd (.t 119)
   .skip
   (.seq (.scr x4_8) (.ex 8))))
 (.seq (.seq (.blk 9 (.ops [⟨none, .mv 122 (.t 16)⟩,
    ⟨none, .mv 123 (.t 9)⟩,
    ⟨none, .mv 124 (.t 17)⟩,
    ⟨none, .ixs 125 1 (.t 123) (.t 124)⟩,
    ⟨none, .ld1 126 (.t 125)⟩,
    ⟨none, .mv 127 (.t 15)⟩,
    ⟨none, .ixs 128 3 (.t 126) (.t 127)⟩,
    ⟨none, .ldn 129 3 (.t 128)⟩,
    ⟨none, .bs 130 3 1 [(.v (.bool false)), (.nd (.sl true 1 0) []), (.nd (.sl true 1 0) [])] [(0, 3, (.t 129))]⟩,
    ⟨none, .app 131 3 (.t 122) (.t 130)⟩,
    ⟨none, .asg 16 (.t 131)⟩])) (.scr x4_9))
 (.ops [⟨none, .mv 120 (.t 17)⟩,
  ⟨none, .bin 121 .add .num (.t 120) (.c (.v (.int .i64 1)))⟩,
  ⟨none, .asg 17 (.t 121)⟩])))
def b4_3 : MC := .seq (.scr h4_3)
 (.seq (.seq (.ops [⟨none, .mv 112 (.t 15)⟩,
    ⟨none, .mv 113 (.t 6)⟩,
    ⟨none, .bin 114 .lss .num (.t 112) (.t 113)⟩])
  (.cnd (.t 114)
   .skip
   (.seq (.scr x4_6) (.ex 6))))
 (.seq (.seq (.blk 7 (.seq (.ops [⟨none, .asg 16 (.c (.nd (.sl true 3 0) []))⟩])
   (.seq (.seq (.ops [⟨none, .asg 17 (.c (.v (.int .i64 0)))⟩])
    (.seq (.blk 8 (.lop b4_4)) (.scr x4_8)))
   (.ops [⟨none, .mv 132 (.t 14)⟩,
    ⟨none, .mv 133 (.t 16)⟩,
    ⟨none, .bs 134 1 1 [(.nd (.sl true 3 0) [])] [(0, 1, (.t 133))]⟩,
    ⟨none, .app 135 1 (.t 132) (.t 134)⟩,
    ⟨none, .asg 14 (.t 135)⟩])))) (.scr x4_7))
 (.ops [⟨none, .mv 115 (.t 15)⟩,
  ⟨none, .bin 116 .add .num (.t 115) (.c (.v (.int .i64 1)))⟩,
  ⟨none, .asg 15 (.t 116)⟩])))
def c4 : MF := ⟨(.seq (.ops [⟨none, .asg 4 (.c (.v (.bool false)))⟩])
 (.seq (.ops [⟨none, .mv 24 (.t 0)⟩,
   ⟨none, .len 25 false (.t 24)⟩,
   ⟨none, .asg 5 (.t 25)⟩])
 (.seq (.seq (.ops [⟨none, .call (some 26) 15 []⟩,
    ⟨none, .un 27 .not (.t 26)⟩,
    ⟨none, .mv 28 (.t 27)⟩,
    ⟨some (28, false), .mv 29 (.t 5)⟩,
    ⟨some (28, false), .bin 30 .lss .num (.t 29) (.c (.v (.int .i64 1)))⟩,
    ⟨none, .pick 31 (.t 28) (.c (.v (.bool true))) (.t 30)⟩,
    ⟨none, .mv 32 (.t 31)⟩,
    ⟨some (32, false), .mv 33 (.t 5)⟩,
    ⟨some (32, false), .bin 34 .gtr .num (.t 33) (.c (.v (.int .i64 4)))⟩,
    ⟨none, .pick 35 (.t 32) (.c (.v (.bool true))) (.t 34)⟩,
    ⟨none, .mv 36 (.t 35)⟩,
    ⟨some (36, false), .mv 37 (.t 1)⟩,
    ⟨some (36, false), .len 38 false (.t 37)⟩,
    ⟨some (36, false), .mv 39 (.t 5)⟩,
    ⟨some (36, false), .bin 40 .neq .num (.t 38) (.t 39)⟩,
    ⟨none, .pick 41 (.t 36) (.c (.v (.bool true))) (.t 40)⟩])
  (.cnd (.t 41)
   (.seq (.ops [⟨none, .call (some 42) 15 []⟩,
     ⟨none, .asg 4 (.t 42)⟩])
   (.seq (.scr r4) .ret))
   .skip))
 (.seq (.ops [⟨none, .mv 43 (.t 0)⟩,
   ⟨none, .ixs 44 1 (.t 43) (.c (.v (.int .i64 0)))⟩,
   ⟨none, .ld1 45 (.t 44)⟩,
   ⟨none, .len 46 false (.t 45)⟩,
   ⟨none, .asg 6 (.t 46)⟩])
 (.seq (.ops [⟨none, .asg 7 (.c (.v (.int .i64 0)))⟩])
 (.seq (.seq (.ops [⟨none, .asg 8 (.c (.v (.int .i64 0)))⟩])
  (.seq (.blk 0 (.lop b4_0)) (.scr x4_0)))
 (.seq (.seq (.ops [⟨none, .mv 70 (.t 7)⟩,
    ⟨none, .bin 71 .eql .num (.t 70) (.c (.v (.int .i64 0)))⟩,
    ⟨none, .mv 72 (.t 71)⟩,
    ⟨some (72, false), .mv 73 (.t 6)⟩,
    ⟨some (72, false), .bin 74 .eql .num (.t 73) (.c (.v (.int .i64 0)))⟩,
    ⟨none, .pick 75 (.t 72) (.c (.v (.bool true))) (.t 74)⟩])
  (.cnd (.t 75)
   (.seq (.ops [⟨none, .asg 4 (.c (.v (.bool true)))⟩])
   (.seq (.scr r4) .ret))
   .skip))
 (.seq (.ops [⟨none, .asg 9 (.c (.nd (.sl true 1 0) []))⟩])
 (.seq (.ops [⟨none, .asg 10 (.c (.nd (.sl true 3 0) []))⟩])
 (.seq (.seq (.ops [⟨none, .asg 11 (.c (.v (.int .i64 0)))⟩])
  (.seq (.blk 2 (.lop b4_1)) (.scr x4_2)))
 (.seq (.ops [⟨none, .asg 14 (.c (.nd (.sl true 1 0) []))⟩])
 (.seq (.seq (.ops [⟨none, .asg 15 (.c (.v (.int .i64 0)))⟩])
  (.seq (.blk 6 (.lop b4_3)) (.scr x4_6)))
 (.seq (.ops [⟨none, .mv 137 (.t 9)⟩,
   ⟨none, .mv 138 (.t 10)⟩,
   ⟨none, .call (some 139) 16 [(.t 137), (.t 138)]⟩,
   ⟨none, .mv 136 (.t 139)⟩,
   ⟨none, .ext 140 (.t 136) 0⟩,
   ⟨none, .ext 141 (.t 136) 1⟩,
   ⟨none, .asg 18 (.t 140)⟩,
   ⟨none, .asg 19 (.t 141)⟩])
 (.seq (.ops [⟨none, .mv 143 (.t 9)⟩,
   ⟨none, .call (some 144) 17 [(.t 143)]⟩,
   ⟨none, .mv 142 (.t 144)⟩,
   ⟨none, .ext 145 (.t 142) 0⟩,
   ⟨none, .ext 146 (.t 142) 1⟩,
   ⟨none, .asg 20 (.t 145)⟩,
   ⟨none, .asg 21 (.t 146)⟩])
 (.seq (.ops [⟨none, .mv 148 (.t 14)⟩,
   ⟨none, .mv 149 (.t 18)⟩,
   ⟨none, .call (some 150) 18 [(.t 148), (.t 149)]⟩,
   ⟨none, .mv 147 (.t 150)⟩,
   ⟨none, .ext 151 (.t 147) 0⟩,
   ⟨none, .ext 152 (.t 147) 1⟩,
   ⟨none, .asg 22 (.t 151)⟩,
   ⟨none, .asg 23 (.t 152)⟩])
 (.seq (.seq (.ops [⟨none, .mv 153 (.t 19)⟩,
    ⟨none, .bin 154 .neq .num (.t 153) (.c (.v (.int .i64 0)))⟩,
    ⟨none, .mv 155 (.t 154)⟩,
    ⟨some (155, false), .mv 156 (.t 21)⟩,
    ⟨some (155, false), .bin 157 .neq .num (.t 156) (.c (.v (.int .i64 0)))⟩,
    ⟨none, .pick 158 (.t 155) (.c (.v (.bool true))) (.t 157)⟩,
    ⟨none, .mv 159 (.t 158)⟩,
    ⟨some (159, false), .mv 160 (.t 18)⟩,
    ⟨some (159, false), .len 161 false (.t 160)⟩,
    ⟨some (159, false), .mv 162 (.t 6)⟩,
    ⟨some (159, false), .bin 163 .neq .num (.t 161) (.t 162)⟩,
    ⟨none, .pick 164 (.t 159) (.c (.v (.bool true))) (.t 163)⟩])
  (.cnd (.t 164)
   (.seq (.ops [⟨none, .asg 4 (.c (.v (.bool false)))⟩])
   (.seq (.scr r4) .ret))
   .skip))
 (.seq (.seq (.ops [⟨none, .mv 165 (.t 20)⟩,
    ⟨none, .mv 166 (.t 5)⟩,
    ⟨none, .bin 167 .lss .num (.t 165) (.t 166)⟩])
  (.cnd (.t 167)
   (.seq (.ops [⟨none, .mv 168 (.t 23)⟩,
     ⟨none, .bin 169 .eql .num (.t 168) (.c (.v (.int .i64 9)))⟩,
     ⟨none, .asg 4 (.t 169)⟩])
   (.seq (.scr r4) .ret))
   .skip))
 (.seq (.ops [⟨none, .mv 170 (.t 23)⟩,
   ⟨none, .bin 171 .eql .num (.t 170) (.c (.v (.int .i64 0)))⟩,
   ⟨none, .mv 172 (.t 171)⟩,
   ⟨some (172, true), .mv 173 (.t 22)⟩,
   ⟨some (172, true), .mv 174 (.t 10)⟩,
   ⟨some (172, true), .call (some 175) 19 [(.t 173), (.t 174)]⟩,
   ⟨none, .pick 176 (.t 172) (.t 175) (.c (.v (.bool false)))⟩,
   ⟨none, .asg 4 (.t 176)⟩])
 (.seq (.scr r4) .ret))))))))))))))))))),
  177, [4]⟩

/-- coinage/coinagetop.WholeOutcomes -/
abbrev K5 : Nat := 142
def hints5 : List (List Bool) := [bits 213 [4], bits 213 [5, 6, 7], bits 213 [5, 6, 7, 8], bits 213 [5, 6, 7], bits 213 [5, 6, 7, 8], bits 213 [5, 6, 7, 9, 10, 11, 12], bits 213 [5, 6, 7, 9, 10, 11, 12, 13], bits 213 [5, 6, 7, 9, 10, 11, 12], bits 213 [5, 6, 7, 9, 10, 11, 12, 13], bits 213 [5, 6, 7, 9, 10, 11, 12, 13, 14], bits 213 [5, 6, 7, 9, 10, 11, 12, 13, 14, 15, 16], bits 213 [5, 6, 7, 9, 10, 11, 12, 13, 14], bits 213 [5, 6, 7, 9, 10, 11, 12, 13, 14, 15, 16], bits 213 [5, 6, 7, 9, 10, 11, 12, 13, 17], bits 213 [5, 6, 7, 9, 10, 11, 12, 13, 14, 17, 18], bits 213 [5, 6, 7, 9, 10, 11, 12, 13, 17], bits 213 [5, 6, 7, 9, 10, 11, 12, 13, 14, 17, 18], bits 213 [4], bits 213 [4], bits 213 [7, 10, 11, 12, 23, 25, 27], bits 213 [5, 7, 9, 10, 11, 12, 21, 23, 25, 27, 29], bits 213 [7, 10, 11, 12, 23, 25, 27], bits 213 [5, 7, 9, 10, 11, 12, 21, 23, 25, 27, 29], bits 213 [4], bits 213 [4]]
@[simp] def r5 : List Bool := bits 213 [4]
@[simp] def R5 (s4 : V) : St := tab 213 142 (fu dd 4 s4) dd
@[simp] def x5_0 : List Bool := bits 213 [5, 6, 7]
@[simp] def X5_0 (s5 s6 s7 : V) : St := tab 213 142 (fu (fu (fu dd 7 s7) 6 s6) 5 s5) dd
@[simp] def h5_0 : List Bool := bits 213 [5, 6, 7, 8]
@[simp] def L5_0 (s5 s6 s7 s8 : V) : St := tab 213 142 (fu (fu (fu (fu dd 8 s8) 7 s7) 6 s6) 5 s5) dd
@[simp] def x5_1 : List Bool := bits 213 [5, 6, 7, 8]
@[simp] def X5_1 (s5 s6 s7 s8 : V) : St := tab 213 142 (fu (fu (fu (fu dd 8 s8) 7 s7) 6 s6) 5 s5) dd
def b5_0 : MC := .seq (.scr h5_0)
 (.seq (.seq (.ops [⟨none, .mv 41 (.t 8)⟩,
    ⟨none, .mv 42 (.t 5)⟩,
    ⟨none, .bin 43 .lss .num (.t 41) (.t 42)⟩])
  (.cnd (.t 43)
   .skip
   (.seq (.scr x5_0) (.ex 0))))
 (.seq (.seq (.blk 1 (.ops [⟨none, .mv 46 (.t 7)⟩,
    ⟨none, .mv 47 (.t 6)⟩,
    ⟨none, .bin 48 .mul .num (.t 46) (.t 47)⟩,
    ⟨none, .asg 7 (.t 48)⟩])) (.scr x5_1))
 (.ops [⟨none, .mv 44 (.t 8)⟩,
  ⟨none, .bin 45 .add .num (.t 44) (.c (.v (.int .i64 1)))⟩,
  ⟨none, .asg 8 (.t 45)⟩])))
@[simp] def x5_2 : List Bool := bits 213 [5, 6, 7, 9, 10, 11, 12]
@[simp] def X5_2 (s5 s6 s7 s9 s10 s11 s12 : V) : St := tab 213 142 (fu (fu (fu (fu (fu (fu (fu dd 12 s12) 11 s11) 10 s10) 9 s9) 7 s7) 6 s6) 5 s5) dd
@[simp] def h5_1 : List Bool := bits 213 [5, 6, 7, 9, 10, 11, 12, 13]
@[simp] def L5_1 (s5 s6 s7 s9 s10 s11 s12 s13 : V) : St := tab 213 142 (fu (fu (fu (fu (fu (fu (fu (fu dd 13 s13) 12 s12) 11 s11) 10 s10) 9 s9) 7 s7) 6 s6) 5 s5) dd
@[simp] def x5_3 : List Bool := bits 213 [5, 6, 7, 9, 10, 11, 12, 13]
@[simp] def X5_3 (s5 s6 s7 s9 s10 s11 s12 s13 : V) : St := tab 213 142 (fu (fu (fu (fu (fu (fu (fu (fu dd 13 s13) 12 s12) 11 s11) 10 s10) 9 s9) 7 s7) 6 s6) 5 s5) dd
@[simp] def x5_4 : List Bool := bits 213 [5, 6, 7, 9, 10, 11, 12, 13, 14]
@[simp] def X5_4 (s5 s6 s7 s9 s10 s11 s12 s13 s14 : V) : St := tab 213 142 (fu (fu (fu (fu (fu (fu (fu (fu (fu dd 14 s14) 13 s13) 12 s12) 11 s11) 10 s10) 9 s9) 7 s7) 6 s6) 5 s5) dd
@[simp] def h5_2 : List Bool := bits 213 [5, 6, 7, 9, 10, 11, 12, 13, 14, 15, 16]
@[simp] def L5_2 (s5 s6 s7 s9 s10 s11 s12 s13 s14 s15 s16 : V) : St := tab 213 142 (fu (fu (fu (fu (fu (fu (fu (fu (fu (fu (fu dd 16 s16) 15 s15) 14 s14) 13 s13) 12 s12) 11 s11) 10 s10) 9 s9) 7 s7) 6 s6) 5 s5) dd
@[simp] def x5_5 : List Bool := bits 213 [5, 6, 7, 9, 10, 11, 12, 13, 14, 15, 16]
@[simp] def X5_5 (s5 s6 s7 s9 s10 s11 s12 s13 s14 s15 s16 : V) : St := tab 213 142 (fu (fu (fu (fu (fu (fu (fu (fu (fu (fu (fu dd 16 s16) 15 s15) 14 s14) 13 s13) 12 s12) 11 s11) 10 s10) 9 s9) 7 s7) 6 s6) 5 s5) dd
def b5_2 : MC := .seq (.scr h5_2)
 (.seq (.seq (.ops [⟨none, .mv 61 (.t 16)⟩,
    ⟨none, .mv 62 (.t 5)⟩,
    ⟨none, .bin 63 .lss .num (.t 61) (.t 62)⟩])
  (.cnd (.t 63)
   .skip
   (.seq (.scr x5_4) (.ex 4))))
 (.seq (.seq (.blk 5 (.seq (.ops [⟨none, .mv 66 (.t 14)⟩,
     ⟨none, .mv 67 (.t 15)⟩,
     ⟨none, .mv 68 (.t 6)⟩,
     ⟨none, .bin 69 .rem .num (.t 67) (.t 68)⟩,
     ⟨none, .ixs 70 1 (.t 66) (.t 69)⟩,
     ⟨none, .ld1 71 (.t 70)⟩,
     ⟨none, .bin 72 .add .num (.t 71) (.c (.v (.int .i64 1)))⟩,
     ⟨none, .ixs 73 1 (.t 66) (.t 69)⟩,
     ⟨none, .stn none 1 (.t 73) (.t 72)⟩])
   (.ops [⟨none, .mv 74 (.t 15)⟩,
    ⟨none, .mv 75 (.t 6)⟩,
    ⟨none, .bin 76 .quo .num (.t 74) (.t 75)⟩,
    ⟨none, .asg 15 (.t 76)⟩]))) (.scr x5_5))
 (.ops [⟨none, .mv 64 (.t 16)⟩,
  ⟨none, .bin 65 .add .num (.t 64) (.c (.v (.int .i64 1)))⟩,
  ⟨none, .asg 16 (.t 65)⟩])))
@[simp] def x5_6 : List Bool := bits 213 [5, 6, 7, 9, 10, 11, 12, 13, 17]
@[simp] def X5_6 (s5 s6 s7 s9 s10 s11 s12 s13 s17 : V) : St := tab 213 142 (fu (fu (fu (fu (fu (fu (fu (fu (fu dd 17 s17) 13 s13) 12 s12) 11 s11) 10 s10) 9 s9) 7 s7) 6 s6) 5 s5) dd
@[simp] def h5_3 : List Bool := bits 213 [5, 6, 7, 9, 10, 11, 12, 13, 14, 17, 18]
@[simp] def L5_3 (s5 s6 s7 s9 s10 s11 s12 s13 s14 s17 s18 : V) : St := tab 213 142 (fu (fu (fu (fu (fu (fu (fu (fu (fu (fu (fu dd 18 s18) 17 s17) 14 s14) 13 s13) 12 s12) 11 s11) 10 s10) 9 s9) 7 s7) 6 s6) 5 s5) dd
@[simp] def x5_7 : List Bool := bits 213 [5, 6, 7, 9, 10, 11, 12, 13, 14, 17, 18]
@[simp] def X5_7 (s5 s6 s7 s9 s10 s11 s12 s13 s14 s17 s18 : V) : St := tab 213 142 (fu (fu (fu (fu (fu (fu (fu (fu (fu (fu (fu dd 18 s18) 17 s17) 14 s14) 13 s13) 12 s12) 11 s11) 10 s10) 9 s9) 7 s7) 6 s6) 5 s5) dd
def b5_3 : MC := .seq (.scr h5_3)
 (.seq (.seq (.ops [⟨none, .mv 77 (.t 18)⟩,
    ⟨none, .mv 78 (.t 6)⟩,
    ⟨none, .bin 79 .lss .num (.t 77) (.t 78)⟩])
  (.cnd (.t 79)
   .skip
   (.seq (.scr x5_6) (.ex 6))))
 (.seq (.seq (.blk 7 (.seq (.seq (.ops [⟨none, .mv 82 (.t 14)⟩,
      ⟨none, .mv 83 (.t 18)⟩,
      ⟨none, .ixs 84 1 (.t 82) (.t 83)⟩,
      ⟨none, .ld1 85 (.t 84)⟩,
      ⟨none, .bin 86 .gtr .num (.t 85) (.c (.v (.int .i64 0)))⟩])
    (.cnd (.t 86)
     (.ops [⟨none, .mv 87 (.t 17)⟩,
      ⟨none, .mv 88 (.t 14)⟩,
      ⟨none, .mv 89 (.t 18)⟩,
      ⟨none, .ixs 90 1 (.t 88) (.t 89)⟩,
      ⟨none, .ld1 91 (.t 90)⟩,
      ⟨none, .bs 92 1 1 [(.v (.int .i64 0))] [(0, 1, (.t 91))]⟩,
      ⟨none, .app 93 1 (.t 87) (.t 92)⟩,
      ⟨none, .asg 17 (.t 93)⟩])
     .skip))
   (.seq (.ops [⟨none, .mv 94 (.t 14)⟩,
     ⟨none, .mv 95 (.t 18)⟩,
     ⟨none, .ixs 96 1 (.t 94) (.t 95)⟩,
     ⟨none, .ld1 97 (.t 96)⟩,
     ⟨none, .bin 98 .eql .num (.t 97) (.c (.v (.int .i64 1)))⟩])
   (.cnd (.t 98)
    (.ops [⟨none, .mv 99 (.t 10)⟩,
     ⟨none, .bin 100 .add .num (.t 99) (.c (.v (.int .i64 1)))⟩,
     ⟨none, .asg 10 (.t 100)⟩])
    .skip)))) (.scr x5_7))
 (.ops [⟨none, .mv 80 (.t 18)⟩,
  ⟨none, .bin 81 .add .num (.t 80) (.c (.v (.int .i64 1)))⟩,
  ⟨none, .asg 18 (.t 81)⟩])))
def b5_1 : MC := .seq (.scr h5_1)
 (.seq (.seq (.ops [⟨none, .mv 53 (.t 13)⟩,
    ⟨none, .mv 54 (.t 7)⟩,
    ⟨none, .bin 55 .lss .num (.t 53) (.t 54)⟩])
  (.cnd (.t 55)
   .skip
   (.seq (.scr x5_2) (.ex 2))))
 (.seq (.seq (.blk 3 (.seq (.ops [⟨none, .mv 58 (.t 6)⟩,
     ⟨none, .mks 59 1 [(.v (.int .i64 0))] (.t 58) (.t 58)⟩,
     ⟨none, .asg 14 (.t 59)⟩])
   (.seq (.ops [⟨none, .mv 60 (.t 13)⟩,
     ⟨none, .asg 15 (.t 60)⟩])
   (.seq (.seq (.ops [⟨none, .asg 16 (.c (.v (.int .i64 0)))⟩])
    (.seq (.blk 4 (.lop b5_2)) (.scr x5_4)))
   (.seq (.ops [⟨none, .asg 17 (.c (.nd (.sl true 1 0) []))⟩])
   (.seq (.seq (.ops [⟨none, .asg 18 (.c (.v (.int .i64 0)))⟩])
    (.seq (.blk 6 (.lop b5_3)) (.scr x5_6)))
   (.seq (.ops [⟨none, .mv 102 (.t 17)⟩,
     ⟨none, .call (some 103) 21 [(.t 102)]⟩,
     ⟨none, .mv 101 (.t 103)⟩,
     ⟨none, .ext 104 (.t 101) 0⟩,
     ⟨none, .ext 105 (.t 101) 1⟩,
     ⟨none, .alc 19 [(.v (.bool false)), (.nd (.sl true 1 0) []), (.nd (.sl true 1 0) [])]⟩,
     ⟨none, .stn none 3 (.t 19) (.t 104)⟩,
     ⟨none, .asg 20 (.t 105)⟩])
   (.seq (.seq (.ops [⟨none, .mv 106 (.t 20)⟩,
      ⟨none, .bin 107 .neq .num (.t 106) (.c (.v (.int .i64 0)))⟩])
    (.cnd (.t 107)
     (.seq (.ops [⟨none, .asg 4 (.c (.v (.bool false)))⟩])
     (.seq (.scr r5) .ret))
     .skip))
   (.seq (.ops [⟨none, .ldn 108 3 (.t 12)⟩,
     ⟨none, .ldn 109 3 (.t 19)⟩,
     ⟨none, .call (some 110) 22 [(.t 108), (.t 109)]⟩,
     ⟨none, .stn none 3 (.t 12) (.t 110)⟩])
   (.seq (.ops [⟨none, .mv 111 (.t 9)⟩,
     ⟨none, .mv 112 (.t 17)⟩,
     ⟨none, .len 113 false (.t 112)⟩,
     ⟨none, .ixs 114 1 (.t 111) (.t 113)⟩,
     ⟨none, .ld1 115 (.t 114)⟩,
     ⟨none, .bin 116 .add .num (.t 115) (.c (.v (.int .i64 1)))⟩,
     ⟨none, .ixs 117 1 (.t 111) (.t 113)⟩,
     ⟨none, .stn none 1 (.t 117) (.t 116)⟩])
   (.ops [⟨none, .mv 118 (.t 11)⟩,
    ⟨none, .mv 119 (.t 17)⟩,
    ⟨none, .len 120 false (.t 119)⟩,
    ⟨none, .bin 121 .add .num (.t 118) (.t 120)⟩,
    ⟨none, .asg 11 (.t 121)⟩]))))))))))) (.scr x5_3))
 (.ops [⟨none, .mv 56 (.t 13)⟩,
  ⟨none, .bin 57 .add .num (.t 56) (.c (.v (.int .i64 1)))⟩,
  ⟨none, .asg 13 (.t 57)⟩])))
@[simp] def x5_8 : List Bool := bits 213 [7, 10, 11, 12, 23, 25, 27]
@[simp] def X5_8 (s7 s10 s11 s12 s23 s25 s27 : V) : St := tab 213 142 (fu (fu (fu (fu (fu (fu (fu dd 27 s27) 25 s25) 23 s23) 12 s12) 11 s11) 10 s10) 7 s7) dd
@[simp] def h5_4 : List Bool := bits 213 [5, 7, 9, 10, 11, 12, 21, 23, 25, 27, 29]
@[simp] def L5_4 (s5 s7 s9 s10 s11 s12 s21 s23 s25 s27 s29 : V) : St := tab 213 142 (fu (fu (fu (fu (fu (fu (fu (fu (fu (fu (fu dd 29 s29) 27 s27) 25 s25) 23 s23) 21 s21) 12 s12) 11 s11) 10 s10) 9 s9) 7 s7) 5 s5) dd
@[simp] def x5_9 : List Bool := bits 213 [5, 7, 9, 10, 11, 12, 21, 23, 25, 27, 29]
@[simp] def X5_9 (s5 s7 s9 s10 s11 s12 s21 s23 s25 s27 s29 : V) : St := tab 213 142 (fu (fu (fu (fu (fu (fu (fu (fu (fu (fu (fu dd 29 s29) 27 s27) 25 s25) 23 s23) 21 s21) 12 s12) 11 s11) 10 s10) 9 s9) 7 s7) 5 s5) dd
def b5_4 : MC := .seq (.scr h5_4)
 (.seq (.seq (.ops [⟨none, .mv 168 (.t 29)⟩,
    ⟨none, .mv 169 (.t 5)⟩,
    ⟨none, .bin 170 .leq .num (.t 168) (.t 169)⟩])
  (.cnd (.t 170)
   .skip
   (.seq (.scr x5_8) (.ex 8))))
 (.seq (.seq (.blk 9 (.seq (.drw [⟨none, .mv 173 (.t 21)⟩,
     ⟨none, .mv 174 (.t 29)⟩,
     ⟨none, .ixs 175 3 (.t 173) (.t 174)⟩,
     ⟨none, .ldn 176 3 (.t 175)⟩,
     ⟨none, .mv 177 (.t 9)⟩,
     ⟨none, .mv 178 (.t 29)⟩,
     ⟨none, .ixs 179 1 (.t 177) (.t 178)⟩,
     ⟨none, .ld1 180 (.t 179)⟩,
     ⟨none, .mv 181 (.t 7)⟩,
     ⟨none, .call (some 182) 7 [(.t 180), (.t 181)]⟩] [⟨none, .call (some 183) 11 [(.t 176), (.t 182)]⟩,
     ⟨none, .bin 184 .neq .num (.t 183) (.c (.v (.int .i64 0)))⟩])
   (.cnd (.t 184)
    (.seq (.ops [⟨none, .asg 4 (.c (.v (.bool false)))⟩])
    (.seq (.scr r5) .ret))
    .skip))) (.scr x5_9))
 (.ops [⟨none, .mv 171 (.t 29)⟩,
  ⟨none, .bin 172 .add .num (.t 171) (.c (.v (.int .i64 1)))⟩,
  ⟨none, .asg 29 (.t 172)⟩])))
def c5 : MF := ⟨(.seq (.ops [⟨none, .asg 4 (.c (.v (.bool false)))⟩])
 (.seq (.seq (.ops [⟨none, .call (some 31) 20 []⟩,
    ⟨none, .un 32 .not (.t 31)⟩])
  (.cnd (.t 32)
   (.seq (.ops [⟨none, .asg 4 (.c (.v (.bool false)))⟩])
   (.seq (.scr r5) .ret))
   .skip))
 (.seq (.ops [⟨none, .mv 33 (.t 0)⟩,
   ⟨none, .cvi 34 .i64 (.t 33)⟩,
   ⟨none, .bin 35 .rem .num (.t 34) (.c (.v (.int .i64 5)))⟩,
   ⟨none, .bin 36 .add .num (.c (.v (.int .i64 1))) (.t 35)⟩,
   ⟨none, .asg 5 (.t 36)⟩])
 (.seq (.ops [⟨none, .mv 37 (.t 1)⟩,
   ⟨none, .cvi 38 .i64 (.t 37)⟩,
   ⟨none, .bin 39 .rem .num (.t 38) (.c (.v (.int .i64 4)))⟩,
   ⟨none, .bin 40 .add .num (.c (.v (.int .i64 1))) (.t 39)⟩,
   ⟨none, .asg 6 (.t 40)⟩])
 (.seq (.ops [⟨none, .asg 7 (.c (.v (.int .i64 1)))⟩])
 (.seq (.seq (.ops [⟨none, .asg 8 (.c (.v (.int .i64 0)))⟩])
  (.seq (.blk 0 (.lop b5_0)) (.scr x5_0)))
 (.seq (.ops [⟨none, .mv 49 (.t 5)⟩,
   ⟨none, .bin 50 .add .num (.t 49) (.c (.v (.int .i64 1)))⟩,
   ⟨none, .mks 51 1 [(.v (.int .i64 0))] (.t 50) (.t 50)⟩,
   ⟨none, .asg 9 (.t 51)⟩])
 (.seq (.ops [⟨none, .asg 10 (.c (.v (.int .i64 0)))⟩,
   ⟨none, .asg 11 (.c (.v (.int .i64 0)))⟩])
 (.seq (.ops [⟨none, .call (some 52) 7 [(.c (.v (.int .i64 0))), (.c (.v (.int .i64 1)))]⟩,
   ⟨none, .alc 12 [(.v (.bool false)), (.nd (.sl true 1 0) []), (.nd (.sl true 1 0) [])]⟩,
   ⟨none, .stn none 3 (.t 12) (.t 52)⟩])
 (.seq (.seq (.ops [⟨none, .asg 13 (.c (.v (.int .i64 0)))⟩])
  (.seq (.blk 2 (.lop b5_1)) (.scr x5_2)))
 (.seq (.ops [⟨none, .mv 123 (.t 5)⟩,
   ⟨none, .mv 124 (.t 6)⟩,
   ⟨none, .call (some 125) 23 [(.t 123), (.t 124)]⟩,
   ⟨none, .mv 122 (.t 125)⟩,
   ⟨none, .ext 126 (.t 122) 0⟩,
   ⟨none, .ext 127 (.t 122) 1⟩,
   ⟨none, .asg 21 (.t 126)⟩,
   ⟨none, .asg 22 (.t 127)⟩])
 (.seq (.ops [⟨none, .mv 129 (.t 5)⟩,
   ⟨none, .mv 130 (.t 6)⟩,
   ⟨none, .call (some 131) 24 [(.t 129), (.t 130)]⟩,
   ⟨none, .mv 128 (.t 131)⟩,
   ⟨none, .ext 132 (.t 128) 0⟩,
   ⟨none, .ext 133 (.t 128) 1⟩,
   ⟨none, .alc 23 [(.v (.bool false)), (.nd (.sl true 1 0) []), (.nd (.sl true 1 0) [])]⟩,
   ⟨none, .stn none 3 (.t 23) (.t 132)⟩,
   ⟨none, .asg 24 (.t 133)⟩])
 (.seq (.ops [⟨none, .mv 135 (.t 5)⟩,
   ⟨none, .bin 136 .sub .num (.t 135) (.c (.v (.int .i64 1)))⟩,
   ⟨none, .mv 137 (.t 6)⟩,
   ⟨none, .call (some 138) 24 [(.t 136), (.t 137)]⟩,
   ⟨none, .mv 134 (.t 138)⟩,
   ⟨none, .ext 139 (.t 134) 0⟩,
   ⟨none, .ext 140 (.t 134) 1⟩,
   ⟨none, .alc 25 [(.v (.bool false)), (.nd (.sl true 1 0) []), (.nd (.sl true 1 0) [])]⟩,
   ⟨none, .stn none 3 (.t 25) (.t 139)⟩,
   ⟨none, .asg 26 (.t 140)⟩])
 (.seq (.ops [⟨none, .mv 142 (.t 5)⟩,
   ⟨none, .mv 143 (.t 6)⟩,
   ⟨none, .call (some 144) 25 [(.t 142), (.t 143)]⟩,
   ⟨none, .mv 141 (.t 144)⟩,
   ⟨none, .ext 145 (.t 141) 0⟩,
   ⟨none, .ext 146 (.t 141) 1⟩,
   ⟨none, .alc 27 [(.v (.bool false)), (.nd (.sl true 1 0) []), (.nd (.sl true 1 0) [])]⟩,
   ⟨none, .stn none 3 (.t 27) (.t 145)⟩,
   ⟨none, .asg 28 (.t 146)⟩])
 (.seq (.seq (.ops (⟨none, .mv 147 (.t 22)⟩ ::
    ⟨none, .bin 148 .neq .num (.t 147) (.c (.v (.int .i64 0)))⟩ ::
    ⟨none, .mv 149 (.t 148)⟩ ::
    ⟨some (149, false), .mv 150 (.t 24)⟩ ::
    ⟨some (149, false), .bin 151 .neq .num (.t 150) (.c (.v (.int .i64 0)))⟩ ::
    ⟨none, .pick 152 (.t 149) (.c (.v (.bool true))) (.t 151)⟩ ::
    ⟨none, .mv 153 (.t 152)⟩ ::
    ⟨some (153, false), .mv 154 (.t 26)⟩ ::
    ⟨some (153, false), .bin 155 .neq .num (.t 154) (.c (.v (.int .i64 0)))⟩ ::
    ⟨none, .pick 156 (.t 153) (.c (.v (.bool true))) (.t 155)⟩ ::
    ⟨none, .mv 157 (.t 156)⟩ ::
    ⟨some (157, false), .mv 158 (.t 28)⟩ ::
    ⟨some (157, false), .bin 159 .neq .num (.t 158) (.c (.v (.int .i64 0)))⟩ ::
    ⟨none, .pick 160 (.t 157) (.c (.v (.bool true))) (.t 159)⟩ ::
    ⟨none, .mv 161 (.t 160)⟩ ::
    ⟨some (161, false), .mv 162 (.t 21)⟩ ::
    ⟨some (161, false), .len 163 false (.t 162)⟩ ::
    ⟨some (161, false), .mv 164 (.t 5)⟩ ::
    ⟨some (161, false), .bin 165 .add .num (.t 164) (.c (.v (.int .i64 1)))⟩ ::
    ⟨some (161, false), .bin 166 .neq .num (.t 163) (.t 165)⟩ ::
    ⟨none, .pick 167 (.t 161) (.c (.v (.bool true))) (.t 166)⟩ :: []))
  (.cnd (.t 167)
   (.seq (.ops [⟨none, .asg 4 (.c (.v (.bool false)))⟩])
   (.seq (.scr r5) .ret))
   .skip))
 (.seq (.seq (.ops [⟨none, .asg 29 (.c (.v (.int .i64 0)))⟩])
  (.seq (.blk 8 (.lop b5_4)) (.scr x5_8)))
 (.seq (.drw [⟨none, .call (some 185) 7 [(.c (.v (.int .i64 1))), (.c (.v (.int .i64 1)))]⟩,
   ⟨none, .ldn 186 3 (.t 23)⟩,
   ⟨none, .ldn 187 3 (.t 25)⟩,
   ⟨none, .call (some 188) 26 [(.t 186), (.t 187)]⟩,
   ⟨none, .call (some 189) 26 [(.t 185), (.t 188)]⟩,
   ⟨none, .alc 30 [(.v (.bool false)), (.nd (.sl true 1 0) []), (.nd (.sl true 1 0) [])]⟩] [⟨none, .stn none 3 (.t 30) (.t 189)⟩])
 (.seq (.drw (⟨none, .ldn 190 3 (.t 23)⟩ ::
   ⟨none, .mv 191 (.t 11)⟩ ::
   ⟨none, .mv 192 (.t 7)⟩ ::
   ⟨none, .call (some 193) 7 [(.t 191), (.t 192)]⟩ ::
   ⟨none, .call (some 194) 11 [(.t 190), (.t 193)]⟩ ::
   ⟨none, .bin 195 .eql .num (.t 194) (.c (.v (.int .i64 0)))⟩ ::
   ⟨none, .mv 196 (.t 195)⟩ ::
   ⟨some (196, true), .ldn 197 3 (.t 27)⟩ ::
   ⟨some (196, true), .mv 198 (.t 10)⟩ ::
   ⟨some (196, true), .mv 199 (.t 7)⟩ ::
   ⟨some (196, true), .call (some 200) 7 [(.t 198), (.t 199)]⟩ ::
   ⟨some (196, true), .call (some 201) 11 [(.t 197), (.t 200)]⟩ ::
   ⟨some (196, true), .bin 202 .eql .num (.t 201) (.c (.v (.int .i64 0)))⟩ ::
   ⟨none, .pick 203 (.t 196) (.t 202) (.c (.v (.bool false)))⟩ ::
   ⟨none, .mv 204 (.t 203)⟩ ::
   ⟨some (204, true), .ldn 205 3 (.t 12)⟩ ::
   ⟨some (204, true), .mv 206 (.t 7)⟩ ::
   ⟨some (204, true), .call (some 207) 7 [(.c (.v (.int .i64 1))), (.t 206)]⟩ ::
   ⟨some (204, true), .call (some 208) 27 [(.t 205), (.t 207)]⟩ ::
   ⟨some (204, true), .ldn 209 3 (.t 30)⟩ :: []) [⟨some (204, true), .call (some 210) 11 [(.t 208), (.t 209)]⟩,
   ⟨some (204, true), .bin 211 .eql .num (.t 210) (.c (.v (.int .i64 0)))⟩,
   ⟨none, .pick 212 (.t 204) (.t 211) (.c (.v (.bool false)))⟩,
   ⟨none, .asg 4 (.t 212)⟩])
 (.seq (.scr r5) .ret))))))))))))))))))),
  213, [4]⟩

/-- coinage/coinagetop.isotonicAwake -/
abbrev K6 : Nat := 12
def hints6 : List (List Bool) := [bits 46 [0]]
@[simp] def r6 : List Bool := bits 46 [0]
@[simp] def R6 (s0 : V) : St := tab 46 12 (fu dd 0 s0) dd
def c6 : MF := ⟨(.seq (.ops [⟨none, .asg 0 (.c (.v (.bool false)))⟩])
 (.seq (.ops [⟨none, .bs 6 1 3 [(.v (.int .i64 0))] [(0, 1, (.c (.v (.int .i64 3)))), (1, 1, (.c (.v (.int .i64 5)))), (2, 1, (.c (.v (.int .i64 1))))]⟩,
   ⟨none, .bs 7 1 3 [(.v (.int .i64 0))] [(0, 1, (.c (.v (.int .i64 1)))), (1, 1, (.c (.v (.int .i64 1)))), (2, 1, (.c (.v (.int .i64 1))))]⟩,
   ⟨none, .call (some 8) 8 [(.t 6), (.t 7)]⟩,
   ⟨none, .mv 5 (.t 8)⟩,
   ⟨none, .ext 9 (.t 5) 0⟩,
   ⟨none, .ext 10 (.t 5) 1⟩,
   ⟨none, .asg 1 (.t 9)⟩,
   ⟨none, .asg 2 (.t 10)⟩])
 (.seq (.ops [⟨none, .bs 12 1 2 [(.v (.int .i64 0))] [(0, 1, (.c (.v (.int .i64 3)))), (1, 1, (.c (.v (.int .i64 5))))]⟩,
   ⟨none, .call (some 13) 14 [(.t 12)]⟩,
   ⟨none, .mv 11 (.t 13)⟩,
   ⟨none, .ext 14 (.t 11) 0⟩,
   ⟨none, .ext 15 (.t 11) 1⟩,
   ⟨none, .alc 3 [(.v (.bool false)), (.nd (.sl true 1 0) []), (.nd (.sl true 1 0) [])]⟩,
   ⟨none, .stn none 3 (.t 3) (.t 14)⟩,
   ⟨none, .asg 4 (.t 15)⟩])
 (.seq (.ops (⟨none, .mv 16 (.t 2)⟩ ::
   ⟨none, .bin 17 .eql .num (.t 16) (.c (.v (.int .i64 0)))⟩ ::
   ⟨none, .mv 18 (.t 17)⟩ ::
   ⟨some (18, true), .mv 19 (.t 1)⟩ ::
   ⟨some (18, true), .len 20 false (.t 19)⟩ ::
   ⟨some (18, true), .bin 21 .eql .num (.t 20) (.c (.v (.int .i64 3)))⟩ ::
   ⟨none, .pick 22 (.t 18) (.t 21) (.c (.v (.bool false)))⟩ ::
   ⟨none, .mv 23 (.t 22)⟩ ::
   ⟨some (23, true), .mv 24 (.t 1)⟩ ::
   ⟨some (23, true), .ixs 25 3 (.t 24) (.c (.v (.int .i64 0)))⟩ ::
   ⟨some (23, true), .ldn 26 3 (.t 25)⟩ ::
   ⟨some (23, true), .call (some 27) 28 [(.t 26)]⟩ ::
   ⟨some (23, true), .bin 28 .eql .num (.t 27) (.c (.v (.string ⟨#[52]⟩)))⟩ ::
   ⟨none, .pick 29 (.t 23) (.t 28) (.c (.v (.bool false)))⟩ ::
   ⟨none, .mv 30 (.t 29)⟩ ::
   ⟨some (30, true), .mv 31 (.t 1)⟩ ::
   ⟨some (30, true), .ixs 32 3 (.t 31) (.c (.v (.int .i64 2)))⟩ ::
   ⟨some (30, true), .ldn 33 3 (.t 32)⟩ ::
   ⟨some (30, true), .call (some 34) 28 [(.t 33)]⟩ ::
   ⟨some (30, true), .bin 35 .eql .num (.t 34) (.c (.v (.string ⟨#[49]⟩)))⟩ ::
   ⟨none, .pick 36 (.t 30) (.t 35) (.c (.v (.bool false)))⟩ ::
   ⟨none, .mv 37 (.t 36)⟩ ::
   ⟨some (37, true), .mv 38 (.t 4)⟩ ::
   ⟨some (37, true), .bin 39 .eql .num (.t 38) (.c (.v (.int .i64 0)))⟩ ::
   ⟨none, .pick 40 (.t 37) (.t 39) (.c (.v (.bool false)))⟩ ::
   ⟨none, .mv 41 (.t 40)⟩ ::
   ⟨some (41, true), .ldn 42 3 (.t 3)⟩ ::
   ⟨some (41, true), .call (some 43) 28 [(.t 42)]⟩ ::
   ⟨some (41, true), .bin 44 .eql .num (.t 43) (.c (.v (.string ⟨#[52]⟩)))⟩ ::
   ⟨none, .pick 45 (.t 41) (.t 44) (.c (.v (.bool false)))⟩ ::
   ⟨none, .asg 0 (.t 45)⟩ :: []))
 (.seq (.scr r6) .ret))))),
  46, [0]⟩

/-- coinage/fraction.Of -/
abbrev K7 : Nat := 5
def hints7 : List (List Bool) := [bits 15 [4]]
@[simp] def r7 : List Bool := bits 15 [4]
@[simp] def R7 (s4 : V) : St := tab 15 5 (fu dd 4 s4) dd
def c7 : MF := ⟨(.seq (.ops [⟨none, .alc 4 [(.v (.bool false)), (.nd (.sl true 1 0) []), (.nd (.sl true 1 0) [])]⟩])
 (.seq (.ops [⟨none, .mv 5 (.t 0)⟩,
   ⟨none, .bin 6 .lss .num (.t 5) (.c (.v (.int .i64 0)))⟩,
   ⟨none, .mv 7 (.t 1)⟩,
   ⟨none, .bin 8 .lss .num (.t 7) (.c (.v (.int .i64 0)))⟩,
   ⟨none, .bin 9 .neq .bool (.t 6) (.t 8)⟩,
   ⟨none, .mv 10 (.t 0)⟩,
   ⟨none, .call (some 11) 30 [(.t 10)]⟩,
   ⟨none, .mv 12 (.t 1)⟩,
   ⟨none, .call (some 13) 30 [(.t 12)]⟩,
   ⟨none, .call (some 14) 29 [(.t 9), (.t 11), (.t 13)]⟩,
   ⟨none, .stn none 3 (.t 4) (.t 14)⟩])
 (.seq (.scr r7) .ret))),
  15, [4, 3, 1000000]⟩

def hints8 : List (List Bool) := [bits 36 [4, 5], bits 36 [7], bits 36 [7, 18, 19, 20], bits 36 [7], bits 36 [7, 18, 19, 20], bits 36 [7, 18, 19, 20], bits 36 [7, 9, 18, 19, 20, 25, 26], bits 36 [7, 18, 19, 20], bits 36 [7, 9, 18, 19, 20, 25, 26], bits 36 [4, 5]]
@[simp] def r8 : List Bool := bits 36 [4, 5]
@[simp] def R8 (s4 s5 : V) : St := tab 36 27 (fu (fu dd 5 s5) 4 s4) dd
@[simp] def x8_0 : List Bool := bits 36 [7]
@[simp] def X8_0 (s7 : V) : St := tab 36 27 (fu dd 7 s7) dd
@[simp] def h8_0 : List Bool := bits 36 [7, 18, 19, 20]
@[simp] def L8_0 (s7 s18 s19 s20 : V) : St := tab 36 27 (fu (fu (fu (fu dd 20 s20) 19 s19) 18 s18) 7 s7) dd
@[simp] def x8_1 : List Bool := bits 36 [7, 18, 19, 20]
@[simp] def X8_1 (s7 s18 s19 s20 : V) : St := tab 36 27 (fu (fu (fu (fu dd 20 s20) 19 s19) 18 s18) 7 s7) dd
@[simp] def x8_2 : List Bool := bits 36 [7, 18, 19, 20]
@[simp] def X8_2 (s7 s18 s19 s20 : V) : St := tab 36 27 (fu (fu (fu (fu dd 20 s20) 19 s19) 18 s18) 7 s7) dd
@[simp] def h8_1 : List Bool := bits 36 [7, 9, 18, 19, 20, 25, 26]
@[simp] def L8_1 (s7 s9 s18 s19 s20 s25 s26 : V) : St := tab 36 27 (fu (fu (fu (fu (fu (fu (fu dd 26 s26) 25 s25) 20 s20) 19 s19) 18 s18) 9 s9) 7 s7) dd
@[simp] def x8_3 : List Bool := bits 36 [7, 9, 18, 19, 20, 25, 26]
@[simp] def X8_3 (s7 s9 s18 s19 s20 s25 s26 : V) : St := tab 36 27 (fu (fu (fu (fu (fu (fu (fu dd 26 s26) 25 s25) 20 s20) 19 s19) 18 s18) 9 s9) 7 s7) dd
def b8_1 : MC := .seq (.scr h8_1)
 (.seq (.ops [⟨none, .bin 27 .lss .num (.t 26) (.t 25)⟩])
 (.seq (.cnd (.t 27)
   .skip
   (.seq (.scr x8_2) (.ex 2)))
 (.seq (.seq (.blk 3 (.ops [⟨none, .mv 28 (.t 7)⟩,
    ⟨none, .ldn 29 3 (.t 9)⟩,
    ⟨none, .call (some 30) 33 [(.t 29)]⟩,
    ⟨none, .bs 31 3 1 [(.v (.bool false)), (.nd (.sl true 1 0) []), (.nd (.sl true 1 0) [])] [(0, 3, (.t 30))]⟩,
    ⟨none, .app 32 3 (.t 28) (.t 31)⟩,
    ⟨none, .asg 7 (.t 32)⟩])) (.scr x8_3))
 (.ops [⟨none, .bin 33 .add .num (.t 26) (.c (.v (.int .i64 1)))⟩,
  ⟨none, .mv 26 (.t 33)⟩]))))
def b8_0 : MC := .seq (.scr h8_0)
 (.seq (.ops [⟨none, .bin 21 .lss .num (.t 20) (.t 19)⟩])
 (.seq (.cnd (.t 21)
   .skip
   (.seq (.scr x8_0) (.ex 0)))
 (.seq (.seq (.blk 1 (.seq (.ops [⟨none, .ixs 22 3 (.t 18) (.t 20)⟩,
     ⟨none, .ldn 23 3 (.t 22)⟩,
     ⟨none, .alc 9 [(.v (.int .i64 0)), (.v (.int .i64 0)), (.v (.int .i64 0))]⟩,
     ⟨none, .stn none 3 (.t 9) (.t 23)⟩])
   (.seq (.ops [⟨none, .fa 24 0 (.t 9)⟩,
     ⟨none, .ld1 25 (.t 24)⟩,
     ⟨none, .mv 26 (.c (.v (.int .i64 0)))⟩])
   (.seq (.blk 2 (.lop b8_1)) (.scr x8_2))))) (.scr x8_1))
 (.ops [⟨none, .bin 34 .add .num (.t 20) (.c (.v (.int .i64 1)))⟩,
  ⟨none, .mv 20 (.t 34)⟩]))))
def c8 : MF := ⟨(.seq (.ops [⟨none, .asg 4 (.c (.nd (.sl true 3 0) []))⟩,
   ⟨none, .asg 5 (.c (.v (.int .i64 0)))⟩])
 (.seq (.seq (.ops [⟨none, .mv 10 (.t 0)⟩,
    ⟨none, .mv 11 (.t 1)⟩,
    ⟨none, .call (some 12) 31 [(.t 10), (.t 11)]⟩,
    ⟨none, .asg 6 (.t 12)⟩])
  (.seq (.ops [⟨none, .mv 13 (.t 6)⟩,
    ⟨none, .bin 14 .neq .num (.t 13) (.c (.v (.int .i64 0)))⟩])
  (.cnd (.t 14)
   (.seq (.ops [⟨none, .mv 15 (.t 6)⟩,
     ⟨none, .asg 4 (.c (.nd (.sl true 3 0) []))⟩,
     ⟨none, .asg 5 (.t 15)⟩])
   (.seq (.scr r8) .ret))
   .skip)))
 (.seq (.ops [⟨none, .asg 7 (.c (.nd (.sl true 3 0) []))⟩])
 (.seq (.seq (.ops [⟨none, .mv 16 (.t 0)⟩,
    ⟨none, .mv 17 (.t 1)⟩,
    ⟨none, .call (some 18) 32 [(.t 16), (.t 17)]⟩,
    ⟨none, .len 19 false (.t 18)⟩,
    ⟨none, .mv 20 (.c (.v (.int .i64 0)))⟩])
  (.seq (.blk 0 (.lop b8_0)) (.scr x8_0)))
 (.seq (.ops [⟨none, .mv 35 (.t 7)⟩,
   ⟨none, .asg 4 (.t 35)⟩,
   ⟨none, .asg 5 (.c (.v (.int .i64 0)))⟩])
 (.seq (.scr r8) .ret)))))),
  36, [4, 5]⟩

def hints9 : List (List Bool) := [bits 54 [6, 7], bits 54 [6, 7], bits 54 [6, 9], bits 54 [0, 1, 2, 6, 9, 27, 28, 29], bits 54 [6, 9], bits 54 [0, 1, 2, 6, 9, 27, 28, 29], bits 54 [6, 7]]
@[simp] def r9 : List Bool := bits 54 [6, 7]
@[simp] def R9 (s6 s7 : V) : St := tab 54 30 (fu (fu dd 7 s7) 6 s6) dd
@[simp] def x9_0 : List Bool := bits 54 [6, 9]
@[simp] def X9_0 (s6 s9 : V) : St := tab 54 30 (fu (fu dd 9 s9) 6 s6) dd
@[simp] def h9_0 : List Bool := bits 54 [0, 1, 2, 6, 9, 27, 28, 29]
@[simp] def L9_0 (s0 s1 s2 s6 s9 s27 s28 s29 : V) : St := tab 54 30 (fu (fu (fu (fu (fu (fu (fu (fu dd 29 s29) 28 s28) 27 s27) 9 s9) 6 s6) 2 s2) 1 s1) 0 s0) dd
@[simp] def x9_1 : List Bool := bits 54 [0, 1, 2, 6, 9, 27, 28, 29]
@[simp] def X9_1 (s0 s1 s2 s6 s9 s27 s28 s29 : V) : St := tab 54 30 (fu (fu (fu (fu (fu (fu (fu (fu dd 29 s29) 28 s28) 27 s27) 9 s9) 6 s6) 2 s2) 1 s1) 0 s0) dd
def b9_0 : MC := .seq (.scr h9_0)
 (.seq (.ops [⟨none, .bin 30 .lss .num (.t 29) (.t 28)⟩])
 (.seq (.cnd (.t 30)
   .skip
   (.seq (.scr x9_0) (.ex 0)))
 (.seq (.seq (.blk 1 (.seq (.ops [⟨none, .mv 31 (.t 29)⟩,
     ⟨none, .ixs 32 3 (.t 27) (.t 29)⟩,
     ⟨none, .ldn 33 3 (.t 32)⟩,
     ⟨none, .alc 11 [(.v (.bool false)), (.nd (.sl true 1 0) []), (.nd (.sl true 1 0) [])]⟩,
     ⟨none, .asg 10 (.t 31)⟩,
     ⟨none, .stn none 3 (.t 11) (.t 33)⟩])
   (.seq (.drw [⟨none, .mv 34 (.t 0)⟩,
     ⟨none, .mv 35 (.t 10)⟩,
     ⟨none, .ixs 36 1 (.t 34) (.t 35)⟩,
     ⟨none, .ld1 37 (.t 36)⟩,
     ⟨none, .call (some 38) 7 [(.t 37), (.c (.v (.int .i64 1)))]⟩,
     ⟨none, .ldn 39 3 (.t 11)⟩,
     ⟨none, .call (some 40) 26 [(.t 38), (.t 39)]⟩,
     ⟨none, .alc 12 [(.v (.bool false)), (.nd (.sl true 1 0) []), (.nd (.sl true 1 0) [])]⟩] [⟨none, .stn none 3 (.t 12) (.t 40)⟩])
   (.drw [⟨none, .ldn 41 3 (.t 9)⟩,
    ⟨none, .mv 42 (.t 1)⟩,
    ⟨none, .mv 43 (.t 10)⟩,
    ⟨none, .ixs 44 1 (.t 42) (.t 43)⟩,
    ⟨none, .ld1 45 (.t 44)⟩,
    ⟨none, .call (some 46) 7 [(.t 45), (.c (.v (.int .i64 1)))]⟩,
    ⟨none, .ldn 47 3 (.t 12)⟩,
    ⟨none, .ldn 48 3 (.t 12)⟩,
    ⟨none, .call (some 49) 27 [(.t 47), (.t 48)]⟩,
    ⟨none, .call (some 50) 27 [(.t 46), (.t 49)]⟩] [⟨none, .call (some 51) 22 [(.t 41), (.t 50)]⟩,
    ⟨none, .stn none 3 (.t 9) (.t 51)⟩])))) (.scr x9_1))
 (.ops [⟨none, .bin 52 .add .num (.t 29) (.c (.v (.int .i64 1)))⟩,
  ⟨none, .mv 29 (.t 52)⟩]))))
def c9 : MF := ⟨(.seq (.ops [⟨none, .alc 6 [(.v (.bool false)), (.nd (.sl true 1 0) []), (.nd (.sl true 1 0) [])]⟩,
   ⟨none, .asg 7 (.c (.v (.int .i64 0)))⟩])
 (.seq (.seq (.ops [⟨none, .mv 13 (.t 0)⟩,
    ⟨none, .mv 14 (.t 1)⟩,
    ⟨none, .call (some 15) 31 [(.t 13), (.t 14)]⟩,
    ⟨none, .asg 8 (.t 15)⟩])
  (.seq (.ops [⟨none, .mv 16 (.t 8)⟩,
    ⟨none, .bin 17 .neq .num (.t 16) (.c (.v (.int .i64 0)))⟩])
  (.cnd (.t 17)
   (.seq (.ops [⟨none, .bld 18 [(.v (.bool false)), (.nd (.sl true 1 0) []), (.nd (.sl true 1 0) [])] []⟩,
     ⟨none, .mv 19 (.t 8)⟩,
     ⟨none, .stn none 3 (.t 6) (.t 18)⟩,
     ⟨none, .asg 7 (.t 19)⟩])
   (.seq (.scr r9) .ret))
   .skip)))
 (.seq (.seq (.ops [⟨none, .mv 20 (.t 2)⟩,
    ⟨none, .len 21 false (.t 20)⟩,
    ⟨none, .mv 22 (.t 0)⟩,
    ⟨none, .len 23 false (.t 22)⟩,
    ⟨none, .bin 24 .neq .num (.t 21) (.t 23)⟩])
  (.cnd (.t 24)
   (.seq (.ops [⟨none, .bld 25 [(.v (.bool false)), (.nd (.sl true 1 0) []), (.nd (.sl true 1 0) [])] []⟩,
     ⟨none, .stn none 3 (.t 6) (.t 25)⟩,
     ⟨none, .asg 7 (.c (.v (.int .i64 2)))⟩])
   (.seq (.scr r9) .ret))
   .skip))
 (.seq (.ops [⟨none, .call (some 26) 7 [(.c (.v (.int .i64 0))), (.c (.v (.int .i64 1)))]⟩,
   ⟨none, .alc 9 [(.v (.bool false)), (.nd (.sl true 1 0) []), (.nd (.sl true 1 0) [])]⟩,
   ⟨none, .stn none 3 (.t 9) (.t 26)⟩])
 (.seq (.seq (.ops [⟨none, .mv 27 (.t 2)⟩,
    ⟨none, .len 28 false (.t 27)⟩,
    ⟨none, .mv 29 (.c (.v (.int .i64 0)))⟩])
  (.seq (.blk 0 (.lop b9_0)) (.scr x9_0)))
 (.seq (.ops [⟨none, .ldn 53 3 (.t 9)⟩,
   ⟨none, .stn none 3 (.t 6) (.t 53)⟩,
   ⟨none, .asg 7 (.c (.v (.int .i64 0)))⟩])
 (.seq (.scr r9) .ret))))))),
  54, [1000001, 4, 6, 0, 7]⟩

def hints10 : List (List Bool) := [bits 21 [], bits 21 [0, 3], bits 21 [], bits 21 [0, 3], bits 21 [2], bits 21 [2]]
@[simp] def r10 : List Bool := bits 21 [2]
@[simp] def R10 (s2 : V) : St := tab 21 4 (fu dd 2 s2) dd
@[simp] def x10_0 : List Bool := bits 21 []
@[simp] def X10_0 : St := tab 21 4 dd dd
@[simp] def h10_0 : List Bool := bits 21 [0, 3]
@[simp] def L10_0 (s0 s3 : V) : St := tab 21 4 (fu (fu dd 3 s3) 0 s0) dd
@[simp] def x10_1 : List Bool := bits 21 [0, 3]
@[simp] def X10_1 (s0 s3 : V) : St := tab 21 4 (fu (fu dd 3 s3) 0 s0) dd
def b10_0 : MC := .seq (.scr h10_0)
 (.seq (.seq (.ops [⟨none, .mv 4 (.t 3)⟩,
    ⟨none, .mv 5 (.t 0)⟩,
    ⟨none, .len 6 false (.t 5)⟩,
    ⟨none, .bin 7 .lss .num (.t 4) (.t 6)⟩])
  (.cnd (.t 7)
   .skip
   (.seq (.scr x10_0) (.ex 0))))
 (.seq (.seq (.blk 1 (.seq (.drw [⟨none, .mv 10 (.t 0)⟩,
     ⟨none, .mv 11 (.t 3)⟩,
     ⟨none, .bin 12 .sub .num (.t 11) (.c (.v (.int .i64 1)))⟩,
     ⟨none, .ixs 13 3 (.t 10) (.t 12)⟩,
     ⟨none, .ldn 14 3 (.t 13)⟩,
     ⟨none, .mv 15 (.t 0)⟩,
     ⟨none, .mv 16 (.t 3)⟩,
     ⟨none, .ixs 17 3 (.t 15) (.t 16)⟩,
     ⟨none, .ldn 18 3 (.t 17)⟩] [⟨none, .call (some 19) 11 [(.t 14), (.t 18)]⟩,
     ⟨none, .bin 20 .lss .num (.t 19) (.c (.v (.int .i64 0)))⟩])
   (.cnd (.t 20)
    (.seq (.ops [⟨none, .asg 2 (.c (.v (.bool false)))⟩])
    (.seq (.scr r10) .ret))
    .skip))) (.scr x10_1))
 (.ops [⟨none, .mv 8 (.t 3)⟩,
  ⟨none, .bin 9 .add .num (.t 8) (.c (.v (.int .i64 1)))⟩,
  ⟨none, .asg 3 (.t 9)⟩])))
def c10 : MF := ⟨(.seq (.ops [⟨none, .asg 2 (.c (.v (.bool false)))⟩])
 (.seq (.seq (.ops [⟨none, .asg 3 (.c (.v (.int .i64 1)))⟩])
  (.seq (.blk 0 (.lop b10_0)) (.scr x10_0)))
 (.seq (.ops [⟨none, .asg 2 (.c (.v (.bool true)))⟩])
 (.seq (.scr r10) .ret)))),
  21, [2]⟩

/-- coinage/fraction.Cmp -/
abbrev K11 : Nat := 20
def hints11 : List (List Bool) := [bits 35 [2, 3, 5], bits 35 [4], bits 35 [4], bits 35 [4], bits 35 [4]]
@[simp] def r11 : List Bool := bits 35 [4]
@[simp] def R11 (s4 : V) : St := tab 35 20 (fu dd 4 s4) dd
@[simp] def x11_0 : List Bool := bits 35 [2, 3, 5]
@[simp] def X11_0 (s2 s3 s5 : V) : St := tab 35 20 (fu (fu (fu dd 5 s5) 3 s3) 2 s2) dd
def c11 : MF := ⟨(.seq (.ops [⟨none, .sl0 2 0 (.t 0)⟩,
   ⟨none, .sl0 3 0 (.t 1)⟩,
   ⟨none, .asg 4 (.c (.v (.int .i64 0)))⟩])
 (.seq (.drw [⟨none, .ldn 7 3 (.t 2)⟩,
   ⟨none, .call (some 8) 12 [(.t 7)]⟩,
   ⟨none, .ldn 9 3 (.t 3)⟩] [⟨none, .call (some 10) 12 [(.t 9)]⟩,
   ⟨none, .asg 5 (.t 8)⟩,
   ⟨none, .asg 6 (.t 10)⟩])
 (.seq (.seq (.blk 0 (.seq (.ops [⟨none, .mv 12 (.t 5)⟩,
     ⟨none, .mv 13 (.t 6)⟩,
     ⟨none, .bin 14 .lss .num (.t 12) (.t 13)⟩,
     ⟨none, .asg 11 (.t 14)⟩])
   (.cnd (.t 11)
    (.seq (.ops [⟨none, .asg 4 (.c (.v (.int .i64 (-1))))⟩])
    (.seq (.scr r11) .ret))
    (.seq (.ops [⟨none, .mv 16 (.t 5)⟩,
      ⟨none, .mv 17 (.t 6)⟩,
      ⟨none, .bin 18 .gtr .num (.t 16) (.t 17)⟩,
      ⟨none, .asg 15 (.t 18)⟩])
    (.cnd (.t 15)
     (.seq (.ops [⟨none, .asg 4 (.c (.v (.int .i64 1)))⟩])
     (.seq (.scr r11) .ret))
     (.seq (.ops [⟨none, .mv 20 (.t 5)⟩,
       ⟨none, .bin 21 .eql .num (.t 20) (.c (.v (.int .i64 0)))⟩,
       ⟨none, .asg 19 (.t 21)⟩])
     (.cnd (.t 19)
      (.seq (.ops [⟨none, .asg 4 (.c (.v (.int .i64 0)))⟩])
      (.seq (.scr r11) .ret))
      .skip))))))) (.scr x11_0))
 (.seq (.drw [⟨none, .mv 22 (.t 5)⟩,
   ⟨none, .fa 23 1 (.t 2)⟩,
   ⟨none, .ldn 24 1 (.t 23)⟩,
   ⟨none, .fa 25 2 (.t 3)⟩,
   ⟨none, .ldn 26 1 (.t 25)⟩,
   ⟨none, .call (some 27) 35 [(.t 24), (.t 26)]⟩,
   ⟨none, .fa 28 1 (.t 3)⟩,
   ⟨none, .ldn 29 1 (.t 28)⟩,
   ⟨none, .fa 30 2 (.t 2)⟩,
   ⟨none, .ldn 31 1 (.t 30)⟩,
   ⟨none, .call (some 32) 35 [(.t 29), (.t 31)]⟩,
   ⟨none, .call (some 33) 34 [(.t 27), (.t 32)]⟩] [⟨none, .bin 34 .mul .num (.t 22) (.t 33)⟩,
   ⟨none, .asg 4 (.t 34)⟩])
 (.seq (.scr r11) .ret))))),
  35, [4]⟩

/-- coinage/fraction.Sign -/
abbrev K12 : Nat := 13
def hints12 : List (List Bool) := [bits 15 [], bits 15 [2], bits 15 [2], bits 15 [2]]
@[simp] def r12 : List Bool := bits 15 [2]
@[simp] def R12 (s2 : V) : St := tab 15 13 (fu dd 2 s2) dd
@[simp] def x12_0 : List Bool := bits 15 []
@[simp] def X12_0 : St := tab 15 13 dd dd
def c12 : MF := ⟨(.seq (.ops [⟨none, .sl0 1 0 (.t 0)⟩,
   ⟨none, .asg 2 (.c (.v (.int .i64 0)))⟩])
 (.seq (.seq (.blk 0 (.seq (.ops [⟨none, .fa 4 1 (.t 1)⟩,
     ⟨none, .ldn 5 1 (.t 4)⟩,
     ⟨none, .call (some 6) 36 [(.t 5)]⟩,
     ⟨none, .mv 7 (.t 6)⟩,
     ⟨some (7, false), .fa 8 2 (.t 1)⟩,
     ⟨some (7, false), .ldn 9 1 (.t 8)⟩,
     ⟨some (7, false), .call (some 10) 36 [(.t 9)]⟩,
     ⟨none, .pick 11 (.t 7) (.c (.v (.bool true))) (.t 10)⟩,
     ⟨none, .asg 3 (.t 11)⟩])
   (.cnd (.t 3)
    (.seq (.ops [⟨none, .asg 2 (.c (.v (.int .i64 0)))⟩])
    (.seq (.scr r12) .ret))
    (.seq (.ops [⟨none, .fa 13 0 (.t 1)⟩,
      ⟨none, .ld1 14 (.t 13)⟩,
      ⟨none, .asg 12 (.t 14)⟩])
    (.cnd (.t 12)
     (.seq (.ops [⟨none, .asg 2 (.c (.v (.int .i64 (-1))))⟩])
     (.seq (.scr r12) .ret))
     .skip))))) (.scr x12_0))
 (.seq (.ops [⟨none, .asg 2 (.c (.v (.int .i64 1)))⟩])
 (.seq (.scr r12) .ret)))),
  15, [2]⟩

def hints13 : List (List Bool) := [bits 35 [4, 5], bits 35 [7], bits 35 [7, 8, 19, 20, 21], bits 35 [7], bits 35 [7, 8, 19, 20, 21], bits 35 [4, 5]]
@[simp] def r13 : List Bool := bits 35 [4, 5]
@[simp] def R13 (s4 s5 : V) : St := tab 35 22 (fu (fu dd 5 s5) 4 s4) dd
@[simp] def x13_0 : List Bool := bits 35 [7]
@[simp] def X13_0 (s7 : V) : St := tab 35 22 (fu dd 7 s7) dd
@[simp] def h13_0 : List Bool := bits 35 [7, 8, 19, 20, 21]
@[simp] def L13_0 (s7 s8 s19 s20 s21 : V) : St := tab 35 22 (fu (fu (fu (fu (fu dd 21 s21) 20 s20) 19 s19) 8 s8) 7 s7) dd
@[simp] def x13_1 : List Bool := bits 35 [7, 8, 19, 20, 21]
@[simp] def X13_1 (s7 s8 s19 s20 s21 : V) : St := tab 35 22 (fu (fu (fu (fu (fu dd 21 s21) 20 s20) 19 s19) 8 s8) 7 s7) dd
def b13_0 : MC := .seq (.scr h13_0)
 (.seq (.ops [⟨none, .bin 22 .lss .num (.t 21) (.t 20)⟩])
 (.seq (.cnd (.t 22)
   .skip
   (.seq (.scr x13_0) (.ex 0)))
 (.seq (.seq (.blk 1 (.seq (.ops [⟨none, .ixs 23 3 (.t 19) (.t 21)⟩,
     ⟨none, .ldn 24 3 (.t 23)⟩,
     ⟨none, .alc 10 [(.v (.int .i64 0)), (.v (.int .i64 0)), (.v (.int .i64 0))]⟩,
     ⟨none, .stn none 3 (.t 10) (.t 24)⟩])
   (.seq (.ops [⟨none, .mv 25 (.t 7)⟩,
     ⟨none, .mv 26 (.t 8)⟩,
     ⟨none, .bs 27 1 1 [(.v (.int .i64 0))] [(0, 1, (.t 26))]⟩,
     ⟨none, .app 28 1 (.t 25) (.t 27)⟩,
     ⟨none, .asg 7 (.t 28)⟩])
   (.ops [⟨none, .mv 29 (.t 8)⟩,
    ⟨none, .fa 30 0 (.t 10)⟩,
    ⟨none, .ld1 31 (.t 30)⟩,
    ⟨none, .bin 32 .add .num (.t 29) (.t 31)⟩,
    ⟨none, .asg 8 (.t 32)⟩])))) (.scr x13_1))
 (.ops [⟨none, .bin 33 .add .num (.t 21) (.c (.v (.int .i64 1)))⟩,
  ⟨none, .mv 21 (.t 33)⟩]))))
def c13 : MF := ⟨(.seq (.ops [⟨none, .asg 4 (.c (.nd (.sl true 1 0) []))⟩,
   ⟨none, .asg 5 (.c (.v (.int .i64 0)))⟩])
 (.seq (.seq (.ops [⟨none, .mv 11 (.t 0)⟩,
    ⟨none, .mv 12 (.t 1)⟩,
    ⟨none, .call (some 13) 31 [(.t 11), (.t 12)]⟩,
    ⟨none, .asg 6 (.t 13)⟩])
  (.seq (.ops [⟨none, .mv 14 (.t 6)⟩,
    ⟨none, .bin 15 .neq .num (.t 14) (.c (.v (.int .i64 0)))⟩])
  (.cnd (.t 15)
   (.seq (.ops [⟨none, .mv 16 (.t 6)⟩,
     ⟨none, .asg 4 (.c (.nd (.sl true 1 0) []))⟩,
     ⟨none, .asg 5 (.t 16)⟩])
   (.seq (.scr r13) .ret))
   .skip)))
 (.seq (.ops [⟨none, .asg 7 (.c (.nd (.sl true 1 0) []))⟩])
 (.seq (.ops [⟨none, .asg 8 (.c (.v (.int .i64 0)))⟩])
 (.seq (.seq (.ops [⟨none, .mv 17 (.t 0)⟩,
    ⟨none, .mv 18 (.t 1)⟩,
    ⟨none, .call (some 19) 32 [(.t 17), (.t 18)]⟩,
    ⟨none, .len 20 false (.t 19)⟩,
    ⟨none, .mv 21 (.c (.v (.int .i64 0)))⟩])
  (.seq (.blk 0 (.lop b13_0)) (.scr x13_0)))
 (.seq (.ops [⟨none, .mv 34 (.t 7)⟩,
   ⟨none, .asg 4 (.t 34)⟩,
   ⟨none, .asg 5 (.c (.v (.int .i64 0)))⟩])
 (.seq (.scr r13) .ret))))))),
  35, [4, 5]⟩

def hints14 : List (List Bool) := [bits 28 [2, 3], bits 28 [0, 2, 5], bits 28 [0, 2, 5, 14, 15, 16], bits 28 [0, 2, 5], bits 28 [0, 2, 5, 14, 15, 16], bits 28 [2, 3]]
@[simp] def r14 : List Bool := bits 28 [2, 3]
@[simp] def R14 (s2 s3 : V) : St := tab 28 17 (fu (fu dd 3 s3) 2 s2) dd
@[simp] def x14_0 : List Bool := bits 28 [0, 2, 5]
@[simp] def X14_0 (s0 s2 s5 : V) : St := tab 28 17 (fu (fu (fu dd 5 s5) 2 s2) 0 s0) dd
@[simp] def h14_0 : List Bool := bits 28 [0, 2, 5, 14, 15, 16]
@[simp] def L14_0 (s0 s2 s5 s14 s15 s16 : V) : St := tab 28 17 (fu (fu (fu (fu (fu (fu dd 16 s16) 15 s15) 14 s14) 5 s5) 2 s2) 0 s0) dd
@[simp] def x14_1 : List Bool := bits 28 [0, 2, 5, 14, 15, 16]
@[simp] def X14_1 (s0 s2 s5 s14 s15 s16 : V) : St := tab 28 17 (fu (fu (fu (fu (fu (fu dd 16 s16) 15 s15) 14 s14) 5 s5) 2 s2) 0 s0) dd
def b14_0 : MC := .seq (.scr h14_0)
 (.seq (.ops [⟨none, .bin 17 .lss .num (.t 16) (.t 15)⟩])
 (.seq (.cnd (.t 17)
   .skip
   (.seq (.scr x14_0) (.ex 0)))
 (.seq (.seq (.blk 1 (.seq (.ops [⟨none, .ixs 18 1 (.t 14) (.t 16)⟩,
     ⟨none, .ld1 19 (.t 18)⟩,
     ⟨none, .asg 7 (.t 19)⟩])
   (.ops [⟨none, .mv 20 (.t 5)⟩,
    ⟨none, .mv 21 (.t 7)⟩,
    ⟨none, .bin 22 .add .num (.t 20) (.t 21)⟩,
    ⟨none, .asg 5 (.t 22)⟩]))) (.scr x14_1))
 (.ops [⟨none, .bin 23 .add .num (.t 16) (.c (.v (.int .i64 1)))⟩,
  ⟨none, .mv 16 (.t 23)⟩]))))
def c14 : MF := ⟨(.seq (.ops [⟨none, .alc 2 [(.v (.bool false)), (.nd (.sl true 1 0) []), (.nd (.sl true 1 0) [])]⟩,
   ⟨none, .asg 3 (.c (.v (.int .i64 0)))⟩])
 (.seq (.seq (.ops [⟨none, .mv 8 (.t 0)⟩,
    ⟨none, .call (some 9) 37 [(.t 8)]⟩,
    ⟨none, .asg 4 (.t 9)⟩])
  (.seq (.ops [⟨none, .mv 10 (.t 4)⟩,
    ⟨none, .bin 11 .neq .num (.t 10) (.c (.v (.int .i64 0)))⟩])
  (.cnd (.t 11)
   (.seq (.ops [⟨none, .bld 12 [(.v (.bool false)), (.nd (.sl true 1 0) []), (.nd (.sl true 1 0) [])] []⟩,
     ⟨none, .mv 13 (.t 4)⟩,
     ⟨none, .stn none 3 (.t 2) (.t 12)⟩,
     ⟨none, .asg 3 (.t 13)⟩])
   (.seq (.scr r14) .ret))
   .skip)))
 (.seq (.ops [⟨none, .asg 5 (.c (.v (.int .i64 0)))⟩])
 (.seq (.seq (.ops [⟨none, .mv 14 (.t 0)⟩,
    ⟨none, .len 15 false (.t 14)⟩,
    ⟨none, .mv 16 (.c (.v (.int .i64 0)))⟩])
  (.seq (.blk 0 (.lop b14_0)) (.scr x14_0)))
 (.seq (.ops [⟨none, .mv 24 (.t 5)⟩,
   ⟨none, .mv 25 (.t 0)⟩,
   ⟨none, .len 26 false (.t 25)⟩,
   ⟨none, .call (some 27) 7 [(.t 24), (.t 26)]⟩,
   ⟨none, .stn none 3 (.t 2) (.t 27)⟩,
   ⟨none, .asg 3 (.c (.v (.int .i64 0)))⟩])
 (.seq (.scr r14) .ret)))))),
  28, [1000001, 4, 2, 0, 3]⟩

def hints15 : List (List Bool) := [bits 33 [0]]
@[simp] def r15 : List Bool := bits 33 [0]
@[simp] def R15 (s0 : V) : St := tab 33 12 (fu dd 0 s0) dd
def c15 : MF := ⟨(.seq (.ops [⟨none, .asg 0 (.c (.v (.bool false)))⟩])
 (.seq (.ops [⟨none, .call (some 4) 7 [(.c (.v (.int .i64 90))), (.c (.v (.int .i64 1)))]⟩,
   ⟨none, .call (some 5) 7 [(.c (.v (.int .i64 10))), (.c (.v (.int .i64 1)))]⟩,
   ⟨none, .bs 6 3 2 [(.v (.bool false)), (.nd (.sl true 1 0) []), (.nd (.sl true 1 0) [])] [(0, 3, (.t 4)), (3, 3, (.t 5))]⟩,
   ⟨none, .call (some 7) 7 [(.c (.v (.int .i64 60))), (.c (.v (.int .i64 1)))]⟩,
   ⟨none, .call (some 8) 7 [(.c (.v (.int .i64 40))), (.c (.v (.int .i64 1)))]⟩,
   ⟨none, .bs 9 3 2 [(.v (.bool false)), (.nd (.sl true 1 0) []), (.nd (.sl true 1 0) [])] [(0, 3, (.t 7)), (3, 3, (.t 8))]⟩,
   ⟨none, .bs 10 1 2 [(.nd (.sl true 3 0) [])] [(0, 1, (.t 6)), (1, 1, (.t 9))]⟩,
   ⟨none, .asg 1 (.t 10)⟩])
 (.seq (.ops [⟨none, .mv 12 (.t 1)⟩,
   ⟨none, .call (some 13) 7 [(.c (.v (.int .i64 1))), (.c (.v (.int .i64 3)))]⟩,
   ⟨none, .call (some 14) 7 [(.c (.v (.int .i64 2))), (.c (.v (.int .i64 3)))]⟩,
   ⟨none, .bs 15 3 2 [(.v (.bool false)), (.nd (.sl true 1 0) []), (.nd (.sl true 1 0) [])] [(0, 3, (.t 13)), (3, 3, (.t 14))]⟩,
   ⟨none, .call (some 16) 16 [(.t 12), (.t 15)]⟩,
   ⟨none, .mv 11 (.t 16)⟩,
   ⟨none, .ext 17 (.t 11) 0⟩,
   ⟨none, .ext 18 (.t 11) 1⟩,
   ⟨none, .asg 2 (.t 17)⟩,
   ⟨none, .asg 3 (.t 18)⟩])
 (.seq (.ops [⟨none, .mv 19 (.t 3)⟩,
   ⟨none, .bin 20 .eql .num (.t 19) (.c (.v (.int .i64 0)))⟩,
   ⟨none, .mv 21 (.t 20)⟩,
   ⟨some (21, true), .mv 22 (.t 2)⟩,
   ⟨some (21, true), .len 23 false (.t 22)⟩,
   ⟨some (21, true), .bin 24 .eql .num (.t 23) (.c (.v (.int .i64 2)))⟩,
   ⟨none, .pick 25 (.t 21) (.t 24) (.c (.v (.bool false)))⟩,
   ⟨none, .mv 26 (.t 25)⟩,
   ⟨some (26, true), .mv 27 (.t 2)⟩,
   ⟨some (26, true), .ixs 28 3 (.t 27) (.c (.v (.int .i64 0)))⟩,
   ⟨some (26, true), .ldn 29 3 (.t 28)⟩,
   ⟨some (26, true), .call (some 30) 28 [(.t 29)]⟩,
   ⟨some (26, true), .bin 31 .eql .num (.t 30) (.c (.v (.string ⟨#[55, 48]⟩)))⟩,
   ⟨none, .pick 32 (.t 26) (.t 31) (.c (.v (.bool false)))⟩,
   ⟨none, .asg 0 (.t 32)⟩])
 (.seq (.scr r15) .ret))))),
  33, [0]⟩

def hints16 : List (List Bool) := [bits 65 [4, 5], bits 65 [0, 1], bits 65 [0, 1, 23, 24, 25], bits 65 [0, 1], bits 65 [0, 1, 23, 24, 25], bits 65 [4, 5], bits 65 [4, 5], bits 65 [8], bits 65 [0, 1, 8, 39, 40], bits 65 [8], bits 65 [0, 1, 8, 39, 40], bits 65 [0, 1, 8, 10, 39, 40], bits 65 [0, 1, 8, 9, 10, 39, 40, 43, 44, 45], bits 65 [0, 1, 8, 10, 39, 40], bits 65 [0, 1, 8, 9, 10, 39, 40, 43, 44, 45], bits 65 [4, 5]]
@[simp] def r16 : List Bool := bits 65 [4, 5]
@[simp] def R16 (s4 s5 : V) : St := tab 65 46 (fu (fu dd 5 s5) 4 s4) dd
@[simp] def x16_0 : List Bool := bits 65 [0, 1]
@[simp] def X16_0 (s0 s1 : V) : St := tab 65 46 (fu (fu dd 1 s1) 0 s0) dd
@[simp] def h16_0 : List Bool := bits 65 [0, 1, 23, 24, 25]
@[simp] def L16_0 (s0 s1 s23 s24 s25 : V) : St := tab 65 46 (fu (fu (fu (fu (fu dd 25 s25) 24 s24) 23 s23) 1 s1) 0 s0) dd
@[simp] def x16_1 : List Bool := bits 65 [0, 1, 23, 24, 25]
@[simp] def X16_1 (s0 s1 s23 s24 s25 : V) : St := tab 65 46 (fu (fu (fu (fu (fu dd 25 s25) 24 s24) 23 s23) 1 s1) 0 s0) dd
def b16_0 : MC := .seq (.scr h16_0)
 (.seq (.ops [⟨none, .bin 26 .lss .num (.t 25) (.t 24)⟩])
 (.seq (.cnd (.t 26)
   .skip
   (.seq (.scr x16_0) (.ex 0)))
 (.seq (.seq (.blk 1 (.seq (.ops [⟨none, .ixs 27 3 (.t 23) (.t 25)⟩,
     ⟨none, .ldn 28 3 (.t 27)⟩,
     ⟨none, .alc 7 [(.v (.bool false)), (.nd (.sl true 1 0) []), (.nd (.sl true 1 0) [])]⟩,
     ⟨none, .stn none 3 (.t 7) (.t 28)⟩])
   (.seq (.ops [⟨none, .ldn 29 3 (.t 7)⟩,
     ⟨none, .call (some 30) 12 [(.t 29)]⟩,
     ⟨none, .bin 31 .lss .num (.t 30) (.c (.v (.int .i64 0)))⟩])
   (.cnd (.t 31)
    (.seq (.ops [⟨none, .asg 4 (.c (.nd (.sl true 3 0) []))⟩,
      ⟨none, .asg 5 (.c (.v (.int .i64 1)))⟩])
    (.seq (.scr r16) .ret))
    .skip)))) (.scr x16_1))
 (.ops [⟨none, .bin 32 .add .num (.t 25) (.c (.v (.int .i64 1)))⟩,
  ⟨none, .mv 25 (.t 32)⟩]))))
@[simp] def x16_2 : List Bool := bits 65 [8]
@[simp] def X16_2 (s8 : V) : St := tab 65 46 (fu dd 8 s8) dd
@[simp] def h16_1 : List Bool := bits 65 [0, 1, 8, 39, 40]
@[simp] def L16_1 (s0 s1 s8 s39 s40 : V) : St := tab 65 46 (fu (fu (fu (fu (fu dd 40 s40) 39 s39) 8 s8) 1 s1) 0 s0) dd
@[simp] def x16_3 : List Bool := bits 65 [0, 1, 8, 39, 40]
@[simp] def X16_3 (s0 s1 s8 s39 s40 : V) : St := tab 65 46 (fu (fu (fu (fu (fu dd 40 s40) 39 s39) 8 s8) 1 s1) 0 s0) dd
@[simp] def x16_4 : List Bool := bits 65 [0, 1, 8, 10, 39, 40]
@[simp] def X16_4 (s0 s1 s8 s10 s39 s40 : V) : St := tab 65 46 (fu (fu (fu (fu (fu (fu dd 40 s40) 39 s39) 10 s10) 8 s8) 1 s1) 0 s0) dd
@[simp] def h16_2 : List Bool := bits 65 [0, 1, 8, 9, 10, 39, 40, 43, 44, 45]
@[simp] def L16_2 (s0 s1 s8 s9 s10 s39 s40 s43 s44 s45 : V) : St := tab 65 46 (fu (fu (fu (fu (fu (fu (fu (fu (fu (fu dd 45 s45) 44 s44) 43 s43) 40 s40) 39 s39) 10 s10) 9 s9) 8 s8) 1 s1) 0 s0) dd
@[simp] def x16_5 : List Bool := bits 65 [0, 1, 8, 9, 10, 39, 40, 43, 44, 45]
@[simp] def X16_5 (s0 s1 s8 s9 s10 s39 s40 s43 s44 s45 : V) : St := tab 65 46 (fu (fu (fu (fu (fu (fu (fu (fu (fu (fu dd 45 s45) 44 s44) 43 s43) 40 s40) 39 s39) 10 s10) 9 s9) 8 s8) 1 s1) 0 s0) dd
def b16_2 : MC := .seq (.scr h16_2)
 (.seq (.ops [⟨none, .bin 46 .lss .num (.t 45) (.t 44)⟩])
 (.seq (.cnd (.t 46)
   .skip
   (.seq (.scr x16_4) (.ex 4)))
 (.seq (.seq (.blk 5 (.seq (.ops [⟨none, .ixs 47 1 (.t 43) (.t 45)⟩,
     ⟨none, .ld1 48 (.t 47)⟩,
     ⟨none, .asg 12 (.t 48)⟩])
   (.ops [⟨none, .mv 49 (.t 10)⟩,
    ⟨none, .mv 50 (.t 12)⟩,
    ⟨none, .mv 51 (.t 9)⟩,
    ⟨none, .ixs 52 3 (.t 50) (.t 51)⟩,
    ⟨none, .ldn 53 3 (.t 52)⟩,
    ⟨none, .bs 54 3 1 [(.v (.bool false)), (.nd (.sl true 1 0) []), (.nd (.sl true 1 0) [])] [(0, 3, (.t 53))]⟩,
    ⟨none, .app 55 3 (.t 49) (.t 54)⟩,
    ⟨none, .asg 10 (.t 55)⟩]))) (.scr x16_5))
 (.ops [⟨none, .bin 56 .add .num (.t 45) (.c (.v (.int .i64 1)))⟩,
  ⟨none, .mv 45 (.t 56)⟩]))))
def b16_1 : MC := .seq (.scr h16_1)
 (.seq (.ops [⟨none, .bin 41 .lss .num (.t 40) (.t 39)⟩])
 (.seq (.cnd (.t 41)
   .skip
   (.seq (.scr x16_2) (.ex 2)))
 (.seq (.seq (.blk 3 (.seq (.ops [⟨none, .mv 42 (.t 40)⟩,
     ⟨none, .asg 9 (.t 42)⟩])
   (.seq (.ops [⟨none, .asg 10 (.c (.nd (.sl true 3 0) []))⟩])
   (.seq (.seq (.ops [⟨none, .mv 43 (.t 0)⟩,
      ⟨none, .len 44 false (.t 43)⟩,
      ⟨none, .mv 45 (.c (.v (.int .i64 0)))⟩])
    (.seq (.blk 4 (.lop b16_2)) (.scr x16_4)))
   (.ops [⟨none, .mv 57 (.t 8)⟩,
    ⟨none, .mv 58 (.t 10)⟩,
    ⟨none, .mv 59 (.t 1)⟩,
    ⟨none, .call (some 60) 41 [(.t 58), (.t 59)]⟩,
    ⟨none, .bs 61 3 1 [(.v (.bool false)), (.nd (.sl true 1 0) []), (.nd (.sl true 1 0) [])] [(0, 3, (.t 60))]⟩,
    ⟨none, .app 62 3 (.t 57) (.t 61)⟩,
    ⟨none, .asg 8 (.t 62)⟩]))))) (.scr x16_3))
 (.ops [⟨none, .bin 63 .add .num (.t 40) (.c (.v (.int .i64 1)))⟩,
  ⟨none, .mv 40 (.t 63)⟩]))))
def c16 : MF := ⟨(.seq (.ops [⟨none, .asg 4 (.c (.nd (.sl true 3 0) []))⟩,
   ⟨none, .asg 5 (.c (.v (.int .i64 0)))⟩])
 (.seq (.seq (.ops [⟨none, .mv 13 (.t 0)⟩,
    ⟨none, .call (some 14) 38 [(.t 13)]⟩,
    ⟨none, .un 15 .not (.t 14)⟩,
    ⟨none, .mv 16 (.t 15)⟩,
    ⟨some (16, false), .mv 17 (.t 1)⟩,
    ⟨some (16, false), .len 18 false (.t 17)⟩,
    ⟨some (16, false), .mv 19 (.t 0)⟩,
    ⟨some (16, false), .len 20 false (.t 19)⟩,
    ⟨some (16, false), .bin 21 .neq .num (.t 18) (.t 20)⟩,
    ⟨none, .pick 22 (.t 16) (.c (.v (.bool true))) (.t 21)⟩])
  (.cnd (.t 22)
   (.seq (.ops [⟨none, .asg 4 (.c (.nd (.sl true 3 0) []))⟩,
     ⟨none, .asg 5 (.c (.v (.int .i64 1)))⟩])
   (.seq (.scr r16) .ret))
   .skip))
 (.seq (.seq (.ops [⟨none, .mv 23 (.t 1)⟩,
    ⟨none, .len 24 false (.t 23)⟩,
    ⟨none, .mv 25 (.c (.v (.int .i64 0)))⟩])
  (.seq (.blk 0 (.lop b16_0)) (.scr x16_0)))
 (.seq (.seq (.ops [⟨none, .mv 33 (.t 1)⟩,
    ⟨none, .call (some 34) 39 [(.t 33)]⟩,
    ⟨none, .call (some 35) 7 [(.c (.v (.int .i64 1))), (.c (.v (.int .i64 1)))]⟩,
    ⟨none, .call (some 36) 11 [(.t 34), (.t 35)]⟩,
    ⟨none, .bin 37 .neq .num (.t 36) (.c (.v (.int .i64 0)))⟩])
  (.cnd (.t 37)
   (.seq (.ops [⟨none, .asg 4 (.c (.nd (.sl true 3 0) []))⟩,
     ⟨none, .asg 5 (.c (.v (.int .i64 9)))⟩])
   (.seq (.scr r16) .ret))
   .skip))
 (.seq (.ops [⟨none, .asg 8 (.c (.nd (.sl true 3 0) []))⟩])
 (.seq (.seq (.ops [⟨none, .mv 38 (.t 0)⟩,
    ⟨none, .call (some 39) 40 [(.t 38)]⟩,
    ⟨none, .mv 40 (.c (.v (.int .i64 0)))⟩])
  (.seq (.blk 2 (.lop b16_1)) (.scr x16_2)))
 (.seq (.ops [⟨none, .mv 64 (.t 8)⟩,
   ⟨none, .asg 4 (.t 64)⟩,
   ⟨none, .asg 5 (.c (.v (.int .i64 0)))⟩])
 (.seq (.scr r16) .ret)))))))),
  65, [4, 5]⟩

def hints17 : List (List Bool) := [bits 16 [2, 3], bits 16 [2, 3]]
@[simp] def r17 : List Bool := bits 16 [2, 3]
@[simp] def R17 (s2 s3 : V) : St := tab 16 10 (fu (fu dd 3 s3) 2 s2) dd
def c17 : MF := ⟨(.seq (.ops [⟨none, .asg 2 (.c (.v (.int .i64 0)))⟩,
   ⟨none, .asg 3 (.c (.v (.int .i64 0)))⟩])
 (.seq (.seq (.ops [⟨none, .mv 6 (.t 0)⟩,
    ⟨none, .call (some 7) 38 [(.t 6)]⟩,
    ⟨none, .un 8 .not (.t 7)⟩])
  (.cnd (.t 8)
   (.seq (.ops [⟨none, .asg 2 (.c (.v (.int .i64 0)))⟩,
     ⟨none, .asg 3 (.c (.v (.int .i64 1)))⟩])
   (.seq (.scr r17) .ret))
   .skip))
 (.seq (.ops [⟨none, .mv 10 (.t 0)⟩,
   ⟨none, .call (some 11) 42 [(.t 10)]⟩,
   ⟨none, .mv 9 (.t 11)⟩,
   ⟨none, .ext 12 (.t 9) 0⟩,
   ⟨none, .ext 13 (.t 9) 1⟩,
   ⟨none, .asg 4 (.t 12)⟩,
   ⟨none, .asg 5 (.t 13)⟩])
 (.seq (.ops [⟨none, .mv 14 (.t 5)⟩,
   ⟨none, .len 15 false (.t 14)⟩,
   ⟨none, .asg 2 (.t 15)⟩,
   ⟨none, .asg 3 (.c (.v (.int .i64 0)))⟩])
 (.seq (.scr r17) .ret))))),
  16, [2, 3]⟩

def hints18 : List (List Bool) := [bits 75 [4, 5], bits 75 [6, 7], bits 75 [0, 1, 6, 7, 26, 27, 28], bits 75 [6, 7], bits 75 [0, 1, 6, 7, 26, 27, 28], bits 75 [6, 10], bits 75 [4, 5], bits 75 [4, 5], bits 75 [12], bits 75 [6, 10, 12, 59, 60], bits 75 [12], bits 75 [6, 10, 12, 59, 60], bits 75 [4, 5]]
@[simp] def r18 : List Bool := bits 75 [4, 5]
@[simp] def R18 (s4 s5 : V) : St := tab 75 61 (fu (fu dd 5 s5) 4 s4) dd
@[simp] def x18_0 : List Bool := bits 75 [6, 7]
@[simp] def X18_0 (s6 s7 : V) : St := tab 75 61 (fu (fu dd 7 s7) 6 s6) dd
@[simp] def h18_0 : List Bool := bits 75 [0, 1, 6, 7, 26, 27, 28]
@[simp] def L18_0 (s0 s1 s6 s7 s26 s27 s28 : V) : St := tab 75 61 (fu (fu (fu (fu (fu (fu (fu dd 28 s28) 27 s27) 26 s26) 7 s7) 6 s6) 1 s1) 0 s0) dd
@[simp] def x18_1 : List Bool := bits 75 [0, 1, 6, 7, 26, 27, 28]
@[simp] def X18_1 (s0 s1 s6 s7 s26 s27 s28 : V) : St := tab 75 61 (fu (fu (fu (fu (fu (fu (fu dd 28 s28) 27 s27) 26 s26) 7 s7) 6 s6) 1 s1) 0 s0) dd
def b18_0 : MC := .seq (.scr h18_0)
 (.seq (.ops [⟨none, .bin 29 .lss .num (.t 28) (.t 27)⟩])
 (.seq (.cnd (.t 29)
   .skip
   (.seq (.scr x18_0) (.ex 0)))
 (.seq (.seq (.blk 1 (.seq (.ops [⟨none, .mv 30 (.t 28)⟩,
     ⟨none, .ixs 31 1 (.t 26) (.t 28)⟩,
     ⟨none, .ld1 32 (.t 31)⟩,
     ⟨none, .asg 8 (.t 30)⟩,
     ⟨none, .asg 9 (.t 32)⟩])
   (.drw [⟨none, .mv 33 (.t 7)⟩,
    ⟨none, .mv 34 (.t 9)⟩,
    ⟨none, .mv 36 (.t 1)⟩,
    ⟨none, .mv 37 (.t 8)⟩,
    ⟨none, .call (some 35) 43 [(.t 34)]⟩,
    ⟨none, .ixs 38 3 (.t 36) (.t 37)⟩,
    ⟨none, .ldn 39 3 (.t 38)⟩,
    ⟨none, .bs 40 3 1 [(.v (.bool false)), (.nd (.sl true 1 0) []), (.nd (.sl true 1 0) [])] [(0, 3, (.t 39))]⟩] [⟨none, .app 41 3 (.t 35) (.t 40)⟩,
    ⟨none, .bs 42 1 1 [(.nd (.sl true 3 0) [])] [(0, 1, (.t 41))]⟩,
    ⟨none, .app 43 1 (.t 33) (.t 42)⟩,
    ⟨none, .asg 7 (.t 43)⟩]))) (.scr x18_1))
 (.ops [⟨none, .bin 44 .add .num (.t 28) (.c (.v (.int .i64 1)))⟩,
  ⟨none, .mv 28 (.t 44)⟩]))))
@[simp] def x18_2 : List Bool := bits 75 [6, 10]
@[simp] def X18_2 (s6 s10 : V) : St := tab 75 61 (fu (fu dd 10 s10) 6 s6) dd
@[simp] def x18_3 : List Bool := bits 75 [12]
@[simp] def X18_3 (s12 : V) : St := tab 75 61 (fu dd 12 s12) dd
@[simp] def h18_1 : List Bool := bits 75 [6, 10, 12, 59, 60]
@[simp] def L18_1 (s6 s10 s12 s59 s60 : V) : St := tab 75 61 (fu (fu (fu (fu (fu dd 60 s60) 59 s59) 12 s12) 10 s10) 6 s6) dd
@[simp] def x18_4 : List Bool := bits 75 [6, 10, 12, 59, 60]
@[simp] def X18_4 (s6 s10 s12 s59 s60 : V) : St := tab 75 61 (fu (fu (fu (fu (fu dd 60 s60) 59 s59) 12 s12) 10 s10) 6 s6) dd
def b18_1 : MC := .seq (.scr h18_1)
 (.seq (.ops [⟨none, .bin 61 .lss .num (.t 60) (.t 59)⟩])
 (.seq (.cnd (.t 61)
   .skip
   (.seq (.scr x18_3) (.ex 3)))
 (.seq (.seq (.blk 4 (.seq (.ops [⟨none, .mv 62 (.t 60)⟩,
     ⟨none, .asg 13 (.t 62)⟩])
   (.ops [⟨none, .mv 63 (.t 12)⟩,
    ⟨none, .mv 64 (.t 10)⟩,
    ⟨none, .mv 65 (.t 13)⟩,
    ⟨none, .ixs 66 1 (.t 64) (.t 65)⟩,
    ⟨none, .ld1 67 (.t 66)⟩,
    ⟨none, .mv 68 (.t 6)⟩,
    ⟨none, .ixs 69 3 (.t 67) (.t 68)⟩,
    ⟨none, .ldn 70 3 (.t 69)⟩,
    ⟨none, .bs 71 3 1 [(.v (.bool false)), (.nd (.sl true 1 0) []), (.nd (.sl true 1 0) [])] [(0, 3, (.t 70))]⟩,
    ⟨none, .app 72 3 (.t 63) (.t 71)⟩,
    ⟨none, .asg 12 (.t 72)⟩]))) (.scr x18_4))
 (.ops [⟨none, .bin 73 .add .num (.t 60) (.c (.v (.int .i64 1)))⟩,
  ⟨none, .mv 60 (.t 73)⟩]))))
def c18 : MF := ⟨(.seq (.ops [⟨none, .asg 4 (.c (.nd (.sl true 3 0) []))⟩,
   ⟨none, .asg 5 (.c (.v (.int .i64 0)))⟩])
 (.seq (.seq (.ops [⟨none, .mv 14 (.t 0)⟩,
    ⟨none, .call (some 15) 38 [(.t 14)]⟩,
    ⟨none, .un 16 .not (.t 15)⟩,
    ⟨none, .mv 17 (.t 16)⟩,
    ⟨some (17, false), .mv 18 (.t 1)⟩,
    ⟨some (17, false), .len 19 false (.t 18)⟩,
    ⟨some (17, false), .mv 20 (.t 0)⟩,
    ⟨some (17, false), .len 21 false (.t 20)⟩,
    ⟨some (17, false), .bin 22 .neq .num (.t 19) (.t 21)⟩,
    ⟨none, .pick 23 (.t 17) (.c (.v (.bool true))) (.t 22)⟩])
  (.cnd (.t 23)
   (.seq (.ops [⟨none, .asg 4 (.c (.nd (.sl true 3 0) []))⟩,
     ⟨none, .asg 5 (.c (.v (.int .i64 1)))⟩])
   (.seq (.scr r18) .ret))
   .skip))
 (.seq (.ops [⟨none, .mv 24 (.t 0)⟩,
   ⟨none, .call (some 25) 40 [(.t 24)]⟩,
   ⟨none, .asg 6 (.t 25)⟩])
 (.seq (.ops [⟨none, .asg 7 (.c (.nd (.sl true 1 0) []))⟩])
 (.seq (.seq (.ops [⟨none, .mv 26 (.t 0)⟩,
    ⟨none, .len 27 false (.t 26)⟩,
    ⟨none, .mv 28 (.c (.v (.int .i64 0)))⟩])
  (.seq (.blk 0 (.lop b18_0)) (.scr x18_0)))
 (.seq (.ops [⟨none, .mv 46 (.t 7)⟩,
   ⟨none, .call (some 47) 42 [(.t 46)]⟩,
   ⟨none, .mv 45 (.t 47)⟩,
   ⟨none, .ext 48 (.t 45) 0⟩,
   ⟨none, .ext 49 (.t 45) 1⟩,
   ⟨none, .asg 10 (.t 48)⟩,
   ⟨none, .asg 11 (.t 49)⟩])
 (.seq (.seq (.blk 2 (.seq (.ops [⟨none, .mv 51 (.t 11)⟩,
     ⟨none, .mv 52 (.t 6)⟩,
     ⟨none, .call (some 53) 44 [(.t 51), (.t 52)]⟩,
     ⟨none, .asg 50 (.t 53)⟩])
   (.cnd (.t 50)
    (.seq (.ops [⟨none, .asg 4 (.c (.nd (.sl true 3 0) []))⟩,
      ⟨none, .asg 5 (.c (.v (.int .i64 7)))⟩])
    (.seq (.scr r18) .ret))
    (.seq (.ops [⟨none, .mv 55 (.t 11)⟩,
      ⟨none, .len 56 false (.t 55)⟩,
      ⟨none, .mv 57 (.t 6)⟩,
      ⟨none, .bin 58 .lss .num (.t 56) (.t 57)⟩,
      ⟨none, .asg 54 (.t 58)⟩])
    (.cnd (.t 54)
     (.seq (.ops [⟨none, .asg 4 (.c (.nd (.sl true 3 0) []))⟩,
       ⟨none, .asg 5 (.c (.v (.int .i64 9)))⟩])
     (.seq (.scr r18) .ret))
     .skip))))) (.scr x18_2))
 (.seq (.ops [⟨none, .asg 12 (.c (.nd (.sl true 3 0) []))⟩])
 (.seq (.seq (.ops [⟨none, .mv 59 (.t 6)⟩,
    ⟨none, .mv 60 (.c (.v (.int .i64 0)))⟩])
  (.seq (.blk 3 (.lop b18_1)) (.scr x18_3)))
 (.seq (.ops [⟨none, .mv 74 (.t 12)⟩,
   ⟨none, .asg 4 (.t 74)⟩,
   ⟨none, .asg 5 (.c (.v (.int .i64 0)))⟩])
 (.seq (.scr r18) .ret))))))))))),
  75, [4, 5]⟩

def hints19 : List (List Bool) := [bits 27 [4], bits 27 [], bits 27 [0, 1, 5], bits 27 [], bits 27 [0, 1, 5], bits 27 [4], bits 27 [4]]
@[simp] def r19 : List Bool := bits 27 [4]
@[simp] def R19 (s4 : V) : St := tab 27 6 (fu dd 4 s4) dd
@[simp] def x19_0 : List Bool := bits 27 []
@[simp] def X19_0 : St := tab 27 6 dd dd
@[simp] def h19_0 : List Bool := bits 27 [0, 1, 5]
@[simp] def L19_0 (s0 s1 s5 : V) : St := tab 27 6 (fu (fu (fu dd 5 s5) 1 s1) 0 s0) dd
@[simp] def x19_1 : List Bool := bits 27 [0, 1, 5]
@[simp] def X19_1 (s0 s1 s5 : V) : St := tab 27 6 (fu (fu (fu dd 5 s5) 1 s1) 0 s0) dd
def b19_0 : MC := .seq (.scr h19_0)
 (.seq (.seq (.ops [⟨none, .mv 11 (.t 5)⟩,
    ⟨none, .mv 12 (.t 0)⟩,
    ⟨none, .len 13 false (.t 12)⟩,
    ⟨none, .bin 14 .lss .num (.t 11) (.t 13)⟩])
  (.cnd (.t 14)
   .skip
   (.seq (.scr x19_0) (.ex 0))))
 (.seq (.seq (.blk 1 (.seq (.drw [⟨none, .mv 17 (.t 0)⟩,
     ⟨none, .mv 18 (.t 5)⟩,
     ⟨none, .ixs 19 3 (.t 17) (.t 18)⟩,
     ⟨none, .ldn 20 3 (.t 19)⟩,
     ⟨none, .mv 21 (.t 1)⟩,
     ⟨none, .mv 22 (.t 5)⟩,
     ⟨none, .ixs 23 3 (.t 21) (.t 22)⟩,
     ⟨none, .ldn 24 3 (.t 23)⟩] [⟨none, .call (some 25) 45 [(.t 20), (.t 24)]⟩,
     ⟨none, .un 26 .not (.t 25)⟩])
   (.cnd (.t 26)
    (.seq (.ops [⟨none, .asg 4 (.c (.v (.bool false)))⟩])
    (.seq (.scr r19) .ret))
    .skip))) (.scr x19_1))
 (.ops [⟨none, .mv 15 (.t 5)⟩,
  ⟨none, .bin 16 .add .num (.t 15) (.c (.v (.int .i64 1)))⟩,
  ⟨none, .asg 5 (.t 16)⟩])))
def c19 : MF := ⟨(.seq (.ops [⟨none, .asg 4 (.c (.v (.bool false)))⟩])
 (.seq (.seq (.ops [⟨none, .mv 6 (.t 0)⟩,
    ⟨none, .len 7 false (.t 6)⟩,
    ⟨none, .mv 8 (.t 1)⟩,
    ⟨none, .len 9 false (.t 8)⟩,
    ⟨none, .bin 10 .neq .num (.t 7) (.t 9)⟩])
  (.cnd (.t 10)
   (.seq (.ops [⟨none, .asg 4 (.c (.v (.bool false)))⟩])
   (.seq (.scr r19) .ret))
   .skip))
 (.seq (.seq (.ops [⟨none, .asg 5 (.c (.v (.int .i64 0)))⟩])
  (.seq (.blk 0 (.lop b19_0)) (.scr x19_0)))
 (.seq (.ops [⟨none, .asg 4 (.c (.v (.bool true)))⟩])
 (.seq (.scr r19) .ret))))),
  27, [4]⟩

/-- coinage/coinagetop.chanceAwake -/
abbrev K20 : Nat := 23
def hints20 : List (List Bool) := [bits 60 [0]]
@[simp] def r20 : List Bool := bits 60 [0]
@[simp] def R20 (s0 : V) : St := tab 60 23 (fu dd 0 s0) dd
def c20 : MF := ⟨(.seq (.ops [⟨none, .asg 0 (.c (.v (.bool false)))⟩])
 (.seq (.ops [⟨none, .call (some 10) 46 [(.c (.v (.int .i64 3))), (.c (.v (.int .i64 2))), (.c (.v (.int .i64 2)))]⟩,
   ⟨none, .mv 9 (.t 10)⟩,
   ⟨none, .ext 11 (.t 9) 0⟩,
   ⟨none, .ext 12 (.t 9) 1⟩,
   ⟨none, .alc 1 [(.v (.bool false)), (.nd (.sl true 1 0) []), (.nd (.sl true 1 0) [])]⟩,
   ⟨none, .stn none 3 (.t 1) (.t 11)⟩,
   ⟨none, .asg 2 (.t 12)⟩])
 (.seq (.ops [⟨none, .call (some 14) 47 [(.c (.v (.int .i64 1))), (.c (.v (.int .i64 2))), (.c (.v (.int .i64 1)))]⟩,
   ⟨none, .mv 13 (.t 14)⟩,
   ⟨none, .ext 15 (.t 13) 0⟩,
   ⟨none, .ext 16 (.t 13) 1⟩,
   ⟨none, .alc 3 [(.v (.bool false)), (.nd (.sl true 1 0) []), (.nd (.sl true 1 0) [])]⟩,
   ⟨none, .stn none 3 (.t 3) (.t 15)⟩,
   ⟨none, .asg 4 (.t 16)⟩])
 (.seq (.ops [⟨none, .bs 18 1 3 [(.v (.int .i64 0))] [(0, 1, (.c (.v (.int .i64 1)))), (1, 1, (.c (.v (.int .i64 3)))), (2, 1, (.c (.v (.int .i64 1))))]⟩,
   ⟨none, .call (some 19) 48 [(.t 18)]⟩,
   ⟨none, .mv 17 (.t 19)⟩,
   ⟨none, .ext 20 (.t 17) 0⟩,
   ⟨none, .ext 21 (.t 17) 1⟩,
   ⟨none, .alc 5 [(.v (.bool false)), (.nd (.sl true 1 0) []), (.nd (.sl true 1 0) [])]⟩,
   ⟨none, .stn none 3 (.t 5) (.t 20)⟩,
   ⟨none, .asg 6 (.t 21)⟩])
 (.seq (.ops [⟨none, .call (some 23) 49 [(.c (.v (.int .i64 3))), (.c (.v (.int .i64 2))), (.c (.v (.int .i64 3))), (.c (.v (.int .i64 2)))]⟩,
   ⟨none, .mv 22 (.t 23)⟩,
   ⟨none, .ext 24 (.t 22) 0⟩,
   ⟨none, .ext 25 (.t 22) 1⟩,
   ⟨none, .alc 7 [(.v (.bool false)), (.nd (.sl true 1 0) []), (.nd (.sl true 1 0) [])]⟩,
   ⟨none, .stn none 3 (.t 7) (.t 24)⟩,
   ⟨none, .asg 8 (.t 25)⟩])
 (.seq (.ops (⟨none, .mv 26 (.t 2)⟩ ::
   ⟨none, .bin 27 .eql .num (.t 26) (.c (.v (.int .i64 0)))⟩ ::
   ⟨none, .mv 28 (.t 27)⟩ ::
   ⟨some (28, true), .mv 29 (.t 4)⟩ ::
   ⟨some (28, true), .bin 30 .eql .num (.t 29) (.c (.v (.int .i64 0)))⟩ ::
   ⟨none, .pick 31 (.t 28) (.t 30) (.c (.v (.bool false)))⟩ ::
   ⟨none, .mv 32 (.t 31)⟩ ::
   ⟨some (32, true), .mv 33 (.t 6)⟩ ::
   ⟨some (32, true), .bin 34 .eql .num (.t 33) (.c (.v (.int .i64 0)))⟩ ::
   ⟨none, .pick 35 (.t 32) (.t 34) (.c (.v (.bool false)))⟩ ::
   ⟨none, .mv 36 (.t 35)⟩ ::
   ⟨some (36, true), .mv 37 (.t 8)⟩ ::
   ⟨some (36, true), .bin 38 .eql .num (.t 37) (.c (.v (.int .i64 0)))⟩ ::
   ⟨none, .pick 39 (.t 36) (.t 38) (.c (.v (.bool false)))⟩ ::
   ⟨none, .mv 40 (.t 39)⟩ ::
   ⟨some (40, true), .ldn 41 3 (.t 1)⟩ ::
   ⟨some (40, true), .call (some 42) 28 [(.t 41)]⟩ ::
   ⟨some (40, true), .bin 43 .eql .num (.t 42) (.c (.v (.string ⟨#[51, 47, 52]⟩)))⟩ ::
   ⟨none, .pick 44 (.t 40) (.t 43) (.c (.v (.bool false)))⟩ ::
   ⟨none, .mv 45 (.t 44)⟩ ::
   ⟨some (45, true), .ldn 46 3 (.t 3)⟩ ::
   ⟨some (45, true), .call (some 47) 28 [(.t 46)]⟩ ::
   ⟨some (45, true), .bin 48 .eql .num (.t 47) (.c (.v (.string ⟨#[49, 47, 50]⟩)))⟩ ::
   ⟨none, .pick 49 (.t 45) (.t 48) (.c (.v (.bool false)))⟩ ::
   ⟨none, .mv 50 (.t 49)⟩ ::
   ⟨some (50, true), .ldn 51 3 (.t 5)⟩ ::
   ⟨some (50, true), .call (some 52) 28 [(.t 51)]⟩ ::
   ⟨some (50, true), .bin 53 .eql .num (.t 52) (.c (.v (.string ⟨#[53]⟩)))⟩ ::
   ⟨none, .pick 54 (.t 50) (.t 53) (.c (.v (.bool false)))⟩ ::
   ⟨none, .mv 55 (.t 54)⟩ ::
   ⟨some (55, true), .ldn 56 3 (.t 7)⟩ ::
   ⟨some (55, true), .call (some 57) 28 [(.t 56)]⟩ ::
   ⟨some (55, true), .bin 58 .eql .num (.t 57) (.c (.v (.string ⟨#[56, 47, 57]⟩)))⟩ ::
   ⟨none, .pick 59 (.t 55) (.t 58) (.c (.v (.bool false)))⟩ ::
   ⟨none, .asg 0 (.t 59)⟩ :: []))
 (.seq (.scr r20) .ret))))))),
  60, [0]⟩

/-- coinage/estimator.Coverage -/
abbrev K21 : Nat := 7
def hints21 : List (List Bool) := [bits 23 [2, 3], bits 23 [2, 3]]
@[simp] def r21 : List Bool := bits 23 [2, 3]
@[simp] def R21 (s2 s3 : V) : St := tab 23 7 (fu (fu dd 3 s3) 2 s2) dd
def c21 : MF := ⟨(.seq (.ops [⟨none, .alc 2 [(.v (.bool false)), (.nd (.sl true 1 0) []), (.nd (.sl true 1 0) [])]⟩,
   ⟨none, .asg 3 (.c (.v (.int .i64 0)))⟩])
 (.seq (.ops [⟨none, .mv 7 (.t 0)⟩,
   ⟨none, .call (some 8) 50 [(.t 7)]⟩,
   ⟨none, .mv 6 (.t 8)⟩,
   ⟨none, .ext 9 (.t 6) 0⟩,
   ⟨none, .ext 10 (.t 6) 1⟩,
   ⟨none, .alc 4 [(.v (.int .i64 0)), (.v (.int .i64 0)), (.nd (.sl true 1 0) [])]⟩,
   ⟨none, .stn none 3 (.t 4) (.t 9)⟩,
   ⟨none, .asg 5 (.t 10)⟩])
 (.seq (.seq (.ops [⟨none, .mv 11 (.t 5)⟩,
    ⟨none, .bin 12 .neq .num (.t 11) (.c (.v (.int .i64 0)))⟩])
  (.cnd (.t 12)
   (.seq (.ops [⟨none, .bld 13 [(.v (.bool false)), (.nd (.sl true 1 0) []), (.nd (.sl true 1 0) [])] []⟩,
     ⟨none, .mv 14 (.t 5)⟩,
     ⟨none, .stn none 3 (.t 2) (.t 13)⟩,
     ⟨none, .asg 3 (.t 14)⟩])
   (.seq (.scr r21) .ret))
   .skip))
 (.seq (.drw [⟨none, .fa 15 0 (.t 4)⟩,
   ⟨none, .ld1 16 (.t 15)⟩,
   ⟨none, .ldn 17 3 (.t 4)⟩,
   ⟨none, .call (some 18) 51 [(.t 17)]⟩,
   ⟨none, .bin 19 .sub .num (.t 16) (.t 18)⟩,
   ⟨none, .fa 20 0 (.t 4)⟩,
   ⟨none, .ld1 21 (.t 20)⟩] [⟨none, .call (some 22) 7 [(.t 19), (.t 21)]⟩,
   ⟨none, .stn none 3 (.t 2) (.t 22)⟩,
   ⟨none, .asg 3 (.c (.v (.int .i64 0)))⟩])
 (.seq (.scr r21) .ret))))),
  23, [1000001, 4, 2, 0, 3]⟩

/-- coinage/fraction.Add -/
abbrev K22 : Nat := 57
def hints22 : List (List Bool) := [bits 0 [], bits 67 [4], bits 67 [4], bits 67 [4]]
@[simp] def r22 : List Bool := bits 67 [4]
@[simp] def R22 (s4 : V) : St := tab 67 57 (fu dd 4 s4) dd
def c22 : MF := ⟨(.seq (.ops [⟨none, .box 2 (.t 0)⟩,
   ⟨none, .box 3 (.t 1)⟩,
   ⟨none, .alc 4 [(.v (.bool false)), (.nd (.sl true 1 0) []), (.nd (.sl true 1 0) [])]⟩])
 (.seq (.drw [⟨none, .ldn 12 3 (.t 2)⟩,
   ⟨none, .call (some 13) 52 [(.t 12)]⟩,
   ⟨none, .ldn 14 3 (.t 3)⟩] [⟨none, .call (some 15) 52 [(.t 14)]⟩,
   ⟨none, .stn none 3 (.t 2) (.t 13)⟩,
   ⟨none, .stn none 3 (.t 3) (.t 15)⟩])
 (.seq (.drw [⟨none, .fa 16 1 (.t 2)⟩,
   ⟨none, .ldn 17 1 (.t 16)⟩,
   ⟨none, .fa 18 2 (.t 3)⟩,
   ⟨none, .ldn 19 1 (.t 18)⟩,
   ⟨none, .call (some 20) 35 [(.t 17), (.t 19)]⟩,
   ⟨none, .fa 21 1 (.t 3)⟩,
   ⟨none, .ldn 22 1 (.t 21)⟩,
   ⟨none, .fa 23 2 (.t 2)⟩,
   ⟨none, .ldn 24 1 (.t 23)⟩,
   ⟨none, .call (some 25) 35 [(.t 22), (.t 24)]⟩,
   ⟨none, .alc 5 [(.nd (.sl true 1 0) [])]⟩,
   ⟨none, .alc 6 [(.nd (.sl true 1 0) [])]⟩] [⟨none, .stn none 1 (.t 5) (.t 20)⟩,
   ⟨none, .stn none 1 (.t 6) (.t 25)⟩])
 (.seq (.ops [⟨none, .fa 26 2 (.t 2)⟩,
   ⟨none, .ldn 27 1 (.t 26)⟩,
   ⟨none, .fa 28 2 (.t 3)⟩,
   ⟨none, .ldn 29 1 (.t 28)⟩,
   ⟨none, .call (some 30) 35 [(.t 27), (.t 29)]⟩,
   ⟨none, .alc 7 [(.nd (.sl true 1 0) [])]⟩,
   ⟨none, .stn none 1 (.t 7) (.t 30)⟩])
 (.seq (.seq (.ops [⟨none, .fa 31 0 (.t 2)⟩,
    ⟨none, .ld1 32 (.t 31)⟩,
    ⟨none, .fa 33 0 (.t 3)⟩,
    ⟨none, .ld1 34 (.t 33)⟩,
    ⟨none, .bin 35 .eql .bool (.t 32) (.t 34)⟩])
  (.cnd (.t 35)
   (.seq (.drw [⟨none, .fa 36 0 (.t 2)⟩,
     ⟨none, .ld1 37 (.t 36)⟩,
     ⟨none, .ldn 38 1 (.t 5)⟩,
     ⟨none, .ldn 39 1 (.t 6)⟩,
     ⟨none, .call (some 40) 53 [(.t 38), (.t 39)]⟩,
     ⟨none, .ldn 41 1 (.t 7)⟩] [⟨none, .call (some 42) 29 [(.t 37), (.t 40), (.t 41)]⟩,
     ⟨none, .stn none 3 (.t 4) (.t 42)⟩])
   (.seq (.scr r22) .ret))
   .skip))
 (.seq (.seq (.ops [⟨none, .ldn 44 1 (.t 5)⟩,
    ⟨none, .ldn 45 1 (.t 6)⟩,
    ⟨none, .call (some 46) 54 [(.t 44), (.t 45)]⟩,
    ⟨none, .mv 43 (.t 46)⟩,
    ⟨none, .ext 47 (.t 43) 0⟩,
    ⟨none, .ext 48 (.t 43) 1⟩,
    ⟨none, .alc 8 [(.nd (.sl true 1 0) [])]⟩,
    ⟨none, .stn none 1 (.t 8) (.t 47)⟩,
    ⟨none, .asg 9 (.t 48)⟩])
  (.seq (.ops [⟨none, .mv 49 (.t 9)⟩,
    ⟨none, .bin 50 .eql .num (.t 49) (.c (.v (.int .i64 0)))⟩])
  (.cnd (.t 50)
   (.seq (.ops [⟨none, .fa 51 0 (.t 2)⟩,
     ⟨none, .ld1 52 (.t 51)⟩,
     ⟨none, .ldn 53 1 (.t 8)⟩,
     ⟨none, .ldn 54 1 (.t 7)⟩,
     ⟨none, .call (some 55) 29 [(.t 52), (.t 53), (.t 54)]⟩,
     ⟨none, .stn none 3 (.t 4) (.t 55)⟩])
   (.seq (.scr r22) .ret))
   .skip)))
 (.seq (.ops [⟨none, .ldn 57 1 (.t 6)⟩,
   ⟨none, .ldn 58 1 (.t 5)⟩,
   ⟨none, .call (some 59) 54 [(.t 57), (.t 58)]⟩,
   ⟨none, .mv 56 (.t 59)⟩,
   ⟨none, .ext 60 (.t 56) 0⟩,
   ⟨none, .ext 61 (.t 56) 1⟩,
   ⟨none, .alc 10 [(.nd (.sl true 1 0) [])]⟩,
   ⟨none, .stn none 1 (.t 10) (.t 60)⟩,
   ⟨none, .asg 11 (.t 61)⟩])
 (.seq (.ops [⟨none, .fa 62 0 (.t 3)⟩,
   ⟨none, .ld1 63 (.t 62)⟩,
   ⟨none, .ldn 64 1 (.t 10)⟩,
   ⟨none, .ldn 65 1 (.t 7)⟩,
   ⟨none, .call (some 66) 29 [(.t 63), (.t 64), (.t 65)]⟩,
   ⟨none, .stn none 3 (.t 4) (.t 66)⟩])
 (.seq (.scr r22) .ret))))))))),
  67, [4, 3, 1000000]⟩

/-- coinage/occupancy.Distribution -/
abbrev K23 : Nat := 18
def hints23 : List (List Bool) := [bits 29 [4, 5], bits 29 [7], bits 29 [0, 1, 7, 16, 17], bits 29 [7], bits 29 [0, 1, 7, 16, 17], bits 29 [4, 5]]
@[simp] def r23 : List Bool := bits 29 [4, 5]
@[simp] def R23 (s4 s5 : V) : St := tab 29 18 (fu (fu dd 5 s5) 4 s4) dd
@[simp] def x23_0 : List Bool := bits 29 [7]
@[simp] def X23_0 (s7 : V) : St := tab 29 18 (fu dd 7 s7) dd
@[simp] def h23_0 : List Bool := bits 29 [0, 1, 7, 16, 17]
@[simp] def L23_0 (s0 s1 s7 s16 s17 : V) : St := tab 29 18 (fu (fu (fu (fu (fu dd 17 s17) 16 s16) 7 s7) 1 s1) 0 s0) dd
@[simp] def x23_1 : List Bool := bits 29 [0, 1, 7, 16, 17]
@[simp] def X23_1 (s0 s1 s7 s16 s17 : V) : St := tab 29 18 (fu (fu (fu (fu (fu dd 17 s17) 16 s16) 7 s7) 1 s1) 0 s0) dd
def b23_0 : MC := .seq (.scr h23_0)
 (.seq (.ops [⟨none, .bin 18 .lss .num (.t 17) (.t 16)⟩])
 (.seq (.cnd (.t 18)
   .skip
   (.seq (.scr x23_0) (.ex 0)))
 (.seq (.seq (.blk 1 (.seq (.ops [⟨none, .mv 19 (.t 17)⟩,
     ⟨none, .asg 8 (.t 19)⟩])
   (.ops [⟨none, .mv 20 (.t 7)⟩,
    ⟨none, .mv 21 (.t 0)⟩,
    ⟨none, .mv 22 (.t 1)⟩,
    ⟨none, .mv 23 (.t 8)⟩,
    ⟨none, .call (some 24) 56 [(.t 21), (.t 22), (.t 23)]⟩,
    ⟨none, .bs 25 3 1 [(.v (.bool false)), (.nd (.sl true 1 0) []), (.nd (.sl true 1 0) [])] [(0, 3, (.t 24))]⟩,
    ⟨none, .app 26 3 (.t 20) (.t 25)⟩,
    ⟨none, .asg 7 (.t 26)⟩]))) (.scr x23_1))
 (.ops [⟨none, .bin 27 .add .num (.t 17) (.c (.v (.int .i64 1)))⟩,
  ⟨none, .mv 17 (.t 27)⟩]))))
def c23 : MF := ⟨(.seq (.ops [⟨none, .asg 4 (.c (.nd (.sl true 3 0) []))⟩,
   ⟨none, .asg 5 (.c (.v (.int .i64 0)))⟩])
 (.seq (.seq (.ops [⟨none, .mv 9 (.t 0)⟩,
    ⟨none, .mv 10 (.t 1)⟩,
    ⟨none, .call (some 11) 55 [(.t 9), (.t 10)]⟩,
    ⟨none, .asg 6 (.t 11)⟩])
  (.seq (.ops [⟨none, .mv 12 (.t 6)⟩,
    ⟨none, .bin 13 .neq .num (.t 12) (.c (.v (.int .i64 0)))⟩])
  (.cnd (.t 13)
   (.seq (.ops [⟨none, .mv 14 (.t 6)⟩,
     ⟨none, .asg 4 (.c (.nd (.sl true 3 0) []))⟩,
     ⟨none, .asg 5 (.t 14)⟩])
   (.seq (.scr r23) .ret))
   .skip)))
 (.seq (.ops [⟨none, .asg 7 (.c (.nd (.sl true 3 0) []))⟩])
 (.seq (.seq (.ops [⟨none, .mv 15 (.t 0)⟩,
    ⟨none, .bin 16 .add .num (.t 15) (.c (.v (.int .i64 1)))⟩,
    ⟨none, .mv 17 (.c (.v (.int .i64 0)))⟩])
  (.seq (.blk 0 (.lop b23_0)) (.scr x23_0)))
 (.seq (.ops [⟨none, .mv 28 (.t 7)⟩,
   ⟨none, .asg 4 (.t 28)⟩,
   ⟨none, .asg 5 (.c (.v (.int .i64 0)))⟩])
 (.seq (.scr r23) .ret)))))),
  29, [4, 5]⟩

/-- coinage/occupancy.Mean -/
abbrev K24 : Nat := 7
def hints24 : List (List Bool) := [bits 25 [4, 5], bits 25 [4, 5]]
@[simp] def r24 : List Bool := bits 25 [4, 5]
@[simp] def R24 (s4 s5 : V) : St := tab 25 7 (fu (fu dd 5 s5) 4 s4) dd
def c24 : MF := ⟨(.seq (.ops [⟨none, .alc 4 [(.v (.bool false)), (.nd (.sl true 1 0) []), (.nd (.sl true 1 0) [])]⟩,
   ⟨none, .asg 5 (.c (.v (.int .i64 0)))⟩])
 (.seq (.seq (.ops [⟨none, .mv 8 (.t 0)⟩,
    ⟨none, .mv 9 (.t 1)⟩,
    ⟨none, .call (some 10) 55 [(.t 8), (.t 9)]⟩,
    ⟨none, .asg 6 (.t 10)⟩])
  (.seq (.ops [⟨none, .mv 11 (.t 6)⟩,
    ⟨none, .bin 12 .neq .num (.t 11) (.c (.v (.int .i64 0)))⟩])
  (.cnd (.t 12)
   (.seq (.ops [⟨none, .bld 13 [(.v (.bool false)), (.nd (.sl true 1 0) []), (.nd (.sl true 1 0) [])] []⟩,
     ⟨none, .mv 14 (.t 6)⟩,
     ⟨none, .stn none 3 (.t 4) (.t 13)⟩,
     ⟨none, .asg 5 (.t 14)⟩])
   (.seq (.scr r24) .ret))
   .skip)))
 (.seq (.ops [⟨none, .call (some 15) 7 [(.c (.v (.int .i64 1))), (.c (.v (.int .i64 1)))]⟩,
   ⟨none, .mv 16 (.t 0)⟩,
   ⟨none, .mv 17 (.t 1)⟩,
   ⟨none, .call (some 18) 7 [(.c (.v (.int .i64 1))), (.t 17)]⟩,
   ⟨none, .call (some 19) 57 [(.t 16), (.t 18)]⟩,
   ⟨none, .call (some 20) 26 [(.t 15), (.t 19)]⟩,
   ⟨none, .alc 7 [(.v (.bool false)), (.nd (.sl true 1 0) []), (.nd (.sl true 1 0) [])]⟩,
   ⟨none, .stn none 3 (.t 7) (.t 20)⟩])
 (.seq (.drw [⟨none, .mv 21 (.t 1)⟩,
   ⟨none, .call (some 22) 7 [(.t 21), (.c (.v (.int .i64 1)))]⟩,
   ⟨none, .ldn 23 3 (.t 7)⟩] [⟨none, .call (some 24) 27 [(.t 22), (.t 23)]⟩,
   ⟨none, .stn none 3 (.t 4) (.t 24)⟩,
   ⟨none, .asg 5 (.c (.v (.int .i64 0)))⟩])
 (.seq (.scr r24) .ret))))),
  25, [1000001, 4, 4, 0, 5]⟩

/-- coinage/occupancy.Singles -/
abbrev K25 : Nat := 7
def hints25 : List (List Bool) := [bits 25 [4, 5], bits 25 [4, 5], bits 25 [4, 5]]
@[simp] def r25 : List Bool := bits 25 [4, 5]
@[simp] def R25 (s4 s5 : V) : St := tab 25 7 (fu (fu dd 5 s5) 4 s4) dd
def c25 : MF := ⟨(.seq (.ops [⟨none, .alc 4 [(.v (.bool false)), (.nd (.sl true 1 0) []), (.nd (.sl true 1 0) [])]⟩,
   ⟨none, .asg 5 (.c (.v (.int .i64 0)))⟩])
 (.seq (.seq (.ops [⟨none, .mv 7 (.t 0)⟩,
    ⟨none, .mv 8 (.t 1)⟩,
    ⟨none, .call (some 9) 55 [(.t 7), (.t 8)]⟩,
    ⟨none, .asg 6 (.t 9)⟩])
  (.seq (.ops [⟨none, .mv 10 (.t 6)⟩,
    ⟨none, .bin 11 .neq .num (.t 10) (.c (.v (.int .i64 0)))⟩])
  (.cnd (.t 11)
   (.seq (.ops [⟨none, .bld 12 [(.v (.bool false)), (.nd (.sl true 1 0) []), (.nd (.sl true 1 0) [])] []⟩,
     ⟨none, .mv 13 (.t 6)⟩,
     ⟨none, .stn none 3 (.t 4) (.t 12)⟩,
     ⟨none, .asg 5 (.t 13)⟩])
   (.seq (.scr r25) .ret))
   .skip)))
 (.seq (.seq (.ops [⟨none, .mv 14 (.t 0)⟩,
    ⟨none, .bin 15 .eql .num (.t 14) (.c (.v (.int .i64 0)))⟩])
  (.cnd (.t 15)
   (.seq (.ops [⟨none, .call (some 16) 7 [(.c (.v (.int .i64 0))), (.c (.v (.int .i64 1)))]⟩,
     ⟨none, .stn none 3 (.t 4) (.t 16)⟩,
     ⟨none, .asg 5 (.c (.v (.int .i64 0)))⟩])
   (.seq (.scr r25) .ret))
   .skip))
 (.seq (.ops [⟨none, .mv 17 (.t 0)⟩,
   ⟨none, .call (some 18) 7 [(.t 17), (.c (.v (.int .i64 1)))]⟩,
   ⟨none, .mv 19 (.t 0)⟩,
   ⟨none, .bin 20 .sub .num (.t 19) (.c (.v (.int .i64 1)))⟩,
   ⟨none, .mv 21 (.t 1)⟩,
   ⟨none, .call (some 22) 7 [(.c (.v (.int .i64 1))), (.t 21)]⟩,
   ⟨none, .call (some 23) 57 [(.t 20), (.t 22)]⟩,
   ⟨none, .call (some 24) 27 [(.t 18), (.t 23)]⟩,
   ⟨none, .stn none 3 (.t 4) (.t 24)⟩,
   ⟨none, .asg 5 (.c (.v (.int .i64 0)))⟩])
 (.seq (.scr r25) .ret))))),
  25, [1000001, 4, 4, 0, 5]⟩

/-- coinage/fraction.Sub -/
abbrev K26 : Nat := 5
def hints26 : List (List Bool) := [bits 9 [4]]
@[simp] def r26 : List Bool := bits 9 [4]
@[simp] def R26 (s4 : V) : St := tab 9 5 (fu dd 4 s4) dd
def c26 : MF := ⟨(.seq (.ops [⟨none, .sl0 2 0 (.t 0)⟩,
   ⟨none, .sl0 3 0 (.t 1)⟩,
   ⟨none, .alc 4 [(.v (.bool false)), (.nd (.sl true 1 0) []), (.nd (.sl true 1 0) [])]⟩])
 (.seq (.drw [⟨none, .ldn 5 3 (.t 2)⟩,
   ⟨none, .ldn 6 3 (.t 3)⟩,
   ⟨none, .call (some 7) 58 [(.t 6)]⟩] [⟨none, .call (some 8) 22 [(.t 5), (.t 7)]⟩,
   ⟨none, .stn none 3 (.t 4) (.t 8)⟩])
 (.seq (.scr r26) .ret))),
  9, [4, 3, 1000000]⟩

/-- coinage/fraction.Mul -/
abbrev K27 : Nat := 5
def hints27 : List (List Bool) := [bits 21 [4]]
@[simp] def r27 : List Bool := bits 21 [4]
@[simp] def R27 (s4 : V) : St := tab 21 5 (fu dd 4 s4) dd
def c27 : MF := ⟨(.seq (.ops [⟨none, .sl0 2 0 (.t 0)⟩,
   ⟨none, .sl0 3 0 (.t 1)⟩,
   ⟨none, .alc 4 [(.v (.bool false)), (.nd (.sl true 1 0) []), (.nd (.sl true 1 0) [])]⟩])
 (.seq (.drw [⟨none, .fa 5 0 (.t 2)⟩,
   ⟨none, .ld1 6 (.t 5)⟩,
   ⟨none, .fa 7 0 (.t 3)⟩,
   ⟨none, .ld1 8 (.t 7)⟩,
   ⟨none, .bin 9 .neq .bool (.t 6) (.t 8)⟩,
   ⟨none, .fa 10 1 (.t 2)⟩,
   ⟨none, .ldn 11 1 (.t 10)⟩,
   ⟨none, .fa 12 1 (.t 3)⟩,
   ⟨none, .ldn 13 1 (.t 12)⟩,
   ⟨none, .call (some 14) 35 [(.t 11), (.t 13)]⟩,
   ⟨none, .fa 15 2 (.t 2)⟩,
   ⟨none, .ldn 16 1 (.t 15)⟩,
   ⟨none, .fa 17 2 (.t 3)⟩,
   ⟨none, .ldn 18 1 (.t 17)⟩,
   ⟨none, .call (some 19) 35 [(.t 16), (.t 18)]⟩] [⟨none, .call (some 20) 29 [(.t 9), (.t 14), (.t 19)]⟩,
   ⟨none, .stn none 3 (.t 4) (.t 20)⟩])
 (.seq (.scr r27) .ret))),
  21, [4, 3, 1000000]⟩

/-- coinage/fraction.Text -/
abbrev K28 : Nat := 5
def hints28 : List (List Bool) := [bits 0 [], bits 24 [2]]
@[simp] def r28 : List Bool := bits 24 [2]
@[simp] def R28 (s2 : V) : St := tab 24 5 (fu dd 2 s2) dd
def c28 : MF := ⟨(.seq (.ops [⟨none, .box 1 (.t 0)⟩,
   ⟨none, .asg 2 (.c (.v (.string ⟨#[]⟩)))⟩])
 (.seq (.ops [⟨none, .ldn 5 3 (.t 1)⟩,
   ⟨none, .call (some 6) 52 [(.t 5)]⟩,
   ⟨none, .stn none 3 (.t 1) (.t 6)⟩])
 (.seq (.ops [⟨none, .fa 7 1 (.t 1)⟩,
   ⟨none, .ldn 8 1 (.t 7)⟩,
   ⟨none, .call (some 9) 59 [(.t 8)]⟩,
   ⟨none, .asg 3 (.t 9)⟩])
 (.seq (.seq (.ops [⟨none, .fa 10 0 (.t 1)⟩,
    ⟨none, .ld1 11 (.t 10)⟩])
  (.cnd (.t 11)
   (.ops [⟨none, .mv 12 (.t 3)⟩,
    ⟨none, .bin 13 .add .num (.c (.v (.string ⟨#[45]⟩))) (.t 12)⟩,
    ⟨none, .asg 3 (.t 13)⟩])
   .skip))
 (.seq (.seq (.ops [⟨none, .fa 14 2 (.t 1)⟩,
    ⟨none, .ldn 15 1 (.t 14)⟩,
    ⟨none, .call (some 16) 59 [(.t 15)]⟩,
    ⟨none, .asg 4 (.t 16)⟩])
  (.seq (.ops [⟨none, .mv 17 (.t 4)⟩,
    ⟨none, .bin 18 .neq .num (.t 17) (.c (.v (.string ⟨#[49]⟩)))⟩])
  (.cnd (.t 18)
   (.ops [⟨none, .mv 19 (.t 3)⟩,
    ⟨none, .mv 20 (.t 4)⟩,
    ⟨none, .bin 21 .add .num (.c (.v (.string ⟨#[47]⟩))) (.t 20)⟩,
    ⟨none, .bin 22 .add .num (.t 19) (.t 21)⟩,
    ⟨none, .asg 3 (.t 22)⟩])
   .skip)))
 (.seq (.ops [⟨none, .mv 23 (.t 3)⟩,
   ⟨none, .asg 2 (.t 23)⟩])
 (.seq (.scr r28) .ret))))))),
  24, [2]⟩

/-- coinage/fraction.made -/
abbrev K29 : Nat := 33
def hints29 : List (List Bool) := [bits 43 [6], bits 43 [6]]
@[simp] def r29 : List Bool := bits 43 [6]
@[simp] def R29 (s6 : V) : St := tab 43 33 (fu dd 6 s6) dd
def c29 : MF := ⟨(.seq (.ops [⟨none, .sl0 4 0 (.t 1)⟩,
   ⟨none, .sl0 5 0 (.t 2)⟩,
   ⟨none, .alc 6 [(.v (.bool false)), (.nd (.sl true 1 0) []), (.nd (.sl true 1 0) [])]⟩])
 (.seq (.seq (.ops [⟨none, .ldn 14 1 (.t 4)⟩,
    ⟨none, .call (some 15) 36 [(.t 14)]⟩,
    ⟨none, .mv 16 (.t 15)⟩,
    ⟨some (16, false), .ldn 17 1 (.t 5)⟩,
    ⟨some (16, false), .call (some 18) 36 [(.t 17)]⟩,
    ⟨none, .pick 19 (.t 16) (.c (.v (.bool true))) (.t 18)⟩])
  (.cnd (.t 19)
   (.seq (.ops [⟨none, .call (some 20) 60 [(.c (.v (.int .u64 1)))]⟩,
     ⟨none, .bld 21 [(.v (.bool false)), (.nd (.sl true 1 0) []), (.nd (.sl true 1 0) [])] [(2, 1, (.t 20))]⟩,
     ⟨none, .stn none 3 (.t 6) (.t 21)⟩])
   (.seq (.scr r29) .ret))
   .skip))
 (.seq (.ops [⟨none, .ldn 22 1 (.t 4)⟩,
   ⟨none, .ldn 23 1 (.t 5)⟩,
   ⟨none, .call (some 24) 61 [(.t 22), (.t 23)]⟩,
   ⟨none, .alc 7 [(.nd (.sl true 1 0) [])]⟩,
   ⟨none, .stn none 1 (.t 7) (.t 24)⟩])
 (.seq (.ops [⟨none, .ldn 26 1 (.t 4)⟩,
   ⟨none, .ldn 27 1 (.t 7)⟩,
   ⟨none, .call (some 28) 62 [(.t 26), (.t 27)]⟩,
   ⟨none, .mv 25 (.t 28)⟩,
   ⟨none, .ext 29 (.t 25) 0⟩,
   ⟨none, .ext 30 (.t 25) 1⟩,
   ⟨none, .ext 31 (.t 25) 2⟩,
   ⟨none, .alc 8 [(.nd (.sl true 1 0) [])]⟩,
   ⟨none, .alc 9 [(.nd (.sl true 1 0) [])]⟩,
   ⟨none, .stn none 1 (.t 8) (.t 29)⟩,
   ⟨none, .stn none 1 (.t 9) (.t 30)⟩,
   ⟨none, .asg 10 (.t 31)⟩])
 (.seq (.ops [⟨none, .ldn 33 1 (.t 5)⟩,
   ⟨none, .ldn 34 1 (.t 7)⟩,
   ⟨none, .call (some 35) 62 [(.t 33), (.t 34)]⟩,
   ⟨none, .mv 32 (.t 35)⟩,
   ⟨none, .ext 36 (.t 32) 0⟩,
   ⟨none, .ext 37 (.t 32) 1⟩,
   ⟨none, .ext 38 (.t 32) 2⟩,
   ⟨none, .alc 11 [(.nd (.sl true 1 0) [])]⟩,
   ⟨none, .alc 12 [(.nd (.sl true 1 0) [])]⟩,
   ⟨none, .stn none 1 (.t 11) (.t 36)⟩,
   ⟨none, .stn none 1 (.t 12) (.t 37)⟩,
   ⟨none, .asg 13 (.t 38)⟩])
 (.seq (.ops [⟨none, .mv 39 (.t 0)⟩,
   ⟨none, .ldn 40 1 (.t 8)⟩,
   ⟨none, .ldn 41 1 (.t 11)⟩,
   ⟨none, .bld 42 [(.v (.bool false)), (.nd (.sl true 1 0) []), (.nd (.sl true 1 0) [])] [(0, 1, (.t 39)), (1, 1, (.t 40)), (2, 1, (.t 41))]⟩,
   ⟨none, .stn none 3 (.t 6) (.t 42)⟩])
 (.seq (.scr r29) .ret))))))),
  43, [6, 3, 1000000]⟩

/-- coinage/fraction.magnitude -/
abbrev K30 : Nat := 3
def hints30 : List (List Bool) := [bits 12 [2], bits 12 [2]]
@[simp] def r30 : List Bool := bits 12 [2]
@[simp] def R30 (s2 : V) : St := tab 12 3 (fu dd 2 s2) dd
def c30 : MF := ⟨(.seq (.ops [⟨none, .alc 2 [(.nd (.sl true 1 0) [])]⟩])
 (.seq (.seq (.ops [⟨none, .mv 3 (.t 0)⟩,
    ⟨none, .bin 4 .lss .num (.t 3) (.c (.v (.int .i64 0)))⟩])
  (.cnd (.t 4)
   (.seq (.ops [⟨none, .mv 5 (.t 0)⟩,
     ⟨none, .cvi 6 .u64 (.t 5)⟩,
     ⟨none, .un 7 .neg (.t 6)⟩,
     ⟨none, .call (some 8) 60 [(.t 7)]⟩,
     ⟨none, .stn none 1 (.t 2) (.t 8)⟩])
   (.seq (.scr r30) .ret))
   .skip))
 (.seq (.ops [⟨none, .mv 9 (.t 0)⟩,
   ⟨none, .cvi 10 .u64 (.t 9)⟩,
   ⟨none, .call (some 11) 60 [(.t 10)]⟩,
   ⟨none, .stn none 1 (.t 2) (.t 11)⟩])
 (.seq (.scr r30) .ret)))),
  12, [2, 1, 1000000]⟩

def hints31 : List (List Bool) := [bits 51 [4], bits 51 [4], bits 51 [], bits 51 [0, 1, 20, 21], bits 51 [], bits 51 [0, 1, 20, 21], bits 51 [4], bits 51 [4]]
@[simp] def r31 : List Bool := bits 51 [4]
@[simp] def R31 (s4 : V) : St := tab 51 22 (fu dd 4 s4) dd
@[simp] def x31_0 : List Bool := bits 51 []
@[simp] def X31_0 : St := tab 51 22 dd dd
@[simp] def h31_0 : List Bool := bits 51 [0, 1, 20, 21]
@[simp] def L31_0 (s0 s1 s20 s21 : V) : St := tab 51 22 (fu (fu (fu (fu dd 21 s21) 20 s20) 1 s1) 0 s0) dd
@[simp] def x31_1 : List Bool := bits 51 [0, 1, 20, 21]
@[simp] def X31_1 (s0 s1 s20 s21 : V) : St := tab 51 22 (fu (fu (fu (fu dd 21 s21) 20 s20) 1 s1) 0 s0) dd
def b31_0 : MC := .seq (.scr h31_0)
 (.seq (.ops [⟨none, .bin 22 .lss .num (.t 21) (.t 20)⟩])
 (.seq (.cnd (.t 22)
   .skip
   (.seq (.scr x31_0) (.ex 0)))
 (.seq (.seq (.blk 1 (.seq (.ops [⟨none, .mv 23 (.t 21)⟩,
     ⟨none, .asg 5 (.t 23)⟩])
   (.seq (.ops (⟨none, .mv 24 (.t 0)⟩ ::
     ⟨none, .mv 25 (.t 5)⟩ ::
     ⟨none, .ixs 26 1 (.t 24) (.t 25)⟩ ::
     ⟨none, .ld1 27 (.t 26)⟩ ::
     ⟨none, .bin 28 .lss .num (.t 27) (.c (.v (.int .i64 (-1000000))))⟩ ::
     ⟨none, .mv 29 (.t 28)⟩ ::
     ⟨some (29, false), .mv 30 (.t 0)⟩ ::
     ⟨some (29, false), .mv 31 (.t 5)⟩ ::
     ⟨some (29, false), .ixs 32 1 (.t 30) (.t 31)⟩ ::
     ⟨some (29, false), .ld1 33 (.t 32)⟩ ::
     ⟨some (29, false), .bin 34 .gtr .num (.t 33) (.c (.v (.int .i64 1000000)))⟩ ::
     ⟨none, .pick 35 (.t 29) (.c (.v (.bool true))) (.t 34)⟩ ::
     ⟨none, .mv 36 (.t 35)⟩ ::
     ⟨some (36, false), .mv 37 (.t 1)⟩ ::
     ⟨some (36, false), .mv 38 (.t 5)⟩ ::
     ⟨some (36, false), .ixs 39 1 (.t 37) (.t 38)⟩ ::
     ⟨some (36, false), .ld1 40 (.t 39)⟩ ::
     ⟨some (36, false), .bin 41 .lss .num (.t 40) (.c (.v (.int .i64 1)))⟩ ::
     ⟨none, .pick 42 (.t 36) (.c (.v (.bool true))) (.t 41)⟩ ::
     ⟨none, .mv 43 (.t 42)⟩ ::
     ⟨some (43, false), .mv 44 (.t 1)⟩ ::
     ⟨some (43, false), .mv 45 (.t 5)⟩ ::
     ⟨some (43, false), .ixs 46 1 (.t 44) (.t 45)⟩ ::
     ⟨some (43, false), .ld1 47 (.t 46)⟩ ::
     ⟨some (43, false), .bin 48 .gtr .num (.t 47) (.c (.v (.int .i64 1000)))⟩ ::
     ⟨none, .pick 49 (.t 43) (.c (.v (.bool true))) (.t 48)⟩ :: []))
   (.cnd (.t 49)
    (.seq (.ops [⟨none, .asg 4 (.c (.v (.int .i64 1)))⟩])
    (.seq (.scr r31) .ret))
    .skip)))) (.scr x31_1))
 (.ops [⟨none, .bin 50 .add .num (.t 21) (.c (.v (.int .i64 1)))⟩,
  ⟨none, .mv 21 (.t 50)⟩]))))
def c31 : MF := ⟨(.seq (.ops [⟨none, .asg 4 (.c (.v (.int .i64 0)))⟩])
 (.seq (.seq (.ops [⟨none, .mv 6 (.t 0)⟩,
    ⟨none, .len 7 false (.t 6)⟩,
    ⟨none, .bin 8 .gtr .num (.t 7) (.c (.v (.int .i64 24)))⟩,
    ⟨none, .mv 9 (.t 8)⟩,
    ⟨some (9, false), .mv 10 (.t 1)⟩,
    ⟨some (9, false), .len 11 false (.t 10)⟩,
    ⟨some (9, false), .bin 12 .gtr .num (.t 11) (.c (.v (.int .i64 24)))⟩,
    ⟨none, .pick 13 (.t 9) (.c (.v (.bool true))) (.t 12)⟩])
  (.cnd (.t 13)
   (.seq (.ops [⟨none, .asg 4 (.c (.v (.int .i64 6)))⟩])
   (.seq (.scr r31) .ret))
   .skip))
 (.seq (.seq (.ops [⟨none, .mv 14 (.t 0)⟩,
    ⟨none, .len 15 false (.t 14)⟩,
    ⟨none, .mv 16 (.t 1)⟩,
    ⟨none, .len 17 false (.t 16)⟩,
    ⟨none, .bin 18 .neq .num (.t 15) (.t 17)⟩])
  (.cnd (.t 18)
   (.seq (.ops [⟨none, .asg 4 (.c (.v (.int .i64 1)))⟩])
   (.seq (.scr r31) .ret))
   .skip))
 (.seq (.seq (.ops [⟨none, .mv 19 (.t 0)⟩,
    ⟨none, .len 20 false (.t 19)⟩,
    ⟨none, .mv 21 (.c (.v (.int .i64 0)))⟩])
  (.seq (.blk 0 (.lop b31_0)) (.scr x31_0)))
 (.seq (.ops [⟨none, .asg 4 (.c (.v (.int .i64 0)))⟩])
 (.seq (.scr r31) .ret)))))),
  51, [4]⟩

def hints32 : List (List Bool) := [bits 99 [5], bits 99 [0, 1, 5, 11, 12], bits 99 [5], bits 99 [0, 1, 5, 11, 12], bits 99 [0, 1, 5, 11, 12], bits 99 [0, 1, 5, 7, 11, 12], bits 99 [0, 1, 5, 11, 12], bits 99 [0, 1, 5, 7, 11, 12], bits 99 [4]]
@[simp] def r32 : List Bool := bits 99 [4]
@[simp] def R32 (s4 : V) : St := tab 99 13 (fu dd 4 s4) dd
@[simp] def x32_0 : List Bool := bits 99 [5]
@[simp] def X32_0 (s5 : V) : St := tab 99 13 (fu dd 5 s5) dd
@[simp] def h32_0 : List Bool := bits 99 [0, 1, 5, 11, 12]
@[simp] def L32_0 (s0 s1 s5 s11 s12 : V) : St := tab 99 13 (fu (fu (fu (fu (fu dd 12 s12) 11 s11) 5 s5) 1 s1) 0 s0) dd
@[simp] def x32_1 : List Bool := bits 99 [0, 1, 5, 11, 12]
@[simp] def X32_1 (s0 s1 s5 s11 s12 : V) : St := tab 99 13 (fu (fu (fu (fu (fu dd 12 s12) 11 s11) 5 s5) 1 s1) 0 s0) dd
@[simp] def x32_2 : List Bool := bits 99 [0, 1, 5, 11, 12]
@[simp] def X32_2 (s0 s1 s5 s11 s12 : V) : St := tab 99 13 (fu (fu (fu (fu (fu dd 12 s12) 11 s11) 5 s5) 1 s1) 0 s0) dd
@[simp] def h32_1 : List Bool := bits 99 [0, 1, 5, 7, 11, 12]
@[simp] def L32_1 (s0 s1 s5 s7 s11 s12 : V) : St := tab 99 13 (fu (fu (fu (fu (fu (fu dd 12 s12) 11 s11) 7 s7) 5 s5) 1 s1) 0 s0) dd
@[simp] def x32_3 : List Bool := bits 99 [0, 1, 5, 7, 11, 12]
@[simp] def X32_3 (s0 s1 s5 s7 s11 s12 : V) : St := tab 99 13 (fu (fu (fu (fu (fu (fu dd 12 s12) 11 s11) 7 s7) 5 s5) 1 s1) 0 s0) dd
def b32_1 : MC := .seq (.scr h32_1)
 (.seq (.seq (.drw (⟨none, .mv 35 (.t 7)⟩ ::
    ⟨none, .bin 36 .gtr .num (.t 35) (.c (.v (.int .i64 0)))⟩ ::
    ⟨none, .mv 37 (.t 36)⟩ ::
    ⟨some (37, true), .mv 38 (.t 5)⟩ ::
    ⟨some (37, true), .mv 39 (.t 7)⟩ ::
    ⟨some (37, true), .bin 40 .sub .num (.t 39) (.c (.v (.int .i64 1)))⟩ ::
    ⟨some (37, true), .ixs 41 3 (.t 38) (.t 40)⟩ ::
    ⟨some (37, true), .fa 42 1 (.t 41)⟩ ::
    ⟨some (37, true), .ld1 43 (.t 42)⟩ ::
    ⟨some (37, true), .mv 44 (.t 5)⟩ ::
    ⟨some (37, true), .mv 45 (.t 7)⟩ ::
    ⟨some (37, true), .ixs 46 3 (.t 44) (.t 45)⟩ ::
    ⟨some (37, true), .fa 47 2 (.t 46)⟩ ::
    ⟨some (37, true), .ld1 48 (.t 47)⟩ ::
    ⟨some (37, true), .bin 49 .mul .num (.t 43) (.t 48)⟩ ::
    ⟨some (37, true), .mv 50 (.t 5)⟩ ::
    ⟨some (37, true), .mv 51 (.t 7)⟩ ::
    ⟨some (37, true), .ixs 52 3 (.t 50) (.t 51)⟩ ::
    ⟨some (37, true), .fa 53 1 (.t 52)⟩ ::
    ⟨some (37, true), .ld1 54 (.t 53)⟩ ::
    ⟨some (37, true), .mv 55 (.t 5)⟩ ::
    ⟨some (37, true), .mv 56 (.t 7)⟩ ::
    ⟨some (37, true), .bin 57 .sub .num (.t 56) (.c (.v (.int .i64 1)))⟩ ::
    ⟨some (37, true), .ixs 58 3 (.t 55) (.t 57)⟩ ::
    ⟨some (37, true), .fa 59 2 (.t 58)⟩ ::
    ⟨some (37, true), .ld1 60 (.t 59)⟩ ::
    ⟨some (37, true), .bin 61 .mul .num (.t 54) (.t 60)⟩ :: []) [⟨some (37, true), .bin 62 .leq .num (.t 49) (.t 61)⟩,
    ⟨none, .pick 63 (.t 37) (.t 62) (.c (.v (.bool false)))⟩])
  (.cnd (.t 63)
   .skip
   (.seq (.scr x32_2) (.ex 2))))
 (.seq (.seq (.blk 3 (.seq (.drx [⟨none, .mv 66 (.t 5)⟩,
     ⟨none, .mv 67 (.t 7)⟩,
     ⟨none, .mv 71 (.t 5)⟩,
     ⟨none, .mv 72 (.t 7)⟩,
     ⟨none, .bin 68 .sub .num (.t 67) (.c (.v (.int .i64 1)))⟩,
     ⟨none, .ixs 69 3 (.t 66) (.t 68)⟩,
     ⟨none, .ldn 70 3 (.t 69)⟩,
     ⟨none, .ixs 73 3 (.t 71) (.t 72)⟩,
     ⟨none, .ldn 74 3 (.t 73)⟩,
     ⟨none, .alc 8 [(.v (.int .i64 0)), (.v (.int .i64 0)), (.v (.int .i64 0))]⟩,
     ⟨none, .alc 9 [(.v (.int .i64 0)), (.v (.int .i64 0)), (.v (.int .i64 0))]⟩] [(⟨none, .stn none 3 (.t 8) (.t 70)⟩, [⟨none, .ixs 73 3 (.t 71) (.t 72)⟩, ⟨none, .ldn 74 3 (.t 73)⟩]),
     (⟨none, .stn none 3 (.t 9) (.t 74)⟩, [])] [])
   (.drw (⟨none, .mv 75 (.t 5)⟩ ::
    ⟨none, .mv 76 (.t 7)⟩ ::
    ⟨none, .bin 77 .sub .num (.t 76) (.c (.v (.int .i64 1)))⟩ ::
    ⟨none, .sl 78 3 (.t 75) none (some (.t 77))⟩ ::
    ⟨none, .fa 79 0 (.t 8)⟩ ::
    ⟨none, .ld1 80 (.t 79)⟩ ::
    ⟨none, .fa 81 0 (.t 9)⟩ ::
    ⟨none, .ld1 82 (.t 81)⟩ ::
    ⟨none, .bin 83 .add .num (.t 80) (.t 82)⟩ ::
    ⟨none, .fa 84 1 (.t 8)⟩ ::
    ⟨none, .ld1 85 (.t 84)⟩ ::
    ⟨none, .fa 86 1 (.t 9)⟩ ::
    ⟨none, .ld1 87 (.t 86)⟩ ::
    ⟨none, .bin 88 .add .num (.t 85) (.t 87)⟩ ::
    ⟨none, .fa 89 2 (.t 8)⟩ ::
    ⟨none, .ld1 90 (.t 89)⟩ ::
    ⟨none, .fa 91 2 (.t 9)⟩ ::
    ⟨none, .ld1 92 (.t 91)⟩ ::
    ⟨none, .bin 93 .add .num (.t 90) (.t 92)⟩ ::
    ⟨none, .bld 94 [(.v (.int .i64 0)), (.v (.int .i64 0)), (.v (.int .i64 0))] [(0, 1, (.t 83)), (1, 1, (.t 88)), (2, 1, (.t 93))]⟩ ::
    ⟨none, .bs 95 3 1 [(.v (.int .i64 0)), (.v (.int .i64 0)), (.v (.int .i64 0))] [(0, 3, (.t 94))]⟩ :: []) [⟨none, .app 96 3 (.t 78) (.t 95)⟩,
    ⟨none, .asg 5 (.t 96)⟩]))) (.scr x32_3))
 (.ops [⟨none, .mv 64 (.t 7)⟩,
  ⟨none, .bin 65 .sub .num (.t 64) (.c (.v (.int .i64 1)))⟩,
  ⟨none, .asg 7 (.t 65)⟩])))
def b32_0 : MC := .seq (.scr h32_0)
 (.seq (.ops [⟨none, .bin 13 .lss .num (.t 12) (.t 11)⟩])
 (.seq (.cnd (.t 13)
   .skip
   (.seq (.scr x32_0) (.ex 0)))
 (.seq (.seq (.blk 1 (.seq (.ops [⟨none, .mv 14 (.t 12)⟩,
     ⟨none, .asg 6 (.t 14)⟩])
   (.seq (.drw [⟨none, .mv 15 (.t 5)⟩,
     ⟨none, .mv 16 (.t 0)⟩,
     ⟨none, .mv 17 (.t 6)⟩,
     ⟨none, .ixs 18 1 (.t 16) (.t 17)⟩,
     ⟨none, .ld1 19 (.t 18)⟩,
     ⟨none, .mv 20 (.t 1)⟩,
     ⟨none, .mv 21 (.t 6)⟩,
     ⟨none, .ixs 22 1 (.t 20) (.t 21)⟩,
     ⟨none, .ld1 23 (.t 22)⟩,
     ⟨none, .bin 24 .mul .num (.t 19) (.t 23)⟩,
     ⟨none, .mv 25 (.t 1)⟩,
     ⟨none, .mv 26 (.t 6)⟩,
     ⟨none, .ixs 27 1 (.t 25) (.t 26)⟩,
     ⟨none, .ld1 28 (.t 27)⟩,
     ⟨none, .bld 29 [(.v (.int .i64 0)), (.v (.int .i64 0)), (.v (.int .i64 0))] [(0, 1, (.c (.v (.int .i64 1)))), (1, 1, (.t 24)), (2, 1, (.t 28))]⟩,
     ⟨none, .bs 30 3 1 [(.v (.int .i64 0)), (.v (.int .i64 0)), (.v (.int .i64 0))] [(0, 3, (.t 29))]⟩] [⟨none, .app 31 3 (.t 15) (.t 30)⟩,
     ⟨none, .asg 5 (.t 31)⟩])
   (.seq (.ops [⟨none, .mv 32 (.t 5)⟩,
     ⟨none, .len 33 false (.t 32)⟩,
     ⟨none, .bin 34 .sub .num (.t 33) (.c (.v (.int .i64 1)))⟩,
     ⟨none, .asg 7 (.t 34)⟩])
   (.seq (.blk 2 (.lop b32_1)) (.scr x32_2)))))) (.scr x32_1))
 (.ops [⟨none, .bin 97 .add .num (.t 12) (.c (.v (.int .i64 1)))⟩,
  ⟨none, .mv 12 (.t 97)⟩]))))
def c32 : MF := ⟨(.seq (.ops [⟨none, .asg 4 (.c (.nd (.sl true 3 0) []))⟩])
 (.seq (.ops [⟨none, .asg 5 (.c (.nd (.sl true 3 0) []))⟩])
 (.seq (.seq (.ops [⟨none, .mv 10 (.t 0)⟩,
    ⟨none, .len 11 false (.t 10)⟩,
    ⟨none, .mv 12 (.c (.v (.int .i64 0)))⟩])
  (.seq (.blk 0 (.lop b32_0)) (.scr x32_0)))
 (.seq (.ops [⟨none, .mv 98 (.t 5)⟩,
   ⟨none, .asg 4 (.t 98)⟩])
 (.seq (.scr r32) .ret))))),
  99, [4]⟩

def hints33 : List (List Bool) := [bits 8 [2]]
@[simp] def r33 : List Bool := bits 8 [2]
@[simp] def R33 (s2 : V) : St := tab 8 3 (fu dd 2 s2) dd
def c33 : MF := ⟨(.seq (.ops [⟨none, .box 1 (.t 0)⟩,
   ⟨none, .alc 2 [(.v (.bool false)), (.nd (.sl true 1 0) []), (.nd (.sl true 1 0) [])]⟩])
 (.seq (.ops [⟨none, .fa 3 1 (.t 1)⟩,
   ⟨none, .ld1 4 (.t 3)⟩,
   ⟨none, .fa 5 2 (.t 1)⟩,
   ⟨none, .ld1 6 (.t 5)⟩,
   ⟨none, .call (some 7) 7 [(.t 4), (.t 6)]⟩,
   ⟨none, .stn none 3 (.t 2) (.t 7)⟩])
 (.seq (.scr r33) .ret))),
  8, [2, 3, 1000000]⟩

/-- coinage/natural.Cmp -/
abbrev K34 : Nat := 5
def hints34 : List (List Bool) := [bits 10 [4]]
@[simp] def r34 : List Bool := bits 10 [4]
@[simp] def R34 (s4 : V) : St := tab 10 5 (fu dd 4 s4) dd
def c34 : MF := ⟨(.seq (.ops [⟨none, .sl0 2 0 (.t 0)⟩,
   ⟨none, .sl0 3 0 (.t 1)⟩,
   ⟨none, .asg 4 (.c (.v (.int .i64 0)))⟩])
 (.seq (.drw [⟨none, .ldn 5 1 (.t 2)⟩,
   ⟨none, .call (some 6) 64 [(.t 5)]⟩,
   ⟨none, .ldn 7 1 (.t 3)⟩] [⟨none, .call (some 8) 64 [(.t 7)]⟩,
   ⟨none, .call (some 9) 63 [(.t 6), (.t 8)]⟩,
   ⟨none, .asg 4 (.t 9)⟩])
 (.seq (.scr r34) .ret))),
  10, [4]⟩

def hints35 : List (List Bool) := [bits 11 [4]]
@[simp] def r35 : List Bool := bits 11 [4]
@[simp] def R35 (s4 : V) : St := tab 11 5 (fu dd 4 s4) dd
def c35 : MF := ⟨(.seq (.ops [⟨none, .sl0 2 0 (.t 0)⟩,
   ⟨none, .sl0 3 0 (.t 1)⟩,
   ⟨none, .alc 4 [(.nd (.sl true 1 0) [])]⟩])
 (.seq (.drw [⟨none, .ldn 5 1 (.t 2)⟩,
   ⟨none, .call (some 6) 64 [(.t 5)]⟩,
   ⟨none, .ldn 7 1 (.t 3)⟩] [⟨none, .call (some 8) 64 [(.t 7)]⟩,
   ⟨none, .call (some 9) 66 [(.t 6), (.t 8)]⟩,
   ⟨none, .calM (some 10) 65 (.t 9) []⟩,
   ⟨none, .stn none 1 (.t 4) (.t 10)⟩])
 (.seq (.scr r35) .ret))),
  11, [4, 1, 1000000]⟩

/-- coinage/fraction.zero -/
abbrev K36 : Nat := 3
def hints36 : List (List Bool) := [bits 7 [2]]
@[simp] def r36 : List Bool := bits 7 [2]
@[simp] def R36 (s2 : V) : St := tab 7 3 (fu dd 2 s2) dd
def c36 : MF := ⟨(.seq (.ops [⟨none, .sl0 1 0 (.t 0)⟩,
   ⟨none, .asg 2 (.c (.v (.bool false)))⟩])
 (.seq (.ops [⟨none, .ldn 3 1 (.t 1)⟩,
   ⟨none, .bv 4 [(.nd (.sl true 1 0) [])] []⟩,
   ⟨none, .call (some 5) 34 [(.t 3), (.t 4)]⟩,
   ⟨none, .bin 6 .eql .num (.t 5) (.c (.v (.int .i64 0)))⟩,
   ⟨none, .asg 2 (.t 6)⟩])
 (.seq (.scr r36) .ret))),
  7, [2]⟩

def hints37 : List (List Bool) := [bits 14 [2], bits 14 [2]]
@[simp] def r37 : List Bool := bits 14 [2]
@[simp] def R37 (s2 : V) : St := tab 14 4 (fu dd 2 s2) dd
def c37 : MF := ⟨(.seq (.ops [⟨none, .asg 2 (.c (.v (.int .i64 0)))⟩])
 (.seq (.seq (.ops [⟨none, .mv 4 (.t 0)⟩,
    ⟨none, .call (some 5) 67 [(.t 4)]⟩,
    ⟨none, .asg 3 (.t 5)⟩])
  (.seq (.ops [⟨none, .mv 6 (.t 3)⟩,
    ⟨none, .bin 7 .neq .num (.t 6) (.c (.v (.int .i64 0)))⟩,
    ⟨none, .mv 8 (.t 7)⟩,
    ⟨some (8, false), .mv 9 (.t 0)⟩,
    ⟨some (8, false), .len 10 false (.t 9)⟩,
    ⟨some (8, false), .bin 11 .gtr .num (.t 10) (.c (.v (.int .i64 0)))⟩,
    ⟨none, .pick 12 (.t 8) (.c (.v (.bool true))) (.t 11)⟩])
  (.cnd (.t 12)
   (.seq (.ops [⟨none, .mv 13 (.t 3)⟩,
     ⟨none, .asg 2 (.t 13)⟩])
   (.seq (.scr r37) .ret))
   .skip)))
 (.seq (.ops [⟨none, .asg 2 (.c (.v (.int .i64 7)))⟩])
 (.seq (.scr r37) .ret)))),
  14, [2]⟩

def hints38 : List (List Bool) := [bits 27 [0], bits 27 [0, 5, 6, 7], bits 27 [0], bits 27 [0, 5, 6, 7], bits 27 [2], bits 27 [2]]
@[simp] def r38 : List Bool := bits 27 [2]
@[simp] def R38 (s2 : V) : St := tab 27 8 (fu dd 2 s2) dd
@[simp] def x38_0 : List Bool := bits 27 [0]
@[simp] def X38_0 (s0 : V) : St := tab 27 8 (fu dd 0 s0) dd
@[simp] def h38_0 : List Bool := bits 27 [0, 5, 6, 7]
@[simp] def L38_0 (s0 s5 s6 s7 : V) : St := tab 27 8 (fu (fu (fu (fu dd 7 s7) 6 s6) 5 s5) 0 s0) dd
@[simp] def x38_1 : List Bool := bits 27 [0, 5, 6, 7]
@[simp] def X38_1 (s0 s5 s6 s7 : V) : St := tab 27 8 (fu (fu (fu (fu dd 7 s7) 6 s6) 5 s5) 0 s0) dd
def b38_0 : MC := .seq (.scr h38_0)
 (.seq (.ops [⟨none, .bin 8 .lss .num (.t 7) (.t 6)⟩])
 (.seq (.cnd (.t 8)
   .skip
   (.seq (.scr x38_0) (.ex 0)))
 (.seq (.seq (.blk 1 (.seq (.ops [⟨none, .ixs 9 1 (.t 5) (.t 7)⟩,
     ⟨none, .ld1 10 (.t 9)⟩,
     ⟨none, .asg 4 (.t 10)⟩])
   (.seq (.ops [⟨none, .mv 11 (.t 4)⟩,
     ⟨none, .len 12 false (.t 11)⟩,
     ⟨none, .mv 13 (.t 0)⟩,
     ⟨none, .ixs 14 1 (.t 13) (.c (.v (.int .i64 0)))⟩,
     ⟨none, .ld1 15 (.t 14)⟩,
     ⟨none, .len 16 false (.t 15)⟩,
     ⟨none, .bin 17 .neq .num (.t 12) (.t 16)⟩,
     ⟨none, .mv 18 (.t 17)⟩,
     ⟨some (18, false), .mv 19 (.t 4)⟩,
     ⟨some (18, false), .len 20 false (.t 19)⟩,
     ⟨some (18, false), .bin 21 .gtr .num (.t 20) (.c (.v (.int .i64 8)))⟩,
     ⟨none, .pick 22 (.t 18) (.c (.v (.bool true))) (.t 21)⟩])
   (.cnd (.t 22)
    (.seq (.ops [⟨none, .asg 2 (.c (.v (.bool false)))⟩])
    (.seq (.scr r38) .ret))
    .skip)))) (.scr x38_1))
 (.ops [⟨none, .bin 23 .add .num (.t 7) (.c (.v (.int .i64 1)))⟩,
  ⟨none, .mv 7 (.t 23)⟩]))))
def c38 : MF := ⟨(.seq (.ops [⟨none, .asg 2 (.c (.v (.bool false)))⟩])
 (.seq (.seq (.ops [⟨none, .mv 5 (.t 0)⟩,
    ⟨none, .len 6 false (.t 5)⟩,
    ⟨none, .mv 7 (.c (.v (.int .i64 0)))⟩])
  (.seq (.blk 0 (.lop b38_0)) (.scr x38_0)))
 (.seq (.ops [⟨none, .mv 24 (.t 0)⟩,
   ⟨none, .len 25 false (.t 24)⟩,
   ⟨none, .bin 26 .leq .num (.t 25) (.c (.v (.int .i64 8)))⟩,
   ⟨none, .asg 2 (.t 26)⟩])
 (.seq (.scr r38) .ret)))),
  27, [2]⟩

def hints39 : List (List Bool) := [bits 18 [2, 3], bits 18 [0, 2, 3, 7, 8, 9], bits 18 [2, 3], bits 18 [0, 2, 3, 7, 8, 9], bits 18 [2]]
@[simp] def r39 : List Bool := bits 18 [2]
@[simp] def R39 (s2 : V) : St := tab 18 10 (fu dd 2 s2) dd
@[simp] def x39_0 : List Bool := bits 18 [2, 3]
@[simp] def X39_0 (s2 s3 : V) : St := tab 18 10 (fu (fu dd 3 s3) 2 s2) dd
@[simp] def h39_0 : List Bool := bits 18 [0, 2, 3, 7, 8, 9]
@[simp] def L39_0 (s0 s2 s3 s7 s8 s9 : V) : St := tab 18 10 (fu (fu (fu (fu (fu (fu dd 9 s9) 8 s8) 7 s7) 3 s3) 2 s2) 0 s0) dd
@[simp] def x39_1 : List Bool := bits 18 [0, 2, 3, 7, 8, 9]
@[simp] def X39_1 (s0 s2 s3 s7 s8 s9 : V) : St := tab 18 10 (fu (fu (fu (fu (fu (fu dd 9 s9) 8 s8) 7 s7) 3 s3) 2 s2) 0 s0) dd
def b39_0 : MC := .seq (.scr h39_0)
 (.seq (.ops [⟨none, .bin 10 .lss .num (.t 9) (.t 8)⟩])
 (.seq (.cnd (.t 10)
   .skip
   (.seq (.scr x39_0) (.ex 0)))
 (.seq (.seq (.blk 1 (.seq (.ops [⟨none, .ixs 11 3 (.t 7) (.t 9)⟩,
     ⟨none, .ldn 12 3 (.t 11)⟩,
     ⟨none, .alc 5 [(.v (.bool false)), (.nd (.sl true 1 0) []), (.nd (.sl true 1 0) [])]⟩,
     ⟨none, .stn none 3 (.t 5) (.t 12)⟩])
   (.ops [⟨none, .ldn 13 3 (.t 3)⟩,
    ⟨none, .ldn 14 3 (.t 5)⟩,
    ⟨none, .call (some 15) 22 [(.t 13), (.t 14)]⟩,
    ⟨none, .stn none 3 (.t 3) (.t 15)⟩]))) (.scr x39_1))
 (.ops [⟨none, .bin 16 .add .num (.t 9) (.c (.v (.int .i64 1)))⟩,
  ⟨none, .mv 9 (.t 16)⟩]))))
def c39 : MF := ⟨(.seq (.ops [⟨none, .alc 2 [(.v (.bool false)), (.nd (.sl true 1 0) []), (.nd (.sl true 1 0) [])]⟩])
 (.seq (.ops [⟨none, .call (some 6) 7 [(.c (.v (.int .i64 0))), (.c (.v (.int .i64 1)))]⟩,
   ⟨none, .alc 3 [(.v (.bool false)), (.nd (.sl true 1 0) []), (.nd (.sl true 1 0) [])]⟩,
   ⟨none, .stn none 3 (.t 3) (.t 6)⟩])
 (.seq (.seq (.ops [⟨none, .mv 7 (.t 0)⟩,
    ⟨none, .len 8 false (.t 7)⟩,
    ⟨none, .mv 9 (.c (.v (.int .i64 0)))⟩])
  (.seq (.blk 0 (.lop b39_0)) (.scr x39_0)))
 (.seq (.ops [⟨none, .ldn 17 3 (.t 3)⟩,
   ⟨none, .stn none 3 (.t 2) (.t 17)⟩])
 (.seq (.scr r39) .ret))))),
  18, [2, 3, 1000000]⟩

def hints40 : List (List Bool) := [bits 10 [2], bits 10 [2]]
@[simp] def r40 : List Bool := bits 10 [2]
@[simp] def R40 (s2 : V) : St := tab 10 3 (fu dd 2 s2) dd
def c40 : MF := ⟨(.seq (.ops [⟨none, .asg 2 (.c (.v (.int .i64 0)))⟩])
 (.seq (.seq (.ops [⟨none, .mv 3 (.t 0)⟩,
    ⟨none, .len 4 false (.t 3)⟩,
    ⟨none, .bin 5 .eql .num (.t 4) (.c (.v (.int .i64 0)))⟩])
  (.cnd (.t 5)
   (.seq (.ops [⟨none, .asg 2 (.c (.v (.int .i64 0)))⟩])
   (.seq (.scr r40) .ret))
   .skip))
 (.seq (.ops [⟨none, .mv 6 (.t 0)⟩,
   ⟨none, .ixs 7 1 (.t 6) (.c (.v (.int .i64 0)))⟩,
   ⟨none, .ld1 8 (.t 7)⟩,
   ⟨none, .len 9 false (.t 8)⟩,
   ⟨none, .asg 2 (.t 9)⟩])
 (.seq (.scr r40) .ret)))),
  10, [2]⟩

def hints41 : List (List Bool) := [bits 26 [4, 5], bits 26 [0, 1, 4, 5, 9, 10], bits 26 [4, 5], bits 26 [0, 1, 4, 5, 9, 10], bits 26 [4]]
@[simp] def r41 : List Bool := bits 26 [4]
@[simp] def R41 (s4 : V) : St := tab 26 11 (fu dd 4 s4) dd
@[simp] def x41_0 : List Bool := bits 26 [4, 5]
@[simp] def X41_0 (s4 s5 : V) : St := tab 26 11 (fu (fu dd 5 s5) 4 s4) dd
@[simp] def h41_0 : List Bool := bits 26 [0, 1, 4, 5, 9, 10]
@[simp] def L41_0 (s0 s1 s4 s5 s9 s10 : V) : St := tab 26 11 (fu (fu (fu (fu (fu (fu dd 10 s10) 9 s9) 5 s5) 4 s4) 1 s1) 0 s0) dd
@[simp] def x41_1 : List Bool := bits 26 [0, 1, 4, 5, 9, 10]
@[simp] def X41_1 (s0 s1 s4 s5 s9 s10 : V) : St := tab 26 11 (fu (fu (fu (fu (fu (fu dd 10 s10) 9 s9) 5 s5) 4 s4) 1 s1) 0 s0) dd
def b41_0 : MC := .seq (.scr h41_0)
 (.seq (.ops [⟨none, .bin 11 .lss .num (.t 10) (.t 9)⟩])
 (.seq (.cnd (.t 11)
   .skip
   (.seq (.scr x41_0) (.ex 0)))
 (.seq (.seq (.blk 1 (.seq (.ops [⟨none, .mv 12 (.t 10)⟩,
     ⟨none, .asg 6 (.t 12)⟩])
   (.drw [⟨none, .ldn 13 3 (.t 5)⟩,
    ⟨none, .mv 14 (.t 0)⟩,
    ⟨none, .mv 15 (.t 6)⟩,
    ⟨none, .ixs 16 3 (.t 14) (.t 15)⟩,
    ⟨none, .ldn 17 3 (.t 16)⟩,
    ⟨none, .mv 18 (.t 1)⟩,
    ⟨none, .mv 19 (.t 6)⟩,
    ⟨none, .ixs 20 3 (.t 18) (.t 19)⟩,
    ⟨none, .ldn 21 3 (.t 20)⟩,
    ⟨none, .call (some 22) 27 [(.t 17), (.t 21)]⟩] [⟨none, .call (some 23) 22 [(.t 13), (.t 22)]⟩,
    ⟨none, .stn none 3 (.t 5) (.t 23)⟩]))) (.scr x41_1))
 (.ops [⟨none, .bin 24 .add .num (.t 10) (.c (.v (.int .i64 1)))⟩,
  ⟨none, .mv 10 (.t 24)⟩]))))
def c41 : MF := ⟨(.seq (.ops [⟨none, .alc 4 [(.v (.bool false)), (.nd (.sl true 1 0) []), (.nd (.sl true 1 0) [])]⟩])
 (.seq (.ops [⟨none, .call (some 7) 7 [(.c (.v (.int .i64 0))), (.c (.v (.int .i64 1)))]⟩,
   ⟨none, .alc 5 [(.v (.bool false)), (.nd (.sl true 1 0) []), (.nd (.sl true 1 0) [])]⟩,
   ⟨none, .stn none 3 (.t 5) (.t 7)⟩])
 (.seq (.seq (.ops [⟨none, .mv 8 (.t 0)⟩,
    ⟨none, .len 9 false (.t 8)⟩,
    ⟨none, .mv 10 (.c (.v (.int .i64 0)))⟩])
  (.seq (.blk 0 (.lop b41_0)) (.scr x41_0)))
 (.seq (.ops [⟨none, .ldn 25 3 (.t 5)⟩,
   ⟨none, .stn none 3 (.t 4) (.t 25)⟩])
 (.seq (.scr r41) .ret))))),
  26, [4, 3, 1000000]⟩

def hints42 : List (List Bool) := [bits 165 [0, 4], bits 165 [0, 4, 20, 21, 22], bits 165 [0, 4], bits 165 [0, 4, 20, 21, 22], bits 165 [0, 4, 7, 20, 21, 22], bits 165 [0, 4, 6, 7, 20, 21, 22, 24, 25, 26, 27, 28], bits 165 [0, 4, 7, 20, 21, 22], bits 165 [0, 4, 6, 7, 20, 21, 22, 24, 25, 26, 27, 28], bits 165 [4, 10], bits 165 [4, 10, 44, 45], bits 165 [4, 10], bits 165 [4, 10, 44, 45], bits 165 [4, 10, 11, 12, 13, 44, 45], bits 165 [4, 10, 11, 12, 13, 44, 45], bits 165 [4, 10, 11, 12, 13, 44, 45], bits 165 [4, 10, 11, 12, 13, 44, 45], bits 165 [4, 10, 44, 45], bits 165 [4, 10, 11, 12, 44, 45], bits 165 [4, 10, 11, 12, 14, 44, 45, 97, 98], bits 165 [4, 10, 11, 12, 44, 45], bits 165 [4, 10, 11, 12, 14, 44, 45, 97, 98], bits 165 [4, 10, 11, 44, 45], bits 165 [4, 10, 11, 12, 44, 45, 120, 121, 122], bits 165 [4, 10, 11, 44, 45], bits 165 [4, 10, 11, 12, 44, 45, 120, 121, 122], bits 165 [4, 10, 11, 12, 44, 45, 120, 121, 122], bits 165 [4, 10, 11, 12, 44, 45, 120, 121, 122], bits 165 [4, 10, 11, 12, 17, 18, 44, 45, 120, 121, 122, 125, 126, 135, 136], bits 165 [4, 10, 11, 12, 44, 45, 120, 121, 122], bits 165 [4, 10, 11, 12, 17, 18, 44, 45, 120, 121, 122, 125, 126, 135, 136], bits 165 [2, 3]]
@[simp] def r42 : List Bool := bits 165 [2, 3]
@[simp] def R42 (s2 s3 : V) : St := tab 165 137 (fu (fu dd 3 s3) 2 s2) dd
@[simp] def x42_0 : List Bool := bits 165 [0, 4]
@[simp] def X42_0 (s0 s4 : V) : St := tab 165 137 (fu (fu dd 4 s4) 0 s0) dd
@[simp] def h42_0 : List Bool := bits 165 [0, 4, 20, 21, 22]
@[simp] def L42_0 (s0 s4 s20 s21 s22 : V) : St := tab 165 137 (fu (fu (fu (fu (fu dd 22 s22) 21 s21) 20 s20) 4 s4) 0 s0) dd
@[simp] def x42_1 : List Bool := bits 165 [0, 4, 20, 21, 22]
@[simp] def X42_1 (s0 s4 s20 s21 s22 : V) : St := tab 165 137 (fu (fu (fu (fu (fu dd 22 s22) 21 s21) 20 s20) 4 s4) 0 s0) dd
@[simp] def x42_2 : List Bool := bits 165 [0, 4, 7, 20, 21, 22]
@[simp] def X42_2 (s0 s4 s7 s20 s21 s22 : V) : St := tab 165 137 (fu (fu (fu (fu (fu (fu dd 22 s22) 21 s21) 20 s20) 7 s7) 4 s4) 0 s0) dd
@[simp] def h42_1 : List Bool := bits 165 [0, 4, 6, 7, 20, 21, 22, 24, 25, 26, 27, 28]
@[simp] def L42_1 (s0 s4 s6 s7 s20 s21 s22 s24 s25 s26 s27 s28 : V) : St := tab 165 137 (fu (fu (fu (fu (fu (fu (fu (fu (fu (fu (fu (fu dd 28 s28) 27 s27) 26 s26) 25 s25) 24 s24) 22 s22) 21 s21) 20 s20) 7 s7) 6 s6) 4 s4) 0 s0) dd
@[simp] def x42_3 : List Bool := bits 165 [0, 4, 6, 7, 20, 21, 22, 24, 25, 26, 27, 28]
@[simp] def X42_3 (s0 s4 s6 s7 s20 s21 s22 s24 s25 s26 s27 s28 : V) : St := tab 165 137 (fu (fu (fu (fu (fu (fu (fu (fu (fu (fu (fu (fu dd 28 s28) 27 s27) 26 s26) 25 s25) 24 s24) 22 s22) 21 s21) 20 s20) 7 s7) 6 s6) 4 s4) 0 s0) dd
def b42_1 : MC := .seq (.scr h42_1)
 (.seq (.ops [⟨none, .bin 29 .lss .num (.t 28) (.t 27)⟩])
 (.seq (.cnd (.t 29)
   .skip
   (.seq (.scr x42_2) (.ex 2)))
 (.seq (.seq (.blk 3 (.seq (.ops [⟨none, .ixs 30 3 (.t 26) (.t 28)⟩,
     ⟨none, .ldn 31 3 (.t 30)⟩,
     ⟨none, .alc 9 [(.v (.bool false)), (.nd (.sl true 1 0) []), (.nd (.sl true 1 0) [])]⟩,
     ⟨none, .stn none 3 (.t 9) (.t 31)⟩])
   (.ops [⟨none, .mv 32 (.t 7)⟩,
    ⟨none, .ldn 33 3 (.t 9)⟩,
    ⟨none, .call (some 34) 52 [(.t 33)]⟩,
    ⟨none, .bs 35 3 1 [(.v (.bool false)), (.nd (.sl true 1 0) []), (.nd (.sl true 1 0) [])] [(0, 3, (.t 34))]⟩,
    ⟨none, .app 36 3 (.t 32) (.t 35)⟩,
    ⟨none, .asg 7 (.t 36)⟩]))) (.scr x42_3))
 (.ops [⟨none, .bin 37 .add .num (.t 28) (.c (.v (.int .i64 1)))⟩,
  ⟨none, .mv 28 (.t 37)⟩]))))
def b42_0 : MC := .seq (.scr h42_0)
 (.seq (.ops [⟨none, .bin 23 .lss .num (.t 22) (.t 21)⟩])
 (.seq (.cnd (.t 23)
   .skip
   (.seq (.scr x42_0) (.ex 0)))
 (.seq (.seq (.blk 1 (.seq (.ops [⟨none, .ixs 24 1 (.t 20) (.t 22)⟩,
     ⟨none, .ld1 25 (.t 24)⟩,
     ⟨none, .asg 6 (.t 25)⟩])
   (.seq (.ops [⟨none, .asg 7 (.c (.nd (.sl true 3 0) []))⟩])
   (.seq (.seq (.ops [⟨none, .mv 26 (.t 6)⟩,
      ⟨none, .len 27 false (.t 26)⟩,
      ⟨none, .mv 28 (.c (.v (.int .i64 0)))⟩])
    (.seq (.blk 2 (.lop b42_1)) (.scr x42_2)))
   (.ops [⟨none, .mv 38 (.t 4)⟩,
    ⟨none, .mv 39 (.t 7)⟩,
    ⟨none, .bs 40 1 1 [(.nd (.sl true 3 0) [])] [(0, 1, (.t 39))]⟩,
    ⟨none, .app 41 1 (.t 38) (.t 40)⟩,
    ⟨none, .asg 4 (.t 41)⟩]))))) (.scr x42_1))
 (.ops [⟨none, .bin 42 .add .num (.t 22) (.c (.v (.int .i64 1)))⟩,
  ⟨none, .mv 22 (.t 42)⟩]))))
@[simp] def x42_4 : List Bool := bits 165 [4, 10]
@[simp] def X42_4 (s4 s10 : V) : St := tab 165 137 (fu (fu dd 10 s10) 4 s4) dd
@[simp] def h42_2 : List Bool := bits 165 [4, 10, 44, 45]
@[simp] def L42_2 (s4 s10 s44 s45 : V) : St := tab 165 137 (fu (fu (fu (fu dd 45 s45) 44 s44) 10 s10) 4 s4) dd
@[simp] def x42_5 : List Bool := bits 165 [4, 10, 44, 45]
@[simp] def X42_5 (s4 s10 s44 s45 : V) : St := tab 165 137 (fu (fu (fu (fu dd 45 s45) 44 s44) 10 s10) 4 s4) dd
@[simp] def x42_6 : List Bool := bits 165 [4, 10, 11, 12, 13, 44, 45]
@[simp] def X42_6 (s4 s10 s11 s12 s13 s44 s45 : V) : St := tab 165 137 (fu (fu (fu (fu (fu (fu (fu dd 45 s45) 44 s44) 13 s13) 12 s12) 11 s11) 10 s10) 4 s4) dd
@[simp] def h42_3 : List Bool := bits 165 [4, 10, 11, 12, 13, 44, 45]
@[simp] def L42_3 (s4 s10 s11 s12 s13 s44 s45 : V) : St := tab 165 137 (fu (fu (fu (fu (fu (fu (fu dd 45 s45) 44 s44) 13 s13) 12 s12) 11 s11) 10 s10) 4 s4) dd
@[simp] def x42_7 : List Bool := bits 165 [4, 10, 11, 12, 13, 44, 45]
@[simp] def X42_7 (s4 s10 s11 s12 s13 s44 s45 : V) : St := tab 165 137 (fu (fu (fu (fu (fu (fu (fu dd 45 s45) 44 s44) 13 s13) 12 s12) 11 s11) 10 s10) 4 s4) dd
def b42_3 : MC := .seq (.scr h42_3)
 (.seq (.seq (.ops [⟨none, .mv 51 (.t 13)⟩,
    ⟨none, .mv 52 (.t 4)⟩,
    ⟨none, .len 53 false (.t 52)⟩,
    ⟨none, .bin 54 .lss .num (.t 51) (.t 53)⟩,
    ⟨none, .mv 55 (.t 54)⟩,
    ⟨some (55, true), .mv 56 (.t 4)⟩,
    ⟨some (55, true), .mv 57 (.t 13)⟩,
    ⟨some (55, true), .ixs 58 1 (.t 56) (.t 57)⟩,
    ⟨some (55, true), .ld1 59 (.t 58)⟩,
    ⟨some (55, true), .mv 60 (.t 11)⟩,
    ⟨some (55, true), .ixs 61 3 (.t 59) (.t 60)⟩,
    ⟨some (55, true), .ldn 62 3 (.t 61)⟩,
    ⟨some (55, true), .call (some 63) 12 [(.t 62)]⟩,
    ⟨some (55, true), .bin 64 .eql .num (.t 63) (.c (.v (.int .i64 0)))⟩,
    ⟨none, .pick 65 (.t 55) (.t 64) (.c (.v (.bool false)))⟩])
  (.cnd (.t 65)
   .skip
   (.seq (.scr x42_6) (.ex 6))))
 (.seq (.blk 7 (.ops [⟨none, .mv 66 (.t 13)⟩,
   ⟨none, .bin 67 .add .num (.t 66) (.c (.v (.int .i64 1)))⟩,
   ⟨none, .asg 13 (.t 67)⟩])) (.scr x42_7)))
@[simp] def x42_8 : List Bool := bits 165 [4, 10, 11, 12, 44, 45]
@[simp] def X42_8 (s4 s10 s11 s12 s44 s45 : V) : St := tab 165 137 (fu (fu (fu (fu (fu (fu dd 45 s45) 44 s44) 12 s12) 11 s11) 10 s10) 4 s4) dd
@[simp] def h42_4 : List Bool := bits 165 [4, 10, 11, 12, 14, 44, 45, 97, 98]
@[simp] def L42_4 (s4 s10 s11 s12 s14 s44 s45 s97 s98 : V) : St := tab 165 137 (fu (fu (fu (fu (fu (fu (fu (fu (fu dd 98 s98) 97 s97) 45 s45) 44 s44) 14 s14) 12 s12) 11 s11) 10 s10) 4 s4) dd
@[simp] def x42_9 : List Bool := bits 165 [4, 10, 11, 12, 14, 44, 45, 97, 98]
@[simp] def X42_9 (s4 s10 s11 s12 s14 s44 s45 s97 s98 : V) : St := tab 165 137 (fu (fu (fu (fu (fu (fu (fu (fu (fu dd 98 s98) 97 s97) 45 s45) 44 s44) 14 s14) 12 s12) 11 s11) 10 s10) 4 s4) dd
def b42_4 : MC := .seq (.scr h42_4)
 (.seq (.ops [⟨none, .bin 99 .lss .num (.t 98) (.t 97)⟩])
 (.seq (.cnd (.t 99)
   .skip
   (.seq (.scr x42_8) (.ex 8)))
 (.seq (.seq (.blk 9 (.seq (.ops [⟨none, .mv 100 (.t 98)⟩,
     ⟨none, .asg 15 (.t 100)⟩])
   (.drx (⟨none, .mv 102 (.t 4)⟩ ::
    ⟨none, .mv 103 (.t 12)⟩ ::
    ⟨none, .mv 106 (.t 15)⟩ ::
    ⟨none, .mv 107 (.t 4)⟩ ::
    ⟨none, .mv 108 (.t 12)⟩ ::
    ⟨none, .mv 111 (.t 15)⟩ ::
    ⟨none, .ixs 104 1 (.t 102) (.t 103)⟩ ::
    ⟨none, .ld1 105 (.t 104)⟩ ::
    ⟨none, .ixs 109 1 (.t 107) (.t 108)⟩ ::
    ⟨none, .ld1 110 (.t 109)⟩ ::
    ⟨none, .ixs 112 3 (.t 110) (.t 111)⟩ ::
    ⟨none, .ldn 113 3 (.t 112)⟩ ::
    ⟨none, .ldn 114 3 (.t 14)⟩ ::
    ⟨none, .call (some 115) 68 [(.t 113), (.t 114)]⟩ ::
    ⟨none, .mv 101 (.t 115)⟩ ::
    ⟨none, .exb 116 (.t 101) 0⟩ ::
    ⟨none, .exb 117 (.t 101) 1⟩ ::
    ⟨none, .ixs 118 3 (.t 105) (.t 106)⟩ :: []) [(⟨none, .stn none 3 (.t 118) (.t 116)⟩, [⟨none, .exb 117 (.t 101) 1⟩])] []))) (.scr x42_9))
 (.ops [⟨none, .bin 119 .add .num (.t 98) (.c (.v (.int .i64 1)))⟩,
  ⟨none, .mv 98 (.t 119)⟩]))))
@[simp] def x42_10 : List Bool := bits 165 [4, 10, 11, 44, 45]
@[simp] def X42_10 (s4 s10 s11 s44 s45 : V) : St := tab 165 137 (fu (fu (fu (fu (fu dd 45 s45) 44 s44) 11 s11) 10 s10) 4 s4) dd
@[simp] def h42_5 : List Bool := bits 165 [4, 10, 11, 12, 44, 45, 120, 121, 122]
@[simp] def L42_5 (s4 s10 s11 s12 s44 s45 s120 s121 s122 : V) : St := tab 165 137 (fu (fu (fu (fu (fu (fu (fu (fu (fu dd 122 s122) 121 s121) 120 s120) 45 s45) 44 s44) 12 s12) 11 s11) 10 s10) 4 s4) dd
@[simp] def x42_11 : List Bool := bits 165 [4, 10, 11, 12, 44, 45, 120, 121, 122]
@[simp] def X42_11 (s4 s10 s11 s12 s44 s45 s120 s121 s122 : V) : St := tab 165 137 (fu (fu (fu (fu (fu (fu (fu (fu (fu dd 122 s122) 121 s121) 120 s120) 45 s45) 44 s44) 12 s12) 11 s11) 10 s10) 4 s4) dd
@[simp] def x42_12 : List Bool := bits 165 [4, 10, 11, 12, 44, 45, 120, 121, 122]
@[simp] def X42_12 (s4 s10 s11 s12 s44 s45 s120 s121 s122 : V) : St := tab 165 137 (fu (fu (fu (fu (fu (fu (fu (fu (fu dd 122 s122) 121 s121) 120 s120) 45 s45) 44 s44) 12 s12) 11 s11) 10 s10) 4 s4) dd
@[simp] def h42_6 : List Bool := bits 165 [4, 10, 11, 12, 17, 18, 44, 45, 120, 121, 122, 125, 126, 135, 136]
@[simp] def L42_6 (s4 s10 s11 s12 s17 s18 s44 s45 s120 s121 s122 s125 s126 s135 s136 : V) : St := tab 165 137 (fu (fu (fu (fu (fu (fu (fu (fu (fu (fu (fu (fu (fu (fu (fu dd 136 s136) 135 s135) 126 s126) 125 s125) 122 s122) 121 s121) 120 s120) 45 s45) 44 s44) 18 s18) 17 s17) 12 s12) 11 s11) 10 s10) 4 s4) dd
@[simp] def x42_13 : List Bool := bits 165 [4, 10, 11, 12, 17, 18, 44, 45, 120, 121, 122, 125, 126, 135, 136]
@[simp] def X42_13 (s4 s10 s11 s12 s17 s18 s44 s45 s120 s121 s122 s125 s126 s135 s136 : V) : St := tab 165 137 (fu (fu (fu (fu (fu (fu (fu (fu (fu (fu (fu (fu (fu (fu (fu dd 136 s136) 135 s135) 126 s126) 125 s125) 122 s122) 121 s121) 120 s120) 45 s45) 44 s44) 18 s18) 17 s17) 12 s12) 11 s11) 10 s10) 4 s4) dd
def b42_6 : MC := .seq (.scr h42_6)
 (.seq (.ops [⟨none, .bin 137 .lss .num (.t 136) (.t 135)⟩])
 (.seq (.cnd (.t 137)
   .skip
   (.seq (.scr x42_12) (.ex 12)))
 (.seq (.seq (.blk 13 (.seq (.ops [⟨none, .mv 138 (.t 136)⟩,
     ⟨none, .asg 19 (.t 138)⟩])
   (.drw [⟨none, .mv 139 (.t 17)⟩,
    ⟨none, .mv 140 (.t 19)⟩,
    ⟨none, .mv 141 (.t 17)⟩,
    ⟨none, .mv 142 (.t 19)⟩,
    ⟨none, .ixs 143 3 (.t 141) (.t 142)⟩,
    ⟨none, .ldn 144 3 (.t 143)⟩,
    ⟨none, .ldn 145 3 (.t 18)⟩,
    ⟨none, .mv 146 (.t 4)⟩,
    ⟨none, .mv 147 (.t 12)⟩,
    ⟨none, .ixs 148 1 (.t 146) (.t 147)⟩,
    ⟨none, .ld1 149 (.t 148)⟩,
    ⟨none, .mv 150 (.t 19)⟩,
    ⟨none, .ixs 151 3 (.t 149) (.t 150)⟩,
    ⟨none, .ldn 152 3 (.t 151)⟩,
    ⟨none, .call (some 153) 27 [(.t 145), (.t 152)]⟩,
    ⟨none, .call (some 154) 26 [(.t 144), (.t 153)]⟩] [⟨none, .ixs 155 3 (.t 139) (.t 140)⟩,
    ⟨none, .stn none 3 (.t 155) (.t 154)⟩]))) (.scr x42_13))
 (.ops [⟨none, .bin 156 .add .num (.t 136) (.c (.v (.int .i64 1)))⟩,
  ⟨none, .mv 136 (.t 156)⟩]))))
def b42_5 : MC := .seq (.scr h42_5)
 (.seq (.ops [⟨none, .bin 123 .lss .num (.t 122) (.t 121)⟩])
 (.seq (.cnd (.t 123)
   .skip
   (.seq (.scr x42_10) (.ex 10)))
 (.seq (.seq (.blk 11 (.seq (.ops [⟨none, .mv 124 (.t 122)⟩,
     ⟨none, .ixs 125 1 (.t 120) (.t 122)⟩,
     ⟨none, .ld1 126 (.t 125)⟩,
     ⟨none, .asg 16 (.t 124)⟩,
     ⟨none, .asg 17 (.t 126)⟩])
   (.seq (.seq (.ops [⟨none, .mv 127 (.t 16)⟩,
      ⟨none, .mv 128 (.t 12)⟩,
      ⟨none, .bin 129 .eql .num (.t 127) (.t 128)⟩])
    (.cnd (.t 129)
     (.seq (.scr x42_11) (.ex 11))
     .skip))
   (.seq (.ops [⟨none, .mv 130 (.t 17)⟩,
     ⟨none, .mv 131 (.t 11)⟩,
     ⟨none, .ixs 132 3 (.t 130) (.t 131)⟩,
     ⟨none, .ldn 133 3 (.t 132)⟩,
     ⟨none, .alc 18 [(.v (.bool false)), (.nd (.sl true 1 0) []), (.nd (.sl true 1 0) [])]⟩,
     ⟨none, .stn none 3 (.t 18) (.t 133)⟩])
   (.seq (.ops [⟨none, .mv 134 (.t 17)⟩,
     ⟨none, .len 135 false (.t 134)⟩,
     ⟨none, .mv 136 (.c (.v (.int .i64 0)))⟩])
   (.seq (.blk 12 (.lop b42_6)) (.scr x42_12))))))) (.scr x42_11))
 (.ops [⟨none, .bin 157 .add .num (.t 122) (.c (.v (.int .i64 1)))⟩,
  ⟨none, .mv 122 (.t 157)⟩]))))
def b42_2 : MC := .seq (.scr h42_2)
 (.seq (.ops [⟨none, .bin 46 .lss .num (.t 45) (.t 44)⟩])
 (.seq (.cnd (.t 46)
   .skip
   (.seq (.scr x42_4) (.ex 4)))
 (.seq (.seq (.blk 5 (.seq (.ops [⟨none, .mv 47 (.t 45)⟩,
     ⟨none, .asg 11 (.t 47)⟩])
   (.seq (.ops [⟨none, .mv 48 (.t 10)⟩,
     ⟨none, .len 49 false (.t 48)⟩,
     ⟨none, .asg 12 (.t 49)⟩])
   (.seq (.ops [⟨none, .mv 50 (.t 12)⟩,
     ⟨none, .asg 13 (.t 50)⟩])
   (.seq (.seq (.blk 6 (.lop b42_3)) (.scr x42_6))
   (.seq (.seq (.ops [⟨none, .mv 68 (.t 13)⟩,
      ⟨none, .mv 69 (.t 4)⟩,
      ⟨none, .len 70 false (.t 69)⟩,
      ⟨none, .bin 71 .eql .num (.t 68) (.t 70)⟩])
    (.cnd (.t 71)
     (.seq (.scr x42_5) (.ex 5))
     .skip))
   (.seq (.drw [⟨none, .mv 72 (.t 4)⟩,
     ⟨none, .mv 73 (.t 12)⟩,
     ⟨none, .mv 74 (.t 4)⟩,
     ⟨none, .mv 75 (.t 13)⟩,
     ⟨none, .mv 76 (.t 4)⟩,
     ⟨none, .mv 77 (.t 13)⟩,
     ⟨none, .mv 80 (.t 4)⟩,
     ⟨none, .mv 81 (.t 12)⟩,
     ⟨none, .ixs 78 1 (.t 76) (.t 77)⟩,
     ⟨none, .ld1 79 (.t 78)⟩,
     ⟨none, .ixs 82 1 (.t 80) (.t 81)⟩,
     ⟨none, .ld1 83 (.t 82)⟩] [⟨none, .ixs 84 1 (.t 72) (.t 73)⟩,
     ⟨none, .stn none 1 (.t 84) (.t 79)⟩,
     ⟨none, .ixs 85 1 (.t 74) (.t 75)⟩,
     ⟨none, .stn none 1 (.t 85) (.t 83)⟩])
   (.seq (.ops [⟨none, .mv 86 (.t 4)⟩,
     ⟨none, .mv 87 (.t 12)⟩,
     ⟨none, .ixs 88 1 (.t 86) (.t 87)⟩,
     ⟨none, .ld1 89 (.t 88)⟩,
     ⟨none, .mv 90 (.t 11)⟩,
     ⟨none, .ixs 91 3 (.t 89) (.t 90)⟩,
     ⟨none, .ldn 92 3 (.t 91)⟩,
     ⟨none, .alc 14 [(.v (.bool false)), (.nd (.sl true 1 0) []), (.nd (.sl true 1 0) [])]⟩,
     ⟨none, .stn none 3 (.t 14) (.t 92)⟩])
   (.seq (.seq (.ops [⟨none, .mv 93 (.t 4)⟩,
      ⟨none, .mv 94 (.t 12)⟩,
      ⟨none, .ixs 95 1 (.t 93) (.t 94)⟩,
      ⟨none, .ld1 96 (.t 95)⟩,
      ⟨none, .len 97 false (.t 96)⟩,
      ⟨none, .mv 98 (.c (.v (.int .i64 0)))⟩])
    (.seq (.blk 8 (.lop b42_4)) (.scr x42_8)))
   (.seq (.seq (.ops [⟨none, .mv 120 (.t 4)⟩,
      ⟨none, .len 121 false (.t 120)⟩,
      ⟨none, .mv 122 (.c (.v (.int .i64 0)))⟩])
    (.seq (.blk 10 (.lop b42_5)) (.scr x42_10)))
   (.ops [⟨none, .mv 158 (.t 10)⟩,
    ⟨none, .mv 159 (.t 11)⟩,
    ⟨none, .bs 160 1 1 [(.v (.int .i64 0))] [(0, 1, (.t 159))]⟩,
    ⟨none, .app 161 1 (.t 158) (.t 160)⟩,
    ⟨none, .asg 10 (.t 161)⟩]))))))))))) (.scr x42_5))
 (.ops [⟨none, .bin 162 .add .num (.t 45) (.c (.v (.int .i64 1)))⟩,
  ⟨none, .mv 45 (.t 162)⟩]))))
def c42 : MF := ⟨(.seq (.ops [⟨none, .asg 2 (.c (.nd (.sl true 1 0) []))⟩,
   ⟨none, .asg 3 (.c (.nd (.sl true 1 0) []))⟩])
 (.seq (.ops [⟨none, .asg 4 (.c (.nd (.sl true 1 0) []))⟩])
 (.seq (.seq (.ops [⟨none, .mv 20 (.t 0)⟩,
    ⟨none, .len 21 false (.t 20)⟩,
    ⟨none, .mv 22 (.c (.v (.int .i64 0)))⟩])
  (.seq (.blk 0 (.lop b42_0)) (.scr x42_0)))
 (.seq (.ops [⟨none, .asg 10 (.c (.nd (.sl true 1 0) []))⟩])
 (.seq (.seq (.ops [⟨none, .mv 43 (.t 0)⟩,
    ⟨none, .call (some 44) 40 [(.t 43)]⟩,
    ⟨none, .mv 45 (.c (.v (.int .i64 0)))⟩])
  (.seq (.blk 4 (.lop b42_2)) (.scr x42_4)))
 (.seq (.ops [⟨none, .mv 163 (.t 4)⟩,
   ⟨none, .mv 164 (.t 10)⟩,
   ⟨none, .asg 2 (.t 163)⟩,
   ⟨none, .asg 3 (.t 164)⟩])
 (.seq (.scr r42) .ret))))))),
  165, [2, 3]⟩

def hints43 : List (List Bool) := [bits 8 [2], bits 8 [2]]
@[simp] def r43 : List Bool := bits 8 [2]
@[simp] def R43 (s2 : V) : St := tab 8 3 (fu dd 2 s2) dd
def c43 : MF := ⟨(.seq (.ops [⟨none, .asg 2 (.c (.nd (.sl true 3 0) []))⟩])
 (.seq (.seq (.ops [⟨none, .mv 3 (.t 0)⟩,
    ⟨none, .bin 4 .eql (.nilT false) (.t 3) (.c (.nd (.sl true 0 0) []))⟩])
  (.cnd (.t 4)
   (.seq (.ops [⟨none, .asg 2 (.c (.nd (.sl true 3 0) []))⟩])
   (.seq (.scr r43) .ret))
   .skip))
 (.seq (.ops [⟨none, .mz 5 3⟩,
   ⟨none, .mv 6 (.t 0)⟩,
   ⟨none, .app 7 3 (.t 5) (.t 6)⟩,
   ⟨none, .asg 2 (.t 7)⟩])
 (.seq (.scr r43) .ret)))),
  8, [2]⟩

def hints44 : List (List Bool) := [bits 9 [4]]
@[simp] def r44 : List Bool := bits 9 [4]
@[simp] def R44 (s4 : V) : St := tab 9 5 (fu dd 4 s4) dd
def c44 : MF := ⟨(.seq (.ops [⟨none, .asg 4 (.c (.v (.bool false)))⟩])
 (.seq (.ops [⟨none, .mv 5 (.t 0)⟩,
   ⟨none, .mv 6 (.t 1)⟩,
   ⟨none, .call (some 7) 69 [(.t 5), (.t 6)]⟩,
   ⟨none, .bin 8 .geq .num (.t 7) (.c (.v (.int .i64 0)))⟩,
   ⟨none, .asg 4 (.t 8)⟩])
 (.seq (.scr r44) .ret))),
  9, [4]⟩

def hints45 : List (List Bool) := [bits 24 [4]]
@[simp] def r45 : List Bool := bits 24 [4]
@[simp] def R45 (s4 : V) : St := tab 24 5 (fu dd 4 s4) dd
def c45 : MF := ⟨(.seq (.ops [⟨none, .sl0 2 0 (.t 0)⟩,
   ⟨none, .sl0 3 0 (.t 1)⟩,
   ⟨none, .asg 4 (.c (.v (.bool false)))⟩])
 (.seq (.ops (⟨none, .fa 5 0 (.t 2)⟩ ::
   ⟨none, .ld1 6 (.t 5)⟩ ::
   ⟨none, .fa 7 0 (.t 3)⟩ ::
   ⟨none, .ld1 8 (.t 7)⟩ ::
   ⟨none, .bin 9 .eql .bool (.t 6) (.t 8)⟩ ::
   ⟨none, .mv 10 (.t 9)⟩ ::
   ⟨some (10, true), .fa 11 1 (.t 2)⟩ ::
   ⟨some (10, true), .ldn 12 1 (.t 11)⟩ ::
   ⟨some (10, true), .fa 13 1 (.t 3)⟩ ::
   ⟨some (10, true), .ldn 14 1 (.t 13)⟩ ::
   ⟨some (10, true), .call (some 15) 70 [(.t 12), (.t 14)]⟩ ::
   ⟨none, .pick 16 (.t 10) (.t 15) (.c (.v (.bool false)))⟩ ::
   ⟨none, .mv 17 (.t 16)⟩ ::
   ⟨some (17, true), .fa 18 2 (.t 2)⟩ ::
   ⟨some (17, true), .ldn 19 1 (.t 18)⟩ ::
   ⟨some (17, true), .fa 20 2 (.t 3)⟩ ::
   ⟨some (17, true), .ldn 21 1 (.t 20)⟩ ::
   ⟨some (17, true), .call (some 22) 70 [(.t 19), (.t 21)]⟩ ::
   ⟨none, .pick 23 (.t 17) (.t 22) (.c (.v (.bool false)))⟩ ::
   ⟨none, .asg 4 (.t 23)⟩ :: []))
 (.seq (.scr r45) .ret))),
  24, [4]⟩

/-- coinage/occupancy.Chance -/
abbrev K46 : Nat := 9
def hints46 : List (List Bool) := [bits 20 [6, 7], bits 20 [6, 7]]
@[simp] def r46 : List Bool := bits 20 [6, 7]
@[simp] def R46 (s6 s7 : V) : St := tab 20 9 (fu (fu dd 7 s7) 6 s6) dd
def c46 : MF := ⟨(.seq (.ops [⟨none, .alc 6 [(.v (.bool false)), (.nd (.sl true 1 0) []), (.nd (.sl true 1 0) [])]⟩,
   ⟨none, .asg 7 (.c (.v (.int .i64 0)))⟩])
 (.seq (.seq (.ops [⟨none, .mv 9 (.t 0)⟩,
    ⟨none, .mv 10 (.t 1)⟩,
    ⟨none, .call (some 11) 55 [(.t 9), (.t 10)]⟩,
    ⟨none, .asg 8 (.t 11)⟩])
  (.seq (.ops [⟨none, .mv 12 (.t 8)⟩,
    ⟨none, .bin 13 .neq .num (.t 12) (.c (.v (.int .i64 0)))⟩])
  (.cnd (.t 13)
   (.seq (.ops [⟨none, .bld 14 [(.v (.bool false)), (.nd (.sl true 1 0) []), (.nd (.sl true 1 0) [])] []⟩,
     ⟨none, .mv 15 (.t 8)⟩,
     ⟨none, .stn none 3 (.t 6) (.t 14)⟩,
     ⟨none, .asg 7 (.t 15)⟩])
   (.seq (.scr r46) .ret))
   .skip)))
 (.seq (.ops [⟨none, .mv 16 (.t 0)⟩,
   ⟨none, .mv 17 (.t 1)⟩,
   ⟨none, .mv 18 (.t 2)⟩,
   ⟨none, .call (some 19) 56 [(.t 16), (.t 17), (.t 18)]⟩,
   ⟨none, .stn none 3 (.t 6) (.t 19)⟩,
   ⟨none, .asg 7 (.c (.v (.int .i64 0)))⟩])
 (.seq (.scr r46) .ret)))),
  20, [1000001, 4, 6, 0, 7]⟩

/-- coinage/sampling.Expected -/
abbrev K47 : Nat := 35
def hints47 : List (List Bool) := [bits 45 [6, 7], bits 45 [6, 7]]
@[simp] def r47 : List Bool := bits 45 [6, 7]
@[simp] def R47 (s6 s7 : V) : St := tab 45 35 (fu (fu dd 7 s7) 6 s6) dd
def c47 : MF := ⟨(.seq (.ops [⟨none, .alc 6 [(.v (.bool false)), (.nd (.sl true 1 0) []), (.nd (.sl true 1 0) [])]⟩,
   ⟨none, .asg 7 (.c (.v (.int .i64 0)))⟩])
 (.seq (.seq (.ops [⟨none, .mv 12 (.t 0)⟩,
    ⟨none, .call (some 13) 71 [(.t 12), (.c (.v (.int .i64 0))), (.c (.v (.int .i64 30)))]⟩,
    ⟨none, .un 14 .not (.t 13)⟩,
    ⟨none, .mv 15 (.t 14)⟩,
    ⟨some (15, false), .mv 16 (.t 2)⟩,
    ⟨some (15, false), .mv 17 (.t 0)⟩,
    ⟨some (15, false), .bin 18 .sub .num (.c (.v (.int .i64 30))) (.t 17)⟩,
    ⟨some (15, false), .call (some 19) 71 [(.t 16), (.c (.v (.int .i64 0))), (.t 18)]⟩,
    ⟨some (15, false), .un 20 .not (.t 19)⟩,
    ⟨none, .pick 21 (.t 15) (.c (.v (.bool true))) (.t 20)⟩,
    ⟨none, .mv 22 (.t 21)⟩,
    ⟨some (22, false), .mv 23 (.t 1)⟩,
    ⟨some (22, false), .call (some 24) 71 [(.t 23), (.c (.v (.int .i64 1))), (.c (.v (.int .i64 60)))]⟩,
    ⟨some (22, false), .un 25 .not (.t 24)⟩,
    ⟨none, .pick 26 (.t 22) (.c (.v (.bool true))) (.t 25)⟩])
  (.cnd (.t 26)
   (.seq (.ops [⟨none, .bld 27 [(.v (.bool false)), (.nd (.sl true 1 0) []), (.nd (.sl true 1 0) [])] []⟩,
     ⟨none, .stn none 3 (.t 6) (.t 27)⟩,
     ⟨none, .asg 7 (.c (.v (.int .i64 2)))⟩])
   (.seq (.scr r47) .ret))
   .skip))
 (.seq (.ops [⟨none, .mv 29 (.t 0)⟩,
   ⟨none, .mv 30 (.t 1)⟩,
   ⟨none, .call (some 31) 24 [(.t 29), (.t 30)]⟩,
   ⟨none, .mv 28 (.t 31)⟩,
   ⟨none, .ext 32 (.t 28) 0⟩,
   ⟨none, .ext 33 (.t 28) 1⟩,
   ⟨none, .alc 8 [(.v (.bool false)), (.nd (.sl true 1 0) []), (.nd (.sl true 1 0) [])]⟩,
   ⟨none, .stn none 3 (.t 8) (.t 32)⟩,
   ⟨none, .asg 9 (.t 33)⟩])
 (.seq (.ops [⟨none, .mv 35 (.t 0)⟩,
   ⟨none, .mv 36 (.t 2)⟩,
   ⟨none, .bin 37 .add .num (.t 35) (.t 36)⟩,
   ⟨none, .mv 38 (.t 1)⟩,
   ⟨none, .call (some 39) 24 [(.t 37), (.t 38)]⟩,
   ⟨none, .mv 34 (.t 39)⟩,
   ⟨none, .ext 40 (.t 34) 0⟩,
   ⟨none, .ext 41 (.t 34) 1⟩,
   ⟨none, .alc 10 [(.v (.bool false)), (.nd (.sl true 1 0) []), (.nd (.sl true 1 0) [])]⟩,
   ⟨none, .stn none 3 (.t 10) (.t 40)⟩,
   ⟨none, .asg 11 (.t 41)⟩])
 (.seq (.ops [⟨none, .ldn 42 3 (.t 10)⟩,
   ⟨none, .ldn 43 3 (.t 8)⟩,
   ⟨none, .call (some 44) 26 [(.t 42), (.t 43)]⟩,
   ⟨none, .stn none 3 (.t 6) (.t 44)⟩,
   ⟨none, .asg 7 (.c (.v (.int .i64 0)))⟩])
 (.seq (.scr r47) .ret)))))),
  45, [1000001, 4, 6, 0, 7]⟩

/-- coinage/estimator.Good -/
abbrev K48 : Nat := 17
def hints48 : List (List Bool) := [bits 34 [2, 4], bits 34 [2, 3], bits 34 [2, 3], bits 34 [2, 3]]
@[simp] def r48 : List Bool := bits 34 [2, 3]
@[simp] def R48 (s2 s3 : V) : St := tab 34 17 (fu (fu dd 3 s3) 2 s2) dd
@[simp] def x48_0 : List Bool := bits 34 [2, 4]
@[simp] def X48_0 (s2 s4 : V) : St := tab 34 17 (fu (fu dd 4 s4) 2 s2) dd
def c48 : MF := ⟨(.seq (.ops [⟨none, .alc 2 [(.v (.bool false)), (.nd (.sl true 1 0) []), (.nd (.sl true 1 0) [])]⟩,
   ⟨none, .asg 3 (.c (.v (.int .i64 0)))⟩])
 (.seq (.ops [⟨none, .mv 7 (.t 0)⟩,
   ⟨none, .call (some 8) 50 [(.t 7)]⟩,
   ⟨none, .mv 6 (.t 8)⟩,
   ⟨none, .ext 9 (.t 6) 0⟩,
   ⟨none, .ext 10 (.t 6) 1⟩,
   ⟨none, .alc 4 [(.v (.int .i64 0)), (.v (.int .i64 0)), (.nd (.sl true 1 0) [])]⟩,
   ⟨none, .stn none 3 (.t 4) (.t 9)⟩,
   ⟨none, .asg 5 (.t 10)⟩])
 (.seq (.seq (.blk 0 (.seq (.ops [⟨none, .mv 12 (.t 5)⟩,
     ⟨none, .bin 13 .neq .num (.t 12) (.c (.v (.int .i64 0)))⟩,
     ⟨none, .asg 11 (.t 13)⟩])
   (.cnd (.t 11)
    (.seq (.ops [⟨none, .bld 14 [(.v (.bool false)), (.nd (.sl true 1 0) []), (.nd (.sl true 1 0) [])] []⟩,
      ⟨none, .mv 15 (.t 5)⟩,
      ⟨none, .stn none 3 (.t 2) (.t 14)⟩,
      ⟨none, .asg 3 (.t 15)⟩])
    (.seq (.scr r48) .ret))
    (.seq (.drw [⟨none, .fa 17 0 (.t 4)⟩,
      ⟨none, .ld1 18 (.t 17)⟩,
      ⟨none, .ldn 19 3 (.t 4)⟩,
      ⟨none, .call (some 20) 51 [(.t 19)]⟩] [⟨none, .bin 21 .eql .num (.t 18) (.t 20)⟩,
      ⟨none, .asg 16 (.t 21)⟩])
    (.cnd (.t 16)
     (.seq (.ops [⟨none, .bld 22 [(.v (.bool false)), (.nd (.sl true 1 0) []), (.nd (.sl true 1 0) [])] []⟩,
       ⟨none, .stn none 3 (.t 2) (.t 22)⟩,
       ⟨none, .asg 3 (.c (.v (.int .i64 12)))⟩])
     (.seq (.scr r48) .ret))
     .skip))))) (.scr x48_0))
 (.seq (.drw [⟨none, .fa 23 1 (.t 4)⟩,
   ⟨none, .ld1 24 (.t 23)⟩,
   ⟨none, .fa 25 0 (.t 4)⟩,
   ⟨none, .ld1 26 (.t 25)⟩,
   ⟨none, .bin 27 .mul .num (.t 24) (.t 26)⟩,
   ⟨none, .fa 28 0 (.t 4)⟩,
   ⟨none, .ld1 29 (.t 28)⟩,
   ⟨none, .ldn 30 3 (.t 4)⟩,
   ⟨none, .call (some 31) 51 [(.t 30)]⟩,
   ⟨none, .bin 32 .sub .num (.t 29) (.t 31)⟩] [⟨none, .call (some 33) 7 [(.t 27), (.t 32)]⟩,
   ⟨none, .stn none 3 (.t 2) (.t 33)⟩,
   ⟨none, .asg 3 (.c (.v (.int .i64 0)))⟩])
 (.seq (.scr r48) .ret))))),
  34, [1000001, 4, 2, 0, 3]⟩

/-- coinage/confidence.Ratio -/
abbrev K49 : Nat := 33
def hints49 : List (List Bool) := [bits 44 [8, 9], bits 44 [8, 9]]
@[simp] def r49 : List Bool := bits 44 [8, 9]
@[simp] def R49 (s8 s9 : V) : St := tab 44 33 (fu (fu dd 9 s9) 8 s8) dd
def c49 : MF := ⟨(.seq (.ops [⟨none, .alc 8 [(.v (.bool false)), (.nd (.sl true 1 0) []), (.nd (.sl true 1 0) [])]⟩,
   ⟨none, .asg 9 (.c (.v (.int .i64 0)))⟩])
 (.seq (.seq (.ops [⟨none, .mv 15 (.t 0)⟩,
    ⟨none, .mv 16 (.t 1)⟩,
    ⟨none, .mv 17 (.t 2)⟩,
    ⟨none, .mv 18 (.t 3)⟩,
    ⟨none, .bs 19 1 2 [(.v (.int .i64 0))] [(0, 1, (.t 17)), (1, 1, (.t 18))]⟩,
    ⟨none, .call (some 20) 72 [(.t 15), (.t 16), (.t 19)]⟩,
    ⟨none, .asg 10 (.t 20)⟩])
  (.seq (.ops [⟨none, .mv 21 (.t 10)⟩,
    ⟨none, .bin 22 .neq .num (.t 21) (.c (.v (.int .i64 0)))⟩])
  (.cnd (.t 22)
   (.seq (.ops [⟨none, .bld 23 [(.v (.bool false)), (.nd (.sl true 1 0) []), (.nd (.sl true 1 0) [])] []⟩,
     ⟨none, .mv 24 (.t 10)⟩,
     ⟨none, .stn none 3 (.t 8) (.t 23)⟩,
     ⟨none, .asg 9 (.t 24)⟩])
   (.seq (.scr r49) .ret))
   .skip)))
 (.seq (.ops [⟨none, .mv 26 (.t 0)⟩,
   ⟨none, .mv 27 (.t 2)⟩,
   ⟨none, .mv 28 (.t 1)⟩,
   ⟨none, .call (some 29) 46 [(.t 26), (.t 27), (.t 28)]⟩,
   ⟨none, .mv 25 (.t 29)⟩,
   ⟨none, .ext 30 (.t 25) 0⟩,
   ⟨none, .ext 31 (.t 25) 1⟩,
   ⟨none, .alc 11 [(.v (.bool false)), (.nd (.sl true 1 0) []), (.nd (.sl true 1 0) [])]⟩,
   ⟨none, .stn none 3 (.t 11) (.t 30)⟩,
   ⟨none, .asg 12 (.t 31)⟩])
 (.seq (.ops [⟨none, .mv 33 (.t 0)⟩,
   ⟨none, .mv 34 (.t 3)⟩,
   ⟨none, .mv 35 (.t 1)⟩,
   ⟨none, .call (some 36) 46 [(.t 33), (.t 34), (.t 35)]⟩,
   ⟨none, .mv 32 (.t 36)⟩,
   ⟨none, .ext 37 (.t 32) 0⟩,
   ⟨none, .ext 38 (.t 32) 1⟩,
   ⟨none, .alc 13 [(.v (.bool false)), (.nd (.sl true 1 0) []), (.nd (.sl true 1 0) [])]⟩,
   ⟨none, .stn none 3 (.t 13) (.t 37)⟩,
   ⟨none, .asg 14 (.t 38)⟩])
 (.seq (.ops [⟨none, .ldn 39 3 (.t 11)⟩,
   ⟨none, .ldn 40 3 (.t 13)⟩,
   ⟨none, .call (some 41) 68 [(.t 39), (.t 40)]⟩,
   ⟨none, .ext 42 (.t 41) 0⟩,
   ⟨none, .ext 43 (.t 41) 1⟩,
   ⟨none, .stn none 3 (.t 8) (.t 42)⟩,
   ⟨none, .asg 9 (.t 43)⟩])
 (.seq (.scr r49) .ret)))))),
  44, [1000001, 4, 8, 0, 9]⟩

def hints50 : List (List Bool) := [bits 64 [2, 3], bits 64 [0, 2, 4], bits 64 [0, 2, 4, 21, 22, 23], bits 64 [0, 2, 4], bits 64 [0, 2, 4, 21, 22, 23], bits 64 [2, 3], bits 64 [2, 3], bits 64 [2, 4], bits 64 [0, 2, 4, 48, 49, 50], bits 64 [2, 4], bits 64 [0, 2, 4, 48, 49, 50], bits 64 [2, 3]]
@[simp] def r50 : List Bool := bits 64 [2, 3]
@[simp] def R50 (s2 s3 : V) : St := tab 64 51 (fu (fu dd 3 s3) 2 s2) dd
@[simp] def x50_0 : List Bool := bits 64 [0, 2, 4]
@[simp] def X50_0 (s0 s2 s4 : V) : St := tab 64 51 (fu (fu (fu dd 4 s4) 2 s2) 0 s0) dd
@[simp] def h50_0 : List Bool := bits 64 [0, 2, 4, 21, 22, 23]
@[simp] def L50_0 (s0 s2 s4 s21 s22 s23 : V) : St := tab 64 51 (fu (fu (fu (fu (fu (fu dd 23 s23) 22 s22) 21 s21) 4 s4) 2 s2) 0 s0) dd
@[simp] def x50_1 : List Bool := bits 64 [0, 2, 4, 21, 22, 23]
@[simp] def X50_1 (s0 s2 s4 s21 s22 s23 : V) : St := tab 64 51 (fu (fu (fu (fu (fu (fu dd 23 s23) 22 s22) 21 s21) 4 s4) 2 s2) 0 s0) dd
def b50_0 : MC := .seq (.scr h50_0)
 (.seq (.ops [⟨none, .bin 24 .lss .num (.t 23) (.t 22)⟩])
 (.seq (.cnd (.t 24)
   .skip
   (.seq (.scr x50_0) (.ex 0)))
 (.seq (.seq (.blk 1 (.seq (.ops [⟨none, .ixs 25 1 (.t 21) (.t 23)⟩,
     ⟨none, .ld1 26 (.t 25)⟩,
     ⟨none, .asg 6 (.t 26)⟩])
   (.seq (.seq (.ops [⟨none, .mv 27 (.t 6)⟩,
      ⟨none, .bin 28 .lss .num (.t 27) (.c (.v (.int .i64 1)))⟩,
      ⟨none, .mv 29 (.t 28)⟩,
      ⟨some (29, false), .mv 30 (.t 6)⟩,
      ⟨some (29, false), .bin 31 .gtr .num (.t 30) (.c (.v (.int .i64 64)))⟩,
      ⟨none, .pick 32 (.t 29) (.c (.v (.bool true))) (.t 31)⟩])
    (.cnd (.t 32)
     (.seq (.ops [⟨none, .bld 33 [(.v (.int .i64 0)), (.v (.int .i64 0)), (.nd (.sl true 1 0) [])] []⟩,
       ⟨none, .stn none 3 (.t 2) (.t 33)⟩,
       ⟨none, .asg 3 (.c (.v (.int .i64 1)))⟩])
     (.seq (.scr r50) .ret))
     .skip))
   (.ops [⟨none, .fa 34 0 (.t 4)⟩,
    ⟨none, .ld1 35 (.t 34)⟩,
    ⟨none, .mv 36 (.t 6)⟩,
    ⟨none, .bin 37 .add .num (.t 35) (.t 36)⟩,
    ⟨none, .fa 38 0 (.t 4)⟩,
    ⟨none, .stn none 1 (.t 38) (.t 37)⟩])))) (.scr x50_1))
 (.ops [⟨none, .bin 39 .add .num (.t 23) (.c (.v (.int .i64 1)))⟩,
  ⟨none, .mv 23 (.t 39)⟩]))))
@[simp] def x50_2 : List Bool := bits 64 [2, 4]
@[simp] def X50_2 (s2 s4 : V) : St := tab 64 51 (fu (fu dd 4 s4) 2 s2) dd
@[simp] def h50_1 : List Bool := bits 64 [0, 2, 4, 48, 49, 50]
@[simp] def L50_1 (s0 s2 s4 s48 s49 s50 : V) : St := tab 64 51 (fu (fu (fu (fu (fu (fu dd 50 s50) 49 s49) 48 s48) 4 s4) 2 s2) 0 s0) dd
@[simp] def x50_3 : List Bool := bits 64 [0, 2, 4, 48, 49, 50]
@[simp] def X50_3 (s0 s2 s4 s48 s49 s50 : V) : St := tab 64 51 (fu (fu (fu (fu (fu (fu dd 50 s50) 49 s49) 48 s48) 4 s4) 2 s2) 0 s0) dd
def b50_1 : MC := .seq (.scr h50_1)
 (.seq (.ops [⟨none, .bin 51 .lss .num (.t 50) (.t 49)⟩])
 (.seq (.cnd (.t 51)
   .skip
   (.seq (.scr x50_2) (.ex 2)))
 (.seq (.seq (.blk 3 (.seq (.ops [⟨none, .ixs 52 1 (.t 48) (.t 50)⟩,
     ⟨none, .ld1 53 (.t 52)⟩,
     ⟨none, .asg 8 (.t 53)⟩])
   (.ops [⟨none, .fa 54 2 (.t 4)⟩,
    ⟨none, .ld1 55 (.t 54)⟩,
    ⟨none, .mv 56 (.t 8)⟩,
    ⟨none, .bin 57 .sub .num (.t 56) (.c (.v (.int .i64 1)))⟩,
    ⟨none, .ixs 58 1 (.t 55) (.t 57)⟩,
    ⟨none, .ld1 59 (.t 58)⟩,
    ⟨none, .bin 60 .add .num (.t 59) (.c (.v (.int .i64 1)))⟩,
    ⟨none, .ixs 61 1 (.t 55) (.t 57)⟩,
    ⟨none, .stn none 1 (.t 61) (.t 60)⟩]))) (.scr x50_3))
 (.ops [⟨none, .bin 62 .add .num (.t 50) (.c (.v (.int .i64 1)))⟩,
  ⟨none, .mv 50 (.t 62)⟩]))))
def c50 : MF := ⟨(.seq (.ops [⟨none, .alc 2 [(.v (.int .i64 0)), (.v (.int .i64 0)), (.nd (.sl true 1 0) [])]⟩,
   ⟨none, .asg 3 (.c (.v (.int .i64 0)))⟩])
 (.seq (.seq (.ops [⟨none, .mv 9 (.t 0)⟩,
    ⟨none, .len 10 false (.t 9)⟩,
    ⟨none, .bin 11 .eql .num (.t 10) (.c (.v (.int .i64 0)))⟩,
    ⟨none, .mv 12 (.t 11)⟩,
    ⟨some (12, false), .mv 13 (.t 0)⟩,
    ⟨some (12, false), .len 14 false (.t 13)⟩,
    ⟨some (12, false), .bin 15 .gtr .num (.t 14) (.c (.v (.int .i64 64)))⟩,
    ⟨none, .pick 16 (.t 12) (.c (.v (.bool true))) (.t 15)⟩])
  (.cnd (.t 16)
   (.seq (.ops [⟨none, .bld 17 [(.v (.int .i64 0)), (.v (.int .i64 0)), (.nd (.sl true 1 0) [])] []⟩,
     ⟨none, .stn none 3 (.t 2) (.t 17)⟩,
     ⟨none, .asg 3 (.c (.v (.int .i64 1)))⟩])
   (.seq (.scr r50) .ret))
   .skip))
 (.seq (.ops [⟨none, .mv 18 (.t 0)⟩,
   ⟨none, .len 19 false (.t 18)⟩,
   ⟨none, .bld 20 [(.v (.int .i64 0)), (.v (.int .i64 0)), (.nd (.sl true 1 0) [])] [(1, 1, (.t 19))]⟩,
   ⟨none, .alc 4 [(.v (.int .i64 0)), (.v (.int .i64 0)), (.nd (.sl true 1 0) [])]⟩,
   ⟨none, .stn none 3 (.t 4) (.t 20)⟩])
 (.seq (.seq (.ops [⟨none, .mv 21 (.t 0)⟩,
    ⟨none, .len 22 false (.t 21)⟩,
    ⟨none, .mv 23 (.c (.v (.int .i64 0)))⟩])
  (.seq (.blk 0 (.lop b50_0)) (.scr x50_0)))
 (.seq (.seq (.ops [⟨none, .fa 40 0 (.t 4)⟩,
    ⟨none, .ld1 41 (.t 40)⟩,
    ⟨none, .bin 42 .gtr .num (.t 41) (.c (.v (.int .i64 64)))⟩])
  (.cnd (.t 42)
   (.seq (.ops [⟨none, .bld 43 [(.v (.int .i64 0)), (.v (.int .i64 0)), (.nd (.sl true 1 0) [])] []⟩,
     ⟨none, .stn none 3 (.t 2) (.t 43)⟩,
     ⟨none, .asg 3 (.c (.v (.int .i64 1)))⟩])
   (.seq (.scr r50) .ret))
   .skip))
 (.seq (.ops [⟨none, .mv 44 (.t 0)⟩,
   ⟨none, .call (some 45) 73 [(.t 44)]⟩,
   ⟨none, .mks 46 1 [(.v (.int .i64 0))] (.t 45) (.t 45)⟩,
   ⟨none, .fa 47 2 (.t 4)⟩,
   ⟨none, .stn none 1 (.t 47) (.t 46)⟩])
 (.seq (.seq (.ops [⟨none, .mv 48 (.t 0)⟩,
    ⟨none, .len 49 false (.t 48)⟩,
    ⟨none, .mv 50 (.c (.v (.int .i64 0)))⟩])
  (.seq (.blk 2 (.lop b50_1)) (.scr x50_2)))
 (.seq (.ops [⟨none, .ldn 63 3 (.t 4)⟩,
   ⟨none, .stn none 3 (.t 2) (.t 63)⟩,
   ⟨none, .asg 3 (.c (.v (.int .i64 0)))⟩])
 (.seq (.scr r50) .ret))))))))),
  64, [1000001, 4, 2, 0, 3]⟩

/-- (coinage/estimator.sample).one -/
abbrev K51 : Nat := 3
def hints51 : List (List Bool) := [bits 7 [2]]
@[simp] def r51 : List Bool := bits 7 [2]
@[simp] def R51 (s2 : V) : St := tab 7 3 (fu dd 2 s2) dd
def c51 : MF := ⟨(.seq (.ops [⟨none, .sl0 1 0 (.t 0)⟩,
   ⟨none, .asg 2 (.c (.v (.int .i64 0)))⟩])
 (.seq (.ops [⟨none, .fa 3 2 (.t 1)⟩,
   ⟨none, .ld1 4 (.t 3)⟩,
   ⟨none, .ixs 5 1 (.t 4) (.c (.v (.int .i64 0)))⟩,
   ⟨none, .ld1 6 (.t 5)⟩,
   ⟨none, .asg 2 (.t 6)⟩])
 (.seq (.scr r51) .ret))),
  7, [2]⟩

/-- coinage/fraction.Norm -/
abbrev K52 : Nat := 3
def hints52 : List (List Bool) := [bits 10 [2]]
@[simp] def r52 : List Bool := bits 10 [2]
@[simp] def R52 (s2 : V) : St := tab 10 3 (fu dd 2 s2) dd
def c52 : MF := ⟨(.seq (.ops [⟨none, .sl0 1 0 (.t 0)⟩,
   ⟨none, .alc 2 [(.v (.bool false)), (.nd (.sl true 1 0) []), (.nd (.sl true 1 0) [])]⟩])
 (.seq (.ops [⟨none, .fa 3 0 (.t 1)⟩,
   ⟨none, .ld1 4 (.t 3)⟩,
   ⟨none, .fa 5 1 (.t 1)⟩,
   ⟨none, .ldn 6 1 (.t 5)⟩,
   ⟨none, .fa 7 2 (.t 1)⟩,
   ⟨none, .ldn 8 1 (.t 7)⟩,
   ⟨none, .call (some 9) 29 [(.t 4), (.t 6), (.t 8)]⟩,
   ⟨none, .stn none 3 (.t 2) (.t 9)⟩])
 (.seq (.scr r52) .ret))),
  10, [2, 3, 1000000]⟩

/-- coinage/natural.Add -/
abbrev K53 : Nat := 5
def hints53 : List (List Bool) := [bits 11 [4]]
@[simp] def r53 : List Bool := bits 11 [4]
@[simp] def R53 (s4 : V) : St := tab 11 5 (fu dd 4 s4) dd
def c53 : MF := ⟨(.seq (.ops [⟨none, .sl0 2 0 (.t 0)⟩,
   ⟨none, .sl0 3 0 (.t 1)⟩,
   ⟨none, .alc 4 [(.nd (.sl true 1 0) [])]⟩])
 (.seq (.drw [⟨none, .ldn 5 1 (.t 2)⟩,
   ⟨none, .call (some 6) 64 [(.t 5)]⟩,
   ⟨none, .ldn 7 1 (.t 3)⟩] [⟨none, .call (some 8) 64 [(.t 7)]⟩,
   ⟨none, .call (some 9) 74 [(.t 6), (.t 8)]⟩,
   ⟨none, .calM (some 10) 65 (.t 9) []⟩,
   ⟨none, .stn none 1 (.t 4) (.t 10)⟩])
 (.seq (.scr r53) .ret))),
  11, [4, 1, 1000000]⟩

def hints54 : List (List Bool) := [bits 21 [4, 5], bits 21 [4, 5]]
@[simp] def r54 : List Bool := bits 21 [4, 5]
@[simp] def R54 (s4 s5 : V) : St := tab 21 8 (fu (fu dd 5 s5) 4 s4) dd
def c54 : MF := ⟨(.seq (.ops [⟨none, .sl0 2 0 (.t 0)⟩,
   ⟨none, .sl0 3 0 (.t 1)⟩,
   ⟨none, .alc 4 [(.nd (.sl true 1 0) [])]⟩,
   ⟨none, .asg 5 (.c (.v (.int .i64 0)))⟩])
 (.seq (.drw [⟨none, .ldn 8 1 (.t 2)⟩,
   ⟨none, .call (some 9) 64 [(.t 8)]⟩,
   ⟨none, .ldn 10 1 (.t 3)⟩] [⟨none, .call (some 11) 64 [(.t 10)]⟩,
   ⟨none, .asg 6 (.t 9)⟩,
   ⟨none, .asg 7 (.t 11)⟩])
 (.seq (.seq (.ops [⟨none, .mv 12 (.t 6)⟩,
    ⟨none, .mv 13 (.t 7)⟩,
    ⟨none, .call (some 14) 63 [(.t 12), (.t 13)]⟩,
    ⟨none, .bin 15 .lss .num (.t 14) (.c (.v (.int .i64 0)))⟩])
  (.cnd (.t 15)
   (.seq (.ops [⟨none, .bld 16 [(.nd (.sl true 1 0) [])] []⟩,
     ⟨none, .stn none 1 (.t 4) (.t 16)⟩,
     ⟨none, .asg 5 (.c (.v (.int .i64 2)))⟩])
   (.seq (.scr r54) .ret))
   .skip))
 (.seq (.ops [⟨none, .mv 17 (.t 6)⟩,
   ⟨none, .mv 18 (.t 7)⟩,
   ⟨none, .call (some 19) 75 [(.t 17), (.t 18)]⟩,
   ⟨none, .calM (some 20) 65 (.t 19) []⟩,
   ⟨none, .stn none 1 (.t 4) (.t 20)⟩,
   ⟨none, .asg 5 (.c (.v (.int .i64 0)))⟩])
 (.seq (.scr r54) .ret))))),
  21, [1000001, 2, 4, 0, 5]⟩

/-- coinage/occupancy.check -/
abbrev K55 : Nat := 5
def hints55 : List (List Bool) := [bits 19 [4], bits 19 [4]]
@[simp] def r55 : List Bool := bits 19 [4]
@[simp] def R55 (s4 : V) : St := tab 19 5 (fu dd 4 s4) dd
def c55 : MF := ⟨(.seq (.ops [⟨none, .asg 4 (.c (.v (.int .i64 0)))⟩])
 (.seq (.seq (.ops [⟨none, .mv 5 (.t 0)⟩,
    ⟨none, .bin 6 .lss .num (.t 5) (.c (.v (.int .i64 0)))⟩,
    ⟨none, .mv 7 (.t 6)⟩,
    ⟨some (7, false), .mv 8 (.t 0)⟩,
    ⟨some (7, false), .bin 9 .gtr .num (.t 8) (.c (.v (.int .i64 30)))⟩,
    ⟨none, .pick 10 (.t 7) (.c (.v (.bool true))) (.t 9)⟩,
    ⟨none, .mv 11 (.t 10)⟩,
    ⟨some (11, false), .mv 12 (.t 1)⟩,
    ⟨some (11, false), .bin 13 .lss .num (.t 12) (.c (.v (.int .i64 1)))⟩,
    ⟨none, .pick 14 (.t 11) (.c (.v (.bool true))) (.t 13)⟩,
    ⟨none, .mv 15 (.t 14)⟩,
    ⟨some (15, false), .mv 16 (.t 1)⟩,
    ⟨some (15, false), .bin 17 .gtr .num (.t 16) (.c (.v (.int .i64 60)))⟩,
    ⟨none, .pick 18 (.t 15) (.c (.v (.bool true))) (.t 17)⟩])
  (.cnd (.t 18)
   (.seq (.ops [⟨none, .asg 4 (.c (.v (.int .i64 2)))⟩])
   (.seq (.scr r55) .ret))
   .skip))
 (.seq (.ops [⟨none, .asg 4 (.c (.v (.int .i64 0)))⟩])
 (.seq (.scr r55) .ret)))),
  19, [4]⟩

/-- coinage/occupancy.chance -/
abbrev K56 : Nat := 39
def hints56 : List (List Bool) := [bits 52 [6], bits 52 [6]]
@[simp] def r56 : List Bool := bits 52 [6]
@[simp] def R56 (s6 : V) : St := tab 52 39 (fu dd 6 s6) dd
def c56 : MF := ⟨(.seq (.ops [⟨none, .alc 6 [(.v (.bool false)), (.nd (.sl true 1 0) []), (.nd (.sl true 1 0) [])]⟩])
 (.seq (.seq (.ops [⟨none, .mv 13 (.t 2)⟩,
    ⟨none, .bin 14 .lss .num (.t 13) (.c (.v (.int .i64 0)))⟩,
    ⟨none, .mv 15 (.t 14)⟩,
    ⟨some (15, false), .mv 16 (.t 2)⟩,
    ⟨some (15, false), .mv 17 (.t 0)⟩,
    ⟨some (15, false), .bin 18 .gtr .num (.t 16) (.t 17)⟩,
    ⟨none, .pick 19 (.t 15) (.c (.v (.bool true))) (.t 18)⟩,
    ⟨none, .mv 20 (.t 19)⟩,
    ⟨some (20, false), .mv 21 (.t 2)⟩,
    ⟨some (20, false), .mv 22 (.t 1)⟩,
    ⟨some (20, false), .bin 23 .gtr .num (.t 21) (.t 22)⟩,
    ⟨none, .pick 24 (.t 20) (.c (.v (.bool true))) (.t 23)⟩])
  (.cnd (.t 24)
   (.seq (.ops [⟨none, .call (some 25) 7 [(.c (.v (.int .i64 0))), (.c (.v (.int .i64 1)))]⟩,
     ⟨none, .stn none 3 (.t 6) (.t 25)⟩])
   (.seq (.scr r56) .ret))
   .skip))
 (.seq (.ops [⟨none, .mv 27 (.t 1)⟩,
   ⟨none, .mv 28 (.t 2)⟩,
   ⟨none, .call (some 29) 76 [(.t 27), (.t 28)]⟩,
   ⟨none, .mv 26 (.t 29)⟩,
   ⟨none, .ext 30 (.t 26) 0⟩,
   ⟨none, .ext 31 (.t 26) 1⟩,
   ⟨none, .alc 7 [(.nd (.sl true 1 0) [])]⟩,
   ⟨none, .stn none 1 (.t 7) (.t 30)⟩,
   ⟨none, .asg 8 (.t 31)⟩])
 (.seq (.ops [⟨none, .mv 33 (.t 0)⟩,
   ⟨none, .mv 34 (.t 2)⟩,
   ⟨none, .call (some 35) 77 [(.t 33), (.t 34)]⟩,
   ⟨none, .mv 32 (.t 35)⟩,
   ⟨none, .ext 36 (.t 32) 0⟩,
   ⟨none, .ext 37 (.t 32) 1⟩,
   ⟨none, .alc 9 [(.nd (.sl true 1 0) [])]⟩,
   ⟨none, .stn none 1 (.t 9) (.t 36)⟩,
   ⟨none, .asg 10 (.t 37)⟩])
 (.seq (.ops [⟨none, .mv 39 (.t 1)⟩,
   ⟨none, .cvi 40 .u64 (.t 39)⟩,
   ⟨none, .call (some 41) 60 [(.t 40)]⟩,
   ⟨none, .mv 42 (.t 0)⟩,
   ⟨none, .call (some 43) 78 [(.t 41), (.t 42)]⟩,
   ⟨none, .mv 38 (.t 43)⟩,
   ⟨none, .ext 44 (.t 38) 0⟩,
   ⟨none, .ext 45 (.t 38) 1⟩,
   ⟨none, .alc 11 [(.nd (.sl true 1 0) [])]⟩,
   ⟨none, .stn none 1 (.t 11) (.t 44)⟩,
   ⟨none, .asg 12 (.t 45)⟩])
 (.seq (.drw [⟨none, .ldn 46 1 (.t 7)⟩,
   ⟨none, .ldn 47 1 (.t 9)⟩,
   ⟨none, .call (some 48) 35 [(.t 46), (.t 47)]⟩,
   ⟨none, .ldn 49 1 (.t 11)⟩] [⟨none, .bv 50 [(.v (.bool false)), (.nd (.sl true 1 0) []), (.nd (.sl true 1 0) [])] [(1, 1, (.t 48)), (2, 1, (.t 49))]⟩,
   ⟨none, .call (some 51) 52 [(.t 50)]⟩,
   ⟨none, .stn none 3 (.t 6) (.t 51)⟩])
 (.seq (.scr r56) .ret))))))),
  52, [6, 3, 1000000]⟩

/-- coinage/occupancy.missed -/
abbrev K57 : Nat := 5
def hints57 : List (List Bool) := [bits 10 [4]]
@[simp] def r57 : List Bool := bits 10 [4]
@[simp] def R57 (s4 : V) : St := tab 10 5 (fu dd 4 s4) dd
def c57 : MF := ⟨(.seq (.ops [⟨none, .sl0 3 0 (.t 1)⟩,
   ⟨none, .alc 4 [(.v (.bool false)), (.nd (.sl true 1 0) []), (.nd (.sl true 1 0) [])]⟩])
 (.seq (.drw [⟨none, .call (some 5) 7 [(.c (.v (.int .i64 1))), (.c (.v (.int .i64 1)))]⟩,
   ⟨none, .ldn 6 3 (.t 3)⟩,
   ⟨none, .call (some 7) 26 [(.t 5), (.t 6)]⟩,
   ⟨none, .mv 8 (.t 0)⟩] [⟨none, .call (some 9) 79 [(.t 7), (.t 8)]⟩,
   ⟨none, .stn none 3 (.t 4) (.t 9)⟩])
 (.seq (.scr r57) .ret))),
  10, [4, 3, 1000000]⟩

/-- coinage/fraction.Neg -/
abbrev K58 : Nat := 3
def hints58 : List (List Bool) := [bits 11 [2]]
@[simp] def r58 : List Bool := bits 11 [2]
@[simp] def R58 (s2 : V) : St := tab 11 3 (fu dd 2 s2) dd
def c58 : MF := ⟨(.seq (.ops [⟨none, .sl0 1 0 (.t 0)⟩,
   ⟨none, .alc 2 [(.v (.bool false)), (.nd (.sl true 1 0) []), (.nd (.sl true 1 0) [])]⟩])
 (.seq (.ops [⟨none, .fa 3 0 (.t 1)⟩,
   ⟨none, .ld1 4 (.t 3)⟩,
   ⟨none, .un 5 .not (.t 4)⟩,
   ⟨none, .fa 6 1 (.t 1)⟩,
   ⟨none, .ldn 7 1 (.t 6)⟩,
   ⟨none, .fa 8 2 (.t 1)⟩,
   ⟨none, .ldn 9 1 (.t 8)⟩,
   ⟨none, .call (some 10) 29 [(.t 5), (.t 7), (.t 9)]⟩,
   ⟨none, .stn none 3 (.t 2) (.t 10)⟩])
 (.seq (.scr r58) .ret))),
  11, [2, 3, 1000000]⟩

def hints60 : List (List Bool) := [bits 16 [2]]
@[simp] def r60 : List Bool := bits 16 [2]
@[simp] def R60 (s2 : V) : St := tab 16 3 (fu dd 2 s2) dd
def c60 : MF := ⟨(.seq (.ops [⟨none, .alc 2 [(.nd (.sl true 1 0) [])]⟩])
 (.seq (.ops [⟨none, .mv 3 (.t 0)⟩,
   ⟨none, .bin 4 .rem .num (.t 3) (.c (.v (.int .u64 1000000000)))⟩,
   ⟨none, .cvi 5 .u32 (.t 4)⟩,
   ⟨none, .mv 6 (.t 0)⟩,
   ⟨none, .bin 7 .quo .num (.t 6) (.c (.v (.int .u64 1000000000)))⟩,
   ⟨none, .bin 8 .rem .num (.t 7) (.c (.v (.int .u64 1000000000)))⟩,
   ⟨none, .cvi 9 .u32 (.t 8)⟩,
   ⟨none, .mv 10 (.t 0)⟩,
   ⟨none, .bin 11 .quo .num (.t 10) (.c (.v (.int .u64 1000000000)))⟩,
   ⟨none, .bin 12 .quo .num (.t 11) (.c (.v (.int .u64 1000000000)))⟩,
   ⟨none, .cvi 13 .u32 (.t 12)⟩,
   ⟨none, .bs 14 1 3 [(.v (.int .u32 0))] [(0, 1, (.t 5)), (1, 1, (.t 9)), (2, 1, (.t 13))]⟩,
   ⟨none, .calM (some 15) 65 (.t 14) []⟩,
   ⟨none, .stn none 1 (.t 2) (.t 15)⟩])
 (.seq (.scr r60) .ret))),
  16, [2, 1, 1000000]⟩

def hints61 : List (List Bool) := [bits 26 [4, 5, 6, 8, 22, 23], bits 26 [4, 5, 6, 8, 22, 23], bits 26 [4, 5, 6, 8, 22, 23], bits 26 [4, 5, 6, 8, 22, 23], bits 26 [4]]
@[simp] def r61 : List Bool := bits 26 [4]
@[simp] def R61 (s4 : V) : St := tab 26 24 (fu dd 4 s4) dd
@[simp] def x61_0 : List Bool := bits 26 [4, 5, 6, 8, 22, 23]
@[simp] def X61_0 (s4 s5 s6 s8 s22 s23 : V) : St := tab 26 24 (fu (fu (fu (fu (fu (fu dd 23 s23) 22 s22) 8 s8) 6 s6) 5 s5) 4 s4) dd
@[simp] def h61_0 : List Bool := bits 26 [4, 5, 6, 8, 22, 23]
@[simp] def L61_0 (s4 s5 s6 s8 s22 s23 : V) : St := tab 26 24 (fu (fu (fu (fu (fu (fu dd 23 s23) 22 s22) 8 s8) 6 s6) 5 s5) 4 s4) dd
@[simp] def x61_1 : List Bool := bits 26 [4, 5, 6, 8, 22, 23]
@[simp] def X61_1 (s4 s5 s6 s8 s22 s23 : V) : St := tab 26 24 (fu (fu (fu (fu (fu (fu dd 23 s23) 22 s22) 8 s8) 6 s6) 5 s5) 4 s4) dd
def b61_0 : MC := .seq (.scr h61_0)
 (.seq (.seq (.ops [⟨none, .mv 13 (.t 6)⟩,
    ⟨none, .len 14 false (.t 13)⟩,
    ⟨none, .bin 15 .gtr .num (.t 14) (.c (.v (.int .i64 0)))⟩])
  (.cnd (.t 15)
   .skip
   (.seq (.scr x61_0) (.ex 0))))
 (.seq (.blk 1 (.seq (.ops [⟨none, .mv 17 (.t 5)⟩,
    ⟨none, .mv 18 (.t 6)⟩,
    ⟨none, .calM (some 19) 84 (.t 17) [(.t 18)]⟩,
    ⟨none, .mv 16 (.t 19)⟩,
    ⟨none, .ext 20 (.t 16) 0⟩,
    ⟨none, .ext 21 (.t 16) 1⟩,
    ⟨none, .asg 7 (.t 20)⟩,
    ⟨none, .asg 8 (.t 21)⟩])
  (.ops [⟨none, .mv 22 (.t 6)⟩,
   ⟨none, .mv 23 (.t 8)⟩,
   ⟨none, .asg 5 (.t 22)⟩,
   ⟨none, .asg 6 (.t 23)⟩]))) (.scr x61_1)))
def c61 : MF := ⟨(.seq (.ops [⟨none, .sl0 2 0 (.t 0)⟩,
   ⟨none, .sl0 3 0 (.t 1)⟩,
   ⟨none, .alc 4 [(.nd (.sl true 1 0) [])]⟩])
 (.seq (.drw [⟨none, .ldn 9 1 (.t 2)⟩,
   ⟨none, .call (some 10) 64 [(.t 9)]⟩,
   ⟨none, .ldn 11 1 (.t 3)⟩] [⟨none, .call (some 12) 64 [(.t 11)]⟩,
   ⟨none, .asg 5 (.t 10)⟩,
   ⟨none, .asg 6 (.t 12)⟩])
 (.seq (.seq (.blk 0 (.lop b61_0)) (.scr x61_0))
 (.seq (.ops [⟨none, .mv 24 (.t 5)⟩,
   ⟨none, .calM (some 25) 65 (.t 24) []⟩,
   ⟨none, .stn none 1 (.t 4) (.t 25)⟩])
 (.seq (.scr r61) .ret))))),
  26, [4, 1, 1000000]⟩

def hints62 : List (List Bool) := [bits 28 [4, 5, 6], bits 28 [4, 5, 6]]
@[simp] def r62 : List Bool := bits 28 [4, 5, 6]
@[simp] def R62 (s4 s5 s6 : V) : St := tab 28 18 (fu (fu (fu dd 6 s6) 5 s5) 4 s4) dd
def c62 : MF := ⟨(.seq (.ops [⟨none, .sl0 2 0 (.t 0)⟩,
   ⟨none, .sl0 3 0 (.t 1)⟩,
   ⟨none, .alc 4 [(.nd (.sl true 1 0) [])]⟩,
   ⟨none, .alc 5 [(.nd (.sl true 1 0) [])]⟩,
   ⟨none, .asg 6 (.c (.v (.int .i64 0)))⟩])
 (.seq (.ops [⟨none, .ldn 10 1 (.t 3)⟩,
   ⟨none, .call (some 11) 64 [(.t 10)]⟩,
   ⟨none, .asg 7 (.t 11)⟩])
 (.seq (.seq (.ops [⟨none, .mv 12 (.t 7)⟩,
    ⟨none, .len 13 false (.t 12)⟩,
    ⟨none, .bin 14 .eql .num (.t 13) (.c (.v (.int .i64 0)))⟩])
  (.cnd (.t 14)
   (.seq (.ops [⟨none, .bld 15 [(.nd (.sl true 1 0) [])] []⟩,
     ⟨none, .bld 16 [(.nd (.sl true 1 0) [])] []⟩,
     ⟨none, .stn none 1 (.t 4) (.t 15)⟩,
     ⟨none, .stn none 1 (.t 5) (.t 16)⟩,
     ⟨none, .asg 6 (.c (.v (.int .i64 12)))⟩])
   (.seq (.scr r62) .ret))
   .skip))
 (.seq (.ops [⟨none, .ldn 18 1 (.t 2)⟩,
   ⟨none, .call (some 19) 64 [(.t 18)]⟩,
   ⟨none, .mv 20 (.t 7)⟩,
   ⟨none, .calM (some 21) 84 (.t 19) [(.t 20)]⟩,
   ⟨none, .mv 17 (.t 21)⟩,
   ⟨none, .ext 22 (.t 17) 0⟩,
   ⟨none, .ext 23 (.t 17) 1⟩,
   ⟨none, .asg 8 (.t 22)⟩,
   ⟨none, .asg 9 (.t 23)⟩])
 (.seq (.ops [⟨none, .mv 24 (.t 8)⟩,
   ⟨none, .calM (some 25) 65 (.t 24) []⟩,
   ⟨none, .mv 26 (.t 9)⟩,
   ⟨none, .calM (some 27) 65 (.t 26) []⟩,
   ⟨none, .stn none 1 (.t 4) (.t 25)⟩,
   ⟨none, .stn none 1 (.t 5) (.t 27)⟩,
   ⟨none, .asg 6 (.c (.v (.int .i64 0)))⟩])
 (.seq (.scr r62) .ret)))))),
  28, [1000001, 2, 4, 2, 5, 0, 6]⟩

def hints63 : List (List Bool) := [bits 41 [4], bits 41 [4], bits 41 [], bits 41 [0, 1, 5], bits 41 [], bits 41 [0, 1, 5], bits 41 [4], bits 41 [4], bits 41 [4]]
@[simp] def r63 : List Bool := bits 41 [4]
@[simp] def R63 (s4 : V) : St := tab 41 6 (fu dd 4 s4) dd
@[simp] def x63_0 : List Bool := bits 41 []
@[simp] def X63_0 : St := tab 41 6 dd dd
@[simp] def h63_0 : List Bool := bits 41 [0, 1, 5]
@[simp] def L63_0 (s0 s1 s5 : V) : St := tab 41 6 (fu (fu (fu dd 5 s5) 1 s1) 0 s0) dd
@[simp] def x63_1 : List Bool := bits 41 [0, 1, 5]
@[simp] def X63_1 (s0 s1 s5 : V) : St := tab 41 6 (fu (fu (fu dd 5 s5) 1 s1) 0 s0) dd
def b63_0 : MC := .seq (.scr h63_0)
 (.seq (.seq (.ops [⟨none, .mv 19 (.t 5)⟩,
    ⟨none, .bin 20 .geq .num (.t 19) (.c (.v (.int .i64 0)))⟩])
  (.cnd (.t 20)
   .skip
   (.seq (.scr x63_0) (.ex 0))))
 (.seq (.seq (.blk 1 (.seq (.drw [⟨none, .mv 23 (.t 0)⟩,
     ⟨none, .mv 24 (.t 5)⟩,
     ⟨none, .ixs 25 1 (.t 23) (.t 24)⟩,
     ⟨none, .ld1 26 (.t 25)⟩,
     ⟨none, .mv 27 (.t 1)⟩,
     ⟨none, .mv 28 (.t 5)⟩,
     ⟨none, .ixs 29 1 (.t 27) (.t 28)⟩,
     ⟨none, .ld1 30 (.t 29)⟩] [⟨none, .bin 31 .neq .num (.t 26) (.t 30)⟩])
   (.cnd (.t 31)
    (.seq (.seq (.drw [⟨none, .mv 32 (.t 0)⟩,
       ⟨none, .mv 33 (.t 5)⟩,
       ⟨none, .ixs 34 1 (.t 32) (.t 33)⟩,
       ⟨none, .ld1 35 (.t 34)⟩,
       ⟨none, .mv 36 (.t 1)⟩,
       ⟨none, .mv 37 (.t 5)⟩,
       ⟨none, .ixs 38 1 (.t 36) (.t 37)⟩,
       ⟨none, .ld1 39 (.t 38)⟩] [⟨none, .bin 40 .lss .num (.t 35) (.t 39)⟩])
     (.cnd (.t 40)
      (.seq (.ops [⟨none, .asg 4 (.c (.v (.int .i64 (-1))))⟩])
      (.seq (.scr r63) .ret))
      .skip))
    (.seq (.ops [⟨none, .asg 4 (.c (.v (.int .i64 1)))⟩])
    (.seq (.scr r63) .ret)))
    .skip))) (.scr x63_1))
 (.ops [⟨none, .mv 21 (.t 5)⟩,
  ⟨none, .bin 22 .sub .num (.t 21) (.c (.v (.int .i64 1)))⟩,
  ⟨none, .asg 5 (.t 22)⟩])))
def c63 : MF := ⟨(.seq (.ops [⟨none, .asg 4 (.c (.v (.int .i64 0)))⟩])
 (.seq (.seq (.ops [⟨none, .mv 6 (.t 0)⟩,
    ⟨none, .len 7 false (.t 6)⟩,
    ⟨none, .mv 8 (.t 1)⟩,
    ⟨none, .len 9 false (.t 8)⟩,
    ⟨none, .bin 10 .neq .num (.t 7) (.t 9)⟩])
  (.cnd (.t 10)
   (.seq (.seq (.ops [⟨none, .mv 11 (.t 0)⟩,
      ⟨none, .len 12 false (.t 11)⟩,
      ⟨none, .mv 13 (.t 1)⟩,
      ⟨none, .len 14 false (.t 13)⟩,
      ⟨none, .bin 15 .lss .num (.t 12) (.t 14)⟩])
    (.cnd (.t 15)
     (.seq (.ops [⟨none, .asg 4 (.c (.v (.int .i64 (-1))))⟩])
     (.seq (.scr r63) .ret))
     .skip))
   (.seq (.ops [⟨none, .asg 4 (.c (.v (.int .i64 1)))⟩])
   (.seq (.scr r63) .ret)))
   .skip))
 (.seq (.seq (.ops [⟨none, .mv 16 (.t 0)⟩,
    ⟨none, .len 17 false (.t 16)⟩,
    ⟨none, .bin 18 .sub .num (.t 17) (.c (.v (.int .i64 1)))⟩,
    ⟨none, .asg 5 (.t 18)⟩])
  (.seq (.blk 0 (.lop b63_0)) (.scr x63_0)))
 (.seq (.ops [⟨none, .asg 4 (.c (.v (.int .i64 0)))⟩])
 (.seq (.scr r63) .ret))))),
  41, [4]⟩

def hints64 : List (List Bool) := [bits 38 [3, 4], bits 38 [1, 3, 4, 12, 13, 14, 15], bits 38 [3, 4], bits 38 [1, 3, 4, 12, 13, 14, 15], bits 38 [2, 36, 37]]
@[simp] def r64 : List Bool := bits 38 [2, 36, 37]
@[simp] def R64 (s2 s36 s37 : V) : St := tab 38 38 (fu (fu (fu dd 37 s37) 36 s36) 2 s2) dd
@[simp] def x64_0 : List Bool := bits 38 [3, 4]
@[simp] def X64_0 (s3 s4 : V) : St := tab 38 38 (fu (fu dd 4 s4) 3 s3) dd
@[simp] def h64_0 : List Bool := bits 38 [1, 3, 4, 12, 13, 14, 15]
@[simp] def L64_0 (s1 s3 s4 s12 s13 s14 s15 : V) : St := tab 38 38 (fu (fu (fu (fu (fu (fu (fu dd 15 s15) 14 s14) 13 s13) 12 s12) 4 s4) 3 s3) 1 s1) dd
@[simp] def x64_1 : List Bool := bits 38 [1, 3, 4, 12, 13, 14, 15]
@[simp] def X64_1 (s1 s3 s4 s12 s13 s14 s15 : V) : St := tab 38 38 (fu (fu (fu (fu (fu (fu (fu dd 15 s15) 14 s14) 13 s13) 12 s12) 4 s4) 3 s3) 1 s1) dd
def b64_0 : MC := .seq (.scr h64_0)
 (.seq (.ops [⟨none, .bin 16 .lss .num (.t 15) (.t 14)⟩])
 (.seq (.cnd (.t 16)
   .skip
   (.seq (.scr x64_0) (.ex 0)))
 (.seq (.seq (.blk 1 (.seq (.ops [⟨none, .ixs 17 1 (.t 13) (.t 15)⟩,
     ⟨none, .ld1 18 (.t 17)⟩,
     ⟨none, .asg 6 (.t 18)⟩])
   (.seq (.ops [⟨none, .mv 19 (.t 4)⟩,
     ⟨none, .mv 20 (.t 6)⟩,
     ⟨none, .cvi 21 .u64 (.t 20)⟩,
     ⟨none, .bin 22 .add .num (.t 19) (.t 21)⟩,
     ⟨none, .asg 4 (.t 22)⟩])
   (.seq (.ops [⟨none, .mv 23 (.t 3)⟩,
     ⟨none, .mv 24 (.t 4)⟩,
     ⟨none, .bin 25 .rem .num (.t 24) (.c (.v (.int .u64 1000000000)))⟩,
     ⟨none, .cvi 26 .u32 (.t 25)⟩,
     ⟨none, .bs 27 1 1 [(.v (.int .u32 0))] [(0, 1, (.t 26))]⟩,
     ⟨none, .app 28 1 (.t 23) (.t 27)⟩,
     ⟨none, .asg 3 (.t 28)⟩])
   (.ops [⟨none, .mv 29 (.t 4)⟩,
    ⟨none, .bin 30 .quo .num (.t 29) (.c (.v (.int .u64 1000000000)))⟩,
    ⟨none, .asg 4 (.t 30)⟩]))))) (.scr x64_1))
 (.ops [⟨none, .bin 31 .add .num (.t 15) (.c (.v (.int .i64 1)))⟩,
  ⟨none, .mv 15 (.t 31)⟩]))))
def c64 : MF := ⟨(.seq (.ops [⟨none, .sl0 1 0 (.t 0)⟩,
   ⟨none, .asg 2 (.c (.nd (.sl true 1 0) []))⟩])
 (.seq (.ops [⟨none, .fa 7 0 (.t 1)⟩,
   ⟨none, .ld1 8 (.t 7)⟩,
   ⟨none, .len 9 false (.t 8)⟩,
   ⟨none, .bin 10 .add .num (.t 9) (.c (.v (.int .i64 1)))⟩,
   ⟨none, .mks 11 1 [(.v (.int .u32 0))] (.c (.v (.int .i64 0))) (.t 10)⟩,
   ⟨none, .asg 3 (.t 11)⟩])
 (.seq (.ops [⟨none, .asg 4 (.c (.v (.int .u64 0)))⟩])
 (.seq (.seq (.ops [⟨none, .fa 12 0 (.t 1)⟩,
    ⟨none, .ld1 13 (.t 12)⟩,
    ⟨none, .len 14 false (.t 13)⟩,
    ⟨none, .mv 15 (.c (.v (.int .i64 0)))⟩])
  (.seq (.blk 0 (.lop b64_0)) (.scr x64_0)))
 (.seq (.ops [⟨none, .mv 32 (.t 3)⟩,
   ⟨none, .mv 33 (.t 4)⟩,
   ⟨none, .cvi 34 .u32 (.t 33)⟩,
   ⟨none, .bs 35 1 1 [(.v (.int .u32 0))] [(0, 1, (.t 34))]⟩,
   ⟨none, .app 36 1 (.t 32) (.t 35)⟩,
   ⟨none, .calW 37 85 1 (.t 36)⟩,
   ⟨none, .asg 2 (.t 37)⟩])
 (.seq (.scr r64) .ret)))))),
  38, [2]⟩

def hints65 : List (List Bool) := [bits 11 [2], bits 11 [2]]
@[simp] def r65 : List Bool := bits 11 [2]
@[simp] def R65 (s2 : V) : St := tab 11 3 (fu dd 2 s2) dd
def c65 : MF := ⟨(.seq (.ops [⟨none, .alc 2 [(.nd (.sl true 1 0) [])]⟩])
 (.seq (.ops [⟨none, .mv 3 (.t 0)⟩,
   ⟨none, .calW 4 85 1 (.t 3)⟩,
   ⟨none, .asg 0 (.t 4)⟩])
 (.seq (.seq (.ops [⟨none, .mv 5 (.t 0)⟩,
    ⟨none, .len 6 false (.t 5)⟩,
    ⟨none, .bin 7 .eql .num (.t 6) (.c (.v (.int .i64 0)))⟩])
  (.cnd (.t 7)
   (.seq (.ops [⟨none, .bld 8 [(.nd (.sl true 1 0) [])] []⟩,
     ⟨none, .stn none 1 (.t 2) (.t 8)⟩])
   (.seq (.scr r65) .ret))
   .skip))
 (.seq (.ops [⟨none, .mv 9 (.t 0)⟩,
   ⟨none, .bld 10 [(.nd (.sl true 1 0) [])] [(0, 1, (.t 9))]⟩,
   ⟨none, .stn none 1 (.t 2) (.t 10)⟩])
 (.seq (.scr r65) .ret))))),
  11, [2, 1, 1000000]⟩

def hints66 : List (List Bool) := [bits 68 [5], bits 68 [0, 1, 5, 17, 18, 19], bits 68 [5], bits 68 [0, 1, 5, 17, 18, 19], bits 68 [0, 1, 5, 6, 8, 17, 18, 19], bits 68 [0, 1, 5, 6, 7, 8, 17, 18, 19, 24, 25, 26], bits 68 [0, 1, 5, 6, 8, 17, 18, 19], bits 68 [0, 1, 5, 6, 7, 8, 17, 18, 19, 24, 25, 26], bits 68 [4, 5, 66, 67]]
@[simp] def r66 : List Bool := bits 68 [4, 5, 66, 67]
@[simp] def R66 (s4 s5 s66 s67 : V) : St := tab 68 68 (fu (fu (fu (fu dd 67 s67) 66 s66) 5 s5) 4 s4) dd
@[simp] def x66_0 : List Bool := bits 68 [5]
@[simp] def X66_0 (s5 : V) : St := tab 68 68 (fu dd 5 s5) dd
@[simp] def h66_0 : List Bool := bits 68 [0, 1, 5, 17, 18, 19]
@[simp] def L66_0 (s0 s1 s5 s17 s18 s19 : V) : St := tab 68 68 (fu (fu (fu (fu (fu (fu dd 19 s19) 18 s18) 17 s17) 5 s5) 1 s1) 0 s0) dd
@[simp] def x66_1 : List Bool := bits 68 [0, 1, 5, 17, 18, 19]
@[simp] def X66_1 (s0 s1 s5 s17 s18 s19 : V) : St := tab 68 68 (fu (fu (fu (fu (fu (fu dd 19 s19) 18 s18) 17 s17) 5 s5) 1 s1) 0 s0) dd
@[simp] def x66_2 : List Bool := bits 68 [0, 1, 5, 6, 8, 17, 18, 19]
@[simp] def X66_2 (s0 s1 s5 s6 s8 s17 s18 s19 : V) : St := tab 68 68 (fu (fu (fu (fu (fu (fu (fu (fu dd 19 s19) 18 s18) 17 s17) 8 s8) 6 s6) 5 s5) 1 s1) 0 s0) dd
@[simp] def h66_1 : List Bool := bits 68 [0, 1, 5, 6, 7, 8, 17, 18, 19, 24, 25, 26]
@[simp] def L66_1 (s0 s1 s5 s6 s7 s8 s17 s18 s19 s24 s25 s26 : V) : St := tab 68 68 (fu (fu (fu (fu (fu (fu (fu (fu (fu (fu (fu (fu dd 26 s26) 25 s25) 24 s24) 19 s19) 18 s18) 17 s17) 8 s8) 7 s7) 6 s6) 5 s5) 1 s1) 0 s0) dd
@[simp] def x66_3 : List Bool := bits 68 [0, 1, 5, 6, 7, 8, 17, 18, 19, 24, 25, 26]
@[simp] def X66_3 (s0 s1 s5 s6 s7 s8 s17 s18 s19 s24 s25 s26 : V) : St := tab 68 68 (fu (fu (fu (fu (fu (fu (fu (fu (fu (fu (fu (fu dd 26 s26) 25 s25) 24 s24) 19 s19) 18 s18) 17 s17) 8 s8) 7 s7) 6 s6) 5 s5) 1 s1) 0 s0) dd
def b66_1 : MC := .seq (.scr h66_1)
 (.seq (.ops [⟨none, .bin 27 .lss .num (.t 26) (.t 25)⟩])
 (.seq (.cnd (.t 27)
   .skip
   (.seq (.scr x66_2) (.ex 2)))
 (.seq (.seq (.blk 3 (.seq (.ops [⟨none, .mv 28 (.t 26)⟩,
     ⟨none, .ixs 29 1 (.t 24) (.t 26)⟩,
     ⟨none, .ld1 30 (.t 29)⟩,
     ⟨none, .asg 9 (.t 28)⟩,
     ⟨none, .asg 10 (.t 30)⟩])
   (.seq (.ops [⟨none, .mv 31 (.t 8)⟩,
     ⟨none, .mv 32 (.t 7)⟩,
     ⟨none, .cvi 33 .u64 (.t 32)⟩,
     ⟨none, .mv 34 (.t 10)⟩,
     ⟨none, .cvi 35 .u64 (.t 34)⟩,
     ⟨none, .bin 36 .mul .num (.t 33) (.t 35)⟩,
     ⟨none, .mv 37 (.t 5)⟩,
     ⟨none, .mv 38 (.t 6)⟩,
     ⟨none, .mv 39 (.t 9)⟩,
     ⟨none, .bin 40 .add .num (.t 38) (.t 39)⟩,
     ⟨none, .ixs 41 1 (.t 37) (.t 40)⟩,
     ⟨none, .ld1 42 (.t 41)⟩,
     ⟨none, .cvi 43 .u64 (.t 42)⟩,
     ⟨none, .bin 44 .add .num (.t 36) (.t 43)⟩,
     ⟨none, .bin 45 .add .num (.t 31) (.t 44)⟩,
     ⟨none, .asg 8 (.t 45)⟩])
   (.seq (.ops [⟨none, .mv 46 (.t 5)⟩,
     ⟨none, .mv 47 (.t 6)⟩,
     ⟨none, .mv 48 (.t 9)⟩,
     ⟨none, .bin 49 .add .num (.t 47) (.t 48)⟩,
     ⟨none, .mv 50 (.t 8)⟩,
     ⟨none, .bin 51 .rem .num (.t 50) (.c (.v (.int .u64 1000000000)))⟩,
     ⟨none, .cvi 52 .u32 (.t 51)⟩,
     ⟨none, .ixs 53 1 (.t 46) (.t 49)⟩,
     ⟨none, .stn none 1 (.t 53) (.t 52)⟩])
   (.ops [⟨none, .mv 54 (.t 8)⟩,
    ⟨none, .bin 55 .quo .num (.t 54) (.c (.v (.int .u64 1000000000)))⟩,
    ⟨none, .asg 8 (.t 55)⟩]))))) (.scr x66_3))
 (.ops [⟨none, .bin 56 .add .num (.t 26) (.c (.v (.int .i64 1)))⟩,
  ⟨none, .mv 26 (.t 56)⟩]))))
def b66_0 : MC := .seq (.scr h66_0)
 (.seq (.ops [⟨none, .bin 20 .lss .num (.t 19) (.t 18)⟩])
 (.seq (.cnd (.t 20)
   .skip
   (.seq (.scr x66_0) (.ex 0)))
 (.seq (.seq (.blk 1 (.seq (.ops [⟨none, .mv 21 (.t 19)⟩,
     ⟨none, .ixs 22 1 (.t 17) (.t 19)⟩,
     ⟨none, .ld1 23 (.t 22)⟩,
     ⟨none, .asg 6 (.t 21)⟩,
     ⟨none, .asg 7 (.t 23)⟩])
   (.seq (.ops [⟨none, .asg 8 (.c (.v (.int .u64 0)))⟩])
   (.seq (.seq (.ops [⟨none, .mv 24 (.t 1)⟩,
      ⟨none, .len 25 false (.t 24)⟩,
      ⟨none, .mv 26 (.c (.v (.int .i64 0)))⟩])
    (.seq (.blk 2 (.lop b66_1)) (.scr x66_2)))
   (.ops [⟨none, .mv 57 (.t 5)⟩,
    ⟨none, .mv 58 (.t 6)⟩,
    ⟨none, .mv 59 (.t 1)⟩,
    ⟨none, .len 60 false (.t 59)⟩,
    ⟨none, .bin 61 .add .num (.t 58) (.t 60)⟩,
    ⟨none, .mv 62 (.t 8)⟩,
    ⟨none, .cvi 63 .u32 (.t 62)⟩,
    ⟨none, .ixs 64 1 (.t 57) (.t 61)⟩,
    ⟨none, .stn none 1 (.t 64) (.t 63)⟩]))))) (.scr x66_1))
 (.ops [⟨none, .bin 65 .add .num (.t 19) (.c (.v (.int .i64 1)))⟩,
  ⟨none, .mv 19 (.t 65)⟩]))))
def c66 : MF := ⟨(.seq (.ops [⟨none, .asg 4 (.c (.nd (.sl true 1 0) []))⟩])
 (.seq (.ops [⟨none, .mv 11 (.t 0)⟩,
   ⟨none, .len 12 false (.t 11)⟩,
   ⟨none, .mv 13 (.t 1)⟩,
   ⟨none, .len 14 false (.t 13)⟩,
   ⟨none, .bin 15 .add .num (.t 12) (.t 14)⟩,
   ⟨none, .mks 16 1 [(.v (.int .u32 0))] (.t 15) (.t 15)⟩,
   ⟨none, .asg 5 (.t 16)⟩])
 (.seq (.seq (.ops [⟨none, .mv 17 (.t 0)⟩,
    ⟨none, .len 18 false (.t 17)⟩,
    ⟨none, .mv 19 (.c (.v (.int .i64 0)))⟩])
  (.seq (.blk 0 (.lop b66_0)) (.scr x66_0)))
 (.seq (.ops [⟨none, .mv 66 (.t 5)⟩,
   ⟨none, .calW 67 85 1 (.t 66)⟩,
   ⟨none, .asg 4 (.t 67)⟩])
 (.seq (.scr r66) .ret))))),
  68, [4]⟩

def hints67 : List (List Bool) := [bits 10 [], bits 10 [2], bits 10 [2], bits 10 [2]]
@[simp] def r67 : List Bool := bits 10 [2]
@[simp] def R67 (s2 : V) : St := tab 10 8 (fu dd 2 s2) dd
@[simp] def x67_0 : List Bool := bits 10 []
@[simp] def X67_0 : St := tab 10 8 dd dd
def c67 : MF := ⟨(.seq (.ops [⟨none, .asg 2 (.c (.v (.int .i64 0)))⟩])
 (.seq (.seq (.blk 0 (.seq (.ops [⟨none, .mv 4 (.t 0)⟩,
     ⟨none, .len 5 false (.t 4)⟩,
     ⟨none, .bin 6 .gtr .num (.t 5) (.c (.v (.int .i64 64)))⟩,
     ⟨none, .asg 3 (.t 6)⟩])
   (.cnd (.t 3)
    (.seq (.ops [⟨none, .asg 2 (.c (.v (.int .i64 6)))⟩])
    (.seq (.scr r67) .ret))
    (.seq (.ops [⟨none, .mv 8 (.t 0)⟩,
      ⟨none, .call (some 9) 86 [(.t 8), (.c (.nd (.fn (.func 87) 0) []))]⟩,
      ⟨none, .asg 7 (.t 9)⟩])
    (.cnd (.t 7)
     (.seq (.ops [⟨none, .asg 2 (.c (.v (.int .i64 1)))⟩])
     (.seq (.scr r67) .ret))
     .skip))))) (.scr x67_0))
 (.seq (.ops [⟨none, .asg 2 (.c (.v (.int .i64 0)))⟩])
 (.seq (.scr r67) .ret)))),
  10, [2]⟩

/-- coinage/fraction.Div -/
abbrev K68 : Nat := 6
def hints68 : List (List Bool) := [bits 19 [4, 5], bits 19 [4, 5]]
@[simp] def r68 : List Bool := bits 19 [4, 5]
@[simp] def R68 (s4 s5 : V) : St := tab 19 6 (fu (fu dd 5 s5) 4 s4) dd
def c68 : MF := ⟨(.seq (.ops [⟨none, .sl0 2 0 (.t 0)⟩,
   ⟨none, .sl0 3 0 (.t 1)⟩,
   ⟨none, .alc 4 [(.v (.bool false)), (.nd (.sl true 1 0) []), (.nd (.sl true 1 0) [])]⟩,
   ⟨none, .asg 5 (.c (.v (.int .i64 0)))⟩])
 (.seq (.seq (.ops [⟨none, .ldn 6 3 (.t 3)⟩,
    ⟨none, .call (some 7) 12 [(.t 6)]⟩,
    ⟨none, .bin 8 .eql .num (.t 7) (.c (.v (.int .i64 0)))⟩])
  (.cnd (.t 8)
   (.seq (.ops [⟨none, .bld 9 [(.v (.bool false)), (.nd (.sl true 1 0) []), (.nd (.sl true 1 0) [])] []⟩,
     ⟨none, .stn none 3 (.t 4) (.t 9)⟩,
     ⟨none, .asg 5 (.c (.v (.int .i64 12)))⟩])
   (.seq (.scr r68) .ret))
   .skip))
 (.seq (.ops [⟨none, .ldn 10 3 (.t 2)⟩,
   ⟨none, .fa 11 0 (.t 3)⟩,
   ⟨none, .ld1 12 (.t 11)⟩,
   ⟨none, .fa 13 2 (.t 3)⟩,
   ⟨none, .ldn 14 1 (.t 13)⟩,
   ⟨none, .fa 15 1 (.t 3)⟩,
   ⟨none, .ldn 16 1 (.t 15)⟩,
   ⟨none, .bv 17 [(.v (.bool false)), (.nd (.sl true 1 0) []), (.nd (.sl true 1 0) [])] [(0, 1, (.t 12)), (1, 1, (.t 14)), (2, 1, (.t 16))]⟩,
   ⟨none, .call (some 18) 27 [(.t 10), (.t 17)]⟩,
   ⟨none, .stn none 3 (.t 4) (.t 18)⟩,
   ⟨none, .asg 5 (.c (.v (.int .i64 0)))⟩])
 (.seq (.scr r68) .ret)))),
  19, [1000001, 4, 4, 0, 5]⟩

def hints69 : List (List Bool) := [bits 19 [], bits 19 [0, 1, 7, 8], bits 19 [], bits 19 [0, 1, 7, 8], bits 19 [4], bits 19 [4]]
@[simp] def r69 : List Bool := bits 19 [4]
@[simp] def R69 (s4 : V) : St := tab 19 9 (fu dd 4 s4) dd
@[simp] def x69_0 : List Bool := bits 19 []
@[simp] def X69_0 : St := tab 19 9 dd dd
@[simp] def h69_0 : List Bool := bits 19 [0, 1, 7, 8]
@[simp] def L69_0 (s0 s1 s7 s8 : V) : St := tab 19 9 (fu (fu (fu (fu dd 8 s8) 7 s7) 1 s1) 0 s0) dd
@[simp] def x69_1 : List Bool := bits 19 [0, 1, 7, 8]
@[simp] def X69_1 (s0 s1 s7 s8 : V) : St := tab 19 9 (fu (fu (fu (fu dd 8 s8) 7 s7) 1 s1) 0 s0) dd
def b69_0 : MC := .seq (.scr h69_0)
 (.seq (.ops [⟨none, .bin 9 .lss .num (.t 8) (.t 7)⟩])
 (.seq (.cnd (.t 9)
   .skip
   (.seq (.scr x69_0) (.ex 0)))
 (.seq (.seq (.blk 1 (.seq (.ops [⟨none, .mv 10 (.t 8)⟩,
     ⟨none, .asg 5 (.t 10)⟩])
   (.seq (.ops [⟨none, .mv 11 (.t 1)⟩,
     ⟨none, .mv 12 (.t 0)⟩,
     ⟨none, .mv 13 (.t 5)⟩,
     ⟨none, .ixs 14 1 (.t 12) (.t 13)⟩,
     ⟨none, .ld1 15 (.t 14)⟩,
     ⟨none, .bin 16 .eql .num (.t 11) (.t 15)⟩])
   (.cnd (.t 16)
    (.seq (.ops [⟨none, .mv 17 (.t 5)⟩,
      ⟨none, .asg 4 (.t 17)⟩])
    (.seq (.scr r69) .ret))
    .skip)))) (.scr x69_1))
 (.ops [⟨none, .bin 18 .add .num (.t 8) (.c (.v (.int .i64 1)))⟩,
  ⟨none, .mv 8 (.t 18)⟩]))))
def c69 : MF := ⟨(.seq (.ops [⟨none, .asg 4 (.c (.v (.int .i64 0)))⟩])
 (.seq (.seq (.ops [⟨none, .mv 6 (.t 0)⟩,
    ⟨none, .len 7 false (.t 6)⟩,
    ⟨none, .mv 8 (.c (.v (.int .i64 0)))⟩])
  (.seq (.blk 0 (.lop b69_0)) (.scr x69_0)))
 (.seq (.ops [⟨none, .asg 4 (.c (.v (.int .i64 (-1))))⟩])
 (.seq (.scr r69) .ret)))),
  19, [4]⟩

def hints70 : List (List Bool) := [bits 31 [4], bits 31 [], bits 31 [2, 3, 5], bits 31 [], bits 31 [2, 3, 5], bits 31 [4], bits 31 [4]]
@[simp] def r70 : List Bool := bits 31 [4]
@[simp] def R70 (s4 : V) : St := tab 31 6 (fu dd 4 s4) dd
@[simp] def x70_0 : List Bool := bits 31 []
@[simp] def X70_0 : St := tab 31 6 dd dd
@[simp] def h70_0 : List Bool := bits 31 [2, 3, 5]
@[simp] def L70_0 (s2 s3 s5 : V) : St := tab 31 6 (fu (fu (fu dd 5 s5) 3 s3) 2 s2) dd
@[simp] def x70_1 : List Bool := bits 31 [2, 3, 5]
@[simp] def X70_1 (s2 s3 s5 : V) : St := tab 31 6 (fu (fu (fu dd 5 s5) 3 s3) 2 s2) dd
def b70_0 : MC := .seq (.scr h70_0)
 (.seq (.seq (.ops [⟨none, .mv 13 (.t 5)⟩,
    ⟨none, .fa 14 0 (.t 2)⟩,
    ⟨none, .ld1 15 (.t 14)⟩,
    ⟨none, .len 16 false (.t 15)⟩,
    ⟨none, .bin 17 .lss .num (.t 13) (.t 16)⟩])
  (.cnd (.t 17)
   .skip
   (.seq (.scr x70_0) (.ex 0))))
 (.seq (.seq (.blk 1 (.seq (.drw [⟨none, .fa 20 0 (.t 2)⟩,
     ⟨none, .ld1 21 (.t 20)⟩,
     ⟨none, .mv 22 (.t 5)⟩,
     ⟨none, .ixs 23 1 (.t 21) (.t 22)⟩,
     ⟨none, .ld1 24 (.t 23)⟩,
     ⟨none, .fa 25 0 (.t 3)⟩,
     ⟨none, .ld1 26 (.t 25)⟩,
     ⟨none, .mv 27 (.t 5)⟩,
     ⟨none, .ixs 28 1 (.t 26) (.t 27)⟩,
     ⟨none, .ld1 29 (.t 28)⟩] [⟨none, .bin 30 .neq .num (.t 24) (.t 29)⟩])
   (.cnd (.t 30)
    (.seq (.ops [⟨none, .asg 4 (.c (.v (.bool false)))⟩])
    (.seq (.scr r70) .ret))
    .skip))) (.scr x70_1))
 (.ops [⟨none, .mv 18 (.t 5)⟩,
  ⟨none, .bin 19 .add .num (.t 18) (.c (.v (.int .i64 1)))⟩,
  ⟨none, .asg 5 (.t 19)⟩])))
def c70 : MF := ⟨(.seq (.ops [⟨none, .sl0 2 0 (.t 0)⟩,
   ⟨none, .sl0 3 0 (.t 1)⟩,
   ⟨none, .asg 4 (.c (.v (.bool false)))⟩])
 (.seq (.seq (.ops [⟨none, .fa 6 0 (.t 2)⟩,
    ⟨none, .ld1 7 (.t 6)⟩,
    ⟨none, .len 8 false (.t 7)⟩,
    ⟨none, .fa 9 0 (.t 3)⟩,
    ⟨none, .ld1 10 (.t 9)⟩,
    ⟨none, .len 11 false (.t 10)⟩,
    ⟨none, .bin 12 .neq .num (.t 8) (.t 11)⟩])
  (.cnd (.t 12)
   (.seq (.ops [⟨none, .asg 4 (.c (.v (.bool false)))⟩])
   (.seq (.scr r70) .ret))
   .skip))
 (.seq (.seq (.ops [⟨none, .asg 5 (.c (.v (.int .i64 0)))⟩])
  (.seq (.blk 0 (.lop b70_0)) (.scr x70_0)))
 (.seq (.ops [⟨none, .asg 4 (.c (.v (.bool true)))⟩])
 (.seq (.scr r70) .ret))))),
  31, [4]⟩

/-- coinage/sampling.within -/
abbrev K71 : Nat := 7
def hints71 : List (List Bool) := [bits 15 [6]]
@[simp] def r71 : List Bool := bits 15 [6]
@[simp] def R71 (s6 : V) : St := tab 15 7 (fu dd 6 s6) dd
def c71 : MF := ⟨(.seq (.ops [⟨none, .asg 6 (.c (.v (.bool false)))⟩])
 (.seq (.ops [⟨none, .mv 7 (.t 0)⟩,
   ⟨none, .mv 8 (.t 1)⟩,
   ⟨none, .bin 9 .geq .num (.t 7) (.t 8)⟩,
   ⟨none, .mv 10 (.t 9)⟩,
   ⟨some (10, true), .mv 11 (.t 0)⟩,
   ⟨some (10, true), .mv 12 (.t 2)⟩,
   ⟨some (10, true), .bin 13 .leq .num (.t 11) (.t 12)⟩,
   ⟨none, .pick 14 (.t 10) (.t 13) (.c (.v (.bool false)))⟩,
   ⟨none, .asg 6 (.t 14)⟩])
 (.seq (.scr r71) .ret))),
  15, [6]⟩

def hints72 : List (List Bool) := [bits 37 [6], bits 37 [], bits 37 [2, 24, 25, 26], bits 37 [], bits 37 [2, 24, 25, 26], bits 37 [6], bits 37 [6]]
@[simp] def r72 : List Bool := bits 37 [6]
@[simp] def R72 (s6 : V) : St := tab 37 27 (fu dd 6 s6) dd
@[simp] def x72_0 : List Bool := bits 37 []
@[simp] def X72_0 : St := tab 37 27 dd dd
@[simp] def h72_0 : List Bool := bits 37 [2, 24, 25, 26]
@[simp] def L72_0 (s2 s24 s25 s26 : V) : St := tab 37 27 (fu (fu (fu (fu dd 26 s26) 25 s25) 24 s24) 2 s2) dd
@[simp] def x72_1 : List Bool := bits 37 [2, 24, 25, 26]
@[simp] def X72_1 (s2 s24 s25 s26 : V) : St := tab 37 27 (fu (fu (fu (fu dd 26 s26) 25 s25) 24 s24) 2 s2) dd
def b72_0 : MC := .seq (.scr h72_0)
 (.seq (.ops [⟨none, .bin 27 .lss .num (.t 26) (.t 25)⟩])
 (.seq (.cnd (.t 27)
   .skip
   (.seq (.scr x72_0) (.ex 0)))
 (.seq (.seq (.blk 1 (.seq (.ops [⟨none, .ixs 28 1 (.t 24) (.t 26)⟩,
     ⟨none, .ld1 29 (.t 28)⟩,
     ⟨none, .asg 8 (.t 29)⟩])
   (.seq (.ops [⟨none, .mv 30 (.t 8)⟩,
     ⟨none, .bin 31 .lss .num (.t 30) (.c (.v (.int .i64 1)))⟩,
     ⟨none, .mv 32 (.t 31)⟩,
     ⟨some (32, false), .mv 33 (.t 8)⟩,
     ⟨some (32, false), .bin 34 .gtr .num (.t 33) (.c (.v (.int .i64 60)))⟩,
     ⟨none, .pick 35 (.t 32) (.c (.v (.bool true))) (.t 34)⟩])
   (.cnd (.t 35)
    (.seq (.ops [⟨none, .asg 6 (.c (.v (.int .i64 2)))⟩])
    (.seq (.scr r72) .ret))
    .skip)))) (.scr x72_1))
 (.ops [⟨none, .bin 36 .add .num (.t 26) (.c (.v (.int .i64 1)))⟩,
  ⟨none, .mv 26 (.t 36)⟩]))))
def c72 : MF := ⟨(.seq (.ops [⟨none, .asg 6 (.c (.v (.int .i64 0)))⟩])
 (.seq (.seq (.ops [⟨none, .mv 9 (.t 0)⟩,
    ⟨none, .bin 10 .lss .num (.t 9) (.c (.v (.int .i64 1)))⟩,
    ⟨none, .mv 11 (.t 10)⟩,
    ⟨some (11, false), .mv 12 (.t 0)⟩,
    ⟨some (11, false), .bin 13 .gtr .num (.t 12) (.c (.v (.int .i64 24)))⟩,
    ⟨none, .pick 14 (.t 11) (.c (.v (.bool true))) (.t 13)⟩,
    ⟨none, .mv 15 (.t 14)⟩,
    ⟨some (15, false), .mv 16 (.t 1)⟩,
    ⟨some (15, false), .bin 17 .lss .num (.t 16) (.c (.v (.int .i64 1)))⟩,
    ⟨none, .pick 18 (.t 15) (.c (.v (.bool true))) (.t 17)⟩,
    ⟨none, .mv 19 (.t 18)⟩,
    ⟨some (19, false), .mv 20 (.t 1)⟩,
    ⟨some (19, false), .mv 21 (.t 0)⟩,
    ⟨some (19, false), .bin 22 .gtr .num (.t 20) (.t 21)⟩,
    ⟨none, .pick 23 (.t 19) (.c (.v (.bool true))) (.t 22)⟩])
  (.cnd (.t 23)
   (.seq (.ops [⟨none, .asg 6 (.c (.v (.int .i64 2)))⟩])
   (.seq (.scr r72) .ret))
   .skip))
 (.seq (.seq (.ops [⟨none, .mv 24 (.t 2)⟩,
    ⟨none, .len 25 false (.t 24)⟩,
    ⟨none, .mv 26 (.c (.v (.int .i64 0)))⟩])
  (.seq (.blk 0 (.lop b72_0)) (.scr x72_0)))
 (.seq (.ops [⟨none, .asg 6 (.c (.v (.int .i64 0)))⟩])
 (.seq (.scr r72) .ret))))),
  37, [6]⟩

def hints73 : List (List Bool) := [bits 25 [3], bits 25 [0, 3, 4], bits 25 [3], bits 25 [0, 3, 4], bits 25 [2]]
@[simp] def r73 : List Bool := bits 25 [2]
@[simp] def R73 (s2 : V) : St := tab 25 5 (fu dd 2 s2) dd
@[simp] def x73_0 : List Bool := bits 25 [3]
@[simp] def X73_0 (s3 : V) : St := tab 25 5 (fu dd 3 s3) dd
@[simp] def h73_0 : List Bool := bits 25 [0, 3, 4]
@[simp] def L73_0 (s0 s3 s4 : V) : St := tab 25 5 (fu (fu (fu dd 4 s4) 3 s3) 0 s0) dd
@[simp] def x73_1 : List Bool := bits 25 [0, 3, 4]
@[simp] def X73_1 (s0 s3 s4 : V) : St := tab 25 5 (fu (fu (fu dd 4 s4) 3 s3) 0 s0) dd
def b73_0 : MC := .seq (.scr h73_0)
 (.seq (.seq (.ops [⟨none, .mv 12 (.t 4)⟩,
    ⟨none, .mv 13 (.t 0)⟩,
    ⟨none, .len 14 false (.t 13)⟩,
    ⟨none, .bin 15 .lss .num (.t 12) (.t 14)⟩])
  (.cnd (.t 15)
   .skip
   (.seq (.scr x73_0) (.ex 0))))
 (.seq (.seq (.blk 1 (.ops [⟨none, .mv 18 (.t 3)⟩,
    ⟨none, .mv 19 (.t 0)⟩,
    ⟨none, .mv 20 (.t 4)⟩,
    ⟨none, .ixs 21 1 (.t 19) (.t 20)⟩,
    ⟨none, .ld1 22 (.t 21)⟩,
    ⟨none, .mm 23 true (.t 18) (.t 22)⟩,
    ⟨none, .asg 3 (.t 23)⟩])) (.scr x73_1))
 (.ops [⟨none, .mv 16 (.t 4)⟩,
  ⟨none, .bin 17 .add .num (.t 16) (.c (.v (.int .i64 1)))⟩,
  ⟨none, .asg 4 (.t 17)⟩])))
def c73 : MF := ⟨(.seq (.ops [⟨none, .asg 2 (.c (.v (.int .i64 0)))⟩])
 (.seq (.seq (.ops [⟨none, .mv 5 (.t 0)⟩,
    ⟨none, .len 6 false (.t 5)⟩,
    ⟨none, .bin 7 .lss .num (.t 6) (.c (.v (.int .i64 1)))⟩])
  (.cnd (.t 7)
   (.ops [⟨none, .bad (some 8)⟩,
    ⟨none, .bad none⟩])
   .skip))
 (.seq (.ops [⟨none, .mv 9 (.t 0)⟩,
   ⟨none, .ixs 10 1 (.t 9) (.c (.v (.int .i64 0)))⟩,
   ⟨none, .ld1 11 (.t 10)⟩,
   ⟨none, .asg 3 (.t 11)⟩])
 (.seq (.seq (.ops [⟨none, .asg 4 (.c (.v (.int .i64 1)))⟩])
  (.seq (.blk 0 (.lop b73_0)) (.scr x73_0)))
 (.seq (.ops [⟨none, .mv 24 (.t 3)⟩,
   ⟨none, .asg 2 (.t 24)⟩])
 (.seq (.scr r73) .ret)))))),
  25, [2]⟩

def hints74 : List (List Bool) := [bits 54 [5, 6], bits 54 [0, 1, 5, 6, 15, 16, 21, 22, 23], bits 54 [5, 6], bits 54 [0, 1, 5, 6, 15, 16, 21, 22, 23], bits 54 [4, 52, 53]]
@[simp] def r74 : List Bool := bits 54 [4, 52, 53]
@[simp] def R74 (s4 s52 s53 : V) : St := tab 54 54 (fu (fu (fu dd 53 s53) 52 s52) 4 s4) dd
@[simp] def x74_0 : List Bool := bits 54 [5, 6]
@[simp] def X74_0 (s5 s6 : V) : St := tab 54 54 (fu (fu dd 6 s6) 5 s5) dd
@[simp] def h74_0 : List Bool := bits 54 [0, 1, 5, 6, 15, 16, 21, 22, 23]
@[simp] def L74_0 (s0 s1 s5 s6 s15 s16 s21 s22 s23 : V) : St := tab 54 54 (fu (fu (fu (fu (fu (fu (fu (fu (fu dd 23 s23) 22 s22) 21 s21) 16 s16) 15 s15) 6 s6) 5 s5) 1 s1) 0 s0) dd
@[simp] def x74_1 : List Bool := bits 54 [0, 1, 5, 6, 15, 16, 21, 22, 23]
@[simp] def X74_1 (s0 s1 s5 s6 s15 s16 s21 s22 s23 : V) : St := tab 54 54 (fu (fu (fu (fu (fu (fu (fu (fu (fu dd 23 s23) 22 s22) 21 s21) 16 s16) 15 s15) 6 s6) 5 s5) 1 s1) 0 s0) dd
def b74_0 : MC := .seq (.scr h74_0)
 (.seq (.ops [⟨none, .bin 24 .lss .num (.t 23) (.t 22)⟩])
 (.seq (.cnd (.t 24)
   .skip
   (.seq (.scr x74_0) (.ex 0)))
 (.seq (.seq (.blk 1 (.seq (.ops [⟨none, .mv 25 (.t 23)⟩,
     ⟨none, .ixs 26 1 (.t 21) (.t 23)⟩,
     ⟨none, .ld1 27 (.t 26)⟩,
     ⟨none, .asg 7 (.t 25)⟩,
     ⟨none, .asg 8 (.t 27)⟩])
   (.seq (.ops [⟨none, .mv 28 (.t 8)⟩,
     ⟨none, .mv 29 (.t 6)⟩,
     ⟨none, .bin 30 .add .num (.t 28) (.t 29)⟩,
     ⟨none, .asg 9 (.t 30)⟩])
   (.seq (.seq (.ops [⟨none, .mv 31 (.t 7)⟩,
      ⟨none, .mv 32 (.t 1)⟩,
      ⟨none, .len 33 false (.t 32)⟩,
      ⟨none, .bin 34 .lss .num (.t 31) (.t 33)⟩])
    (.cnd (.t 34)
     (.ops [⟨none, .mv 35 (.t 9)⟩,
      ⟨none, .mv 36 (.t 1)⟩,
      ⟨none, .mv 37 (.t 7)⟩,
      ⟨none, .ixs 38 1 (.t 36) (.t 37)⟩,
      ⟨none, .ld1 39 (.t 38)⟩,
      ⟨none, .bin 40 .add .num (.t 35) (.t 39)⟩,
      ⟨none, .asg 9 (.t 40)⟩])
     .skip))
   (.seq (.ops [⟨none, .mv 41 (.t 9)⟩,
     ⟨none, .bin 42 .quo .num (.t 41) (.c (.v (.int .u32 1000000000)))⟩,
     ⟨none, .asg 6 (.t 42)⟩])
   (.ops [⟨none, .mv 43 (.t 5)⟩,
    ⟨none, .mv 44 (.t 9)⟩,
    ⟨none, .bin 45 .rem .num (.t 44) (.c (.v (.int .u32 1000000000)))⟩,
    ⟨none, .bs 46 1 1 [(.v (.int .u32 0))] [(0, 1, (.t 45))]⟩,
    ⟨none, .app 47 1 (.t 43) (.t 46)⟩,
    ⟨none, .asg 5 (.t 47)⟩])))))) (.scr x74_1))
 (.ops [⟨none, .bin 48 .add .num (.t 23) (.c (.v (.int .i64 1)))⟩,
  ⟨none, .mv 23 (.t 48)⟩]))))
def c74 : MF := ⟨(.seq (.ops [⟨none, .asg 4 (.c (.nd (.sl true 1 0) []))⟩])
 (.seq (.seq (.ops [⟨none, .mv 10 (.t 0)⟩,
    ⟨none, .len 11 false (.t 10)⟩,
    ⟨none, .mv 12 (.t 1)⟩,
    ⟨none, .len 13 false (.t 12)⟩,
    ⟨none, .bin 14 .lss .num (.t 11) (.t 13)⟩])
  (.cnd (.t 14)
   (.ops [⟨none, .mv 15 (.t 1)⟩,
    ⟨none, .mv 16 (.t 0)⟩,
    ⟨none, .asg 0 (.t 15)⟩,
    ⟨none, .asg 1 (.t 16)⟩])
   .skip))
 (.seq (.ops [⟨none, .mv 17 (.t 0)⟩,
   ⟨none, .len 18 false (.t 17)⟩,
   ⟨none, .bin 19 .add .num (.t 18) (.c (.v (.int .i64 1)))⟩,
   ⟨none, .mks 20 1 [(.v (.int .u32 0))] (.c (.v (.int .i64 0))) (.t 19)⟩,
   ⟨none, .asg 5 (.t 20)⟩])
 (.seq (.ops [⟨none, .asg 6 (.c (.v (.int .u32 0)))⟩])
 (.seq (.seq (.ops [⟨none, .mv 21 (.t 0)⟩,
    ⟨none, .len 22 false (.t 21)⟩,
    ⟨none, .mv 23 (.c (.v (.int .i64 0)))⟩])
  (.seq (.blk 0 (.lop b74_0)) (.scr x74_0)))
 (.seq (.ops [⟨none, .mv 49 (.t 5)⟩,
   ⟨none, .mv 50 (.t 6)⟩,
   ⟨none, .bs 51 1 1 [(.v (.int .u32 0))] [(0, 1, (.t 50))]⟩,
   ⟨none, .app 52 1 (.t 49) (.t 51)⟩,
   ⟨none, .calW 53 85 1 (.t 52)⟩,
   ⟨none, .asg 4 (.t 53)⟩])
 (.seq (.scr r74) .ret))))))),
  54, [4]⟩

def hints75 : List (List Bool) := [bits 47 [5], bits 47 [0, 1, 5, 6, 13, 14, 15], bits 47 [5], bits 47 [0, 1, 5, 6, 13, 14, 15], bits 47 [4, 5, 45, 46]]
@[simp] def r75 : List Bool := bits 47 [4, 5, 45, 46]
@[simp] def R75 (s4 s5 s45 s46 : V) : St := tab 47 47 (fu (fu (fu (fu dd 46 s46) 45 s45) 5 s5) 4 s4) dd
@[simp] def x75_0 : List Bool := bits 47 [5]
@[simp] def X75_0 (s5 : V) : St := tab 47 47 (fu dd 5 s5) dd
@[simp] def h75_0 : List Bool := bits 47 [0, 1, 5, 6, 13, 14, 15]
@[simp] def L75_0 (s0 s1 s5 s6 s13 s14 s15 : V) : St := tab 47 47 (fu (fu (fu (fu (fu (fu (fu dd 15 s15) 14 s14) 13 s13) 6 s6) 5 s5) 1 s1) 0 s0) dd
@[simp] def x75_1 : List Bool := bits 47 [0, 1, 5, 6, 13, 14, 15]
@[simp] def X75_1 (s0 s1 s5 s6 s13 s14 s15 : V) : St := tab 47 47 (fu (fu (fu (fu (fu (fu (fu dd 15 s15) 14 s14) 13 s13) 6 s6) 5 s5) 1 s1) 0 s0) dd
def b75_0 : MC := .seq (.scr h75_0)
 (.seq (.ops [⟨none, .bin 16 .lss .num (.t 15) (.t 14)⟩])
 (.seq (.cnd (.t 16)
   .skip
   (.seq (.scr x75_0) (.ex 0)))
 (.seq (.seq (.blk 1 (.seq (.ops [⟨none, .mv 17 (.t 15)⟩,
     ⟨none, .ixs 18 1 (.t 13) (.t 15)⟩,
     ⟨none, .ld1 19 (.t 18)⟩,
     ⟨none, .asg 7 (.t 17)⟩,
     ⟨none, .asg 8 (.t 19)⟩])
   (.seq (.ops [⟨none, .mv 20 (.t 8)⟩,
     ⟨none, .cvi 21 .i64 (.t 20)⟩,
     ⟨none, .mv 22 (.t 6)⟩,
     ⟨none, .bin 23 .sub .num (.t 21) (.t 22)⟩,
     ⟨none, .asg 9 (.t 23)⟩])
   (.seq (.seq (.ops [⟨none, .mv 24 (.t 7)⟩,
      ⟨none, .mv 25 (.t 1)⟩,
      ⟨none, .len 26 false (.t 25)⟩,
      ⟨none, .bin 27 .lss .num (.t 24) (.t 26)⟩])
    (.cnd (.t 27)
     (.ops [⟨none, .mv 28 (.t 9)⟩,
      ⟨none, .mv 29 (.t 1)⟩,
      ⟨none, .mv 30 (.t 7)⟩,
      ⟨none, .ixs 31 1 (.t 29) (.t 30)⟩,
      ⟨none, .ld1 32 (.t 31)⟩,
      ⟨none, .cvi 33 .i64 (.t 32)⟩,
      ⟨none, .bin 34 .sub .num (.t 28) (.t 33)⟩,
      ⟨none, .asg 9 (.t 34)⟩])
     .skip))
   (.seq (.ops [⟨none, .asg 6 (.c (.v (.int .i64 0)))⟩])
   (.seq (.seq (.ops [⟨none, .mv 35 (.t 9)⟩,
      ⟨none, .bin 36 .lss .num (.t 35) (.c (.v (.int .i64 0)))⟩])
    (.cnd (.t 36)
     (.seq (.ops [⟨none, .mv 37 (.t 9)⟩,
       ⟨none, .bin 38 .add .num (.t 37) (.c (.v (.int .i64 1000000000)))⟩,
       ⟨none, .asg 9 (.t 38)⟩])
     (.ops [⟨none, .asg 6 (.c (.v (.int .i64 1)))⟩]))
     .skip))
   (.ops [⟨none, .mv 39 (.t 5)⟩,
    ⟨none, .mv 40 (.t 9)⟩,
    ⟨none, .cvi 41 .u32 (.t 40)⟩,
    ⟨none, .bs 42 1 1 [(.v (.int .u32 0))] [(0, 1, (.t 41))]⟩,
    ⟨none, .app 43 1 (.t 39) (.t 42)⟩,
    ⟨none, .asg 5 (.t 43)⟩]))))))) (.scr x75_1))
 (.ops [⟨none, .bin 44 .add .num (.t 15) (.c (.v (.int .i64 1)))⟩,
  ⟨none, .mv 15 (.t 44)⟩]))))
def c75 : MF := ⟨(.seq (.ops [⟨none, .asg 4 (.c (.nd (.sl true 1 0) []))⟩])
 (.seq (.ops [⟨none, .mv 10 (.t 0)⟩,
   ⟨none, .len 11 false (.t 10)⟩,
   ⟨none, .mks 12 1 [(.v (.int .u32 0))] (.c (.v (.int .i64 0))) (.t 11)⟩,
   ⟨none, .asg 5 (.t 12)⟩])
 (.seq (.ops [⟨none, .asg 6 (.c (.v (.int .i64 0)))⟩])
 (.seq (.seq (.ops [⟨none, .mv 13 (.t 0)⟩,
    ⟨none, .len 14 false (.t 13)⟩,
    ⟨none, .mv 15 (.c (.v (.int .i64 0)))⟩])
  (.seq (.blk 0 (.lop b75_0)) (.scr x75_0)))
 (.seq (.ops [⟨none, .mv 45 (.t 5)⟩,
   ⟨none, .calW 46 85 1 (.t 45)⟩,
   ⟨none, .asg 4 (.t 46)⟩])
 (.seq (.scr r75) .ret)))))),
  47, [4]⟩

/-- coinage/counting.Binomial -/
abbrev K76 : Nat := 6
def hints76 : List (List Bool) := [bits 13 [4, 5], bits 13 [4, 5]]
@[simp] def r76 : List Bool := bits 13 [4, 5]
@[simp] def R76 (s4 s5 : V) : St := tab 13 6 (fu (fu dd 5 s5) 4 s4) dd
def c76 : MF := ⟨(.seq (.ops [⟨none, .alc 4 [(.nd (.sl true 1 0) [])]⟩,
   ⟨none, .asg 5 (.c (.v (.int .i64 0)))⟩])
 (.seq (.seq (.ops [⟨none, .mv 6 (.t 0)⟩,
    ⟨none, .call (some 7) 89 [(.t 6), (.c (.v (.int .i64 300)))]⟩,
    ⟨none, .un 8 .not (.t 7)⟩])
  (.cnd (.t 8)
   (.seq (.ops [⟨none, .bld 9 [(.nd (.sl true 1 0) [])] []⟩,
     ⟨none, .stn none 1 (.t 4) (.t 9)⟩,
     ⟨none, .asg 5 (.c (.v (.int .i64 2)))⟩])
   (.seq (.scr r76) .ret))
   .skip))
 (.seq (.ops [⟨none, .mv 10 (.t 0)⟩,
   ⟨none, .mv 11 (.t 1)⟩,
   ⟨none, .call (some 12) 90 [(.t 10), (.t 11)]⟩,
   ⟨none, .stn none 1 (.t 4) (.t 12)⟩,
   ⟨none, .asg 5 (.c (.v (.int .i64 0)))⟩])
 (.seq (.scr r76) .ret)))),
  13, [1000001, 2, 4, 0, 5]⟩

def hints77 : List (List Bool) := [bits 28 [4, 5], bits 28 [4, 5]]
@[simp] def r77 : List Bool := bits 28 [4, 5]
@[simp] def R77 (s4 s5 : V) : St := tab 28 18 (fu (fu dd 5 s5) 4 s4) dd
def c77 : MF := ⟨(.seq (.ops [⟨none, .alc 4 [(.nd (.sl true 1 0) [])]⟩,
   ⟨none, .asg 5 (.c (.v (.int .i64 0)))⟩])
 (.seq (.seq (.ops [⟨none, .mv 8 (.t 0)⟩,
    ⟨none, .call (some 9) 89 [(.t 8), (.c (.v (.int .i64 64)))]⟩,
    ⟨none, .un 10 .not (.t 9)⟩,
    ⟨none, .mv 11 (.t 10)⟩,
    ⟨some (11, false), .mv 12 (.t 1)⟩,
    ⟨some (11, false), .call (some 13) 89 [(.t 12), (.c (.v (.int .i64 64)))]⟩,
    ⟨some (11, false), .un 14 .not (.t 13)⟩,
    ⟨none, .pick 15 (.t 11) (.c (.v (.bool true))) (.t 14)⟩])
  (.cnd (.t 15)
   (.seq (.ops [⟨none, .bld 16 [(.nd (.sl true 1 0) [])] []⟩,
     ⟨none, .stn none 1 (.t 4) (.t 16)⟩,
     ⟨none, .asg 5 (.c (.v (.int .i64 2)))⟩])
   (.seq (.scr r77) .ret))
   .skip))
 (.seq (.ops [⟨none, .mv 18 (.t 0)⟩,
   ⟨none, .mv 19 (.t 1)⟩,
   ⟨none, .call (some 20) 91 [(.t 18), (.t 19)]⟩,
   ⟨none, .mv 17 (.t 20)⟩,
   ⟨none, .ext 21 (.t 17) 0⟩,
   ⟨none, .ext 22 (.t 17) 1⟩,
   ⟨none, .alc 6 [(.nd (.sl true 1 0) [])]⟩,
   ⟨none, .stn none 1 (.t 6) (.t 21)⟩,
   ⟨none, .asg 7 (.t 22)⟩])
 (.seq (.drw [⟨none, .ldn 23 1 (.t 6)⟩,
   ⟨none, .mv 24 (.t 1)⟩,
   ⟨none, .mv 25 (.t 1)⟩,
   ⟨none, .call (some 26) 92 [(.t 24), (.t 25)]⟩] [⟨none, .call (some 27) 35 [(.t 23), (.t 26)]⟩,
   ⟨none, .stn none 1 (.t 4) (.t 27)⟩,
   ⟨none, .asg 5 (.c (.v (.int .i64 0)))⟩])
 (.seq (.scr r77) .ret))))),
  28, [1000001, 2, 4, 0, 5]⟩

def hints78 : List (List Bool) := [bits 43 [1, 2, 4], bits 43 [4, 5], bits 43 [4, 5], bits 43 [4, 6], bits 43 [1, 4, 6, 7], bits 43 [4, 6], bits 43 [1, 4, 6, 7], bits 43 [4, 5]]
@[simp] def r78 : List Bool := bits 43 [4, 5]
@[simp] def R78 (s4 s5 : V) : St := tab 43 17 (fu (fu dd 5 s5) 4 s4) dd
@[simp] def x78_0 : List Bool := bits 43 [1, 2, 4]
@[simp] def X78_0 (s1 s2 s4 : V) : St := tab 43 17 (fu (fu (fu dd 4 s4) 2 s2) 1 s1) dd
@[simp] def x78_1 : List Bool := bits 43 [4, 6]
@[simp] def X78_1 (s4 s6 : V) : St := tab 43 17 (fu (fu dd 6 s6) 4 s4) dd
@[simp] def h78_0 : List Bool := bits 43 [1, 4, 6, 7]
@[simp] def L78_0 (s1 s4 s6 s7 : V) : St := tab 43 17 (fu (fu (fu (fu dd 7 s7) 6 s6) 4 s4) 1 s1) dd
@[simp] def x78_2 : List Bool := bits 43 [1, 4, 6, 7]
@[simp] def X78_2 (s1 s4 s6 s7 : V) : St := tab 43 17 (fu (fu (fu (fu dd 7 s7) 6 s6) 4 s4) 1 s1) dd
def b78_0 : MC := .seq (.scr h78_0)
 (.seq (.seq (.ops [⟨none, .mv 26 (.t 1)⟩,
    ⟨none, .bin 27 .gtr .num (.t 26) (.c (.v (.int .i64 0)))⟩])
  (.cnd (.t 27)
   .skip
   (.seq (.scr x78_1) (.ex 1))))
 (.seq (.seq (.blk 2 (.seq (.seq (.ops [⟨none, .mv 30 (.t 1)⟩,
      ⟨none, .bin 31 .and .num (.t 30) (.c (.v (.int .i64 1)))⟩,
      ⟨none, .bin 32 .neq .num (.t 31) (.c (.v (.int .i64 0)))⟩])
    (.cnd (.t 32)
     (.ops [⟨none, .mv 33 (.t 6)⟩,
      ⟨none, .mv 34 (.t 7)⟩,
      ⟨none, .call (some 35) 66 [(.t 33), (.t 34)]⟩,
      ⟨none, .asg 6 (.t 35)⟩])
     .skip))
   (.seq (.ops [⟨none, .mv 36 (.t 1)⟩,
     ⟨none, .bin 37 .gtr .num (.t 36) (.c (.v (.int .i64 1)))⟩])
   (.cnd (.t 37)
    (.ops [⟨none, .mv 38 (.t 7)⟩,
     ⟨none, .mv 39 (.t 7)⟩,
     ⟨none, .call (some 40) 66 [(.t 38), (.t 39)]⟩,
     ⟨none, .asg 7 (.t 40)⟩])
    .skip)))) (.scr x78_2))
 (.ops [⟨none, .mv 28 (.t 1)⟩,
  ⟨none, .bin 29 .shr .num (.t 28) (.c (.v (.int .u64 1)))⟩,
  ⟨none, .asg 1 (.t 29)⟩])))
def c78 : MF := ⟨(.seq (.ops [⟨none, .sl0 2 0 (.t 0)⟩,
   ⟨none, .alc 4 [(.nd (.sl true 1 0) [])]⟩,
   ⟨none, .asg 5 (.c (.v (.int .i64 0)))⟩])
 (.seq (.seq (.blk 0 (.seq (.ops [⟨none, .mv 9 (.t 1)⟩,
     ⟨none, .bin 10 .lss .num (.t 9) (.c (.v (.int .i64 0)))⟩,
     ⟨none, .mv 11 (.t 10)⟩,
     ⟨some (11, false), .mv 12 (.t 1)⟩,
     ⟨some (11, false), .bin 13 .gtr .num (.t 12) (.c (.v (.int .i64 256)))⟩,
     ⟨none, .pick 14 (.t 11) (.c (.v (.bool true))) (.t 13)⟩,
     ⟨none, .asg 8 (.t 14)⟩])
   (.cnd (.t 8)
    (.seq (.ops [⟨none, .bld 15 [(.nd (.sl true 1 0) [])] []⟩,
      ⟨none, .stn none 1 (.t 4) (.t 15)⟩,
      ⟨none, .asg 5 (.c (.v (.int .i64 2)))⟩])
    (.seq (.scr r78) .ret))
    (.seq (.ops [⟨none, .ldn 17 1 (.t 2)⟩,
      ⟨none, .call (some 18) 93 [(.t 17)]⟩,
      ⟨none, .mv 19 (.t 1)⟩,
      ⟨none, .bin 20 .mul .num (.t 18) (.t 19)⟩,
      ⟨none, .bin 21 .gtr .num (.t 20) (.c (.v (.int .i64 4000)))⟩,
      ⟨none, .asg 16 (.t 21)⟩])
    (.cnd (.t 16)
     (.seq (.ops [⟨none, .bld 22 [(.nd (.sl true 1 0) [])] []⟩,
       ⟨none, .stn none 1 (.t 4) (.t 22)⟩,
       ⟨none, .asg 5 (.c (.v (.int .i64 6)))⟩])
     (.seq (.scr r78) .ret))
     .skip))))) (.scr x78_0))
 (.seq (.ops [⟨none, .bs 23 1 1 [(.v (.int .u32 0))] [(0, 1, (.c (.v (.int .u32 1))))]⟩,
   ⟨none, .ldn 24 1 (.t 2)⟩,
   ⟨none, .call (some 25) 64 [(.t 24)]⟩,
   ⟨none, .asg 6 (.t 23)⟩,
   ⟨none, .asg 7 (.t 25)⟩])
 (.seq (.seq (.blk 1 (.lop b78_0)) (.scr x78_1))
 (.seq (.ops [⟨none, .mv 41 (.t 6)⟩,
   ⟨none, .calM (some 42) 65 (.t 41) []⟩,
   ⟨none, .stn none 1 (.t 4) (.t 42)⟩,
   ⟨none, .asg 5 (.c (.v (.int .i64 0)))⟩])
 (.seq (.scr r78) .ret)))))),
  43, [1000001, 2, 4, 0, 5]⟩

/-- coinage/occupancy.power -/
abbrev K79 : Nat := 17
def hints79 : List (List Bool) := [bits 27 [4]]
@[simp] def r79 : List Bool := bits 27 [4]
@[simp] def R79 (s4 : V) : St := tab 27 17 (fu dd 4 s4) dd
def c79 : MF := ⟨(.seq (.ops [⟨none, .sl0 2 0 (.t 0)⟩,
   ⟨none, .alc 4 [(.v (.bool false)), (.nd (.sl true 1 0) []), (.nd (.sl true 1 0) [])]⟩])
 (.seq (.ops [⟨none, .fa 10 1 (.t 2)⟩,
   ⟨none, .ldn 11 1 (.t 10)⟩,
   ⟨none, .mv 12 (.t 1)⟩,
   ⟨none, .call (some 13) 78 [(.t 11), (.t 12)]⟩,
   ⟨none, .mv 9 (.t 13)⟩,
   ⟨none, .ext 14 (.t 9) 0⟩,
   ⟨none, .ext 15 (.t 9) 1⟩,
   ⟨none, .alc 5 [(.nd (.sl true 1 0) [])]⟩,
   ⟨none, .stn none 1 (.t 5) (.t 14)⟩,
   ⟨none, .asg 6 (.t 15)⟩])
 (.seq (.ops [⟨none, .fa 17 2 (.t 2)⟩,
   ⟨none, .ldn 18 1 (.t 17)⟩,
   ⟨none, .mv 19 (.t 1)⟩,
   ⟨none, .call (some 20) 78 [(.t 18), (.t 19)]⟩,
   ⟨none, .mv 16 (.t 20)⟩,
   ⟨none, .ext 21 (.t 16) 0⟩,
   ⟨none, .ext 22 (.t 16) 1⟩,
   ⟨none, .alc 7 [(.nd (.sl true 1 0) [])]⟩,
   ⟨none, .stn none 1 (.t 7) (.t 21)⟩,
   ⟨none, .asg 8 (.t 22)⟩])
 (.seq (.ops [⟨none, .ldn 23 1 (.t 5)⟩,
   ⟨none, .ldn 24 1 (.t 7)⟩,
   ⟨none, .bv 25 [(.v (.bool false)), (.nd (.sl true 1 0) []), (.nd (.sl true 1 0) [])] [(1, 1, (.t 23)), (2, 1, (.t 24))]⟩,
   ⟨none, .call (some 26) 52 [(.t 25)]⟩,
   ⟨none, .stn none 3 (.t 4) (.t 26)⟩])
 (.seq (.scr r79) .ret))))),
  27, [4, 3, 1000000]⟩


theorem comp3 : compF Go.Proofs.Tryd.prog hints3 3 = some c3 := by kernel_rfl
theorem comp4 : compF Go.Proofs.Tryd.prog hints4 4 = some c4 := by kernel_rfl
theorem comp5 : compF Go.Proofs.Tryd.prog hints5 5 = some c5 := by kernel_rfl
theorem comp6 : compF Go.Proofs.Tryd.prog hints6 6 = some c6 := by kernel_rfl
theorem comp7 : compF Go.Proofs.Tryd.prog hints7 7 = some c7 := by kernel_rfl
theorem comp8 : compF Go.Proofs.Tryd.prog hints8 8 = some c8 := by kernel_rfl
theorem comp9 : compF Go.Proofs.Tryd.prog hints9 9 = some c9 := by kernel_rfl
theorem comp10 : compF Go.Proofs.Tryd.prog hints10 10 = some c10 := by kernel_rfl
theorem comp11 : compF Go.Proofs.Tryd.prog hints11 11 = some c11 := by kernel_rfl
theorem comp12 : compF Go.Proofs.Tryd.prog hints12 12 = some c12 := by kernel_rfl
theorem comp13 : compF Go.Proofs.Tryd.prog hints13 13 = some c13 := by kernel_rfl
theorem comp14 : compF Go.Proofs.Tryd.prog hints14 14 = some c14 := by kernel_rfl
theorem comp15 : compF Go.Proofs.Tryd.prog hints15 15 = some c15 := by kernel_rfl
theorem comp16 : compF Go.Proofs.Tryd.prog hints16 16 = some c16 := by kernel_rfl
theorem comp17 : compF Go.Proofs.Tryd.prog hints17 17 = some c17 := by kernel_rfl
theorem comp18 : compF Go.Proofs.Tryd.prog hints18 18 = some c18 := by kernel_rfl
theorem comp19 : compF Go.Proofs.Tryd.prog hints19 19 = some c19 := by kernel_rfl
theorem comp20 : compF Go.Proofs.Tryd.prog hints20 20 = some c20 := by kernel_rfl
theorem comp21 : compF Go.Proofs.Tryd.prog hints21 21 = some c21 := by kernel_rfl
theorem comp22 : compF Go.Proofs.Tryd.prog hints22 22 = some c22 := by kernel_rfl
theorem comp23 : compF Go.Proofs.Tryd.prog hints23 23 = some c23 := by kernel_rfl
theorem comp24 : compF Go.Proofs.Tryd.prog hints24 24 = some c24 := by kernel_rfl
theorem comp25 : compF Go.Proofs.Tryd.prog hints25 25 = some c25 := by kernel_rfl
theorem comp26 : compF Go.Proofs.Tryd.prog hints26 26 = some c26 := by kernel_rfl
theorem comp27 : compF Go.Proofs.Tryd.prog hints27 27 = some c27 := by kernel_rfl
theorem comp28 : compF Go.Proofs.Tryd.prog hints28 28 = some c28 := by kernel_rfl
theorem comp29 : compF Go.Proofs.Tryd.prog hints29 29 = some c29 := by kernel_rfl
theorem comp30 : compF Go.Proofs.Tryd.prog hints30 30 = some c30 := by kernel_rfl
theorem comp31 : compF Go.Proofs.Tryd.prog hints31 31 = some c31 := by kernel_rfl
theorem comp32 : compF Go.Proofs.Tryd.prog hints32 32 = some c32 := by kernel_rfl
theorem comp33 : compF Go.Proofs.Tryd.prog hints33 33 = some c33 := by kernel_rfl
theorem comp34 : compF Go.Proofs.Tryd.prog hints34 34 = some c34 := by kernel_rfl
theorem comp35 : compF Go.Proofs.Tryd.prog hints35 35 = some c35 := by kernel_rfl
theorem comp36 : compF Go.Proofs.Tryd.prog hints36 36 = some c36 := by kernel_rfl
theorem comp37 : compF Go.Proofs.Tryd.prog hints37 37 = some c37 := by kernel_rfl
theorem comp38 : compF Go.Proofs.Tryd.prog hints38 38 = some c38 := by kernel_rfl
theorem comp39 : compF Go.Proofs.Tryd.prog hints39 39 = some c39 := by kernel_rfl
theorem comp40 : compF Go.Proofs.Tryd.prog hints40 40 = some c40 := by kernel_rfl
theorem comp41 : compF Go.Proofs.Tryd.prog hints41 41 = some c41 := by kernel_rfl
theorem comp42 : compF Go.Proofs.Tryd.prog hints42 42 = some c42 := by kernel_rfl
theorem comp43 : compF Go.Proofs.Tryd.prog hints43 43 = some c43 := by kernel_rfl
theorem comp44 : compF Go.Proofs.Tryd.prog hints44 44 = some c44 := by kernel_rfl
theorem comp45 : compF Go.Proofs.Tryd.prog hints45 45 = some c45 := by kernel_rfl
theorem comp46 : compF Go.Proofs.Tryd.prog hints46 46 = some c46 := by kernel_rfl
theorem comp47 : compF Go.Proofs.Tryd.prog hints47 47 = some c47 := by kernel_rfl
theorem comp48 : compF Go.Proofs.Tryd.prog hints48 48 = some c48 := by kernel_rfl
theorem comp49 : compF Go.Proofs.Tryd.prog hints49 49 = some c49 := by kernel_rfl
theorem comp50 : compF Go.Proofs.Tryd.prog hints50 50 = some c50 := by kernel_rfl
theorem comp51 : compF Go.Proofs.Tryd.prog hints51 51 = some c51 := by kernel_rfl
theorem comp52 : compF Go.Proofs.Tryd.prog hints52 52 = some c52 := by kernel_rfl
theorem comp53 : compF Go.Proofs.Tryd.prog hints53 53 = some c53 := by kernel_rfl
theorem comp54 : compF Go.Proofs.Tryd.prog hints54 54 = some c54 := by kernel_rfl
theorem comp55 : compF Go.Proofs.Tryd.prog hints55 55 = some c55 := by kernel_rfl
theorem comp56 : compF Go.Proofs.Tryd.prog hints56 56 = some c56 := by kernel_rfl
theorem comp57 : compF Go.Proofs.Tryd.prog hints57 57 = some c57 := by kernel_rfl
theorem comp58 : compF Go.Proofs.Tryd.prog hints58 58 = some c58 := by kernel_rfl
theorem comp60 : compF Go.Proofs.Tryd.prog hints60 60 = some c60 := by kernel_rfl
theorem comp61 : compF Go.Proofs.Tryd.prog hints61 61 = some c61 := by kernel_rfl
theorem comp62 : compF Go.Proofs.Tryd.prog hints62 62 = some c62 := by kernel_rfl
theorem comp63 : compF Go.Proofs.Tryd.prog hints63 63 = some c63 := by kernel_rfl
theorem comp64 : compF Go.Proofs.Tryd.prog hints64 64 = some c64 := by kernel_rfl
theorem comp65 : compF Go.Proofs.Tryd.prog hints65 65 = some c65 := by kernel_rfl
theorem comp66 : compF Go.Proofs.Tryd.prog hints66 66 = some c66 := by kernel_rfl
theorem comp67 : compF Go.Proofs.Tryd.prog hints67 67 = some c67 := by kernel_rfl
theorem comp68 : compF Go.Proofs.Tryd.prog hints68 68 = some c68 := by kernel_rfl
theorem comp69 : compF Go.Proofs.Tryd.prog hints69 69 = some c69 := by kernel_rfl
theorem comp70 : compF Go.Proofs.Tryd.prog hints70 70 = some c70 := by kernel_rfl
theorem comp71 : compF Go.Proofs.Tryd.prog hints71 71 = some c71 := by kernel_rfl
theorem comp72 : compF Go.Proofs.Tryd.prog hints72 72 = some c72 := by kernel_rfl
theorem comp73 : compF Go.Proofs.Tryd.prog hints73 73 = some c73 := by kernel_rfl
theorem comp74 : compF Go.Proofs.Tryd.prog hints74 74 = some c74 := by kernel_rfl
theorem comp75 : compF Go.Proofs.Tryd.prog hints75 75 = some c75 := by kernel_rfl
theorem comp76 : compF Go.Proofs.Tryd.prog hints76 76 = some c76 := by kernel_rfl
theorem comp77 : compF Go.Proofs.Tryd.prog hints77 77 = some c77 := by kernel_rfl
theorem comp78 : compF Go.Proofs.Tryd.prog hints78 78 = some c78 := by kernel_rfl
theorem comp79 : compF Go.Proofs.Tryd.prog hints79 79 = some c79 := by kernel_rfl

end Go.Mx
namespace Go.Mx
set_option linter.unusedVariables false
set_option linter.unusedSimpArgs false
set_option linter.unusedSectionVars false
open Go

def hints84 : List (List Bool) := [bits 153 [4, 5, 11, 37, 38, 150, 151], bits 153 [4, 5, 11, 37, 38, 150, 151], bits 153 [8, 9, 11, 37, 38], bits 153 [8, 9, 10, 11, 12, 37, 38], bits 153 [8, 9, 11, 37, 38], bits 153 [8, 9, 10, 11, 12, 37, 38], bits 153 [8, 9, 10, 11, 12, 37, 38], bits 153 [8, 9, 10, 11, 12, 13, 15, 16, 37, 38, 76, 77], bits 153 [8, 9, 10, 11, 12, 13, 15, 16, 37, 38, 76, 77], bits 153 [8, 9, 10, 11, 12, 13, 15, 16, 37, 38, 76, 77], bits 153 [8, 9, 10, 11, 12, 13, 15, 16, 37, 38, 76, 77], bits 153 [4, 5, 11, 37, 38, 150, 151]]
@[simp] def r84 : List Bool := bits 153 [4, 5, 11, 37, 38, 150, 151]
@[simp] def R84 (s4 s5 s11 s37 s38 s150 s151 : V) : St := tab 153 152 (fu (fu (fu (fu (fu (fu (fu dd 151 s151) 150 s150) 38 s38) 37 s37) 11 s11) 5 s5) 4 s4) dd
@[simp] def x84_0 : List Bool := bits 153 [8, 9, 11, 37, 38]
@[simp] def X84_0 (s8 s9 s11 s37 s38 : V) : St := tab 153 152 (fu (fu (fu (fu (fu dd 38 s38) 37 s37) 11 s11) 9 s9) 8 s8) dd
@[simp] def h84_0 : List Bool := bits 153 [8, 9, 10, 11, 12, 37, 38]
@[simp] def L84_0 (s8 s9 s10 s11 s12 s37 s38 : V) : St := tab 153 152 (fu (fu (fu (fu (fu (fu (fu dd 38 s38) 37 s37) 12 s12) 11 s11) 10 s10) 9 s9) 8 s8) dd
@[simp] def x84_1 : List Bool := bits 153 [8, 9, 10, 11, 12, 37, 38]
@[simp] def X84_1 (s8 s9 s10 s11 s12 s37 s38 : V) : St := tab 153 152 (fu (fu (fu (fu (fu (fu (fu dd 38 s38) 37 s37) 12 s12) 11 s11) 10 s10) 9 s9) 8 s8) dd
@[simp] def x84_2 : List Bool := bits 153 [8, 9, 10, 11, 12, 13, 15, 16, 37, 38, 76, 77]
@[simp] def X84_2 (s8 s9 s10 s11 s12 s13 s15 s16 s37 s38 s76 s77 : V) : St := tab 153 152 (fu (fu (fu (fu (fu (fu (fu (fu (fu (fu (fu (fu dd 77 s77) 76 s76) 38 s38) 37 s37) 16 s16) 15 s15) 13 s13) 12 s12) 11 s11) 10 s10) 9 s9) 8 s8) dd
@[simp] def h84_1 : List Bool := bits 153 [8, 9, 10, 11, 12, 13, 15, 16, 37, 38, 76, 77]
@[simp] def L84_1 (s8 s9 s10 s11 s12 s13 s15 s16 s37 s38 s76 s77 : V) : St := tab 153 152 (fu (fu (fu (fu (fu (fu (fu (fu (fu (fu (fu (fu dd 77 s77) 76 s76) 38 s38) 37 s37) 16 s16) 15 s15) 13 s13) 12 s12) 11 s11) 10 s10) 9 s9) 8 s8) dd
@[simp] def x84_3 : List Bool := bits 153 [8, 9, 10, 11, 12, 13, 15, 16, 37, 38, 76, 77]
@[simp] def X84_3 (s8 s9 s10 s11 s12 s13 s15 s16 s37 s38 s76 s77 : V) : St := tab 153 152 (fu (fu (fu (fu (fu (fu (fu (fu (fu (fu (fu (fu dd 77 s77) 76 s76) 38 s38) 37 s37) 16 s16) 15 s15) 13 s13) 12 s12) 11 s11) 10 s10) 9 s9) 8 s8) dd
def b84_1 : MC := .seq (.scr h84_1)
 (.seq (.seq (.ops [⟨none, .mv 119 (.t 16)⟩,
    ⟨none, .mv 120 (.t 13)⟩,
    ⟨none, .call (some 121) 63 [(.t 119), (.t 120)]⟩,
    ⟨none, .bin 122 .gtr .num (.t 121) (.c (.v (.int .i64 0)))⟩])
  (.cnd (.t 122)
   .skip
   (.seq (.scr x84_2) (.ex 2))))
 (.seq (.blk 3 (.seq (.ops [⟨none, .mv 123 (.t 15)⟩,
    ⟨none, .bin 124 .sub .num (.t 123) (.c (.v (.int .u64 1)))⟩,
    ⟨none, .asg 15 (.t 124)⟩])
  (.ops [⟨none, .mv 125 (.t 16)⟩,
   ⟨none, .mv 126 (.t 10)⟩,
   ⟨none, .call (some 127) 75 [(.t 125), (.t 126)]⟩,
   ⟨none, .asg 16 (.t 127)⟩]))) (.scr x84_3)))
def b84_0 : MC := .seq (.scr h84_0)
 (.seq (.seq (.ops [⟨none, .mv 66 (.t 12)⟩,
    ⟨none, .bin 67 .geq .num (.t 66) (.c (.v (.int .i64 0)))⟩])
  (.cnd (.t 67)
   .skip
   (.seq (.scr x84_0) (.ex 0))))
 (.seq (.seq (.blk 1 (.seq (.ops [⟨none, .mv 70 (.t 9)⟩,
     ⟨none, .mv 71 (.t 12)⟩,
     ⟨none, .mv 72 (.t 9)⟩,
     ⟨none, .len 73 false (.t 72)⟩,
     ⟨none, .mm 74 false (.t 71) (.t 73)⟩,
     ⟨none, .sl 75 1 (.t 70) (some (.t 74)) none⟩,
     ⟨none, .call (some 76) 101 [(.t 75)]⟩,
     ⟨none, .calW 77 85 1 (.t 76)⟩,
     ⟨none, .asg 13 (.t 77)⟩])
   (.seq (.seq (.ops [⟨none, .mv 78 (.t 13)⟩,
      ⟨none, .mv 79 (.t 10)⟩,
      ⟨none, .call (some 80) 63 [(.t 78), (.t 79)]⟩,
      ⟨none, .bin 81 .lss .num (.t 80) (.c (.v (.int .i64 0)))⟩])
    (.cnd (.t 81)
     (.seq (.scr x84_1) (.ex 1))
     .skip))
   (.seq (.ops [⟨none, .mv 82 (.t 13)⟩,
     ⟨none, .mv 83 (.t 13)⟩,
     ⟨none, .len 84 false (.t 83)⟩,
     ⟨none, .bin 85 .sub .num (.t 84) (.c (.v (.int .i64 1)))⟩,
     ⟨none, .ixs 86 1 (.t 82) (.t 85)⟩,
     ⟨none, .ld1 87 (.t 86)⟩,
     ⟨none, .cvi 88 .u64 (.t 87)⟩,
     ⟨none, .asg 14 (.t 88)⟩])
   (.seq (.seq (.ops [⟨none, .mv 89 (.t 13)⟩,
      ⟨none, .len 90 false (.t 89)⟩,
      ⟨none, .mv 91 (.t 10)⟩,
      ⟨none, .len 92 false (.t 91)⟩,
      ⟨none, .bin 93 .gtr .num (.t 90) (.t 92)⟩])
    (.cnd (.t 93)
     (.ops [⟨none, .mv 94 (.t 14)⟩,
      ⟨none, .bin 95 .mul .num (.t 94) (.c (.v (.int .u64 1000000000)))⟩,
      ⟨none, .mv 96 (.t 13)⟩,
      ⟨none, .mv 97 (.t 13)⟩,
      ⟨none, .len 98 false (.t 97)⟩,
      ⟨none, .bin 99 .sub .num (.t 98) (.c (.v (.int .i64 2)))⟩,
      ⟨none, .ixs 100 1 (.t 96) (.t 99)⟩,
      ⟨none, .ld1 101 (.t 100)⟩,
      ⟨none, .cvi 102 .u64 (.t 101)⟩,
      ⟨none, .bin 103 .add .num (.t 95) (.t 102)⟩,
      ⟨none, .asg 14 (.t 103)⟩])
     .skip))
   (.seq (.ops [⟨none, .mv 104 (.t 14)⟩,
     ⟨none, .mv 105 (.t 10)⟩,
     ⟨none, .mv 106 (.t 10)⟩,
     ⟨none, .len 107 false (.t 106)⟩,
     ⟨none, .bin 108 .sub .num (.t 107) (.c (.v (.int .i64 1)))⟩,
     ⟨none, .ixs 109 1 (.t 105) (.t 108)⟩,
     ⟨none, .ld1 110 (.t 109)⟩,
     ⟨none, .cvi 111 .u64 (.t 110)⟩,
     ⟨none, .bin 112 .quo .num (.t 104) (.t 111)⟩,
     ⟨none, .mm 113 false (.t 112) (.c (.v (.int .u64 999999999)))⟩,
     ⟨none, .asg 15 (.t 113)⟩])
   (.seq (.ops [⟨none, .mv 114 (.t 10)⟩,
     ⟨none, .mv 115 (.t 15)⟩,
     ⟨none, .cvi 116 .u32 (.t 115)⟩,
     ⟨none, .bs 117 1 1 [(.v (.int .u32 0))] [(0, 1, (.t 116))]⟩,
     ⟨none, .call (some 118) 66 [(.t 114), (.t 117)]⟩,
     ⟨none, .asg 16 (.t 118)⟩])
   (.seq (.seq (.blk 2 (.lop b84_1)) (.scr x84_2))
   (.seq (.ops [⟨none, .mv 128 (.t 11)⟩,
     ⟨none, .mv 129 (.t 12)⟩,
     ⟨none, .mv 130 (.t 15)⟩,
     ⟨none, .cvi 131 .u32 (.t 130)⟩,
     ⟨none, .ixs 132 1 (.t 128) (.t 129)⟩,
     ⟨none, .stn none 1 (.t 132) (.t 131)⟩])
   (.drw [⟨none, .mv 133 (.t 9)⟩,
    ⟨none, .mv 134 (.t 12)⟩,
    ⟨none, .mv 135 (.t 12)⟩,
    ⟨none, .sl3 136 1 (.t 133) (.t 134) (.t 135)⟩,
    ⟨none, .mv 137 (.t 13)⟩,
    ⟨none, .mv 138 (.t 16)⟩,
    ⟨none, .call (some 139) 75 [(.t 137), (.t 138)]⟩] [⟨none, .app 140 1 (.t 136) (.t 139)⟩,
    ⟨none, .asg 9 (.t 140)⟩])))))))))) (.scr x84_1))
 (.ops [⟨none, .mv 68 (.t 12)⟩,
  ⟨none, .bin 69 .sub .num (.t 68) (.c (.v (.int .i64 1)))⟩,
  ⟨none, .asg 12 (.t 69)⟩])))
def c84 : MF := ⟨(.seq (.ops [⟨none, .asg 4 (.c (.nd (.sl true 1 0) []))⟩,
   ⟨none, .asg 5 (.c (.nd (.sl true 1 0) []))⟩])
 (.seq (.seq (.ops [⟨none, .mv 19 (.t 0)⟩,
    ⟨none, .mv 20 (.t 1)⟩,
    ⟨none, .call (some 21) 63 [(.t 19), (.t 20)]⟩,
    ⟨none, .bin 22 .lss .num (.t 21) (.c (.v (.int .i64 0)))⟩])
  (.cnd (.t 22)
   (.seq (.ops [⟨none, .mv 23 (.t 0)⟩,
     ⟨none, .asg 4 (.c (.nd (.sl true 1 0) []))⟩,
     ⟨none, .asg 5 (.t 23)⟩])
   (.seq (.scr r84) .ret))
   .skip))
 (.seq (.seq (.ops [⟨none, .mv 24 (.t 1)⟩,
    ⟨none, .len 25 false (.t 24)⟩,
    ⟨none, .bin 26 .eql .num (.t 25) (.c (.v (.int .i64 1)))⟩])
  (.cnd (.t 26)
   (.seq (.ops [⟨none, .mv 28 (.t 0)⟩,
     ⟨none, .mv 29 (.t 1)⟩,
     ⟨none, .ixs 30 1 (.t 29) (.c (.v (.int .i64 0)))⟩,
     ⟨none, .ld1 31 (.t 30)⟩,
     ⟨none, .call (some 32) 100 [(.t 28), (.t 31)]⟩,
     ⟨none, .mv 27 (.t 32)⟩,
     ⟨none, .ext 33 (.t 27) 0⟩,
     ⟨none, .ext 34 (.t 27) 1⟩,
     ⟨none, .asg 6 (.t 33)⟩,
     ⟨none, .asg 7 (.t 34)⟩])
   (.seq (.ops [⟨none, .mv 35 (.t 6)⟩,
     ⟨none, .mv 36 (.t 7)⟩,
     ⟨none, .bs 37 1 1 [(.v (.int .u32 0))] [(0, 1, (.t 36))]⟩,
     ⟨none, .calW 38 85 1 (.t 37)⟩,
     ⟨none, .asg 4 (.t 35)⟩,
     ⟨none, .asg 5 (.t 38)⟩])
   (.seq (.scr r84) .ret)))
   .skip))
 (.seq (.ops [⟨none, .mv 39 (.t 1)⟩,
   ⟨none, .mv 40 (.t 1)⟩,
   ⟨none, .len 41 false (.t 40)⟩,
   ⟨none, .bin 42 .sub .num (.t 41) (.c (.v (.int .i64 1)))⟩,
   ⟨none, .ixs 43 1 (.t 39) (.t 42)⟩,
   ⟨none, .ld1 44 (.t 43)⟩,
   ⟨none, .bin 45 .add .num (.t 44) (.c (.v (.int .u32 1)))⟩,
   ⟨none, .bin 46 .quo .num (.c (.v (.int .u32 1000000000))) (.t 45)⟩,
   ⟨none, .bs 47 1 1 [(.v (.int .u32 0))] [(0, 1, (.t 46))]⟩,
   ⟨none, .asg 8 (.t 47)⟩])
 (.seq (.ops [⟨none, .mv 48 (.t 0)⟩,
   ⟨none, .mv 49 (.t 8)⟩,
   ⟨none, .call (some 50) 66 [(.t 48), (.t 49)]⟩,
   ⟨none, .mv 51 (.t 1)⟩,
   ⟨none, .mv 52 (.t 8)⟩,
   ⟨none, .call (some 53) 66 [(.t 51), (.t 52)]⟩,
   ⟨none, .asg 9 (.t 50)⟩,
   ⟨none, .asg 10 (.t 53)⟩])
 (.seq (.ops [⟨none, .mv 54 (.t 9)⟩,
   ⟨none, .len 55 false (.t 54)⟩,
   ⟨none, .mv 56 (.t 10)⟩,
   ⟨none, .len 57 false (.t 56)⟩,
   ⟨none, .bin 58 .sub .num (.t 55) (.t 57)⟩,
   ⟨none, .bin 59 .add .num (.t 58) (.c (.v (.int .i64 1)))⟩,
   ⟨none, .mks 60 1 [(.v (.int .u32 0))] (.t 59) (.t 59)⟩,
   ⟨none, .asg 11 (.t 60)⟩])
 (.seq (.seq (.ops [⟨none, .mv 61 (.t 9)⟩,
    ⟨none, .len 62 false (.t 61)⟩,
    ⟨none, .mv 63 (.t 10)⟩,
    ⟨none, .len 64 false (.t 63)⟩,
    ⟨none, .bin 65 .sub .num (.t 62) (.t 64)⟩,
    ⟨none, .asg 12 (.t 65)⟩])
  (.seq (.blk 0 (.lop b84_0)) (.scr x84_0)))
 (.seq (.drw [⟨none, .mv 142 (.t 9)⟩,
   ⟨none, .calW 143 85 1 (.t 142)⟩,
   ⟨none, .mv 144 (.t 8)⟩,
   ⟨none, .ixs 145 1 (.t 144) (.c (.v (.int .i64 0)))⟩,
   ⟨none, .ld1 146 (.t 145)⟩,
   ⟨none, .call (some 147) 100 [(.t 143), (.t 146)]⟩,
   ⟨none, .mv 141 (.t 147)⟩,
   ⟨none, .exb 148 (.t 141) 0⟩,
   ⟨none, .exb 149 (.t 141) 1⟩,
   ⟨none, .mv 17 (.t 148)⟩] [⟨none, .asg 18 (.t 149)⟩,
   ⟨none, .asg 17 (.t 17)⟩])
 (.seq (.ops [⟨none, .mv 150 (.t 11)⟩,
   ⟨none, .calW 151 85 1 (.t 150)⟩,
   ⟨none, .mv 152 (.t 17)⟩,
   ⟨none, .asg 4 (.t 151)⟩,
   ⟨none, .asg 5 (.t 152)⟩])
 (.seq (.scr r84) .ret)))))))))),
  153, [4, 5]⟩

def hints86 : List (List Bool) := [bits 9 [4]]
@[simp] def r86 : List Bool := bits 9 [4]
@[simp] def R86 (s4 : V) : St := tab 9 5 (fu dd 4 s4) dd
def c86 : MF := ⟨(.seq (.ops [⟨none, .asg 4 (.c (.v (.bool false)))⟩])
 (.seq (.ops [⟨none, .mv 5 (.t 0)⟩,
   ⟨none, .mv 6 (.t 1)⟩,
   ⟨none, .call (some 7) 102 [(.t 5), (.t 6)]⟩,
   ⟨none, .bin 8 .geq .num (.t 7) (.c (.v (.int .i64 0)))⟩,
   ⟨none, .asg 4 (.t 8)⟩])
 (.seq (.scr r86) .ret))),
  9, [4]⟩

def hints87 : List (List Bool) := [bits 6 [2]]
@[simp] def r87 : List Bool := bits 6 [2]
@[simp] def R87 (s2 : V) : St := tab 6 3 (fu dd 2 s2) dd
def c87 : MF := ⟨(.seq (.ops [⟨none, .asg 2 (.c (.v (.bool false)))⟩])
 (.seq (.ops [⟨none, .mv 3 (.t 0)⟩,
   ⟨none, .call (some 4) 88 [(.t 3)]⟩,
   ⟨none, .un 5 .not (.t 4)⟩,
   ⟨none, .asg 2 (.t 5)⟩])
 (.seq (.scr r87) .ret))),
  6, [2]⟩

def hints88 : List (List Bool) := [bits 9 [2]]
@[simp] def r88 : List Bool := bits 9 [2]
@[simp] def R88 (s2 : V) : St := tab 9 3 (fu dd 2 s2) dd
def c88 : MF := ⟨(.seq (.ops [⟨none, .asg 2 (.c (.v (.bool false)))⟩])
 (.seq (.ops [⟨none, .mv 3 (.t 0)⟩,
   ⟨none, .bin 4 .geq .num (.t 3) (.c (.v (.int .i64 1)))⟩,
   ⟨none, .mv 5 (.t 4)⟩,
   ⟨some (5, true), .mv 6 (.t 0)⟩,
   ⟨some (5, true), .bin 7 .leq .num (.t 6) (.c (.v (.int .i64 200000)))⟩,
   ⟨none, .pick 8 (.t 5) (.t 7) (.c (.v (.bool false)))⟩,
   ⟨none, .asg 2 (.t 8)⟩])
 (.seq (.scr r88) .ret))),
  9, [2]⟩

/-- coinage/counting.within -/
abbrev K89 : Nat := 5
def hints89 : List (List Bool) := [bits 12 [4]]
@[simp] def r89 : List Bool := bits 12 [4]
@[simp] def R89 (s4 : V) : St := tab 12 5 (fu dd 4 s4) dd
def c89 : MF := ⟨(.seq (.ops [⟨none, .asg 4 (.c (.v (.bool false)))⟩])
 (.seq (.ops [⟨none, .mv 5 (.t 0)⟩,
   ⟨none, .bin 6 .geq .num (.t 5) (.c (.v (.int .i64 0)))⟩,
   ⟨none, .mv 7 (.t 6)⟩,
   ⟨some (7, true), .mv 8 (.t 0)⟩,
   ⟨some (7, true), .mv 9 (.t 1)⟩,
   ⟨some (7, true), .bin 10 .leq .num (.t 8) (.t 9)⟩,
   ⟨none, .pick 11 (.t 7) (.t 10) (.c (.v (.bool false)))⟩,
   ⟨none, .asg 4 (.t 11)⟩])
 (.seq (.scr r89) .ret))),
  12, [4]⟩

/-- coinage/counting.binomial -/
abbrev K90 : Nat := 22
def hints90 : List (List Bool) := [bits 40 [4], bits 40 [4, 5], bits 40 [0, 4, 5, 20, 21], bits 40 [4, 5], bits 40 [0, 4, 5, 20, 21], bits 40 [4]]
@[simp] def r90 : List Bool := bits 40 [4]
@[simp] def R90 (s4 : V) : St := tab 40 22 (fu dd 4 s4) dd
@[simp] def x90_0 : List Bool := bits 40 [4, 5]
@[simp] def X90_0 (s4 s5 : V) : St := tab 40 22 (fu (fu dd 5 s5) 4 s4) dd
@[simp] def h90_0 : List Bool := bits 40 [0, 4, 5, 20, 21]
@[simp] def L90_0 (s0 s4 s5 s20 s21 : V) : St := tab 40 22 (fu (fu (fu (fu (fu dd 21 s21) 20 s20) 5 s5) 4 s4) 0 s0) dd
@[simp] def x90_1 : List Bool := bits 40 [0, 4, 5, 20, 21]
@[simp] def X90_1 (s0 s4 s5 s20 s21 : V) : St := tab 40 22 (fu (fu (fu (fu (fu dd 21 s21) 20 s20) 5 s5) 4 s4) 0 s0) dd
def b90_0 : MC := .seq (.scr h90_0)
 (.seq (.ops [⟨none, .bin 22 .lss .num (.t 21) (.t 20)⟩])
 (.seq (.cnd (.t 22)
   .skip
   (.seq (.scr x90_0) (.ex 0)))
 (.seq (.seq (.blk 1 (.seq (.ops [⟨none, .mv 23 (.t 21)⟩,
     ⟨none, .asg 6 (.t 23)⟩])
   (.drx [⟨none, .mv 26 (.t 0)⟩,
    ⟨none, .mv 27 (.t 6)⟩,
    ⟨none, .mv 31 (.t 6)⟩,
    ⟨none, .ldn 25 1 (.t 5)⟩,
    ⟨none, .bin 28 .sub .num (.t 26) (.t 27)⟩,
    ⟨none, .call (some 29) 103 [(.t 28)]⟩,
    ⟨none, .call (some 30) 35 [(.t 25), (.t 29)]⟩,
    ⟨none, .bin 32 .add .num (.t 31) (.c (.v (.int .i64 1)))⟩,
    ⟨none, .call (some 33) 103 [(.t 32)]⟩,
    ⟨none, .call (some 34) 62 [(.t 30), (.t 33)]⟩,
    ⟨none, .mv 24 (.t 34)⟩,
    ⟨none, .exb 35 (.t 24) 0⟩,
    ⟨none, .exb 36 (.t 24) 1⟩,
    ⟨none, .exb 37 (.t 24) 2⟩] [(⟨none, .stn none 1 (.t 5) (.t 35)⟩, [⟨none, .exb 36 (.t 24) 1⟩, ⟨none, .exb 37 (.t 24) 2⟩])] []))) (.scr x90_1))
 (.ops [⟨none, .bin 38 .add .num (.t 21) (.c (.v (.int .i64 1)))⟩,
  ⟨none, .mv 21 (.t 38)⟩]))))
def c90 : MF := ⟨(.seq (.ops [⟨none, .alc 4 [(.nd (.sl true 1 0) [])]⟩])
 (.seq (.seq (.ops [⟨none, .mv 7 (.t 1)⟩,
    ⟨none, .bin 8 .lss .num (.t 7) (.c (.v (.int .i64 0)))⟩,
    ⟨none, .mv 9 (.t 8)⟩,
    ⟨some (9, false), .mv 10 (.t 1)⟩,
    ⟨some (9, false), .mv 11 (.t 0)⟩,
    ⟨some (9, false), .bin 12 .gtr .num (.t 10) (.t 11)⟩,
    ⟨none, .pick 13 (.t 9) (.c (.v (.bool true))) (.t 12)⟩])
  (.cnd (.t 13)
   (.seq (.ops [⟨none, .call (some 14) 103 [(.c (.v (.int .i64 0)))]⟩,
     ⟨none, .stn none 1 (.t 4) (.t 14)⟩])
   (.seq (.scr r90) .ret))
   .skip))
 (.seq (.ops [⟨none, .call (some 15) 103 [(.c (.v (.int .i64 1)))]⟩,
   ⟨none, .alc 5 [(.nd (.sl true 1 0) [])]⟩,
   ⟨none, .stn none 1 (.t 5) (.t 15)⟩])
 (.seq (.seq (.ops [⟨none, .mv 16 (.t 1)⟩,
    ⟨none, .mv 17 (.t 0)⟩,
    ⟨none, .mv 18 (.t 1)⟩,
    ⟨none, .bin 19 .sub .num (.t 17) (.t 18)⟩,
    ⟨none, .mm 20 false (.t 16) (.t 19)⟩,
    ⟨none, .mv 21 (.c (.v (.int .i64 0)))⟩])
  (.seq (.blk 0 (.lop b90_0)) (.scr x90_0)))
 (.seq (.ops [⟨none, .ldn 39 1 (.t 5)⟩,
   ⟨none, .stn none 1 (.t 4) (.t 39)⟩])
 (.seq (.scr r90) .ret)))))),
  40, [4, 1, 1000000]⟩

def hints91 : List (List Bool) := [bits 20 [4, 5], bits 20 [4, 5], bits 20 [4, 5]]
@[simp] def r91 : List Bool := bits 20 [4, 5]
@[simp] def R91 (s4 s5 : V) : St := tab 20 6 (fu (fu dd 5 s5) 4 s4) dd
def c91 : MF := ⟨(.seq (.ops [⟨none, .alc 4 [(.nd (.sl true 1 0) [])]⟩,
   ⟨none, .asg 5 (.c (.v (.int .i64 0)))⟩])
 (.seq (.seq (.ops [⟨none, .mv 6 (.t 0)⟩,
    ⟨none, .call (some 7) 89 [(.t 6), (.c (.v (.int .i64 64)))]⟩,
    ⟨none, .un 8 .not (.t 7)⟩])
  (.cnd (.t 8)
   (.seq (.ops [⟨none, .bld 9 [(.nd (.sl true 1 0) [])] []⟩,
     ⟨none, .stn none 1 (.t 4) (.t 9)⟩,
     ⟨none, .asg 5 (.c (.v (.int .i64 2)))⟩])
   (.seq (.scr r91) .ret))
   .skip))
 (.seq (.seq (.ops [⟨none, .mv 10 (.t 1)⟩,
    ⟨none, .mv 11 (.t 0)⟩,
    ⟨none, .call (some 12) 89 [(.t 10), (.t 11)]⟩,
    ⟨none, .un 13 .not (.t 12)⟩])
  (.cnd (.t 13)
   (.seq (.ops [⟨none, .call (some 14) 103 [(.c (.v (.int .i64 0)))]⟩,
     ⟨none, .stn none 1 (.t 4) (.t 14)⟩,
     ⟨none, .asg 5 (.c (.v (.int .i64 0)))⟩])
   (.seq (.scr r91) .ret))
   .skip))
 (.seq (.ops [⟨none, .mv 15 (.t 0)⟩,
   ⟨none, .call (some 16) 104 [(.t 15)]⟩,
   ⟨none, .mv 17 (.t 1)⟩,
   ⟨none, .ixs 18 1 (.t 16) (.t 17)⟩,
   ⟨none, .ldn 19 1 (.t 18)⟩,
   ⟨none, .stn none 1 (.t 4) (.t 19)⟩,
   ⟨none, .asg 5 (.c (.v (.int .i64 0)))⟩])
 (.seq (.scr r91) .ret))))),
  20, [1000001, 2, 4, 0, 5]⟩

def hints92 : List (List Bool) := [bits 21 [4, 5], bits 21 [0, 4, 5, 8, 9], bits 21 [4, 5], bits 21 [0, 4, 5, 8, 9], bits 21 [4]]
@[simp] def r92 : List Bool := bits 21 [4]
@[simp] def R92 (s4 : V) : St := tab 21 10 (fu dd 4 s4) dd
@[simp] def x92_0 : List Bool := bits 21 [4, 5]
@[simp] def X92_0 (s4 s5 : V) : St := tab 21 10 (fu (fu dd 5 s5) 4 s4) dd
@[simp] def h92_0 : List Bool := bits 21 [0, 4, 5, 8, 9]
@[simp] def L92_0 (s0 s4 s5 s8 s9 : V) : St := tab 21 10 (fu (fu (fu (fu (fu dd 9 s9) 8 s8) 5 s5) 4 s4) 0 s0) dd
@[simp] def x92_1 : List Bool := bits 21 [0, 4, 5, 8, 9]
@[simp] def X92_1 (s0 s4 s5 s8 s9 : V) : St := tab 21 10 (fu (fu (fu (fu (fu dd 9 s9) 8 s8) 5 s5) 4 s4) 0 s0) dd
def b92_0 : MC := .seq (.scr h92_0)
 (.seq (.ops [⟨none, .bin 10 .lss .num (.t 9) (.t 8)⟩])
 (.seq (.cnd (.t 10)
   .skip
   (.seq (.scr x92_0) (.ex 0)))
 (.seq (.seq (.blk 1 (.seq (.ops [⟨none, .mv 11 (.t 9)⟩,
     ⟨none, .asg 6 (.t 11)⟩])
   (.drw [⟨none, .ldn 12 1 (.t 5)⟩,
    ⟨none, .mv 13 (.t 0)⟩,
    ⟨none, .mv 14 (.t 6)⟩,
    ⟨none, .bin 15 .sub .num (.t 13) (.t 14)⟩,
    ⟨none, .mm 16 true (.t 15) (.c (.v (.int .i64 0)))⟩,
    ⟨none, .call (some 17) 103 [(.t 16)]⟩] [⟨none, .call (some 18) 35 [(.t 12), (.t 17)]⟩,
    ⟨none, .stn none 1 (.t 5) (.t 18)⟩]))) (.scr x92_1))
 (.ops [⟨none, .bin 19 .add .num (.t 9) (.c (.v (.int .i64 1)))⟩,
  ⟨none, .mv 9 (.t 19)⟩]))))
def c92 : MF := ⟨(.seq (.ops [⟨none, .alc 4 [(.nd (.sl true 1 0) [])]⟩])
 (.seq (.ops [⟨none, .call (some 7) 103 [(.c (.v (.int .i64 1)))]⟩,
   ⟨none, .alc 5 [(.nd (.sl true 1 0) [])]⟩,
   ⟨none, .stn none 1 (.t 5) (.t 7)⟩])
 (.seq (.seq (.ops [⟨none, .mv 8 (.t 1)⟩,
    ⟨none, .mv 9 (.c (.v (.int .i64 0)))⟩])
  (.seq (.blk 0 (.lop b92_0)) (.scr x92_0)))
 (.seq (.ops [⟨none, .ldn 20 1 (.t 5)⟩,
   ⟨none, .stn none 1 (.t 4) (.t 20)⟩])
 (.seq (.scr r92) .ret))))),
  21, [4, 1, 1000000]⟩

def hints93 : List (List Bool) := [bits 6 [2]]
@[simp] def r93 : List Bool := bits 6 [2]
@[simp] def R93 (s2 : V) : St := tab 6 3 (fu dd 2 s2) dd
def c93 : MF := ⟨(.seq (.ops [⟨none, .sl0 1 0 (.t 0)⟩,
   ⟨none, .asg 2 (.c (.v (.int .i64 0)))⟩])
 (.seq (.ops [⟨none, .ldn 3 1 (.t 1)⟩,
   ⟨none, .call (some 4) 59 [(.t 3)]⟩,
   ⟨none, .len 5 true (.t 4)⟩,
   ⟨none, .asg 2 (.t 5)⟩])
 (.seq (.scr r93) .ret))),
  6, [2]⟩

def hints100 : List (List Bool) := [bits 43 [6, 7], bits 43 [0, 1, 6, 7, 8], bits 43 [6, 7], bits 43 [0, 1, 6, 7, 8], bits 43 [4, 5, 6, 39, 40]]
@[simp] def r100 : List Bool := bits 43 [4, 5, 6, 39, 40]
@[simp] def R100 (s4 s5 s6 s39 s40 : V) : St := tab 43 41 (fu (fu (fu (fu (fu dd 40 s40) 39 s39) 6 s6) 5 s5) 4 s4) dd
@[simp] def x100_0 : List Bool := bits 43 [6, 7]
@[simp] def X100_0 (s6 s7 : V) : St := tab 43 41 (fu (fu dd 7 s7) 6 s6) dd
@[simp] def h100_0 : List Bool := bits 43 [0, 1, 6, 7, 8]
@[simp] def L100_0 (s0 s1 s6 s7 s8 : V) : St := tab 43 41 (fu (fu (fu (fu (fu dd 8 s8) 7 s7) 6 s6) 1 s1) 0 s0) dd
@[simp] def x100_1 : List Bool := bits 43 [0, 1, 6, 7, 8]
@[simp] def X100_1 (s0 s1 s6 s7 s8 : V) : St := tab 43 41 (fu (fu (fu (fu (fu dd 8 s8) 7 s7) 6 s6) 1 s1) 0 s0) dd
def b100_0 : MC := .seq (.scr h100_0)
 (.seq (.seq (.ops [⟨none, .mv 15 (.t 8)⟩,
    ⟨none, .bin 16 .geq .num (.t 15) (.c (.v (.int .i64 0)))⟩])
  (.cnd (.t 16)
   .skip
   (.seq (.scr x100_0) (.ex 0))))
 (.seq (.seq (.blk 1 (.seq (.ops [⟨none, .mv 19 (.t 7)⟩,
     ⟨none, .bin 20 .mul .num (.t 19) (.c (.v (.int .u64 1000000000)))⟩,
     ⟨none, .mv 21 (.t 0)⟩,
     ⟨none, .mv 22 (.t 8)⟩,
     ⟨none, .ixs 23 1 (.t 21) (.t 22)⟩,
     ⟨none, .ld1 24 (.t 23)⟩,
     ⟨none, .cvi 25 .u64 (.t 24)⟩,
     ⟨none, .bin 26 .add .num (.t 20) (.t 25)⟩,
     ⟨none, .asg 7 (.t 26)⟩])
   (.seq (.ops [⟨none, .mv 27 (.t 6)⟩,
     ⟨none, .mv 28 (.t 8)⟩,
     ⟨none, .mv 29 (.t 7)⟩,
     ⟨none, .mv 30 (.t 1)⟩,
     ⟨none, .cvi 31 .u64 (.t 30)⟩,
     ⟨none, .bin 32 .quo .num (.t 29) (.t 31)⟩,
     ⟨none, .cvi 33 .u32 (.t 32)⟩,
     ⟨none, .ixs 34 1 (.t 27) (.t 28)⟩,
     ⟨none, .stn none 1 (.t 34) (.t 33)⟩])
   (.ops [⟨none, .mv 35 (.t 7)⟩,
    ⟨none, .mv 36 (.t 1)⟩,
    ⟨none, .cvi 37 .u64 (.t 36)⟩,
    ⟨none, .bin 38 .rem .num (.t 35) (.t 37)⟩,
    ⟨none, .asg 7 (.t 38)⟩])))) (.scr x100_1))
 (.ops [⟨none, .mv 17 (.t 8)⟩,
  ⟨none, .bin 18 .sub .num (.t 17) (.c (.v (.int .i64 1)))⟩,
  ⟨none, .asg 8 (.t 18)⟩])))
def c100 : MF := ⟨(.seq (.ops [⟨none, .asg 4 (.c (.nd (.sl true 1 0) []))⟩,
   ⟨none, .asg 5 (.c (.v (.int .u32 0)))⟩])
 (.seq (.ops [⟨none, .mv 9 (.t 0)⟩,
   ⟨none, .len 10 false (.t 9)⟩,
   ⟨none, .mks 11 1 [(.v (.int .u32 0))] (.t 10) (.t 10)⟩,
   ⟨none, .asg 6 (.t 11)⟩])
 (.seq (.ops [⟨none, .asg 7 (.c (.v (.int .u64 0)))⟩])
 (.seq (.seq (.ops [⟨none, .mv 12 (.t 0)⟩,
    ⟨none, .len 13 false (.t 12)⟩,
    ⟨none, .bin 14 .sub .num (.t 13) (.c (.v (.int .i64 1)))⟩,
    ⟨none, .asg 8 (.t 14)⟩])
  (.seq (.blk 0 (.lop b100_0)) (.scr x100_0)))
 (.seq (.ops [⟨none, .mv 39 (.t 6)⟩,
   ⟨none, .calW 40 85 1 (.t 39)⟩,
   ⟨none, .mv 41 (.t 7)⟩,
   ⟨none, .cvi 42 .u32 (.t 41)⟩,
   ⟨none, .asg 4 (.t 40)⟩,
   ⟨none, .asg 5 (.t 42)⟩])
 (.seq (.scr r100) .ret)))))),
  43, [4, 5]⟩

def hints101 : List (List Bool) := [bits 8 [2], bits 8 [2]]
@[simp] def r101 : List Bool := bits 8 [2]
@[simp] def R101 (s2 : V) : St := tab 8 3 (fu dd 2 s2) dd
def c101 : MF := ⟨(.seq (.ops [⟨none, .asg 2 (.c (.nd (.sl true 1 0) []))⟩])
 (.seq (.seq (.ops [⟨none, .mv 3 (.t 0)⟩,
    ⟨none, .bin 4 .eql (.nilT false) (.t 3) (.c (.nd (.sl true 0 0) []))⟩])
  (.cnd (.t 4)
   (.seq (.ops [⟨none, .asg 2 (.c (.nd (.sl true 1 0) []))⟩])
   (.seq (.scr r101) .ret))
   .skip))
 (.seq (.ops [⟨none, .mz 5 1⟩,
   ⟨none, .mv 6 (.t 0)⟩,
   ⟨none, .app 7 1 (.t 5) (.t 6)⟩,
   ⟨none, .asg 2 (.t 7)⟩])
 (.seq (.scr r101) .ret)))),
  8, [2]⟩

def hints102 : List (List Bool) := [bits 19 [], bits 19 [0, 1, 7, 8], bits 19 [], bits 19 [0, 1, 7, 8], bits 19 [4], bits 19 [4]]
@[simp] def r102 : List Bool := bits 19 [4]
@[simp] def R102 (s4 : V) : St := tab 19 9 (fu dd 4 s4) dd
@[simp] def x102_0 : List Bool := bits 19 []
@[simp] def X102_0 : St := tab 19 9 dd dd
@[simp] def h102_0 : List Bool := bits 19 [0, 1, 7, 8]
@[simp] def L102_0 (s0 s1 s7 s8 : V) : St := tab 19 9 (fu (fu (fu (fu dd 8 s8) 7 s7) 1 s1) 0 s0) dd
@[simp] def x102_1 : List Bool := bits 19 [0, 1, 7, 8]
@[simp] def X102_1 (s0 s1 s7 s8 : V) : St := tab 19 9 (fu (fu (fu (fu dd 8 s8) 7 s7) 1 s1) 0 s0) dd
def b102_0 : MC := .seq (.scr h102_0)
 (.seq (.ops [⟨none, .bin 9 .lss .num (.t 8) (.t 7)⟩])
 (.seq (.cnd (.t 9)
   .skip
   (.seq (.scr x102_0) (.ex 0)))
 (.seq (.seq (.blk 1 (.seq (.ops [⟨none, .mv 10 (.t 8)⟩,
     ⟨none, .asg 5 (.t 10)⟩])
   (.seq (.ops [⟨none, .mv 11 (.t 1)⟩,
     ⟨none, .mv 12 (.t 0)⟩,
     ⟨none, .mv 13 (.t 5)⟩,
     ⟨none, .ixs 14 1 (.t 12) (.t 13)⟩,
     ⟨none, .ld1 15 (.t 14)⟩,
     ⟨none, .calv (some 16) (.t 11) [(.t 15)]⟩])
   (.cnd (.t 16)
    (.seq (.ops [⟨none, .mv 17 (.t 5)⟩,
      ⟨none, .asg 4 (.t 17)⟩])
    (.seq (.scr r102) .ret))
    .skip)))) (.scr x102_1))
 (.ops [⟨none, .bin 18 .add .num (.t 8) (.c (.v (.int .i64 1)))⟩,
  ⟨none, .mv 8 (.t 18)⟩]))))
def c102 : MF := ⟨(.seq (.ops [⟨none, .asg 4 (.c (.v (.int .i64 0)))⟩])
 (.seq (.seq (.ops [⟨none, .mv 6 (.t 0)⟩,
    ⟨none, .len 7 false (.t 6)⟩,
    ⟨none, .mv 8 (.c (.v (.int .i64 0)))⟩])
  (.seq (.blk 0 (.lop b102_0)) (.scr x102_0)))
 (.seq (.ops [⟨none, .asg 4 (.c (.v (.int .i64 (-1))))⟩])
 (.seq (.scr r102) .ret)))),
  19, [4]⟩

/-- coinage/counting.of -/
abbrev K103 : Nat := 3
def hints103 : List (List Bool) := [bits 6 [2]]
@[simp] def r103 : List Bool := bits 6 [2]
@[simp] def R103 (s2 : V) : St := tab 6 3 (fu dd 2 s2) dd
def c103 : MF := ⟨(.seq (.ops [⟨none, .alc 2 [(.nd (.sl true 1 0) [])]⟩])
 (.seq (.ops [⟨none, .mv 3 (.t 0)⟩,
   ⟨none, .cvi 4 .u64 (.t 3)⟩,
   ⟨none, .call (some 5) 60 [(.t 4)]⟩,
   ⟨none, .stn none 1 (.t 2) (.t 5)⟩])
 (.seq (.scr r103) .ret))),
  6, [2, 1, 1000000]⟩

def hints104 : List (List Bool) := [bits 47 [3, 5, 44], bits 47 [3, 5, 10, 11, 44], bits 47 [3, 5, 44], bits 47 [3, 5, 10, 11, 44], bits 47 [5, 10, 11], bits 47 [3, 4, 5, 6, 10, 11, 44], bits 47 [5, 10, 11], bits 47 [3, 4, 5, 6, 10, 11, 44], bits 47 [2]]
@[simp] def r104 : List Bool := bits 47 [2]
@[simp] def R104 (s2 : V) : St := tab 47 45 (fu dd 2 s2) dd
@[simp] def x104_0 : List Bool := bits 47 [3, 5, 44]
@[simp] def X104_0 (s3 s5 s44 : V) : St := tab 47 45 (fu (fu (fu dd 44 s44) 5 s5) 3 s3) dd
@[simp] def h104_0 : List Bool := bits 47 [3, 5, 10, 11, 44]
@[simp] def L104_0 (s3 s5 s10 s11 s44 : V) : St := tab 47 45 (fu (fu (fu (fu (fu dd 44 s44) 11 s11) 10 s10) 5 s5) 3 s3) dd
@[simp] def x104_1 : List Bool := bits 47 [3, 5, 10, 11, 44]
@[simp] def X104_1 (s3 s5 s10 s11 s44 : V) : St := tab 47 45 (fu (fu (fu (fu (fu dd 44 s44) 11 s11) 10 s10) 5 s5) 3 s3) dd
@[simp] def x104_2 : List Bool := bits 47 [5, 10, 11]
@[simp] def X104_2 (s5 s10 s11 : V) : St := tab 47 45 (fu (fu (fu dd 11 s11) 10 s10) 5 s5) dd
@[simp] def h104_1 : List Bool := bits 47 [3, 4, 5, 6, 10, 11, 44]
@[simp] def L104_1 (s3 s4 s5 s6 s10 s11 s44 : V) : St := tab 47 45 (fu (fu (fu (fu (fu (fu (fu dd 44 s44) 11 s11) 10 s10) 6 s6) 5 s5) 4 s4) 3 s3) dd
@[simp] def x104_3 : List Bool := bits 47 [3, 4, 5, 6, 10, 11, 44]
@[simp] def X104_3 (s3 s4 s5 s6 s10 s11 s44 : V) : St := tab 47 45 (fu (fu (fu (fu (fu (fu (fu dd 44 s44) 11 s11) 10 s10) 6 s6) 5 s5) 4 s4) 3 s3) dd
def b104_1 : MC := .seq (.scr h104_1)
 (.seq (.seq (.ops [⟨none, .mv 16 (.t 6)⟩,
    ⟨none, .mv 17 (.t 4)⟩,
    ⟨none, .bin 18 .add .num (.t 17) (.c (.v (.int .i64 1)))⟩,
    ⟨none, .bin 19 .leq .num (.t 16) (.t 18)⟩])
  (.cnd (.t 19)
   .skip
   (.seq (.scr x104_2) (.ex 2))))
 (.seq (.seq (.blk 3 (.seq (.ops [⟨none, .mv 22 (.t 3)⟩,
     ⟨none, .mv 23 (.t 6)⟩,
     ⟨none, .bin 24 .sub .num (.t 23) (.c (.v (.int .i64 1)))⟩,
     ⟨none, .ixs 25 1 (.t 22) (.t 24)⟩,
     ⟨none, .ldn 26 1 (.t 25)⟩,
     ⟨none, .alc 7 [(.nd (.sl true 1 0) [])]⟩,
     ⟨none, .stn none 1 (.t 7) (.t 26)⟩])
   (.seq (.seq (.ops [⟨none, .mv 27 (.t 6)⟩,
      ⟨none, .mv 28 (.t 3)⟩,
      ⟨none, .len 29 false (.t 28)⟩,
      ⟨none, .bin 30 .lss .num (.t 27) (.t 29)⟩])
    (.cnd (.t 30)
     (.drw [⟨none, .ldn 31 1 (.t 7)⟩,
      ⟨none, .mv 32 (.t 6)⟩,
      ⟨none, .call (some 33) 103 [(.t 32)]⟩,
      ⟨none, .mv 34 (.t 3)⟩,
      ⟨none, .mv 35 (.t 6)⟩,
      ⟨none, .ixs 36 1 (.t 34) (.t 35)⟩,
      ⟨none, .ldn 37 1 (.t 36)⟩,
      ⟨none, .call (some 38) 35 [(.t 33), (.t 37)]⟩] [⟨none, .call (some 39) 53 [(.t 31), (.t 38)]⟩,
      ⟨none, .stn none 1 (.t 7) (.t 39)⟩])
     .skip))
   (.ops [⟨none, .mv 40 (.t 5)⟩,
    ⟨none, .ldn 41 1 (.t 7)⟩,
    ⟨none, .bs 42 1 1 [(.nd (.sl true 1 0) [])] [(0, 1, (.t 41))]⟩,
    ⟨none, .app 43 1 (.t 40) (.t 42)⟩,
    ⟨none, .asg 5 (.t 43)⟩])))) (.scr x104_3))
 (.ops [⟨none, .mv 20 (.t 6)⟩,
  ⟨none, .bin 21 .add .num (.t 20) (.c (.v (.int .i64 1)))⟩,
  ⟨none, .asg 6 (.t 21)⟩])))
def b104_0 : MC := .seq (.scr h104_0)
 (.seq (.ops [⟨none, .bin 12 .lss .num (.t 11) (.t 10)⟩])
 (.seq (.cnd (.t 12)
   .skip
   (.seq (.scr x104_0) (.ex 0)))
 (.seq (.seq (.blk 1 (.seq (.ops [⟨none, .mv 13 (.t 11)⟩,
     ⟨none, .asg 4 (.t 13)⟩])
   (.seq (.ops [⟨none, .call (some 14) 103 [(.c (.v (.int .i64 0)))]⟩,
     ⟨none, .bs 15 1 1 [(.nd (.sl true 1 0) [])] [(0, 1, (.t 14))]⟩,
     ⟨none, .asg 5 (.t 15)⟩])
   (.seq (.seq (.ops [⟨none, .asg 6 (.c (.v (.int .i64 1)))⟩])
    (.seq (.blk 2 (.lop b104_1)) (.scr x104_2)))
   (.ops [⟨none, .mv 44 (.t 5)⟩,
    ⟨none, .asg 3 (.t 44)⟩]))))) (.scr x104_1))
 (.ops [⟨none, .bin 45 .add .num (.t 11) (.c (.v (.int .i64 1)))⟩,
  ⟨none, .mv 11 (.t 45)⟩]))))
def c104 : MF := ⟨(.seq (.ops [⟨none, .asg 2 (.c (.nd (.sl true 1 0) []))⟩])
 (.seq (.ops [⟨none, .call (some 8) 103 [(.c (.v (.int .i64 1)))]⟩,
   ⟨none, .bs 9 1 1 [(.nd (.sl true 1 0) [])] [(0, 1, (.t 8))]⟩,
   ⟨none, .asg 3 (.t 9)⟩])
 (.seq (.seq (.ops [⟨none, .mv 10 (.t 0)⟩,
    ⟨none, .mv 11 (.c (.v (.int .i64 0)))⟩])
  (.seq (.blk 0 (.lop b104_0)) (.scr x104_0)))
 (.seq (.ops [⟨none, .mv 46 (.t 3)⟩,
   ⟨none, .asg 2 (.t 46)⟩])
 (.seq (.scr r104) .ret))))),
  47, [2]⟩


theorem comp84 : compF Go.Proofs.Tryd.prog hints84 84 = some c84 := by kernel_rfl
theorem comp86 : compF Go.Proofs.Tryd.prog hints86 86 = some c86 := by kernel_rfl
theorem comp87 : compF Go.Proofs.Tryd.prog hints87 87 = some c87 := by kernel_rfl
theorem comp88 : compF Go.Proofs.Tryd.prog hints88 88 = some c88 := by kernel_rfl
theorem comp89 : compF Go.Proofs.Tryd.prog hints89 89 = some c89 := by kernel_rfl
theorem comp90 : compF Go.Proofs.Tryd.prog hints90 90 = some c90 := by kernel_rfl
theorem comp91 : compF Go.Proofs.Tryd.prog hints91 91 = some c91 := by kernel_rfl
theorem comp92 : compF Go.Proofs.Tryd.prog hints92 92 = some c92 := by kernel_rfl
theorem comp93 : compF Go.Proofs.Tryd.prog hints93 93 = some c93 := by kernel_rfl
theorem comp100 : compF Go.Proofs.Tryd.prog hints100 100 = some c100 := by kernel_rfl
theorem comp101 : compF Go.Proofs.Tryd.prog hints101 101 = some c101 := by kernel_rfl
theorem comp102 : compF Go.Proofs.Tryd.prog hints102 102 = some c102 := by kernel_rfl
theorem comp103 : compF Go.Proofs.Tryd.prog hints103 103 = some c103 := by kernel_rfl
theorem comp104 : compF Go.Proofs.Tryd.prog hints104 104 = some c104 := by kernel_rfl

def tbl : FuncId → Option MF
  | 3 => some c3
  | 4 => some c4
  | 5 => some c5
  | 6 => some c6
  | 7 => some c7
  | 8 => some c8
  | 9 => some c9
  | 10 => some c10
  | 11 => some c11
  | 12 => some c12
  | 13 => some c13
  | 14 => some c14
  | 15 => some c15
  | 16 => some c16
  | 17 => some c17
  | 18 => some c18
  | 19 => some c19
  | 20 => some c20
  | 21 => some c21
  | 22 => some c22
  | 23 => some c23
  | 24 => some c24
  | 25 => some c25
  | 26 => some c26
  | 27 => some c27
  | 28 => some c28
  | 29 => some c29
  | 30 => some c30
  | 31 => some c31
  | 32 => some c32
  | 33 => some c33
  | 34 => some c34
  | 35 => some c35
  | 36 => some c36
  | 37 => some c37
  | 38 => some c38
  | 39 => some c39
  | 40 => some c40
  | 41 => some c41
  | 42 => some c42
  | 43 => some c43
  | 44 => some c44
  | 45 => some c45
  | 46 => some c46
  | 47 => some c47
  | 48 => some c48
  | 49 => some c49
  | 50 => some c50
  | 51 => some c51
  | 52 => some c52
  | 53 => some c53
  | 54 => some c54
  | 55 => some c55
  | 56 => some c56
  | 57 => some c57
  | 58 => some c58
  | 60 => some c60
  | 61 => some c61
  | 62 => some c62
  | 63 => some c63
  | 64 => some c64
  | 65 => some c65
  | 66 => some c66
  | 67 => some c67
  | 68 => some c68
  | 69 => some c69
  | 70 => some c70
  | 71 => some c71
  | 72 => some c72
  | 73 => some c73
  | 74 => some c74
  | 75 => some c75
  | 76 => some c76
  | 77 => some c77
  | 78 => some c78
  | 79 => some c79
  | 84 => some c84
  | 86 => some c86
  | 87 => some c87
  | 88 => some c88
  | 89 => some c89
  | 90 => some c90
  | 91 => some c91
  | 92 => some c92
  | 93 => some c93
  | 100 => some c100
  | 101 => some c101
  | 102 => some c102
  | 103 => some c103
  | 104 => some c104
  | _ => none

theorem tbl_ok (f : FuncId) (mf : MF) (h : tbl f = some mf) : ∃ hints, compF Go.Proofs.Tryd.prog hints f = some mf := by
  unfold tbl at h
  split at h
  · cases h; exact ⟨_, comp3⟩
  · cases h; exact ⟨_, comp4⟩
  · cases h; exact ⟨_, comp5⟩
  · cases h; exact ⟨_, comp6⟩
  · cases h; exact ⟨_, comp7⟩
  · cases h; exact ⟨_, comp8⟩
  · cases h; exact ⟨_, comp9⟩
  · cases h; exact ⟨_, comp10⟩
  · cases h; exact ⟨_, comp11⟩
  · cases h; exact ⟨_, comp12⟩
  · cases h; exact ⟨_, comp13⟩
  · cases h; exact ⟨_, comp14⟩
  · cases h; exact ⟨_, comp15⟩
  · cases h; exact ⟨_, comp16⟩
  · cases h; exact ⟨_, comp17⟩
  · cases h; exact ⟨_, comp18⟩
  · cases h; exact ⟨_, comp19⟩
  · cases h; exact ⟨_, comp20⟩
  · cases h; exact ⟨_, comp21⟩
  · cases h; exact ⟨_, comp22⟩
  · cases h; exact ⟨_, comp23⟩
  · cases h; exact ⟨_, comp24⟩
  · cases h; exact ⟨_, comp25⟩
  · cases h; exact ⟨_, comp26⟩
  · cases h; exact ⟨_, comp27⟩
  · cases h; exact ⟨_, comp28⟩
  · cases h; exact ⟨_, comp29⟩
  · cases h; exact ⟨_, comp30⟩
  · cases h; exact ⟨_, comp31⟩
  · cases h; exact ⟨_, comp32⟩
  · cases h; exact ⟨_, comp33⟩
  · cases h; exact ⟨_, comp34⟩
  · cases h; exact ⟨_, comp35⟩
  · cases h; exact ⟨_, comp36⟩
  · cases h; exact ⟨_, comp37⟩
  · cases h; exact ⟨_, comp38⟩
  · cases h; exact ⟨_, comp39⟩
  · cases h; exact ⟨_, comp40⟩
  · cases h; exact ⟨_, comp41⟩
  · cases h; exact ⟨_, comp42⟩
  · cases h; exact ⟨_, comp43⟩
  · cases h; exact ⟨_, comp44⟩
  · cases h; exact ⟨_, comp45⟩
  · cases h; exact ⟨_, comp46⟩
  · cases h; exact ⟨_, comp47⟩
  · cases h; exact ⟨_, comp48⟩
  · cases h; exact ⟨_, comp49⟩
  · cases h; exact ⟨_, comp50⟩
  · cases h; exact ⟨_, comp51⟩
  · cases h; exact ⟨_, comp52⟩
  · cases h; exact ⟨_, comp53⟩
  · cases h; exact ⟨_, comp54⟩
  · cases h; exact ⟨_, comp55⟩
  · cases h; exact ⟨_, comp56⟩
  · cases h; exact ⟨_, comp57⟩
  · cases h; exact ⟨_, comp58⟩
  · cases h; exact ⟨_, comp60⟩
  · cases h; exact ⟨_, comp61⟩
  · cases h; exact ⟨_, comp62⟩
  · cases h; exact ⟨_, comp63⟩
  · cases h; exact ⟨_, comp64⟩
  · cases h; exact ⟨_, comp65⟩
  · cases h; exact ⟨_, comp66⟩
  · cases h; exact ⟨_, comp67⟩
  · cases h; exact ⟨_, comp68⟩
  · cases h; exact ⟨_, comp69⟩
  · cases h; exact ⟨_, comp70⟩
  · cases h; exact ⟨_, comp71⟩
  · cases h; exact ⟨_, comp72⟩
  · cases h; exact ⟨_, comp73⟩
  · cases h; exact ⟨_, comp74⟩
  · cases h; exact ⟨_, comp75⟩
  · cases h; exact ⟨_, comp76⟩
  · cases h; exact ⟨_, comp77⟩
  · cases h; exact ⟨_, comp78⟩
  · cases h; exact ⟨_, comp79⟩
  · cases h; exact ⟨_, comp84⟩
  · cases h; exact ⟨_, comp86⟩
  · cases h; exact ⟨_, comp87⟩
  · cases h; exact ⟨_, comp88⟩
  · cases h; exact ⟨_, comp89⟩
  · cases h; exact ⟨_, comp90⟩
  · cases h; exact ⟨_, comp91⟩
  · cases h; exact ⟨_, comp92⟩
  · cases h; exact ⟨_, comp93⟩
  · cases h; exact ⟨_, comp100⟩
  · cases h; exact ⟨_, comp101⟩
  · cases h; exact ⟨_, comp102⟩
  · cases h; exact ⟨_, comp103⟩
  · cases h; exact ⟨_, comp104⟩
  · cases h

end Go.Mx
