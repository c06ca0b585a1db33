import Derived.Test.YtnmdjhmhdpiecaaMxRa
import Derived.KernelRfl
import Derived.Test.YtnmdjhmhdpiecaaChecked
/-
  The functions of this chapter in the machine's code, and that the given program's code is this one. Printed by a program of this repo (gencodes.py).
-/
namespace Go.Mx
set_option linter.unusedVariables false
set_option linter.unusedSimpArgs false
set_option linter.unusedSectionVars false
open Go

/-- coinage/coinagelaw23.SequenceAll -/
abbrev K3 : Nat := 41
def hints3 : List (List Bool) := [bits 241 [6], bits 241 [6], bits 241 [6], bits 241 [0, 1, 2, 7, 11, 12], bits 241 [0, 1, 2, 7, 11, 12, 13], bits 241 [0, 1, 2, 7, 11, 12], bits 241 [0, 1, 2, 7, 11, 12, 13], bits 241 [0, 1, 2, 7, 11, 12], bits 241 [0, 1, 2, 7, 11, 12, 14], bits 241 [0, 1, 2, 7, 11, 12], bits 241 [0, 1, 2, 7, 11, 12, 14], bits 241 [11, 15], bits 241 [0, 1, 2, 7, 11, 12, 15, 16], bits 241 [11, 15], bits 241 [0, 1, 2, 7, 11, 12, 15, 16], bits 241 [6], bits 241 [0, 1, 2, 7, 11, 12, 15, 16], bits 241 [0, 1, 2, 7, 11, 12, 15, 16, 17], bits 241 [0, 1, 2, 7, 11, 12, 15, 16], bits 241 [0, 1, 2, 7, 11, 12, 15, 16, 17], bits 241 [0, 1, 2, 7, 11, 12, 15, 16], bits 241 [0, 1, 2, 7, 11, 12, 15, 16, 18], bits 241 [0, 1, 2, 7, 11, 12, 15, 16], bits 241 [0, 1, 2, 7, 11, 12, 15, 16, 18], bits 241 [6], bits 241 [0, 1, 2, 7, 11, 12, 15, 16, 19], bits 241 [0, 1, 2, 7, 11, 12, 15, 16, 19], bits 241 [0, 1, 2, 7, 11, 12, 15, 16, 19], bits 241 [0, 1, 2, 7, 11, 12, 15, 16, 19], bits 241 [6], bits 241 [6]]
@[simp] def r3 : List Bool := bits 241 [6]
@[simp] def R3 (s6 : V) : St := tab 241 41 (fu dd 6 s6) dd
@[simp] def x3_0 : List Bool := bits 241 [0, 1, 2, 7, 11, 12]
@[simp] def X3_0 (s0 s1 s2 s7 s11 s12 : V) : St := tab 241 41 (fu (fu (fu (fu (fu (fu dd 12 s12) 11 s11) 7 s7) 2 s2) 1 s1) 0 s0) dd
@[simp] def h3_0 : List Bool := bits 241 [0, 1, 2, 7, 11, 12, 13]
@[simp] def L3_0 (s0 s1 s2 s7 s11 s12 s13 : V) : St := tab 241 41 (fu (fu (fu (fu (fu (fu (fu dd 13 s13) 12 s12) 11 s11) 7 s7) 2 s2) 1 s1) 0 s0) dd
@[simp] def x3_1 : List Bool := bits 241 [0, 1, 2, 7, 11, 12, 13]
@[simp] def X3_1 (s0 s1 s2 s7 s11 s12 s13 : V) : St := tab 241 41 (fu (fu (fu (fu (fu (fu (fu dd 13 s13) 12 s12) 11 s11) 7 s7) 2 s2) 1 s1) 0 s0) dd
def b3_0 : MC := .seq (.scr h3_0)
 (.seq (.seq (.ops [⟨none, .mv 90 (.t 13)⟩,
    ⟨none, .mv 91 (.t 2)⟩,
    ⟨none, .len 92 false (.t 91)⟩,
    ⟨none, .bin 93 .lss .num (.t 90) (.t 92)⟩,
    ⟨none, .mv 94 (.t 93)⟩,
    ⟨some (94, true), .mv 95 (.t 11)⟩,
    ⟨none, .pick 96 (.t 94) (.t 95) (.c (.v (.bool false)))⟩])
  (.cnd (.t 96)
   .skip
   (.seq (.scr x3_0) (.ex 0))))
 (.seq (.seq (.blk 1 (.ops [⟨none, .mv 99 (.t 12)⟩,
    ⟨none, .mv 100 (.t 2)⟩,
    ⟨none, .mv 101 (.t 13)⟩,
    ⟨none, .ixs 102 1 (.t 100) (.t 101)⟩,
    ⟨none, .ld1 103 (.t 102)⟩,
    ⟨none, .mv 104 (.t 13)⟩,
    ⟨none, .ixs 105 1 (.t 99) (.t 103)⟩,
    ⟨none, .stn none 1 (.t 105) (.t 104)⟩])) (.scr x3_1))
 (.ops [⟨none, .mv 97 (.t 13)⟩,
  ⟨none, .bin 98 .add .num (.t 97) (.c (.v (.int .i64 1)))⟩,
  ⟨none, .asg 13 (.t 98)⟩])))
@[simp] def x3_2 : List Bool := bits 241 [0, 1, 2, 7, 11, 12]
@[simp] def X3_2 (s0 s1 s2 s7 s11 s12 : V) : St := tab 241 41 (fu (fu (fu (fu (fu (fu dd 12 s12) 11 s11) 7 s7) 2 s2) 1 s1) 0 s0) dd
@[simp] def h3_1 : List Bool := bits 241 [0, 1, 2, 7, 11, 12, 14]
@[simp] def L3_1 (s0 s1 s2 s7 s11 s12 s14 : V) : St := tab 241 41 (fu (fu (fu (fu (fu (fu (fu dd 14 s14) 12 s12) 11 s11) 7 s7) 2 s2) 1 s1) 0 s0) dd
@[simp] def x3_3 : List Bool := bits 241 [0, 1, 2, 7, 11, 12, 14]
@[simp] def X3_3 (s0 s1 s2 s7 s11 s12 s14 : V) : St := tab 241 41 (fu (fu (fu (fu (fu (fu (fu dd 14 s14) 12 s12) 11 s11) 7 s7) 2 s2) 1 s1) 0 s0) dd
def b3_1 : MC := .seq (.scr h3_1)
 (.seq (.seq (.ops [⟨none, .mv 106 (.t 14)⟩,
    ⟨none, .mv 107 (.t 1)⟩,
    ⟨none, .len 108 false (.t 107)⟩,
    ⟨none, .bin 109 .lss .num (.t 106) (.t 108)⟩,
    ⟨none, .mv 110 (.t 109)⟩,
    ⟨some (110, true), .mv 111 (.t 11)⟩,
    ⟨none, .pick 112 (.t 110) (.t 111) (.c (.v (.bool false)))⟩])
  (.cnd (.t 112)
   .skip
   (.seq (.scr x3_2) (.ex 2))))
 (.seq (.seq (.blk 3 (.drw [⟨none, .mv 115 (.t 12)⟩,
    ⟨none, .mv 116 (.t 1)⟩,
    ⟨none, .mv 117 (.t 14)⟩,
    ⟨none, .ixs 118 2 (.t 116) (.t 117)⟩,
    ⟨none, .fa 119 0 (.t 118)⟩,
    ⟨none, .ld1 120 (.t 119)⟩,
    ⟨none, .ixs 121 1 (.t 115) (.t 120)⟩,
    ⟨none, .ld1 122 (.t 121)⟩,
    ⟨none, .mv 123 (.t 12)⟩,
    ⟨none, .mv 124 (.t 1)⟩,
    ⟨none, .mv 125 (.t 14)⟩,
    ⟨none, .ixs 126 2 (.t 124) (.t 125)⟩,
    ⟨none, .fa 127 1 (.t 126)⟩,
    ⟨none, .ld1 128 (.t 127)⟩,
    ⟨none, .ixs 129 1 (.t 123) (.t 128)⟩,
    ⟨none, .ld1 130 (.t 129)⟩] [⟨none, .bin 131 .lss .num (.t 122) (.t 130)⟩,
    ⟨none, .asg 11 (.t 131)⟩])) (.scr x3_3))
 (.ops [⟨none, .mv 113 (.t 14)⟩,
  ⟨none, .bin 114 .add .num (.t 113) (.c (.v (.int .i64 1)))⟩,
  ⟨none, .asg 14 (.t 114)⟩])))
@[simp] def x3_4 : List Bool := bits 241 [11, 15]
@[simp] def X3_4 (s11 s15 : V) : St := tab 241 41 (fu (fu dd 15 s15) 11 s11) dd
@[simp] def h3_2 : List Bool := bits 241 [0, 1, 2, 7, 11, 12, 15, 16]
@[simp] def L3_2 (s0 s1 s2 s7 s11 s12 s15 s16 : V) : St := tab 241 41 (fu (fu (fu (fu (fu (fu (fu (fu dd 16 s16) 15 s15) 12 s12) 11 s11) 7 s7) 2 s2) 1 s1) 0 s0) dd
@[simp] def x3_5 : List Bool := bits 241 [0, 1, 2, 7, 11, 12, 15, 16]
@[simp] def X3_5 (s0 s1 s2 s7 s11 s12 s15 s16 : V) : St := tab 241 41 (fu (fu (fu (fu (fu (fu (fu (fu dd 16 s16) 15 s15) 12 s12) 11 s11) 7 s7) 2 s2) 1 s1) 0 s0) dd
@[simp] def x3_6 : List Bool := bits 241 [0, 1, 2, 7, 11, 12, 15, 16]
@[simp] def X3_6 (s0 s1 s2 s7 s11 s12 s15 s16 : V) : St := tab 241 41 (fu (fu (fu (fu (fu (fu (fu (fu dd 16 s16) 15 s15) 12 s12) 11 s11) 7 s7) 2 s2) 1 s1) 0 s0) dd
@[simp] def h3_3 : List Bool := bits 241 [0, 1, 2, 7, 11, 12, 15, 16, 17]
@[simp] def L3_3 (s0 s1 s2 s7 s11 s12 s15 s16 s17 : V) : St := tab 241 41 (fu (fu (fu (fu (fu (fu (fu (fu (fu dd 17 s17) 16 s16) 15 s15) 12 s12) 11 s11) 7 s7) 2 s2) 1 s1) 0 s0) dd
@[simp] def x3_7 : List Bool := bits 241 [0, 1, 2, 7, 11, 12, 15, 16, 17]
@[simp] def X3_7 (s0 s1 s2 s7 s11 s12 s15 s16 s17 : V) : St := tab 241 41 (fu (fu (fu (fu (fu (fu (fu (fu (fu dd 17 s17) 16 s16) 15 s15) 12 s12) 11 s11) 7 s7) 2 s2) 1 s1) 0 s0) dd
def b3_3 : MC := .seq (.scr h3_3)
 (.seq (.seq (.ops [⟨none, .mv 145 (.t 17)⟩,
    ⟨none, .mv 146 (.t 0)⟩,
    ⟨none, .bin 147 .lss .num (.t 145) (.t 146)⟩])
  (.cnd (.t 147)
   .skip
   (.seq (.scr x3_6) (.ex 6))))
 (.seq (.seq (.blk 7 (.ops [⟨none, .mv 150 (.t 12)⟩,
    ⟨none, .mv 151 (.t 7)⟩,
    ⟨none, .mv 152 (.t 16)⟩,
    ⟨none, .ixs 153 1 (.t 151) (.t 152)⟩,
    ⟨none, .ld1 154 (.t 153)⟩,
    ⟨none, .mv 155 (.t 17)⟩,
    ⟨none, .ixs 156 1 (.t 154) (.t 155)⟩,
    ⟨none, .ld1 157 (.t 156)⟩,
    ⟨none, .mv 158 (.t 17)⟩,
    ⟨none, .ixs 159 1 (.t 150) (.t 157)⟩,
    ⟨none, .stn none 1 (.t 159) (.t 158)⟩])) (.scr x3_7))
 (.ops [⟨none, .mv 148 (.t 17)⟩,
  ⟨none, .bin 149 .add .num (.t 148) (.c (.v (.int .i64 1)))⟩,
  ⟨none, .asg 17 (.t 149)⟩])))
@[simp] def x3_8 : List Bool := bits 241 [0, 1, 2, 7, 11, 12, 15, 16]
@[simp] def X3_8 (s0 s1 s2 s7 s11 s12 s15 s16 : V) : St := tab 241 41 (fu (fu (fu (fu (fu (fu (fu (fu dd 16 s16) 15 s15) 12 s12) 11 s11) 7 s7) 2 s2) 1 s1) 0 s0) dd
@[simp] def h3_4 : List Bool := bits 241 [0, 1, 2, 7, 11, 12, 15, 16, 18]
@[simp] def L3_4 (s0 s1 s2 s7 s11 s12 s15 s16 s18 : V) : St := tab 241 41 (fu (fu (fu (fu (fu (fu (fu (fu (fu dd 18 s18) 16 s16) 15 s15) 12 s12) 11 s11) 7 s7) 2 s2) 1 s1) 0 s0) dd
@[simp] def x3_9 : List Bool := bits 241 [0, 1, 2, 7, 11, 12, 15, 16, 18]
@[simp] def X3_9 (s0 s1 s2 s7 s11 s12 s15 s16 s18 : V) : St := tab 241 41 (fu (fu (fu (fu (fu (fu (fu (fu (fu dd 18 s18) 16 s16) 15 s15) 12 s12) 11 s11) 7 s7) 2 s2) 1 s1) 0 s0) dd
def b3_4 : MC := .seq (.scr h3_4)
 (.seq (.seq (.ops [⟨none, .mv 160 (.t 18)⟩,
    ⟨none, .mv 161 (.t 1)⟩,
    ⟨none, .len 162 false (.t 161)⟩,
    ⟨none, .bin 163 .lss .num (.t 160) (.t 162)⟩])
  (.cnd (.t 163)
   .skip
   (.seq (.scr x3_8) (.ex 8))))
 (.seq (.seq (.blk 9 (.seq (.drw [⟨none, .mv 166 (.t 12)⟩,
     ⟨none, .mv 167 (.t 1)⟩,
     ⟨none, .mv 168 (.t 18)⟩,
     ⟨none, .ixs 169 2 (.t 167) (.t 168)⟩,
     ⟨none, .fa 170 0 (.t 169)⟩,
     ⟨none, .ld1 171 (.t 170)⟩,
     ⟨none, .ixs 172 1 (.t 166) (.t 171)⟩,
     ⟨none, .ld1 173 (.t 172)⟩,
     ⟨none, .mv 174 (.t 12)⟩,
     ⟨none, .mv 175 (.t 1)⟩,
     ⟨none, .mv 176 (.t 18)⟩,
     ⟨none, .ixs 177 2 (.t 175) (.t 176)⟩,
     ⟨none, .fa 178 1 (.t 177)⟩,
     ⟨none, .ld1 179 (.t 178)⟩,
     ⟨none, .ixs 180 1 (.t 174) (.t 179)⟩,
     ⟨none, .ld1 181 (.t 180)⟩] [⟨none, .bin 182 .geq .num (.t 173) (.t 181)⟩])
   (.cnd (.t 182)
    (.seq (.ops [⟨none, .asg 6 (.c (.v (.bool false)))⟩])
    (.seq (.scr r3) .ret))
    .skip))) (.scr x3_9))
 (.ops [⟨none, .mv 164 (.t 18)⟩,
  ⟨none, .bin 165 .add .num (.t 164) (.c (.v (.int .i64 1)))⟩,
  ⟨none, .asg 18 (.t 165)⟩])))
@[simp] def x3_10 : List Bool := bits 241 [0, 1, 2, 7, 11, 12, 15, 16, 19]
@[simp] def X3_10 (s0 s1 s2 s7 s11 s12 s15 s16 s19 : V) : St := tab 241 41 (fu (fu (fu (fu (fu (fu (fu (fu (fu dd 19 s19) 16 s16) 15 s15) 12 s12) 11 s11) 7 s7) 2 s2) 1 s1) 0 s0) dd
@[simp] def h3_5 : List Bool := bits 241 [0, 1, 2, 7, 11, 12, 15, 16, 19]
@[simp] def L3_5 (s0 s1 s2 s7 s11 s12 s15 s16 s19 : V) : St := tab 241 41 (fu (fu (fu (fu (fu (fu (fu (fu (fu dd 19 s19) 16 s16) 15 s15) 12 s12) 11 s11) 7 s7) 2 s2) 1 s1) 0 s0) dd
@[simp] def x3_11 : List Bool := bits 241 [0, 1, 2, 7, 11, 12, 15, 16, 19]
@[simp] def X3_11 (s0 s1 s2 s7 s11 s12 s15 s16 s19 : V) : St := tab 241 41 (fu (fu (fu (fu (fu (fu (fu (fu (fu dd 19 s19) 16 s16) 15 s15) 12 s12) 11 s11) 7 s7) 2 s2) 1 s1) 0 s0) dd
def b3_5 : MC := .seq (.scr h3_5)
 (.seq (.seq (.drw (⟨none, .mv 185 (.t 19)⟩ ::
    ⟨none, .mv 186 (.t 0)⟩ ::
    ⟨none, .bin 187 .lss .num (.t 185) (.t 186)⟩ ::
    ⟨none, .mv 188 (.t 187)⟩ ::
    ⟨some (188, true), .mv 189 (.t 7)⟩ ::
    ⟨some (188, true), .mv 190 (.t 16)⟩ ::
    ⟨some (188, true), .ixs 191 1 (.t 189) (.t 190)⟩ ::
    ⟨some (188, true), .ld1 192 (.t 191)⟩ ::
    ⟨some (188, true), .mv 193 (.t 19)⟩ ::
    ⟨some (188, true), .ixs 194 1 (.t 192) (.t 193)⟩ ::
    ⟨some (188, true), .ld1 195 (.t 194)⟩ ::
    ⟨some (188, true), .mv 196 (.t 7)⟩ ::
    ⟨some (188, true), .mv 197 (.t 16)⟩ ::
    ⟨some (188, true), .bin 198 .sub .num (.t 197) (.c (.v (.int .i64 1)))⟩ ::
    ⟨some (188, true), .ixs 199 1 (.t 196) (.t 198)⟩ ::
    ⟨some (188, true), .ld1 200 (.t 199)⟩ ::
    ⟨some (188, true), .mv 201 (.t 19)⟩ ::
    ⟨some (188, true), .ixs 202 1 (.t 200) (.t 201)⟩ ::
    ⟨some (188, true), .ld1 203 (.t 202)⟩ :: []) [⟨some (188, true), .bin 204 .eql .num (.t 195) (.t 203)⟩,
    ⟨none, .pick 205 (.t 188) (.t 204) (.c (.v (.bool false)))⟩])
  (.cnd (.t 205)
   .skip
   (.seq (.scr x3_10) (.ex 10))))
 (.seq (.blk 11 (.ops [⟨none, .mv 206 (.t 19)⟩,
   ⟨none, .bin 207 .add .num (.t 206) (.c (.v (.int .i64 1)))⟩,
   ⟨none, .asg 19 (.t 207)⟩])) (.scr x3_11)))
def b3_2 : MC := .seq (.scr h3_2)
 (.seq (.seq (.ops [⟨none, .mv 132 (.t 16)⟩,
    ⟨none, .mv 133 (.t 7)⟩,
    ⟨none, .len 134 false (.t 133)⟩,
    ⟨none, .bin 135 .lss .num (.t 132) (.t 134)⟩])
  (.cnd (.t 135)
   .skip
   (.seq (.scr x3_4) (.ex 4))))
 (.seq (.seq (.blk 5 (.seq (.seq (.ops [⟨none, .mv 138 (.t 7)⟩,
      ⟨none, .mv 139 (.t 16)⟩,
      ⟨none, .ixs 140 1 (.t 138) (.t 139)⟩,
      ⟨none, .ld1 141 (.t 140)⟩,
      ⟨none, .mv 142 (.t 0)⟩,
      ⟨none, .call (some 143) 16 [(.t 141), (.t 142)]⟩,
      ⟨none, .un 144 .not (.t 143)⟩])
    (.cnd (.t 144)
     (.seq (.ops [⟨none, .asg 6 (.c (.v (.bool false)))⟩])
     (.seq (.scr r3) .ret))
     .skip))
   (.seq (.seq (.ops [⟨none, .asg 17 (.c (.v (.int .i64 0)))⟩])
    (.seq (.blk 6 (.lop b3_3)) (.scr x3_6)))
   (.seq (.seq (.ops [⟨none, .asg 18 (.c (.v (.int .i64 0)))⟩])
    (.seq (.blk 8 (.lop b3_4)) (.scr x3_8)))
   (.seq (.seq (.ops [⟨none, .mv 183 (.t 16)⟩,
      ⟨none, .bin 184 .gtr .num (.t 183) (.c (.v (.int .i64 0)))⟩])
    (.cnd (.t 184)
     (.seq (.ops [⟨none, .asg 19 (.c (.v (.int .i64 0)))⟩])
     (.seq (.seq (.blk 10 (.lop b3_5)) (.scr x3_10))
     (.seq (.drw (⟨none, .mv 208 (.t 19)⟩ ::
       ⟨none, .mv 209 (.t 0)⟩ ::
       ⟨none, .bin 210 .eql .num (.t 208) (.t 209)⟩ ::
       ⟨none, .mv 211 (.t 210)⟩ ::
       ⟨some (211, false), .mv 212 (.t 7)⟩ ::
       ⟨some (211, false), .mv 213 (.t 16)⟩ ::
       ⟨some (211, false), .ixs 214 1 (.t 212) (.t 213)⟩ ::
       ⟨some (211, false), .ld1 215 (.t 214)⟩ ::
       ⟨some (211, false), .mv 216 (.t 19)⟩ ::
       ⟨some (211, false), .ixs 217 1 (.t 215) (.t 216)⟩ ::
       ⟨some (211, false), .ld1 218 (.t 217)⟩ ::
       ⟨some (211, false), .mv 219 (.t 7)⟩ ::
       ⟨some (211, false), .mv 220 (.t 16)⟩ ::
       ⟨some (211, false), .bin 221 .sub .num (.t 220) (.c (.v (.int .i64 1)))⟩ ::
       ⟨some (211, false), .ixs 222 1 (.t 219) (.t 221)⟩ ::
       ⟨some (211, false), .ld1 223 (.t 222)⟩ ::
       ⟨some (211, false), .mv 224 (.t 19)⟩ ::
       ⟨some (211, false), .ixs 225 1 (.t 223) (.t 224)⟩ ::
       ⟨some (211, false), .ld1 226 (.t 225)⟩ :: []) [⟨some (211, false), .bin 227 .lss .num (.t 218) (.t 226)⟩,
       ⟨none, .pick 228 (.t 211) (.c (.v (.bool true))) (.t 227)⟩])
     (.cnd (.t 228)
      (.seq (.ops [⟨none, .asg 6 (.c (.v (.bool false)))⟩])
      (.seq (.scr r3) .ret))
      .skip))))
     .skip))
   (.ops [⟨none, .mv 229 (.t 15)⟩,
    ⟨none, .mv 230 (.t 229)⟩,
    ⟨some (230, false), .mv 231 (.t 7)⟩,
    ⟨some (230, false), .mv 232 (.t 16)⟩,
    ⟨some (230, false), .ixs 233 1 (.t 231) (.t 232)⟩,
    ⟨some (230, false), .ld1 234 (.t 233)⟩,
    ⟨some (230, false), .mv 235 (.t 2)⟩,
    ⟨some (230, false), .call (some 236) 17 [(.t 234), (.t 235)]⟩,
    ⟨none, .pick 237 (.t 230) (.c (.v (.bool true))) (.t 236)⟩,
    ⟨none, .asg 15 (.t 237)⟩])))))) (.scr x3_5))
 (.ops [⟨none, .mv 136 (.t 16)⟩,
  ⟨none, .bin 137 .add .num (.t 136) (.c (.v (.int .i64 1)))⟩,
  ⟨none, .asg 16 (.t 137)⟩])))
def c3 : MF := ⟨(.seq (.ops [⟨none, .asg 6 (.c (.v (.bool false)))⟩])
 (.seq (.seq (.ops [⟨none, .call (some 20) 11 []⟩,
    ⟨none, .un 21 .not (.t 20)⟩,
    ⟨none, .mv 22 (.t 21)⟩,
    ⟨some (22, false), .mv 23 (.t 0)⟩,
    ⟨some (22, false), .mv 24 (.t 1)⟩,
    ⟨some (22, false), .call (some 25) 12 [(.t 23), (.t 24)]⟩,
    ⟨some (22, false), .un 26 .not (.t 25)⟩,
    ⟨none, .pick 27 (.t 22) (.c (.v (.bool true))) (.t 26)⟩,
    ⟨none, .mv 28 (.t 27)⟩,
    ⟨some (28, false), .mv 29 (.t 2)⟩,
    ⟨some (28, false), .len 30 false (.t 29)⟩,
    ⟨some (28, false), .bin 31 .gtr .num (.t 30) (.c (.v (.int .i64 30)))⟩,
    ⟨none, .pick 32 (.t 28) (.c (.v (.bool true))) (.t 31)⟩])
  (.cnd (.t 32)
   (.seq (.ops [⟨none, .call (some 33) 11 []⟩,
     ⟨none, .asg 6 (.t 33)⟩])
   (.seq (.scr r3) .ret))
   .skip))
 (.seq (.ops [⟨none, .mv 35 (.t 0)⟩,
   ⟨none, .mv 36 (.t 1)⟩,
   ⟨none, .call (some 37) 13 [(.t 35), (.t 36)]⟩,
   ⟨none, .mv 34 (.t 37)⟩,
   ⟨none, .ext 38 (.t 34) 0⟩,
   ⟨none, .ext 39 (.t 34) 1⟩,
   ⟨none, .asg 7 (.t 38)⟩,
   ⟨none, .asg 8 (.t 39)⟩])
 (.seq (.ops [⟨none, .mv 41 (.t 0)⟩,
   ⟨none, .mv 42 (.t 1)⟩,
   ⟨none, .call (some 43) 14 [(.t 41), (.t 42)]⟩,
   ⟨none, .mv 40 (.t 43)⟩,
   ⟨none, .ext 44 (.t 40) 0⟩,
   ⟨none, .ext 45 (.t 40) 1⟩,
   ⟨none, .asg 9 (.t 44)⟩,
   ⟨none, .asg 10 (.t 45)⟩])
 (.seq (.seq (.ops [⟨none, .mv 46 (.t 8)⟩,
    ⟨none, .bin 47 .neq .num (.t 46) (.c (.v (.int .i64 0)))⟩])
  (.cnd (.t 47)
   (.seq (.ops (⟨none, .mv 48 (.t 7)⟩ ::
     ⟨none, .len 49 false (.t 48)⟩ ::
     ⟨none, .bin 50 .eql .num (.t 49) (.c (.v (.int .i64 0)))⟩ ::
     ⟨none, .mv 51 (.t 50)⟩ ::
     ⟨some (51, true), .mv 52 (.t 8)⟩ ::
     ⟨some (51, true), .mv 53 (.t 10)⟩ ::
     ⟨some (51, true), .bin 54 .eql .num (.t 52) (.t 53)⟩ ::
     ⟨some (51, true), .mv 55 (.t 54)⟩ ::
     ⟨some (55, false), .mv 56 (.t 8)⟩ ::
     ⟨some (55, false), .bin 57 .eql .num (.t 56) (.c (.v (.int .i64 2)))⟩ ::
     ⟨some (55, false), .mv 58 (.t 57)⟩ ::
     ⟨some (58, true), .mv 59 (.t 10)⟩ ::
     ⟨some (58, true), .bin 60 .eql .num (.t 59) (.c (.v (.int .i64 0)))⟩ ::
     ⟨some (55, false), .pick 61 (.t 58) (.t 60) (.c (.v (.bool false)))⟩ ::
     ⟨some (55, false), .mv 62 (.t 61)⟩ ::
     ⟨some (62, true), .mv 63 (.t 9)⟩ ::
     ⟨some (62, true), .bin 64 .gtr .num (.t 63) (.c (.v (.int .i64 200)))⟩ ::
     ⟨some (55, false), .pick 65 (.t 62) (.t 64) (.c (.v (.bool false)))⟩ ::
     ⟨some (51, true), .pick 66 (.t 55) (.c (.v (.bool true))) (.t 65)⟩ ::
     ⟨none, .pick 67 (.t 51) (.t 66) (.c (.v (.bool false)))⟩ ::
     ⟨none, .asg 6 (.t 67)⟩ :: []))
   (.seq (.scr r3) .ret))
   .skip))
 (.seq (.seq (.ops (⟨none, .mv 68 (.t 0)⟩ ::
    ⟨none, .mv 69 (.t 1)⟩ ::
    ⟨none, .call (some 70) 15 [(.t 68), (.t 69)]⟩ ::
    ⟨none, .bin 71 .neq .num (.t 70) (.c (.v (.int .i64 0)))⟩ ::
    ⟨none, .mv 72 (.t 71)⟩ ::
    ⟨some (72, false), .mv 73 (.t 10)⟩ ::
    ⟨some (72, false), .bin 74 .neq .num (.t 73) (.c (.v (.int .i64 0)))⟩ ::
    ⟨none, .pick 75 (.t 72) (.c (.v (.bool true))) (.t 74)⟩ ::
    ⟨none, .mv 76 (.t 75)⟩ ::
    ⟨some (76, false), .mv 77 (.t 9)⟩ ::
    ⟨some (76, false), .mv 78 (.t 7)⟩ ::
    ⟨some (76, false), .len 79 false (.t 78)⟩ ::
    ⟨some (76, false), .bin 80 .neq .num (.t 77) (.t 79)⟩ ::
    ⟨none, .pick 81 (.t 76) (.c (.v (.bool true))) (.t 80)⟩ ::
    ⟨none, .mv 82 (.t 81)⟩ ::
    ⟨some (82, false), .mv 83 (.t 9)⟩ ::
    ⟨some (82, false), .bin 84 .gtr .num (.t 83) (.c (.v (.int .i64 200)))⟩ ::
    ⟨none, .pick 85 (.t 82) (.c (.v (.bool true))) (.t 84)⟩ :: []))
  (.cnd (.t 85)
   (.seq (.ops [⟨none, .asg 6 (.c (.v (.bool false)))⟩])
   (.seq (.scr r3) .ret))
   .skip))
 (.seq (.ops [⟨none, .mv 86 (.t 2)⟩,
   ⟨none, .mv 87 (.t 0)⟩,
   ⟨none, .call (some 88) 16 [(.t 86), (.t 87)]⟩,
   ⟨none, .asg 11 (.t 88)⟩])
 (.seq (.ops [⟨none, .mks 89 1 [(.v (.int .i64 0))] (.c (.v (.int .i64 10))) (.c (.v (.int .i64 10)))⟩,
   ⟨none, .asg 12 (.t 89)⟩])
 (.seq (.seq (.ops [⟨none, .asg 13 (.c (.v (.int .i64 0)))⟩])
  (.seq (.blk 0 (.lop b3_0)) (.scr x3_0)))
 (.seq (.seq (.ops [⟨none, .asg 14 (.c (.v (.int .i64 0)))⟩])
  (.seq (.blk 2 (.lop b3_1)) (.scr x3_2)))
 (.seq (.ops [⟨none, .asg 15 (.c (.v (.bool false)))⟩])
 (.seq (.seq (.ops [⟨none, .asg 16 (.c (.v (.int .i64 0)))⟩])
  (.seq (.blk 4 (.lop b3_2)) (.scr x3_4)))
 (.seq (.ops [⟨none, .mv 238 (.t 15)⟩,
   ⟨none, .mv 239 (.t 11)⟩,
   ⟨none, .bin 240 .eql .bool (.t 238) (.t 239)⟩,
   ⟨none, .asg 6 (.t 240)⟩])
 (.seq (.scr r3) .ret)))))))))))))),
  241, [6]⟩

/-- coinage/coinagelaw23.SequenceArcs -/
abbrev K4 : Nat := 95
def hints4 : List (List Bool) := [bits 115 [6], bits 115 [6], bits 115 [0, 1, 7, 9, 10], bits 115 [0, 1, 7, 9, 10, 11], bits 115 [0, 1, 7, 9, 10], bits 115 [0, 1, 7, 9, 10, 11], bits 115 [6], bits 115 [6], bits 115 [6]]
@[simp] def r4 : List Bool := bits 115 [6]
@[simp] def R4 (s6 : V) : St := tab 115 95 (fu dd 6 s6) dd
@[simp] def x4_0 : List Bool := bits 115 [0, 1, 7, 9, 10]
@[simp] def X4_0 (s0 s1 s7 s9 s10 : V) : St := tab 115 95 (fu (fu (fu (fu (fu dd 10 s10) 9 s9) 7 s7) 1 s1) 0 s0) dd
@[simp] def h4_0 : List Bool := bits 115 [0, 1, 7, 9, 10, 11]
@[simp] def L4_0 (s0 s1 s7 s9 s10 s11 : V) : St := tab 115 95 (fu (fu (fu (fu (fu (fu dd 11 s11) 10 s10) 9 s9) 7 s7) 1 s1) 0 s0) dd
@[simp] def x4_1 : List Bool := bits 115 [0, 1, 7, 9, 10, 11]
@[simp] def X4_1 (s0 s1 s7 s9 s10 s11 : V) : St := tab 115 95 (fu (fu (fu (fu (fu (fu dd 11 s11) 10 s10) 9 s9) 7 s7) 1 s1) 0 s0) dd
def b4_0 : MC := .seq (.scr h4_0)
 (.seq (.seq (.ops [⟨none, .mv 57 (.t 11)⟩,
    ⟨none, .mv 58 (.t 1)⟩,
    ⟨none, .len 59 false (.t 58)⟩,
    ⟨none, .bin 60 .lss .num (.t 57) (.t 59)⟩])
  (.cnd (.t 60)
   .skip
   (.seq (.scr x4_0) (.ex 0))))
 (.seq (.seq (.blk 1 (.seq (.ops (⟨none, .mv 63 (.t 1)⟩ ::
     ⟨none, .mv 64 (.t 11)⟩ ::
     ⟨none, .ixs 65 2 (.t 63) (.t 64)⟩ ::
     ⟨none, .ldn 66 2 (.t 65)⟩ ::
     ⟨none, .mv 67 (.t 9)⟩ ::
     ⟨none, .mv 68 (.t 10)⟩ ::
     ⟨none, .bld 69 [(.v (.int .i64 0)), (.v (.int .i64 0))] [(0, 1, (.t 67)), (1, 1, (.t 68))]⟩ ::
     ⟨none, .bin 70 .eql (.ag [0, 0]) (.t 66) (.t 69)⟩ ::
     ⟨none, .mv 71 (.t 70)⟩ ::
     ⟨some (71, false), .mv 72 (.t 1)⟩ ::
     ⟨some (71, false), .mv 73 (.t 11)⟩ ::
     ⟨some (71, false), .ixs 74 2 (.t 72) (.t 73)⟩ ::
     ⟨some (71, false), .ldn 75 2 (.t 74)⟩ ::
     ⟨some (71, false), .mv 76 (.t 10)⟩ ::
     ⟨some (71, false), .mv 77 (.t 9)⟩ ::
     ⟨some (71, false), .bld 78 [(.v (.int .i64 0)), (.v (.int .i64 0))] [(0, 1, (.t 76)), (1, 1, (.t 77))]⟩ ::
     ⟨some (71, false), .bin 79 .eql (.ag [0, 0]) (.t 75) (.t 78)⟩ ::
     ⟨none, .pick 80 (.t 71) (.c (.v (.bool true))) (.t 79)⟩ :: []))
   (.cnd (.t 80)
    (.seq (.ops [⟨none, .asg 6 (.c (.v (.bool true)))⟩])
    (.seq (.scr r4) .ret))
    .skip))) (.scr x4_1))
 (.ops [⟨none, .mv 61 (.t 11)⟩,
  ⟨none, .bin 62 .add .num (.t 61) (.c (.v (.int .i64 1)))⟩,
  ⟨none, .asg 11 (.t 62)⟩])))
def c4 : MF := ⟨(.seq (.ops [⟨none, .box 5 (.t 2)⟩,
   ⟨none, .asg 6 (.c (.v (.bool false)))⟩])
 (.seq (.seq (.ops [⟨none, .call (some 16) 11 []⟩,
    ⟨none, .un 17 .not (.t 16)⟩,
    ⟨none, .mv 18 (.t 17)⟩,
    ⟨some (18, false), .mv 19 (.t 0)⟩,
    ⟨some (18, false), .mv 20 (.t 1)⟩,
    ⟨some (18, false), .call (some 21) 12 [(.t 19), (.t 20)]⟩,
    ⟨some (18, false), .un 22 .not (.t 21)⟩,
    ⟨none, .pick 23 (.t 18) (.c (.v (.bool true))) (.t 22)⟩])
  (.cnd (.t 23)
   (.seq (.ops [⟨none, .call (some 24) 11 []⟩,
     ⟨none, .asg 6 (.t 24)⟩])
   (.seq (.scr r4) .ret))
   .skip))
 (.seq (.ops [⟨none, .mv 26 (.t 0)⟩,
   ⟨none, .mv 27 (.t 1)⟩,
   ⟨none, .call (some 28) 14 [(.t 26), (.t 27)]⟩,
   ⟨none, .mv 25 (.t 28)⟩,
   ⟨none, .ext 29 (.t 25) 0⟩,
   ⟨none, .ext 30 (.t 25) 1⟩,
   ⟨none, .asg 7 (.t 29)⟩,
   ⟨none, .asg 8 (.t 30)⟩])
 (.seq (.seq (.ops [⟨none, .mv 31 (.t 8)⟩,
    ⟨none, .bin 32 .neq .num (.t 31) (.c (.v (.int .i64 0)))⟩,
    ⟨none, .mv 33 (.t 32)⟩,
    ⟨some (33, false), .mv 34 (.t 0)⟩,
    ⟨some (33, false), .bin 35 .lss .num (.t 34) (.c (.v (.int .i64 2)))⟩,
    ⟨none, .pick 36 (.t 33) (.c (.v (.bool true))) (.t 35)⟩])
  (.cnd (.t 36)
   (.seq (.ops [⟨none, .mv 37 (.t 8)⟩,
     ⟨none, .bin 38 .neq .num (.t 37) (.c (.v (.int .i64 0)))⟩,
     ⟨none, .mv 39 (.t 38)⟩,
     ⟨some (39, true), .mv 40 (.t 7)⟩,
     ⟨some (39, true), .bin 41 .eql .num (.t 40) (.c (.v (.int .i64 0)))⟩,
     ⟨none, .pick 42 (.t 39) (.t 41) (.c (.v (.bool false)))⟩,
     ⟨none, .mv 43 (.t 42)⟩,
     ⟨some (43, false), .mv 44 (.t 0)⟩,
     ⟨some (43, false), .bin 45 .lss .num (.t 44) (.c (.v (.int .i64 2)))⟩,
     ⟨none, .pick 46 (.t 43) (.c (.v (.bool true))) (.t 45)⟩,
     ⟨none, .asg 6 (.t 46)⟩])
   (.seq (.scr r4) .ret))
   .skip))
 (.seq (.drw [⟨none, .ixa 47 1 2 (.t 5) (.c (.v (.int .i64 0)))⟩,
   ⟨none, .ld1 48 (.t 47)⟩,
   ⟨none, .cvi 49 .i64 (.t 48)⟩,
   ⟨none, .mv 50 (.t 0)⟩,
   ⟨none, .bin 51 .rem .num (.t 49) (.t 50)⟩,
   ⟨none, .ixa 52 1 2 (.t 5) (.c (.v (.int .i64 1)))⟩,
   ⟨none, .ld1 53 (.t 52)⟩,
   ⟨none, .cvi 54 .i64 (.t 53)⟩,
   ⟨none, .mv 55 (.t 0)⟩,
   ⟨none, .bin 56 .rem .num (.t 54) (.t 55)⟩,
   ⟨none, .mv 9 (.t 51)⟩] [⟨none, .asg 10 (.t 56)⟩,
   ⟨none, .asg 9 (.t 9)⟩])
 (.seq (.seq (.ops [⟨none, .asg 11 (.c (.v (.int .i64 0)))⟩])
  (.seq (.blk 0 (.lop b4_0)) (.scr x4_0)))
 (.seq (.seq (.ops [⟨none, .mv 81 (.t 9)⟩,
    ⟨none, .mv 82 (.t 10)⟩,
    ⟨none, .bin 83 .eql .num (.t 81) (.t 82)⟩])
  (.cnd (.t 83)
   (.seq (.ops [⟨none, .asg 6 (.c (.v (.bool true)))⟩])
   (.seq (.scr r4) .ret))
   .skip))
 (.seq (.ops [⟨none, .mv 85 (.t 0)⟩,
   ⟨none, .mv 86 (.t 1)⟩,
   ⟨none, .mv 87 (.t 9)⟩,
   ⟨none, .mv 88 (.t 10)⟩,
   ⟨none, .bld 89 [(.v (.int .i64 0)), (.v (.int .i64 0))] [(0, 1, (.t 87)), (1, 1, (.t 88))]⟩,
   ⟨none, .call (some 90) 19 [(.t 86), (.t 89)]⟩,
   ⟨none, .call (some 91) 18 [(.t 85), (.t 90)]⟩,
   ⟨none, .mv 84 (.t 91)⟩,
   ⟨none, .ext 92 (.t 84) 0⟩,
   ⟨none, .ext 93 (.t 84) 1⟩,
   ⟨none, .asg 12 (.t 92)⟩,
   ⟨none, .asg 13 (.t 93)⟩])
 (.seq (.ops [⟨none, .mv 95 (.t 0)⟩,
   ⟨none, .mv 96 (.t 1)⟩,
   ⟨none, .mv 97 (.t 10)⟩,
   ⟨none, .mv 98 (.t 9)⟩,
   ⟨none, .bld 99 [(.v (.int .i64 0)), (.v (.int .i64 0))] [(0, 1, (.t 97)), (1, 1, (.t 98))]⟩,
   ⟨none, .call (some 100) 19 [(.t 96), (.t 99)]⟩,
   ⟨none, .call (some 101) 18 [(.t 95), (.t 100)]⟩,
   ⟨none, .mv 94 (.t 101)⟩,
   ⟨none, .ext 102 (.t 94) 0⟩,
   ⟨none, .ext 103 (.t 94) 1⟩,
   ⟨none, .asg 14 (.t 102)⟩,
   ⟨none, .asg 15 (.t 103)⟩])
 (.seq (.ops [⟨none, .mv 104 (.t 13)⟩,
   ⟨none, .mv 105 (.t 104)⟩,
   ⟨some (105, true), .mv 106 (.t 15)⟩,
   ⟨none, .pick 107 (.t 105) (.t 106) (.c (.v (.bool false)))⟩,
   ⟨none, .mv 108 (.t 107)⟩,
   ⟨some (108, true), .mv 109 (.t 12)⟩,
   ⟨some (108, true), .mv 110 (.t 14)⟩,
   ⟨some (108, true), .bin 111 .add .num (.t 109) (.t 110)⟩,
   ⟨some (108, true), .mv 112 (.t 7)⟩,
   ⟨some (108, true), .bin 113 .eql .num (.t 111) (.t 112)⟩,
   ⟨none, .pick 114 (.t 108) (.t 113) (.c (.v (.bool false)))⟩,
   ⟨none, .asg 6 (.t 114)⟩])
 (.seq (.scr r4) .ret))))))))))),
  115, [6]⟩

/-- coinage/coinagelaw23.SequenceTurns -/
abbrev K5 : Nat := 66
def hints5 : List (List Bool) := [bits 113 [6], bits 113 [6], bits 113 [0, 1, 2, 7, 9], bits 113 [0, 1, 2, 7, 9, 10], bits 113 [0, 1, 2, 7, 9], bits 113 [0, 1, 2, 7, 9, 10], bits 113 [0, 1, 2, 7, 9, 11, 12, 13], bits 113 [0, 1, 2, 7, 9, 11, 12, 13, 14], bits 113 [0, 1, 2, 7, 9, 11, 12, 13], bits 113 [0, 1, 2, 7, 9, 11, 12, 13, 14], bits 113 [6]]
@[simp] def r5 : List Bool := bits 113 [6]
@[simp] def R5 (s6 : V) : St := tab 113 66 (fu dd 6 s6) dd
@[simp] def x5_0 : List Bool := bits 113 [0, 1, 2, 7, 9]
@[simp] def X5_0 (s0 s1 s2 s7 s9 : V) : St := tab 113 66 (fu (fu (fu (fu (fu dd 9 s9) 7 s7) 2 s2) 1 s1) 0 s0) dd
@[simp] def h5_0 : List Bool := bits 113 [0, 1, 2, 7, 9, 10]
@[simp] def L5_0 (s0 s1 s2 s7 s9 s10 : V) : St := tab 113 66 (fu (fu (fu (fu (fu (fu dd 10 s10) 9 s9) 7 s7) 2 s2) 1 s1) 0 s0) dd
@[simp] def x5_1 : List Bool := bits 113 [0, 1, 2, 7, 9, 10]
@[simp] def X5_1 (s0 s1 s2 s7 s9 s10 : V) : St := tab 113 66 (fu (fu (fu (fu (fu (fu dd 10 s10) 9 s9) 7 s7) 2 s2) 1 s1) 0 s0) dd
def b5_0 : MC := .seq (.scr h5_0)
 (.seq (.seq (.ops [⟨none, .mv 46 (.t 10)⟩,
    ⟨none, .mv 47 (.t 1)⟩,
    ⟨none, .len 48 false (.t 47)⟩,
    ⟨none, .bin 49 .lss .num (.t 46) (.t 48)⟩])
  (.cnd (.t 49)
   .skip
   (.seq (.scr x5_0) (.ex 0))))
 (.seq (.seq (.blk 1 (.drw [⟨none, .mv 52 (.t 9)⟩,
    ⟨none, .mv 53 (.t 1)⟩,
    ⟨none, .mv 54 (.t 10)⟩,
    ⟨none, .ixs 55 2 (.t 53) (.t 54)⟩,
    ⟨none, .fa 56 1 (.t 55)⟩,
    ⟨none, .ld1 57 (.t 56)⟩,
    ⟨none, .mv 58 (.t 1)⟩,
    ⟨none, .mv 59 (.t 10)⟩,
    ⟨none, .ixs 60 2 (.t 58) (.t 59)⟩,
    ⟨none, .fa 61 0 (.t 60)⟩,
    ⟨none, .ld1 62 (.t 61)⟩,
    ⟨none, .bld 63 [(.v (.int .i64 0)), (.v (.int .i64 0))] [(0, 1, (.t 57)), (1, 1, (.t 62))]⟩] [⟨none, .call (some 64) 19 [(.t 52), (.t 63)]⟩,
    ⟨none, .asg 9 (.t 64)⟩])) (.scr x5_1))
 (.ops [⟨none, .mv 50 (.t 10)⟩,
  ⟨none, .bin 51 .add .num (.t 50) (.c (.v (.int .i64 1)))⟩,
  ⟨none, .asg 10 (.t 51)⟩])))
@[simp] def x5_2 : List Bool := bits 113 [0, 1, 2, 7, 9, 11, 12, 13]
@[simp] def X5_2 (s0 s1 s2 s7 s9 s11 s12 s13 : V) : St := tab 113 66 (fu (fu (fu (fu (fu (fu (fu (fu dd 13 s13) 12 s12) 11 s11) 9 s9) 7 s7) 2 s2) 1 s1) 0 s0) dd
@[simp] def h5_1 : List Bool := bits 113 [0, 1, 2, 7, 9, 11, 12, 13, 14]
@[simp] def L5_1 (s0 s1 s2 s7 s9 s11 s12 s13 s14 : V) : St := tab 113 66 (fu (fu (fu (fu (fu (fu (fu (fu (fu dd 14 s14) 13 s13) 12 s12) 11 s11) 9 s9) 7 s7) 2 s2) 1 s1) 0 s0) dd
@[simp] def x5_3 : List Bool := bits 113 [0, 1, 2, 7, 9, 11, 12, 13, 14]
@[simp] def X5_3 (s0 s1 s2 s7 s9 s11 s12 s13 s14 : V) : St := tab 113 66 (fu (fu (fu (fu (fu (fu (fu (fu (fu dd 14 s14) 13 s13) 12 s12) 11 s11) 9 s9) 7 s7) 2 s2) 1 s1) 0 s0) dd
def b5_1 : MC := .seq (.scr h5_1)
 (.seq (.seq (.ops [⟨none, .mv 74 (.t 14)⟩,
    ⟨none, .mv 75 (.t 2)⟩,
    ⟨none, .len 76 false (.t 75)⟩,
    ⟨none, .bin 77 .lss .num (.t 74) (.t 76)⟩])
  (.cnd (.t 77)
   .skip
   (.seq (.scr x5_2) (.ex 2))))
 (.seq (.seq (.blk 3 (.ops [⟨none, .mv 80 (.t 13)⟩,
    ⟨none, .mv 81 (.t 2)⟩,
    ⟨none, .len 82 false (.t 81)⟩,
    ⟨none, .bin 83 .sub .num (.t 82) (.c (.v (.int .i64 1)))⟩,
    ⟨none, .mv 84 (.t 14)⟩,
    ⟨none, .bin 85 .sub .num (.t 83) (.t 84)⟩,
    ⟨none, .mv 86 (.t 2)⟩,
    ⟨none, .mv 87 (.t 14)⟩,
    ⟨none, .ixs 88 1 (.t 86) (.t 87)⟩,
    ⟨none, .ld1 89 (.t 88)⟩,
    ⟨none, .ixs 90 1 (.t 80) (.t 85)⟩,
    ⟨none, .stn none 1 (.t 90) (.t 89)⟩])) (.scr x5_3))
 (.ops [⟨none, .mv 78 (.t 14)⟩,
  ⟨none, .bin 79 .add .num (.t 78) (.c (.v (.int .i64 1)))⟩,
  ⟨none, .asg 14 (.t 79)⟩])))
def c5 : MF := ⟨(.seq (.ops [⟨none, .asg 6 (.c (.v (.bool false)))⟩])
 (.seq (.seq (.ops [⟨none, .call (some 15) 11 []⟩,
    ⟨none, .un 16 .not (.t 15)⟩,
    ⟨none, .mv 17 (.t 16)⟩,
    ⟨some (17, false), .mv 18 (.t 0)⟩,
    ⟨some (17, false), .mv 19 (.t 1)⟩,
    ⟨some (17, false), .call (some 20) 12 [(.t 18), (.t 19)]⟩,
    ⟨some (17, false), .un 21 .not (.t 20)⟩,
    ⟨none, .pick 22 (.t 17) (.c (.v (.bool true))) (.t 21)⟩,
    ⟨none, .mv 23 (.t 22)⟩,
    ⟨some (23, false), .mv 24 (.t 2)⟩,
    ⟨some (23, false), .len 25 false (.t 24)⟩,
    ⟨some (23, false), .bin 26 .gtr .num (.t 25) (.c (.v (.int .i64 30)))⟩,
    ⟨none, .pick 27 (.t 23) (.c (.v (.bool true))) (.t 26)⟩])
  (.cnd (.t 27)
   (.seq (.ops [⟨none, .call (some 28) 11 []⟩,
     ⟨none, .asg 6 (.t 28)⟩])
   (.seq (.scr r5) .ret))
   .skip))
 (.seq (.ops [⟨none, .mv 30 (.t 0)⟩,
   ⟨none, .mv 31 (.t 1)⟩,
   ⟨none, .call (some 32) 14 [(.t 30), (.t 31)]⟩,
   ⟨none, .mv 29 (.t 32)⟩,
   ⟨none, .ext 33 (.t 29) 0⟩,
   ⟨none, .ext 34 (.t 29) 1⟩,
   ⟨none, .asg 7 (.t 33)⟩,
   ⟨none, .asg 8 (.t 34)⟩])
 (.seq (.seq (.ops [⟨none, .mv 35 (.t 8)⟩,
    ⟨none, .bin 36 .neq .num (.t 35) (.c (.v (.int .i64 0)))⟩])
  (.cnd (.t 36)
   (.seq (.ops [⟨none, .mv 37 (.t 7)⟩,
     ⟨none, .bin 38 .eql .num (.t 37) (.c (.v (.int .i64 0)))⟩,
     ⟨none, .mv 39 (.t 38)⟩,
     ⟨some (39, true), .mv 40 (.t 0)⟩,
     ⟨some (39, true), .mv 41 (.t 1)⟩,
     ⟨some (39, true), .mv 42 (.t 2)⟩,
     ⟨some (39, true), .call (some 43) 20 [(.t 40), (.t 41), (.t 42)]⟩,
     ⟨some (39, true), .un 44 .not (.t 43)⟩,
     ⟨none, .pick 45 (.t 39) (.t 44) (.c (.v (.bool false)))⟩,
     ⟨none, .asg 6 (.t 45)⟩])
   (.seq (.scr r5) .ret))
   .skip))
 (.seq (.ops [⟨none, .asg 9 (.c (.nd (.sl true 2 0) []))⟩])
 (.seq (.seq (.ops [⟨none, .asg 10 (.c (.v (.int .i64 0)))⟩])
  (.seq (.blk 0 (.lop b5_0)) (.scr x5_0)))
 (.seq (.ops [⟨none, .mv 66 (.t 0)⟩,
   ⟨none, .mv 67 (.t 9)⟩,
   ⟨none, .call (some 68) 14 [(.t 66), (.t 67)]⟩,
   ⟨none, .mv 65 (.t 68)⟩,
   ⟨none, .ext 69 (.t 65) 0⟩,
   ⟨none, .ext 70 (.t 65) 1⟩,
   ⟨none, .asg 11 (.t 69)⟩,
   ⟨none, .asg 12 (.t 70)⟩])
 (.seq (.ops [⟨none, .mv 71 (.t 2)⟩,
   ⟨none, .len 72 false (.t 71)⟩,
   ⟨none, .mks 73 1 [(.v (.int .i64 0))] (.t 72) (.t 72)⟩,
   ⟨none, .asg 13 (.t 73)⟩])
 (.seq (.seq (.ops [⟨none, .asg 14 (.c (.v (.int .i64 0)))⟩])
  (.seq (.blk 2 (.lop b5_1)) (.scr x5_2)))
 (.seq (.ops (⟨none, .mv 91 (.t 12)⟩ ::
   ⟨none, .bin 92 .eql .num (.t 91) (.c (.v (.int .i64 0)))⟩ ::
   ⟨none, .mv 93 (.t 92)⟩ ::
   ⟨some (93, true), .mv 94 (.t 11)⟩ ::
   ⟨some (93, true), .mv 95 (.t 7)⟩ ::
   ⟨some (93, true), .bin 96 .eql .num (.t 94) (.t 95)⟩ ::
   ⟨none, .pick 97 (.t 93) (.t 96) (.c (.v (.bool false)))⟩ ::
   ⟨none, .mv 98 (.t 97)⟩ ::
   ⟨some (98, true), .mv 99 (.t 7)⟩ ::
   ⟨some (98, true), .bin 100 .geq .num (.t 99) (.c (.v (.int .i64 1)))⟩ ::
   ⟨none, .pick 101 (.t 98) (.t 100) (.c (.v (.bool false)))⟩ ::
   ⟨none, .mv 102 (.t 101)⟩ ::
   ⟨some (102, true), .mv 103 (.t 0)⟩ ::
   ⟨some (102, true), .mv 104 (.t 1)⟩ ::
   ⟨some (102, true), .mv 105 (.t 2)⟩ ::
   ⟨some (102, true), .call (some 106) 20 [(.t 103), (.t 104), (.t 105)]⟩ ::
   ⟨some (102, true), .mv 107 (.t 0)⟩ ::
   ⟨some (102, true), .mv 108 (.t 9)⟩ ::
   ⟨some (102, true), .mv 109 (.t 13)⟩ ::
   ⟨some (102, true), .call (some 110) 20 [(.t 107), (.t 108), (.t 109)]⟩ ::
   ⟨some (102, true), .bin 111 .eql .bool (.t 106) (.t 110)⟩ ::
   ⟨none, .pick 112 (.t 102) (.t 111) (.c (.v (.bool false)))⟩ ::
   ⟨none, .asg 6 (.t 112)⟩ :: []))
 (.seq (.scr r5) .ret))))))))))),
  113, [6]⟩

/-- coinage/coinagelaw23.SequenceCounts -/
abbrev K6 : Nat := 57
def hints6 : List (List Bool) := [bits 90 [4], bits 90 [4]]
@[simp] def r6 : List Bool := bits 90 [4]
@[simp] def R6 (s4 : V) : St := tab 90 57 (fu dd 4 s4) dd
def c6 : MF := ⟨(.seq (.ops [⟨none, .asg 4 (.c (.v (.bool false)))⟩])
 (.seq (.seq (.ops [⟨none, .call (some 17) 11 []⟩,
    ⟨none, .un 18 .not (.t 17)⟩,
    ⟨none, .mv 19 (.t 18)⟩,
    ⟨some (19, false), .mv 20 (.t 0)⟩,
    ⟨some (19, false), .mv 21 (.t 1)⟩,
    ⟨some (19, false), .call (some 22) 12 [(.t 20), (.t 21)]⟩,
    ⟨some (19, false), .un 23 .not (.t 22)⟩,
    ⟨none, .pick 24 (.t 19) (.c (.v (.bool true))) (.t 23)⟩])
  (.cnd (.t 24)
   (.seq (.ops [⟨none, .call (some 25) 11 []⟩,
     ⟨none, .asg 4 (.t 25)⟩])
   (.seq (.scr r6) .ret))
   .skip))
 (.seq (.ops [⟨none, .mv 27 (.t 0)⟩,
   ⟨none, .mv 28 (.t 1)⟩,
   ⟨none, .call (some 29) 14 [(.t 27), (.t 28)]⟩,
   ⟨none, .mv 26 (.t 29)⟩,
   ⟨none, .ext 30 (.t 26) 0⟩,
   ⟨none, .ext 31 (.t 26) 1⟩,
   ⟨none, .asg 5 (.t 30)⟩,
   ⟨none, .asg 6 (.t 31)⟩])
 (.seq (.ops [⟨none, .mv 33 (.t 0)⟩,
   ⟨none, .mv 34 (.t 1)⟩,
   ⟨none, .call (some 35) 21 [(.t 33), (.t 34)]⟩,
   ⟨none, .mv 32 (.t 35)⟩,
   ⟨none, .ext 36 (.t 32) 0⟩,
   ⟨none, .ext 37 (.t 32) 1⟩,
   ⟨none, .asg 7 (.t 36)⟩,
   ⟨none, .asg 8 (.t 37)⟩])
 (.seq (.ops [⟨none, .mv 39 (.t 0)⟩,
   ⟨none, .mv 40 (.t 1)⟩,
   ⟨none, .call (some 41) 13 [(.t 39), (.t 40)]⟩,
   ⟨none, .mv 38 (.t 41)⟩,
   ⟨none, .ext 42 (.t 38) 0⟩,
   ⟨none, .ext 43 (.t 38) 1⟩,
   ⟨none, .asg 9 (.t 42)⟩,
   ⟨none, .asg 10 (.t 43)⟩])
 (.seq (.ops [⟨none, .mv 45 (.t 0)⟩,
   ⟨none, .mv 46 (.t 1)⟩,
   ⟨none, .call (some 47) 22 [(.t 45), (.t 46)]⟩,
   ⟨none, .mv 44 (.t 47)⟩,
   ⟨none, .ext 48 (.t 44) 0⟩,
   ⟨none, .ext 49 (.t 44) 1⟩,
   ⟨none, .asg 11 (.t 48)⟩,
   ⟨none, .asg 12 (.t 49)⟩])
 (.seq (.ops [⟨none, .mv 51 (.t 0)⟩,
   ⟨none, .mv 52 (.t 1)⟩,
   ⟨none, .call (some 53) 23 [(.t 51), (.t 52)]⟩,
   ⟨none, .mv 50 (.t 53)⟩,
   ⟨none, .ext 54 (.t 50) 0⟩,
   ⟨none, .ext 55 (.t 50) 1⟩,
   ⟨none, .asg 13 (.t 54)⟩,
   ⟨none, .asg 14 (.t 55)⟩])
 (.seq (.ops [⟨none, .mv 57 (.t 0)⟩,
   ⟨none, .mv 58 (.t 1)⟩,
   ⟨none, .call (some 59) 24 [(.t 57), (.t 58)]⟩,
   ⟨none, .mv 56 (.t 59)⟩,
   ⟨none, .ext 60 (.t 56) 0⟩,
   ⟨none, .ext 61 (.t 56) 1⟩,
   ⟨none, .asg 15 (.t 60)⟩,
   ⟨none, .asg 16 (.t 61)⟩])
 (.seq (.ops (⟨none, .mv 62 (.t 6)⟩ ::
   ⟨none, .mv 63 (.t 12)⟩ ::
   ⟨none, .bin 64 .eql .num (.t 62) (.t 63)⟩ ::
   ⟨none, .mv 65 (.t 64)⟩ ::
   ⟨some (65, true), .mv 66 (.t 8)⟩ ::
   ⟨some (65, true), .mv 67 (.t 14)⟩ ::
   ⟨some (65, true), .bin 68 .eql .num (.t 66) (.t 67)⟩ ::
   ⟨none, .pick 69 (.t 65) (.t 68) (.c (.v (.bool false)))⟩ ::
   ⟨none, .mv 70 (.t 69)⟩ ::
   ⟨some (70, true), .mv 71 (.t 10)⟩ ::
   ⟨some (70, true), .mv 72 (.t 16)⟩ ::
   ⟨some (70, true), .bin 73 .eql .num (.t 71) (.t 72)⟩ ::
   ⟨none, .pick 74 (.t 70) (.t 73) (.c (.v (.bool false)))⟩ ::
   ⟨none, .mv 75 (.t 74)⟩ ::
   ⟨some (75, true), .mv 76 (.t 5)⟩ ::
   ⟨some (75, true), .mv 77 (.t 11)⟩ ::
   ⟨some (75, true), .bin 78 .eql .num (.t 76) (.t 77)⟩ ::
   ⟨none, .pick 79 (.t 75) (.t 78) (.c (.v (.bool false)))⟩ ::
   ⟨none, .mv 80 (.t 79)⟩ ::
   ⟨some (80, true), .mv 81 (.t 7)⟩ ::
   ⟨some (80, true), .mv 82 (.t 13)⟩ ::
   ⟨some (80, true), .call (some 83) 17 [(.t 81), (.t 82)]⟩ ::
   ⟨none, .pick 84 (.t 80) (.t 83) (.c (.v (.bool false)))⟩ ::
   ⟨none, .mv 85 (.t 84)⟩ ::
   ⟨some (85, true), .mv 86 (.t 9)⟩ ::
   ⟨some (85, true), .mv 87 (.t 15)⟩ ::
   ⟨some (85, true), .call (some 88) 25 [(.t 86), (.t 87)]⟩ ::
   ⟨none, .pick 89 (.t 85) (.t 88) (.c (.v (.bool false)))⟩ ::
   ⟨none, .asg 4 (.t 89)⟩ :: []))
 (.seq (.scr r6) .ret)))))))))),
  90, [4]⟩

/-- coinage/coinagelaw23.SequenceSteps -/
abbrev K7 : Nat := 55
def hints7 : List (List Bool) := [bits 95 [6], bits 95 [6]]
@[simp] def r7 : List Bool := bits 95 [6]
@[simp] def R7 (s6 : V) : St := tab 95 55 (fu dd 6 s6) dd
def c7 : MF := ⟨(.seq (.ops [⟨none, .asg 6 (.c (.v (.bool false)))⟩])
 (.seq (.seq (.ops [⟨none, .call (some 16) 11 []⟩,
    ⟨none, .un 17 .not (.t 16)⟩,
    ⟨none, .mv 18 (.t 17)⟩,
    ⟨some (18, false), .mv 19 (.t 0)⟩,
    ⟨some (18, false), .mv 20 (.t 1)⟩,
    ⟨some (18, false), .call (some 21) 12 [(.t 19), (.t 20)]⟩,
    ⟨some (18, false), .un 22 .not (.t 21)⟩,
    ⟨none, .pick 23 (.t 18) (.c (.v (.bool true))) (.t 22)⟩,
    ⟨none, .mv 24 (.t 23)⟩,
    ⟨some (24, false), .mv 25 (.t 2)⟩,
    ⟨some (24, false), .len 26 false (.t 25)⟩,
    ⟨some (24, false), .bin 27 .gtr .num (.t 26) (.c (.v (.int .i64 30)))⟩,
    ⟨none, .pick 28 (.t 24) (.c (.v (.bool true))) (.t 27)⟩])
  (.cnd (.t 28)
   (.seq (.ops [⟨none, .call (some 29) 11 []⟩,
     ⟨none, .asg 6 (.t 29)⟩])
   (.seq (.scr r7) .ret))
   .skip))
 (.seq (.ops [⟨none, .mz 30 1⟩,
   ⟨none, .mv 31 (.t 2)⟩,
   ⟨none, .app 32 1 (.t 30) (.t 31)⟩,
   ⟨none, .asg 7 (.t 32)⟩])
 (.seq (.ops [⟨none, .mv 34 (.t 0)⟩,
   ⟨none, .mv 35 (.t 1)⟩,
   ⟨none, .mv 36 (.t 7)⟩,
   ⟨none, .call (some 37) 26 [(.t 34), (.t 35), (.t 36)]⟩,
   ⟨none, .mv 33 (.t 37)⟩,
   ⟨none, .ext 38 (.t 33) 0⟩,
   ⟨none, .ext 39 (.t 33) 1⟩,
   ⟨none, .asg 8 (.t 38)⟩,
   ⟨none, .asg 9 (.t 39)⟩])
 (.seq (.ops [⟨none, .mv 41 (.t 0)⟩,
   ⟨none, .mv 42 (.t 1)⟩,
   ⟨none, .mv 43 (.t 7)⟩,
   ⟨none, .call (some 44) 27 [(.t 41), (.t 42), (.t 43)]⟩,
   ⟨none, .mv 40 (.t 44)⟩,
   ⟨none, .ext 45 (.t 40) 0⟩,
   ⟨none, .ext 46 (.t 40) 1⟩,
   ⟨none, .asg 10 (.t 45)⟩,
   ⟨none, .asg 11 (.t 46)⟩])
 (.seq (.ops [⟨none, .mv 48 (.t 0)⟩,
   ⟨none, .mv 49 (.t 1)⟩,
   ⟨none, .mv 50 (.t 2)⟩,
   ⟨none, .call (some 51) 28 [(.t 48), (.t 49), (.t 50)]⟩,
   ⟨none, .mv 47 (.t 51)⟩,
   ⟨none, .ext 52 (.t 47) 0⟩,
   ⟨none, .ext 53 (.t 47) 1⟩,
   ⟨none, .asg 12 (.t 52)⟩,
   ⟨none, .asg 13 (.t 53)⟩])
 (.seq (.ops [⟨none, .mv 55 (.t 0)⟩,
   ⟨none, .mv 56 (.t 1)⟩,
   ⟨none, .mv 57 (.t 2)⟩,
   ⟨none, .call (some 58) 29 [(.t 55), (.t 56), (.t 57)]⟩,
   ⟨none, .mv 54 (.t 58)⟩,
   ⟨none, .ext 59 (.t 54) 0⟩,
   ⟨none, .ext 60 (.t 54) 1⟩,
   ⟨none, .asg 14 (.t 59)⟩,
   ⟨none, .asg 15 (.t 60)⟩])
 (.seq (.ops (⟨none, .mv 61 (.t 9)⟩ ::
   ⟨none, .mv 62 (.t 13)⟩ ::
   ⟨none, .bin 63 .eql .num (.t 61) (.t 62)⟩ ::
   ⟨none, .mv 64 (.t 63)⟩ ::
   ⟨some (64, true), .mv 65 (.t 11)⟩ ::
   ⟨some (64, true), .mv 66 (.t 15)⟩ ::
   ⟨some (64, true), .bin 67 .eql .num (.t 65) (.t 66)⟩ ::
   ⟨none, .pick 68 (.t 64) (.t 67) (.c (.v (.bool false)))⟩ ::
   ⟨none, .mv 69 (.t 68)⟩ ::
   ⟨some (69, true), .mv 70 (.t 8)⟩ ::
   ⟨some (69, true), .mv 71 (.t 12)⟩ ::
   ⟨some (69, true), .call (some 72) 17 [(.t 70), (.t 71)]⟩ ::
   ⟨none, .pick 73 (.t 69) (.t 72) (.c (.v (.bool false)))⟩ ::
   ⟨none, .mv 74 (.t 73)⟩ ::
   ⟨some (74, true), .mv 75 (.t 10)⟩ ::
   ⟨some (74, true), .mv 76 (.t 14)⟩ ::
   ⟨some (74, true), .bin 77 .eql .num (.t 75) (.t 76)⟩ ::
   ⟨none, .pick 78 (.t 74) (.t 77) (.c (.v (.bool false)))⟩ ::
   ⟨none, .mv 79 (.t 78)⟩ ::
   ⟨some (79, true), .mv 80 (.t 0)⟩ ::
   ⟨some (79, true), .mv 81 (.t 1)⟩ ::
   ⟨some (79, true), .mv 82 (.t 7)⟩ ::
   ⟨some (79, true), .call (some 83) 20 [(.t 80), (.t 81), (.t 82)]⟩ ::
   ⟨some (79, true), .mv 84 (.t 0)⟩ ::
   ⟨some (79, true), .mv 85 (.t 1)⟩ ::
   ⟨some (79, true), .mv 86 (.t 2)⟩ ::
   ⟨some (79, true), .call (some 87) 30 [(.t 84), (.t 85), (.t 86)]⟩ ::
   ⟨some (79, true), .bin 88 .eql .bool (.t 83) (.t 87)⟩ ::
   ⟨none, .pick 89 (.t 79) (.t 88) (.c (.v (.bool false)))⟩ ::
   ⟨none, .mv 90 (.t 89)⟩ ::
   ⟨some (90, true), .mv 91 (.t 7)⟩ ::
   ⟨some (90, true), .mv 92 (.t 2)⟩ ::
   ⟨some (90, true), .call (some 93) 17 [(.t 91), (.t 92)]⟩ ::
   ⟨none, .pick 94 (.t 90) (.t 93) (.c (.v (.bool false)))⟩ ::
   ⟨none, .asg 6 (.t 94)⟩ :: []))
 (.seq (.scr r7) .ret))))))))),
  95, [6]⟩

/-- coinage/coinagelaw23.SequenceInverse -/
abbrev K8 : Nat := 107
def hints8 : List (List Bool) := [bits 125 [6], bits 125 [6], bits 125 [6], bits 125 [6], bits 125 [6], bits 125 [6]]
@[simp] def r8 : List Bool := bits 125 [6]
@[simp] def R8 (s6 : V) : St := tab 125 107 (fu dd 6 s6) dd
def c8 : MF := ⟨(.seq (.ops [⟨none, .asg 6 (.c (.v (.bool false)))⟩])
 (.seq (.seq (.ops [⟨none, .call (some 20) 11 []⟩,
    ⟨none, .un 21 .not (.t 20)⟩,
    ⟨none, .mv 22 (.t 21)⟩,
    ⟨some (22, false), .mv 23 (.t 0)⟩,
    ⟨some (22, false), .mv 24 (.t 1)⟩,
    ⟨some (22, false), .call (some 25) 12 [(.t 23), (.t 24)]⟩,
    ⟨some (22, false), .un 26 .not (.t 25)⟩,
    ⟨none, .pick 27 (.t 22) (.c (.v (.bool true))) (.t 26)⟩])
  (.cnd (.t 27)
   (.seq (.ops [⟨none, .call (some 28) 11 []⟩,
     ⟨none, .asg 6 (.t 28)⟩])
   (.seq (.scr r8) .ret))
   .skip))
 (.seq (.ops [⟨none, .mv 30 (.t 0)⟩,
   ⟨none, .mv 31 (.t 1)⟩,
   ⟨none, .call (some 32) 14 [(.t 30), (.t 31)]⟩,
   ⟨none, .mv 29 (.t 32)⟩,
   ⟨none, .ext 33 (.t 29) 0⟩,
   ⟨none, .ext 34 (.t 29) 1⟩,
   ⟨none, .asg 7 (.t 33)⟩,
   ⟨none, .asg 8 (.t 34)⟩])
 (.seq (.seq (.ops [⟨none, .mv 35 (.t 8)⟩,
    ⟨none, .bin 36 .neq .num (.t 35) (.c (.v (.int .i64 0)))⟩])
  (.cnd (.t 36)
   (.seq (.ops [⟨none, .mv 37 (.t 7)⟩,
     ⟨none, .bin 38 .eql .num (.t 37) (.c (.v (.int .i64 0)))⟩,
     ⟨none, .asg 6 (.t 38)⟩])
   (.seq (.scr r8) .ret))
   .skip))
 (.seq (.seq (.ops [⟨none, .mv 39 (.t 7)⟩,
    ⟨none, .bin 40 .lss .num (.t 39) (.c (.v (.int .i64 1)))⟩])
  (.cnd (.t 40)
   (.seq (.ops [⟨none, .asg 6 (.c (.v (.bool false)))⟩])
   (.seq (.scr r8) .ret))
   .skip))
 (.seq (.ops [⟨none, .mv 41 (.t 2)⟩,
   ⟨none, .cvi 42 .i64 (.t 41)⟩,
   ⟨none, .mv 43 (.t 7)⟩,
   ⟨none, .bin 44 .rem .num (.t 42) (.t 43)⟩,
   ⟨none, .asg 9 (.t 44)⟩])
 (.seq (.ops [⟨none, .mv 46 (.t 0)⟩,
   ⟨none, .mv 47 (.t 1)⟩,
   ⟨none, .mv 48 (.t 9)⟩,
   ⟨none, .call (some 49) 31 [(.t 46), (.t 47), (.t 48)]⟩,
   ⟨none, .mv 45 (.t 49)⟩,
   ⟨none, .ext 50 (.t 45) 0⟩,
   ⟨none, .ext 51 (.t 45) 1⟩,
   ⟨none, .asg 10 (.t 50)⟩,
   ⟨none, .asg 11 (.t 51)⟩])
 (.seq (.ops [⟨none, .mv 53 (.t 0)⟩,
   ⟨none, .mv 54 (.t 1)⟩,
   ⟨none, .mv 55 (.t 10)⟩,
   ⟨none, .call (some 56) 27 [(.t 53), (.t 54), (.t 55)]⟩,
   ⟨none, .mv 52 (.t 56)⟩,
   ⟨none, .ext 57 (.t 52) 0⟩,
   ⟨none, .ext 58 (.t 52) 1⟩,
   ⟨none, .asg 12 (.t 57)⟩,
   ⟨none, .asg 13 (.t 58)⟩])
 (.seq (.seq (.ops (⟨none, .mv 59 (.t 11)⟩ ::
    ⟨none, .bin 60 .neq .num (.t 59) (.c (.v (.int .i64 0)))⟩ ::
    ⟨none, .mv 61 (.t 60)⟩ ::
    ⟨some (61, false), .mv 62 (.t 13)⟩ ::
    ⟨some (61, false), .bin 63 .neq .num (.t 62) (.c (.v (.int .i64 0)))⟩ ::
    ⟨none, .pick 64 (.t 61) (.c (.v (.bool true))) (.t 63)⟩ ::
    ⟨none, .mv 65 (.t 64)⟩ ::
    ⟨some (65, false), .mv 66 (.t 12)⟩ ::
    ⟨some (65, false), .mv 67 (.t 9)⟩ ::
    ⟨some (65, false), .bin 68 .neq .num (.t 66) (.t 67)⟩ ::
    ⟨none, .pick 69 (.t 65) (.c (.v (.bool true))) (.t 68)⟩ ::
    ⟨none, .mv 70 (.t 69)⟩ ::
    ⟨some (70, false), .mv 71 (.t 0)⟩ ::
    ⟨some (70, false), .mv 72 (.t 1)⟩ ::
    ⟨some (70, false), .mv 73 (.t 10)⟩ ::
    ⟨some (70, false), .call (some 74) 20 [(.t 71), (.t 72), (.t 73)]⟩ ::
    ⟨some (70, false), .un 75 .not (.t 74)⟩ ::
    ⟨none, .pick 76 (.t 70) (.c (.v (.bool true))) (.t 75)⟩ :: []))
  (.cnd (.t 76)
   (.seq (.ops [⟨none, .asg 6 (.c (.v (.bool false)))⟩])
   (.seq (.scr r8) .ret))
   .skip))
 (.seq (.ops [⟨none, .mv 78 (.t 0)⟩,
   ⟨none, .mv 79 (.t 1)⟩,
   ⟨none, .mv 80 (.t 10)⟩,
   ⟨none, .call (some 81) 26 [(.t 78), (.t 79), (.t 80)]⟩,
   ⟨none, .mv 77 (.t 81)⟩,
   ⟨none, .ext 82 (.t 77) 0⟩,
   ⟨none, .ext 83 (.t 77) 1⟩,
   ⟨none, .asg 14 (.t 82)⟩,
   ⟨none, .asg 15 (.t 83)⟩])
 (.seq (.seq (.ops [⟨none, .mv 84 (.t 9)⟩,
    ⟨none, .mv 85 (.t 7)⟩,
    ⟨none, .bin 86 .sub .num (.t 85) (.c (.v (.int .i64 1)))⟩,
    ⟨none, .bin 87 .eql .num (.t 84) (.t 86)⟩])
  (.cnd (.t 87)
   (.seq (.ops [⟨none, .mv 89 (.t 0)⟩,
     ⟨none, .mv 90 (.t 1)⟩,
     ⟨none, .mv 91 (.t 7)⟩,
     ⟨none, .call (some 92) 31 [(.t 89), (.t 90), (.t 91)]⟩,
     ⟨none, .mv 88 (.t 92)⟩,
     ⟨none, .ext 93 (.t 88) 0⟩,
     ⟨none, .ext 94 (.t 88) 1⟩,
     ⟨none, .asg 16 (.t 93)⟩,
     ⟨none, .asg 17 (.t 94)⟩])
   (.seq (.ops [⟨none, .mv 95 (.t 15)⟩,
     ⟨none, .bin 96 .eql .num (.t 95) (.c (.v (.int .i64 7)))⟩,
     ⟨none, .mv 97 (.t 96)⟩,
     ⟨some (97, true), .mv 98 (.t 17)⟩,
     ⟨some (97, true), .bin 99 .eql .num (.t 98) (.c (.v (.int .i64 7)))⟩,
     ⟨none, .pick 100 (.t 97) (.t 99) (.c (.v (.bool false)))⟩,
     ⟨none, .mv 101 (.t 100)⟩,
     ⟨some (101, true), .mv 102 (.t 14)⟩,
     ⟨some (101, true), .len 103 false (.t 102)⟩,
     ⟨some (101, true), .bin 104 .eql .num (.t 103) (.c (.v (.int .i64 0)))⟩,
     ⟨none, .pick 105 (.t 101) (.t 104) (.c (.v (.bool false)))⟩,
     ⟨none, .asg 6 (.t 105)⟩])
   (.seq (.scr r8) .ret)))
   .skip))
 (.seq (.ops [⟨none, .mv 107 (.t 0)⟩,
   ⟨none, .mv 108 (.t 1)⟩,
   ⟨none, .mv 109 (.t 14)⟩,
   ⟨none, .call (some 110) 27 [(.t 107), (.t 108), (.t 109)]⟩,
   ⟨none, .mv 106 (.t 110)⟩,
   ⟨none, .ext 111 (.t 106) 0⟩,
   ⟨none, .ext 112 (.t 106) 1⟩,
   ⟨none, .asg 18 (.t 111)⟩,
   ⟨none, .asg 19 (.t 112)⟩])
 (.seq (.ops [⟨none, .mv 113 (.t 15)⟩,
   ⟨none, .bin 114 .eql .num (.t 113) (.c (.v (.int .i64 0)))⟩,
   ⟨none, .mv 115 (.t 114)⟩,
   ⟨some (115, true), .mv 116 (.t 19)⟩,
   ⟨some (115, true), .bin 117 .eql .num (.t 116) (.c (.v (.int .i64 0)))⟩,
   ⟨none, .pick 118 (.t 115) (.t 117) (.c (.v (.bool false)))⟩,
   ⟨none, .mv 119 (.t 118)⟩,
   ⟨some (119, true), .mv 120 (.t 18)⟩,
   ⟨some (119, true), .mv 121 (.t 9)⟩,
   ⟨some (119, true), .bin 122 .add .num (.t 121) (.c (.v (.int .i64 1)))⟩,
   ⟨some (119, true), .bin 123 .eql .num (.t 120) (.t 122)⟩,
   ⟨none, .pick 124 (.t 119) (.t 123) (.c (.v (.bool false)))⟩,
   ⟨none, .asg 6 (.t 124)⟩])
 (.seq (.scr r8) .ret)))))))))))))),
  125, [6]⟩

/-- coinage/coinagelaw23.SequenceSums -/
abbrev K9 : Nat := 42
def hints9 : List (List Bool) := [bits 91 [4], bits 91 [4], bits 91 [4], bits 91 [0, 5, 7], bits 91 [0, 1, 5, 7, 8], bits 91 [0, 5, 7], bits 91 [0, 1, 5, 7, 8], bits 91 [4], bits 91 [0, 1, 5, 7, 8, 11], bits 91 [0, 1, 5, 7, 8, 9, 11, 12], bits 91 [0, 1, 5, 7, 8, 11], bits 91 [0, 1, 5, 7, 8, 9, 11, 12], bits 91 [4], bits 91 [], bits 91 [0, 5, 7, 13], bits 91 [], bits 91 [0, 5, 7, 13], bits 91 [4], bits 91 [4]]
@[simp] def r9 : List Bool := bits 91 [4]
@[simp] def R9 (s4 : V) : St := tab 91 42 (fu dd 4 s4) dd
@[simp] def x9_0 : List Bool := bits 91 [0, 5, 7]
@[simp] def X9_0 (s0 s5 s7 : V) : St := tab 91 42 (fu (fu (fu dd 7 s7) 5 s5) 0 s0) dd
@[simp] def h9_0 : List Bool := bits 91 [0, 1, 5, 7, 8]
@[simp] def L9_0 (s0 s1 s5 s7 s8 : V) : St := tab 91 42 (fu (fu (fu (fu (fu dd 8 s8) 7 s7) 5 s5) 1 s1) 0 s0) dd
@[simp] def x9_1 : List Bool := bits 91 [0, 1, 5, 7, 8]
@[simp] def X9_1 (s0 s1 s5 s7 s8 : V) : St := tab 91 42 (fu (fu (fu (fu (fu dd 8 s8) 7 s7) 5 s5) 1 s1) 0 s0) dd
@[simp] def x9_2 : List Bool := bits 91 [0, 1, 5, 7, 8, 11]
@[simp] def X9_2 (s0 s1 s5 s7 s8 s11 : V) : St := tab 91 42 (fu (fu (fu (fu (fu (fu dd 11 s11) 8 s8) 7 s7) 5 s5) 1 s1) 0 s0) dd
@[simp] def h9_1 : List Bool := bits 91 [0, 1, 5, 7, 8, 9, 11, 12]
@[simp] def L9_1 (s0 s1 s5 s7 s8 s9 s11 s12 : V) : St := tab 91 42 (fu (fu (fu (fu (fu (fu (fu (fu dd 12 s12) 11 s11) 9 s9) 8 s8) 7 s7) 5 s5) 1 s1) 0 s0) dd
@[simp] def x9_3 : List Bool := bits 91 [0, 1, 5, 7, 8, 9, 11, 12]
@[simp] def X9_3 (s0 s1 s5 s7 s8 s9 s11 s12 : V) : St := tab 91 42 (fu (fu (fu (fu (fu (fu (fu (fu dd 12 s12) 11 s11) 9 s9) 8 s8) 7 s7) 5 s5) 1 s1) 0 s0) dd
def b9_1 : MC := .seq (.scr h9_1)
 (.seq (.seq (.ops [⟨none, .mv 56 (.t 12)⟩,
    ⟨none, .mv 57 (.t 0)⟩,
    ⟨none, .bin 58 .lss .num (.t 56) (.t 57)⟩])
  (.cnd (.t 58)
   .skip
   (.seq (.scr x9_2) (.ex 2))))
 (.seq (.seq (.blk 3 (.seq (.ops [⟨none, .mv 61 (.t 11)⟩,
     ⟨none, .mv 62 (.t 9)⟩,
     ⟨none, .mv 63 (.t 12)⟩,
     ⟨none, .ixs 64 1 (.t 62) (.t 63)⟩,
     ⟨none, .ld1 65 (.t 64)⟩,
     ⟨none, .bin 66 .add .num (.t 61) (.t 65)⟩,
     ⟨none, .asg 11 (.t 66)⟩])
   (.drw [⟨none, .mv 67 (.t 7)⟩,
    ⟨none, .mv 68 (.t 12)⟩,
    ⟨none, .ixs 69 1 (.t 67) (.t 68)⟩,
    ⟨none, .ld1 70 (.t 69)⟩,
    ⟨none, .mv 71 (.t 9)⟩,
    ⟨none, .mv 72 (.t 12)⟩,
    ⟨none, .ixs 73 1 (.t 71) (.t 72)⟩,
    ⟨none, .ld1 74 (.t 73)⟩] [⟨none, .bin 75 .add .num (.t 70) (.t 74)⟩,
    ⟨none, .ixs 76 1 (.t 67) (.t 68)⟩,
    ⟨none, .stn none 1 (.t 76) (.t 75)⟩]))) (.scr x9_3))
 (.ops [⟨none, .mv 59 (.t 12)⟩,
  ⟨none, .bin 60 .add .num (.t 59) (.c (.v (.int .i64 1)))⟩,
  ⟨none, .asg 12 (.t 60)⟩])))
def b9_0 : MC := .seq (.scr h9_0)
 (.seq (.seq (.ops [⟨none, .mv 36 (.t 8)⟩,
    ⟨none, .mv 37 (.t 0)⟩,
    ⟨none, .bin 38 .lss .num (.t 36) (.t 37)⟩])
  (.cnd (.t 38)
   .skip
   (.seq (.scr x9_0) (.ex 0))))
 (.seq (.seq (.blk 1 (.seq (.ops [⟨none, .mv 42 (.t 0)⟩,
     ⟨none, .mv 43 (.t 1)⟩,
     ⟨none, .mv 44 (.t 8)⟩,
     ⟨none, .call (some 45) 32 [(.t 42), (.t 43), (.t 44)]⟩,
     ⟨none, .mv 41 (.t 45)⟩,
     ⟨none, .ext 46 (.t 41) 0⟩,
     ⟨none, .ext 47 (.t 41) 1⟩,
     ⟨none, .asg 9 (.t 46)⟩,
     ⟨none, .asg 10 (.t 47)⟩])
   (.seq (.seq (.ops [⟨none, .mv 48 (.t 10)⟩,
      ⟨none, .bin 49 .neq .num (.t 48) (.c (.v (.int .i64 0)))⟩,
      ⟨none, .mv 50 (.t 49)⟩,
      ⟨some (50, false), .mv 51 (.t 9)⟩,
      ⟨some (50, false), .len 52 false (.t 51)⟩,
      ⟨some (50, false), .mv 53 (.t 0)⟩,
      ⟨some (50, false), .bin 54 .neq .num (.t 52) (.t 53)⟩,
      ⟨none, .pick 55 (.t 50) (.c (.v (.bool true))) (.t 54)⟩])
    (.cnd (.t 55)
     (.seq (.ops [⟨none, .asg 4 (.c (.v (.bool false)))⟩])
     (.seq (.scr r9) .ret))
     .skip))
   (.seq (.ops [⟨none, .asg 11 (.c (.v (.int .i64 0)))⟩])
   (.seq (.seq (.ops [⟨none, .asg 12 (.c (.v (.int .i64 0)))⟩])
    (.seq (.blk 2 (.lop b9_1)) (.scr x9_2)))
   (.seq (.ops [⟨none, .mv 77 (.t 11)⟩,
     ⟨none, .mv 78 (.t 5)⟩,
     ⟨none, .bin 79 .neq .num (.t 77) (.t 78)⟩])
   (.cnd (.t 79)
    (.seq (.ops [⟨none, .asg 4 (.c (.v (.bool false)))⟩])
    (.seq (.scr r9) .ret))
    .skip))))))) (.scr x9_1))
 (.ops [⟨none, .mv 39 (.t 8)⟩,
  ⟨none, .bin 40 .add .num (.t 39) (.c (.v (.int .i64 1)))⟩,
  ⟨none, .asg 8 (.t 40)⟩])))
@[simp] def x9_4 : List Bool := bits 91 []
@[simp] def X9_4 : St := tab 91 42 dd dd
@[simp] def h9_2 : List Bool := bits 91 [0, 5, 7, 13]
@[simp] def L9_2 (s0 s5 s7 s13 : V) : St := tab 91 42 (fu (fu (fu (fu dd 13 s13) 7 s7) 5 s5) 0 s0) dd
@[simp] def x9_5 : List Bool := bits 91 [0, 5, 7, 13]
@[simp] def X9_5 (s0 s5 s7 s13 : V) : St := tab 91 42 (fu (fu (fu (fu dd 13 s13) 7 s7) 5 s5) 0 s0) dd
def b9_2 : MC := .seq (.scr h9_2)
 (.seq (.seq (.ops [⟨none, .mv 80 (.t 13)⟩,
    ⟨none, .mv 81 (.t 0)⟩,
    ⟨none, .bin 82 .lss .num (.t 80) (.t 81)⟩])
  (.cnd (.t 82)
   .skip
   (.seq (.scr x9_4) (.ex 4))))
 (.seq (.seq (.blk 5 (.seq (.ops [⟨none, .mv 85 (.t 7)⟩,
     ⟨none, .mv 86 (.t 13)⟩,
     ⟨none, .ixs 87 1 (.t 85) (.t 86)⟩,
     ⟨none, .ld1 88 (.t 87)⟩,
     ⟨none, .mv 89 (.t 5)⟩,
     ⟨none, .bin 90 .neq .num (.t 88) (.t 89)⟩])
   (.cnd (.t 90)
    (.seq (.ops [⟨none, .asg 4 (.c (.v (.bool false)))⟩])
    (.seq (.scr r9) .ret))
    .skip))) (.scr x9_5))
 (.ops [⟨none, .mv 83 (.t 13)⟩,
  ⟨none, .bin 84 .add .num (.t 83) (.c (.v (.int .i64 1)))⟩,
  ⟨none, .asg 13 (.t 84)⟩])))
def c9 : MF := ⟨(.seq (.ops [⟨none, .asg 4 (.c (.v (.bool false)))⟩])
 (.seq (.seq (.ops [⟨none, .call (some 14) 11 []⟩,
    ⟨none, .un 15 .not (.t 14)⟩,
    ⟨none, .mv 16 (.t 15)⟩,
    ⟨some (16, false), .mv 17 (.t 0)⟩,
    ⟨some (16, false), .mv 18 (.t 1)⟩,
    ⟨some (16, false), .call (some 19) 12 [(.t 17), (.t 18)]⟩,
    ⟨some (16, false), .un 20 .not (.t 19)⟩,
    ⟨none, .pick 21 (.t 16) (.c (.v (.bool true))) (.t 20)⟩])
  (.cnd (.t 21)
   (.seq (.ops [⟨none, .call (some 22) 11 []⟩,
     ⟨none, .asg 4 (.t 22)⟩])
   (.seq (.scr r9) .ret))
   .skip))
 (.seq (.ops [⟨none, .mv 24 (.t 0)⟩,
   ⟨none, .mv 25 (.t 1)⟩,
   ⟨none, .call (some 26) 14 [(.t 24), (.t 25)]⟩,
   ⟨none, .mv 23 (.t 26)⟩,
   ⟨none, .ext 27 (.t 23) 0⟩,
   ⟨none, .ext 28 (.t 23) 1⟩,
   ⟨none, .asg 5 (.t 27)⟩,
   ⟨none, .asg 6 (.t 28)⟩])
 (.seq (.seq (.ops [⟨none, .mv 29 (.t 6)⟩,
    ⟨none, .bin 30 .neq .num (.t 29) (.c (.v (.int .i64 0)))⟩])
  (.cnd (.t 30)
   (.seq (.ops [⟨none, .mv 31 (.t 5)⟩,
     ⟨none, .bin 32 .eql .num (.t 31) (.c (.v (.int .i64 0)))⟩,
     ⟨none, .asg 4 (.t 32)⟩])
   (.seq (.scr r9) .ret))
   .skip))
 (.seq (.seq (.ops [⟨none, .mv 33 (.t 0)⟩,
    ⟨none, .bin 34 .gtr .num (.t 33) (.c (.v (.int .i64 10)))⟩])
  (.cnd (.t 34)
   (.seq (.ops [⟨none, .asg 4 (.c (.v (.bool false)))⟩])
   (.seq (.scr r9) .ret))
   .skip))
 (.seq (.ops [⟨none, .mks 35 1 [(.v (.int .i64 0))] (.c (.v (.int .i64 10))) (.c (.v (.int .i64 10)))⟩,
   ⟨none, .asg 7 (.t 35)⟩])
 (.seq (.seq (.ops [⟨none, .asg 8 (.c (.v (.int .i64 0)))⟩])
  (.seq (.blk 0 (.lop b9_0)) (.scr x9_0)))
 (.seq (.seq (.ops [⟨none, .asg 13 (.c (.v (.int .i64 0)))⟩])
  (.seq (.blk 4 (.lop b9_2)) (.scr x9_4)))
 (.seq (.ops [⟨none, .asg 4 (.c (.v (.bool true)))⟩])
 (.seq (.scr r9) .ret)))))))))),
  91, [4]⟩

/-- coinage/coinagelaw23.SequencePlaces -/
abbrev K10 : Nat := 49
def hints10 : List (List Bool) := [bits 74 [6], bits 74 [6]]
@[simp] def r10 : List Bool := bits 74 [6]
@[simp] def R10 (s6 : V) : St := tab 74 49 (fu dd 6 s6) dd
def c10 : MF := ⟨(.seq (.ops [⟨none, .box 5 (.t 2)⟩,
   ⟨none, .asg 6 (.c (.v (.bool false)))⟩])
 (.seq (.seq (.ops [⟨none, .call (some 15) 11 []⟩,
    ⟨none, .un 16 .not (.t 15)⟩,
    ⟨none, .mv 17 (.t 16)⟩,
    ⟨some (17, false), .mv 18 (.t 0)⟩,
    ⟨some (17, false), .mv 19 (.t 1)⟩,
    ⟨some (17, false), .call (some 20) 12 [(.t 18), (.t 19)]⟩,
    ⟨some (17, false), .un 21 .not (.t 20)⟩,
    ⟨none, .pick 22 (.t 17) (.c (.v (.bool true))) (.t 21)⟩])
  (.cnd (.t 22)
   (.seq (.ops [⟨none, .call (some 23) 11 []⟩,
     ⟨none, .asg 6 (.t 23)⟩])
   (.seq (.scr r10) .ret))
   .skip))
 (.seq (.ops [⟨none, .mv 25 (.t 0)⟩,
   ⟨none, .mv 26 (.t 1)⟩,
   ⟨none, .ixa 27 1 2 (.t 5) (.c (.v (.int .i64 0)))⟩,
   ⟨none, .ld1 28 (.t 27)⟩,
   ⟨none, .call (some 29) 31 [(.t 25), (.t 26), (.t 28)]⟩,
   ⟨none, .mv 24 (.t 29)⟩,
   ⟨none, .ext 30 (.t 24) 0⟩,
   ⟨none, .ext 31 (.t 24) 1⟩,
   ⟨none, .asg 7 (.t 30)⟩,
   ⟨none, .asg 8 (.t 31)⟩])
 (.seq (.ops [⟨none, .mv 33 (.t 0)⟩,
   ⟨none, .mv 34 (.t 1)⟩,
   ⟨none, .ixa 35 1 2 (.t 5) (.c (.v (.int .i64 1)))⟩,
   ⟨none, .ld1 36 (.t 35)⟩,
   ⟨none, .call (some 37) 32 [(.t 33), (.t 34), (.t 36)]⟩,
   ⟨none, .mv 32 (.t 37)⟩,
   ⟨none, .ext 38 (.t 32) 0⟩,
   ⟨none, .ext 39 (.t 32) 1⟩,
   ⟨none, .asg 9 (.t 38)⟩,
   ⟨none, .asg 10 (.t 39)⟩])
 (.seq (.ops [⟨none, .mv 41 (.t 0)⟩,
   ⟨none, .mv 42 (.t 1)⟩,
   ⟨none, .ixa 43 1 2 (.t 5) (.c (.v (.int .i64 0)))⟩,
   ⟨none, .ld1 44 (.t 43)⟩,
   ⟨none, .call (some 45) 33 [(.t 41), (.t 42), (.t 44)]⟩,
   ⟨none, .mv 40 (.t 45)⟩,
   ⟨none, .ext 46 (.t 40) 0⟩,
   ⟨none, .ext 47 (.t 40) 1⟩,
   ⟨none, .asg 11 (.t 46)⟩,
   ⟨none, .asg 12 (.t 47)⟩])
 (.seq (.ops [⟨none, .mv 49 (.t 0)⟩,
   ⟨none, .mv 50 (.t 1)⟩,
   ⟨none, .ixa 51 1 2 (.t 5) (.c (.v (.int .i64 1)))⟩,
   ⟨none, .ld1 52 (.t 51)⟩,
   ⟨none, .call (some 53) 34 [(.t 49), (.t 50), (.t 52)]⟩,
   ⟨none, .mv 48 (.t 53)⟩,
   ⟨none, .ext 54 (.t 48) 0⟩,
   ⟨none, .ext 55 (.t 48) 1⟩,
   ⟨none, .asg 13 (.t 54)⟩,
   ⟨none, .asg 14 (.t 55)⟩])
 (.seq (.ops (⟨none, .mv 56 (.t 8)⟩ ::
   ⟨none, .mv 57 (.t 12)⟩ ::
   ⟨none, .bin 58 .eql .num (.t 56) (.t 57)⟩ ::
   ⟨none, .mv 59 (.t 58)⟩ ::
   ⟨some (59, true), .mv 60 (.t 10)⟩ ::
   ⟨some (59, true), .mv 61 (.t 14)⟩ ::
   ⟨some (59, true), .bin 62 .eql .num (.t 60) (.t 61)⟩ ::
   ⟨none, .pick 63 (.t 59) (.t 62) (.c (.v (.bool false)))⟩ ::
   ⟨none, .mv 64 (.t 63)⟩ ::
   ⟨some (64, true), .mv 65 (.t 7)⟩ ::
   ⟨some (64, true), .mv 66 (.t 11)⟩ ::
   ⟨some (64, true), .call (some 67) 17 [(.t 65), (.t 66)]⟩ ::
   ⟨none, .pick 68 (.t 64) (.t 67) (.c (.v (.bool false)))⟩ ::
   ⟨none, .mv 69 (.t 68)⟩ ::
   ⟨some (69, true), .mv 70 (.t 9)⟩ ::
   ⟨some (69, true), .mv 71 (.t 13)⟩ ::
   ⟨some (69, true), .call (some 72) 17 [(.t 70), (.t 71)]⟩ ::
   ⟨none, .pick 73 (.t 69) (.t 72) (.c (.v (.bool false)))⟩ ::
   ⟨none, .asg 6 (.t 73)⟩ :: []))
 (.seq (.scr r10) .ret)))))))),
  74, [6]⟩

/-- coinage/coinagelaw23.awake -/
abbrev K11 : Nat := 14
def hints11 : List (List Bool) := [bits 41 [0]]
@[simp] def r11 : List Bool := bits 41 [0]
@[simp] def R11 (s0 : V) : St := tab 41 14 (fu dd 0 s0) dd
def c11 : MF := ⟨(.seq (.ops [⟨none, .asg 0 (.c (.v (.bool false)))⟩])
 (.seq (.ops [⟨none, .bld 6 [(.v (.int .i64 0)), (.v (.int .i64 0))] [(0, 1, (.c (.v (.int .i64 2)))), (1, 1, (.c (.v (.int .i64 0))))]⟩,
   ⟨none, .bs 7 2 1 [(.v (.int .i64 0)), (.v (.int .i64 0))] [(0, 2, (.t 6))]⟩,
   ⟨none, .asg 1 (.t 7)⟩])
 (.seq (.ops [⟨none, .mv 9 (.t 1)⟩,
   ⟨none, .call (some 10) 14 [(.c (.v (.int .i64 3))), (.t 9)]⟩,
   ⟨none, .mv 8 (.t 10)⟩,
   ⟨none, .ext 11 (.t 8) 0⟩,
   ⟨none, .ext 12 (.t 8) 1⟩,
   ⟨none, .asg 2 (.t 11)⟩,
   ⟨none, .asg 3 (.t 12)⟩])
 (.seq (.ops [⟨none, .mv 14 (.t 1)⟩,
   ⟨none, .call (some 15) 13 [(.c (.v (.int .i64 3))), (.t 14)]⟩,
   ⟨none, .mv 13 (.t 15)⟩,
   ⟨none, .ext 16 (.t 13) 0⟩,
   ⟨none, .ext 17 (.t 13) 1⟩,
   ⟨none, .asg 4 (.t 16)⟩,
   ⟨none, .asg 5 (.t 17)⟩])
 (.seq (.ops (⟨none, .mv 18 (.t 3)⟩ ::
   ⟨none, .bin 19 .eql .num (.t 18) (.c (.v (.int .i64 0)))⟩ ::
   ⟨none, .mv 20 (.t 19)⟩ ::
   ⟨some (20, true), .mv 21 (.t 2)⟩ ::
   ⟨some (20, true), .bin 22 .eql .num (.t 21) (.c (.v (.int .i64 3)))⟩ ::
   ⟨none, .pick 23 (.t 20) (.t 22) (.c (.v (.bool false)))⟩ ::
   ⟨none, .mv 24 (.t 23)⟩ ::
   ⟨some (24, true), .mv 25 (.t 5)⟩ ::
   ⟨some (24, true), .bin 26 .eql .num (.t 25) (.c (.v (.int .i64 0)))⟩ ::
   ⟨none, .pick 27 (.t 24) (.t 26) (.c (.v (.bool false)))⟩ ::
   ⟨none, .mv 28 (.t 27)⟩ ::
   ⟨some (28, true), .mv 29 (.t 4)⟩ ::
   ⟨some (28, true), .bs 30 1 3 [(.v (.int .i64 0))] [(0, 1, (.c (.v (.int .i64 1)))), (1, 1, (.c (.v (.int .i64 2)))), (2, 1, (.c (.v (.int .i64 0))))]⟩ ::
   ⟨some (28, true), .bs 31 1 3 [(.v (.int .i64 0))] [(0, 1, (.c (.v (.int .i64 2)))), (1, 1, (.c (.v (.int .i64 0)))), (2, 1, (.c (.v (.int .i64 1))))]⟩ ::
   ⟨some (28, true), .bs 32 1 3 [(.v (.int .i64 0))] [(0, 1, (.c (.v (.int .i64 2)))), (1, 1, (.c (.v (.int .i64 1)))), (2, 1, (.c (.v (.int .i64 0))))]⟩ ::
   ⟨some (28, true), .bs 33 1 3 [(.nd (.sl true 1 0) [])] [(0, 1, (.t 30)), (1, 1, (.t 31)), (2, 1, (.t 32))]⟩ ::
   ⟨some (28, true), .call (some 34) 25 [(.t 29), (.t 33)]⟩ ::
   ⟨none, .pick 35 (.t 28) (.t 34) (.c (.v (.bool false)))⟩ ::
   ⟨none, .mv 36 (.t 35)⟩ ::
   ⟨some (36, true), .mv 37 (.t 1)⟩ ::
   ⟨some (36, true), .bs 38 1 3 [(.v (.int .i64 0))] [(0, 1, (.c (.v (.int .i64 2)))), (1, 1, (.c (.v (.int .i64 0)))), (2, 1, (.c (.v (.int .i64 1))))]⟩ ::
   ⟨some (36, true), .call (some 39) 20 [(.c (.v (.int .i64 3))), (.t 37), (.t 38)]⟩ ::
   ⟨none, .pick 40 (.t 36) (.t 39) (.c (.v (.bool false)))⟩ ::
   ⟨none, .asg 0 (.t 40)⟩ :: []))
 (.seq (.scr r11) .ret)))))),
  41, [0]⟩

/-- coinage/coinagelaw23.few -/
abbrev K12 : Nat := 5
def hints12 : List (List Bool) := [bits 16 [4]]
@[simp] def r12 : List Bool := bits 16 [4]
@[simp] def R12 (s4 : V) : St := tab 16 5 (fu dd 4 s4) dd
def c12 : MF := ⟨(.seq (.ops [⟨none, .asg 4 (.c (.v (.bool false)))⟩])
 (.seq (.ops [⟨none, .mv 5 (.t 0)⟩,
   ⟨none, .bin 6 .leq .num (.t 5) (.c (.v (.int .i64 7)))⟩,
   ⟨none, .mv 7 (.t 6)⟩,
   ⟨some (7, false), .mv 8 (.t 0)⟩,
   ⟨some (7, false), .bin 9 .gtr .num (.t 8) (.c (.v (.int .i64 10)))⟩,
   ⟨none, .pick 10 (.t 7) (.c (.v (.bool true))) (.t 9)⟩,
   ⟨none, .mv 11 (.t 10)⟩,
   ⟨some (11, true), .mv 12 (.t 1)⟩,
   ⟨some (11, true), .len 13 false (.t 12)⟩,
   ⟨some (11, true), .bin 14 .leq .num (.t 13) (.c (.v (.int .i64 60)))⟩,
   ⟨none, .pick 15 (.t 11) (.t 14) (.c (.v (.bool false)))⟩,
   ⟨none, .asg 4 (.t 15)⟩])
 (.seq (.scr r12) .ret))),
  16, [4]⟩

/-- coinage/sequence.All -/
abbrev K13 : Nat := 29
def hints13 : List (List Bool) := [bits 39 [4, 5], bits 39 [4, 5], bits 39 [8], bits 39 [7, 8, 27, 28], bits 39 [8], bits 39 [7, 8, 27, 28], bits 39 [4, 5]]
@[simp] def r13 : List Bool := bits 39 [4, 5]
@[simp] def R13 (s4 s5 : V) : St := tab 39 29 (fu (fu dd 5 s5) 4 s4) dd
@[simp] def x13_0 : List Bool := bits 39 [8]
@[simp] def X13_0 (s8 : V) : St := tab 39 29 (fu dd 8 s8) dd
@[simp] def h13_0 : List Bool := bits 39 [7, 8, 27, 28]
@[simp] def L13_0 (s7 s8 s27 s28 : V) : St := tab 39 29 (fu (fu (fu (fu dd 28 s28) 27 s27) 8 s8) 7 s7) dd
@[simp] def x13_1 : List Bool := bits 39 [7, 8, 27, 28]
@[simp] def X13_1 (s7 s8 s27 s28 : V) : St := tab 39 29 (fu (fu (fu (fu dd 28 s28) 27 s27) 8 s8) 7 s7) dd
def b13_0 : MC := .seq (.scr h13_0)
 (.seq (.ops [⟨none, .bin 29 .lss .num (.t 28) (.t 27)⟩])
 (.seq (.cnd (.t 29)
   .skip
   (.seq (.scr x13_0) (.ex 0)))
 (.seq (.seq (.blk 1 (.seq (.ops [⟨none, .mv 30 (.t 28)⟩,
     ⟨none, .asg 9 (.t 30)⟩])
   (.ops [⟨none, .mv 31 (.t 8)⟩,
    ⟨none, .ldn 32 3 (.t 7)⟩,
    ⟨none, .mv 33 (.t 9)⟩,
    ⟨none, .call (some 34) 37 [(.t 32), (.t 33)]⟩,
    ⟨none, .bs 35 1 1 [(.nd (.sl true 1 0) [])] [(0, 1, (.t 34))]⟩,
    ⟨none, .app 36 1 (.t 31) (.t 35)⟩,
    ⟨none, .asg 8 (.t 36)⟩]))) (.scr x13_1))
 (.ops [⟨none, .bin 37 .add .num (.t 28) (.c (.v (.int .i64 1)))⟩,
  ⟨none, .mv 28 (.t 37)⟩]))))
def c13 : MF := ⟨(.seq (.ops [⟨none, .asg 4 (.c (.nd (.sl true 1 0) []))⟩,
   ⟨none, .asg 5 (.c (.v (.int .i64 0)))⟩])
 (.seq (.seq (.ops [⟨none, .mv 10 (.t 0)⟩,
    ⟨none, .mv 11 (.t 1)⟩,
    ⟨none, .call (some 12) 35 [(.t 10), (.t 11)]⟩,
    ⟨none, .asg 6 (.t 12)⟩])
  (.seq (.ops [⟨none, .mv 13 (.t 6)⟩,
    ⟨none, .bin 14 .neq .num (.t 13) (.c (.v (.int .i64 0)))⟩])
  (.cnd (.t 14)
   (.seq (.ops [⟨none, .mv 15 (.t 6)⟩,
     ⟨none, .asg 4 (.c (.nd (.sl true 1 0) []))⟩,
     ⟨none, .asg 5 (.t 15)⟩])
   (.seq (.scr r13) .ret))
   .skip)))
 (.seq (.ops [⟨none, .mv 16 (.t 0)⟩,
   ⟨none, .mv 17 (.t 1)⟩,
   ⟨none, .call (some 18) 36 [(.t 16), (.t 17)]⟩,
   ⟨none, .alc 7 [(.v (.int .i64 0)), (.nd (.sl true 1 0) []), (.nd (.sl true 1 0) [])]⟩,
   ⟨none, .stn none 3 (.t 7) (.t 18)⟩])
 (.seq (.seq (.ops [⟨none, .fa 19 2 (.t 7)⟩,
    ⟨none, .ld1 20 (.t 19)⟩,
    ⟨none, .ixs 21 1 (.t 20) (.c (.v (.int .i64 0)))⟩,
    ⟨none, .ld1 22 (.t 21)⟩,
    ⟨none, .bin 23 .gtr .num (.t 22) (.c (.v (.int .i64 200)))⟩])
  (.cnd (.t 23)
   (.seq (.ops [⟨none, .asg 4 (.c (.nd (.sl true 1 0) []))⟩,
     ⟨none, .asg 5 (.c (.v (.int .i64 2)))⟩])
   (.seq (.scr r13) .ret))
   .skip))
 (.seq (.ops [⟨none, .asg 8 (.c (.nd (.sl true 1 0) []))⟩])
 (.seq (.seq (.ops [⟨none, .fa 24 2 (.t 7)⟩,
    ⟨none, .ld1 25 (.t 24)⟩,
    ⟨none, .ixs 26 1 (.t 25) (.c (.v (.int .i64 0)))⟩,
    ⟨none, .ld1 27 (.t 26)⟩,
    ⟨none, .mv 28 (.c (.v (.int .i64 0)))⟩])
  (.seq (.blk 0 (.lop b13_0)) (.scr x13_0)))
 (.seq (.ops [⟨none, .mv 38 (.t 8)⟩,
   ⟨none, .asg 4 (.t 38)⟩,
   ⟨none, .asg 5 (.c (.v (.int .i64 0)))⟩])
 (.seq (.scr r13) .ret)))))))),
  39, [4, 5]⟩

/-- coinage/sequence.Count -/
abbrev K14 : Nat := 7
def hints14 : List (List Bool) := [bits 19 [4, 5], bits 19 [4, 5]]
@[simp] def r14 : List Bool := bits 19 [4, 5]
@[simp] def R14 (s4 s5 : V) : St := tab 19 7 (fu (fu dd 5 s5) 4 s4) dd
def c14 : MF := ⟨(.seq (.ops [⟨none, .asg 4 (.c (.v (.int .i64 0)))⟩,
   ⟨none, .asg 5 (.c (.v (.int .i64 0)))⟩])
 (.seq (.seq (.ops [⟨none, .mv 7 (.t 0)⟩,
    ⟨none, .mv 8 (.t 1)⟩,
    ⟨none, .call (some 9) 35 [(.t 7), (.t 8)]⟩,
    ⟨none, .asg 6 (.t 9)⟩])
  (.seq (.ops [⟨none, .mv 10 (.t 6)⟩,
    ⟨none, .bin 11 .neq .num (.t 10) (.c (.v (.int .i64 0)))⟩])
  (.cnd (.t 11)
   (.seq (.ops [⟨none, .mv 12 (.t 6)⟩,
     ⟨none, .asg 4 (.c (.v (.int .i64 0)))⟩,
     ⟨none, .asg 5 (.t 12)⟩])
   (.seq (.scr r14) .ret))
   .skip)))
 (.seq (.ops [⟨none, .mv 13 (.t 0)⟩,
   ⟨none, .mv 14 (.t 1)⟩,
   ⟨none, .call (some 15) 36 [(.t 13), (.t 14)]⟩,
   ⟨none, .fld 16 2 none (.t 15)⟩,
   ⟨none, .ixs 17 1 (.t 16) (.c (.v (.int .i64 0)))⟩,
   ⟨none, .ld1 18 (.t 17)⟩,
   ⟨none, .asg 4 (.t 18)⟩,
   ⟨none, .asg 5 (.c (.v (.int .i64 0)))⟩])
 (.seq (.scr r14) .ret)))),
  19, [4, 5]⟩

/-- coinage/coinageref23.Check -/
abbrev K15 : Nat := 5
def hints15 : List (List Bool) := [bits 15 [4], bits 15 [4], bits 15 [4], bits 15 [4]]
@[simp] def r15 : List Bool := bits 15 [4]
@[simp] def R15 (s4 : V) : St := tab 15 5 (fu dd 4 s4) dd
def c15 : MF := ⟨(.seq (.ops [⟨none, .asg 4 (.c (.v (.int .i64 0)))⟩])
 (.seq (.seq (.ops [⟨none, .mv 5 (.t 0)⟩,
    ⟨none, .mv 6 (.t 1)⟩,
    ⟨none, .call (some 7) 38 [(.t 5), (.t 6)]⟩,
    ⟨none, .un 8 .not (.t 7)⟩])
  (.cnd (.t 8)
   (.seq (.ops [⟨none, .asg 4 (.c (.v (.int .i64 1)))⟩])
   (.seq (.scr r15) .ret))
   .skip))
 (.seq (.seq (.ops [⟨none, .mv 9 (.t 0)⟩,
    ⟨none, .bin 10 .gtr .num (.t 9) (.c (.v (.int .i64 10)))⟩])
  (.cnd (.t 10)
   (.seq (.ops [⟨none, .asg 4 (.c (.v (.int .i64 6)))⟩])
   (.seq (.scr r15) .ret))
   .skip))
 (.seq (.seq (.ops [⟨none, .mv 11 (.t 0)⟩,
    ⟨none, .mv 12 (.t 1)⟩,
    ⟨none, .call (some 13) 39 [(.t 11), (.t 12)]⟩,
    ⟨none, .un 14 .not (.t 13)⟩])
  (.cnd (.t 14)
   (.seq (.ops [⟨none, .asg 4 (.c (.v (.int .i64 11)))⟩])
   (.seq (.scr r15) .ret))
   .skip))
 (.seq (.ops [⟨none, .asg 4 (.c (.v (.int .i64 0)))⟩])
 (.seq (.scr r15) .ret)))))),
  15, [4]⟩

/-- coinage/coinagebase.Order -/
abbrev K16 : Nat := 7
def hints16 : List (List Bool) := [bits 43 [4], bits 43 [], bits 43 [0, 1, 5], bits 43 [], bits 43 [0, 1, 5], bits 43 [4], bits 43 [0, 1, 5], bits 43 [0, 1, 5, 6], bits 43 [0, 1, 5], bits 43 [0, 1, 5, 6], bits 43 [4], bits 43 [4]]
@[simp] def r16 : List Bool := bits 43 [4]
@[simp] def R16 (s4 : V) : St := tab 43 7 (fu dd 4 s4) dd
@[simp] def x16_0 : List Bool := bits 43 []
@[simp] def X16_0 : St := tab 43 7 dd dd
@[simp] def h16_0 : List Bool := bits 43 [0, 1, 5]
@[simp] def L16_0 (s0 s1 s5 : V) : St := tab 43 7 (fu (fu (fu dd 5 s5) 1 s1) 0 s0) dd
@[simp] def x16_1 : List Bool := bits 43 [0, 1, 5]
@[simp] def X16_1 (s0 s1 s5 : V) : St := tab 43 7 (fu (fu (fu dd 5 s5) 1 s1) 0 s0) dd
@[simp] def x16_2 : List Bool := bits 43 [0, 1, 5]
@[simp] def X16_2 (s0 s1 s5 : V) : St := tab 43 7 (fu (fu (fu dd 5 s5) 1 s1) 0 s0) dd
@[simp] def h16_1 : List Bool := bits 43 [0, 1, 5, 6]
@[simp] def L16_1 (s0 s1 s5 s6 : V) : St := tab 43 7 (fu (fu (fu (fu dd 6 s6) 5 s5) 1 s1) 0 s0) dd
@[simp] def x16_3 : List Bool := bits 43 [0, 1, 5, 6]
@[simp] def X16_3 (s0 s1 s5 s6 : V) : St := tab 43 7 (fu (fu (fu (fu dd 6 s6) 5 s5) 1 s1) 0 s0) dd
def b16_1 : MC := .seq (.scr h16_1)
 (.seq (.seq (.ops [⟨none, .mv 29 (.t 6)⟩,
    ⟨none, .mv 30 (.t 5)⟩,
    ⟨none, .bin 31 .lss .num (.t 29) (.t 30)⟩])
  (.cnd (.t 31)
   .skip
   (.seq (.scr x16_2) (.ex 2))))
 (.seq (.seq (.blk 3 (.seq (.drw [⟨none, .mv 34 (.t 0)⟩,
     ⟨none, .mv 35 (.t 5)⟩,
     ⟨none, .ixs 36 1 (.t 34) (.t 35)⟩,
     ⟨none, .ld1 37 (.t 36)⟩,
     ⟨none, .mv 38 (.t 0)⟩,
     ⟨none, .mv 39 (.t 6)⟩,
     ⟨none, .ixs 40 1 (.t 38) (.t 39)⟩,
     ⟨none, .ld1 41 (.t 40)⟩] [⟨none, .bin 42 .eql .num (.t 37) (.t 41)⟩])
   (.cnd (.t 42)
    (.seq (.ops [⟨none, .asg 4 (.c (.v (.bool false)))⟩])
    (.seq (.scr r16) .ret))
    .skip))) (.scr x16_3))
 (.ops [⟨none, .mv 32 (.t 6)⟩,
  ⟨none, .bin 33 .add .num (.t 32) (.c (.v (.int .i64 1)))⟩,
  ⟨none, .asg 6 (.t 33)⟩])))
def b16_0 : MC := .seq (.scr h16_0)
 (.seq (.seq (.ops [⟨none, .mv 11 (.t 5)⟩,
    ⟨none, .mv 12 (.t 1)⟩,
    ⟨none, .bin 13 .lss .num (.t 11) (.t 12)⟩])
  (.cnd (.t 13)
   .skip
   (.seq (.scr x16_0) (.ex 0))))
 (.seq (.seq (.blk 1 (.seq (.seq (.ops [⟨none, .mv 16 (.t 0)⟩,
      ⟨none, .mv 17 (.t 5)⟩,
      ⟨none, .ixs 18 1 (.t 16) (.t 17)⟩,
      ⟨none, .ld1 19 (.t 18)⟩,
      ⟨none, .bin 20 .lss .num (.t 19) (.c (.v (.int .i64 0)))⟩,
      ⟨none, .mv 21 (.t 20)⟩,
      ⟨some (21, false), .mv 22 (.t 0)⟩,
      ⟨some (21, false), .mv 23 (.t 5)⟩,
      ⟨some (21, false), .ixs 24 1 (.t 22) (.t 23)⟩,
      ⟨some (21, false), .ld1 25 (.t 24)⟩,
      ⟨some (21, false), .mv 26 (.t 1)⟩,
      ⟨some (21, false), .bin 27 .geq .num (.t 25) (.t 26)⟩,
      ⟨none, .pick 28 (.t 21) (.c (.v (.bool true))) (.t 27)⟩])
    (.cnd (.t 28)
     (.seq (.ops [⟨none, .asg 4 (.c (.v (.bool false)))⟩])
     (.seq (.scr r16) .ret))
     .skip))
   (.seq (.ops [⟨none, .asg 6 (.c (.v (.int .i64 0)))⟩])
   (.seq (.blk 2 (.lop b16_1)) (.scr x16_2))))) (.scr x16_1))
 (.ops [⟨none, .mv 14 (.t 5)⟩,
  ⟨none, .bin 15 .add .num (.t 14) (.c (.v (.int .i64 1)))⟩,
  ⟨none, .asg 5 (.t 15)⟩])))
def c16 : MF := ⟨(.seq (.ops [⟨none, .asg 4 (.c (.v (.bool false)))⟩])
 (.seq (.seq (.ops [⟨none, .mv 7 (.t 0)⟩,
    ⟨none, .len 8 false (.t 7)⟩,
    ⟨none, .mv 9 (.t 1)⟩,
    ⟨none, .bin 10 .neq .num (.t 8) (.t 9)⟩])
  (.cnd (.t 10)
   (.seq (.ops [⟨none, .asg 4 (.c (.v (.bool false)))⟩])
   (.seq (.scr r16) .ret))
   .skip))
 (.seq (.seq (.ops [⟨none, .asg 5 (.c (.v (.int .i64 0)))⟩])
  (.seq (.blk 0 (.lop b16_0)) (.scr x16_0)))
 (.seq (.ops [⟨none, .asg 4 (.c (.v (.bool true)))⟩])
 (.seq (.scr r16) .ret))))),
  43, [4]⟩

/-- coinage/coinagebase.Ints -/
abbrev K17 : Nat := 6
def hints17 : List (List Bool) := [bits 26 [4], bits 26 [], bits 26 [0, 1, 5], bits 26 [], bits 26 [0, 1, 5], bits 26 [4], bits 26 [4]]
@[simp] def r17 : List Bool := bits 26 [4]
@[simp] def R17 (s4 : V) : St := tab 26 6 (fu dd 4 s4) dd
@[simp] def x17_0 : List Bool := bits 26 []
@[simp] def X17_0 : St := tab 26 6 dd dd
@[simp] def h17_0 : List Bool := bits 26 [0, 1, 5]
@[simp] def L17_0 (s0 s1 s5 : V) : St := tab 26 6 (fu (fu (fu dd 5 s5) 1 s1) 0 s0) dd
@[simp] def x17_1 : List Bool := bits 26 [0, 1, 5]
@[simp] def X17_1 (s0 s1 s5 : V) : St := tab 26 6 (fu (fu (fu dd 5 s5) 1 s1) 0 s0) dd
def b17_0 : MC := .seq (.scr h17_0)
 (.seq (.seq (.ops [⟨none, .mv 11 (.t 5)⟩,
    ⟨none, .mv 12 (.t 0)⟩,
    ⟨none, .len 13 false (.t 12)⟩,
    ⟨none, .bin 14 .lss .num (.t 11) (.t 13)⟩])
  (.cnd (.t 14)
   .skip
   (.seq (.scr x17_0) (.ex 0))))
 (.seq (.seq (.blk 1 (.seq (.drw [⟨none, .mv 17 (.t 0)⟩,
     ⟨none, .mv 18 (.t 5)⟩,
     ⟨none, .ixs 19 1 (.t 17) (.t 18)⟩,
     ⟨none, .ld1 20 (.t 19)⟩,
     ⟨none, .mv 21 (.t 1)⟩,
     ⟨none, .mv 22 (.t 5)⟩,
     ⟨none, .ixs 23 1 (.t 21) (.t 22)⟩,
     ⟨none, .ld1 24 (.t 23)⟩] [⟨none, .bin 25 .neq .num (.t 20) (.t 24)⟩])
   (.cnd (.t 25)
    (.seq (.ops [⟨none, .asg 4 (.c (.v (.bool false)))⟩])
    (.seq (.scr r17) .ret))
    .skip))) (.scr x17_1))
 (.ops [⟨none, .mv 15 (.t 5)⟩,
  ⟨none, .bin 16 .add .num (.t 15) (.c (.v (.int .i64 1)))⟩,
  ⟨none, .asg 5 (.t 16)⟩])))
def c17 : MF := ⟨(.seq (.ops [⟨none, .asg 4 (.c (.v (.bool false)))⟩])
 (.seq (.seq (.ops [⟨none, .mv 6 (.t 0)⟩,
    ⟨none, .len 7 false (.t 6)⟩,
    ⟨none, .mv 8 (.t 1)⟩,
    ⟨none, .len 9 false (.t 8)⟩,
    ⟨none, .bin 10 .neq .num (.t 7) (.t 9)⟩])
  (.cnd (.t 10)
   (.seq (.ops [⟨none, .asg 4 (.c (.v (.bool false)))⟩])
   (.seq (.scr r17) .ret))
   .skip))
 (.seq (.seq (.ops [⟨none, .asg 5 (.c (.v (.int .i64 0)))⟩])
  (.seq (.blk 0 (.lop b17_0)) (.scr x17_0)))
 (.seq (.ops [⟨none, .asg 4 (.c (.v (.bool true)))⟩])
 (.seq (.scr r17) .ret))))),
  26, [4]⟩

/-- coinage/coinagelaw23.count -/
abbrev K18 : Nat := 9
def hints18 : List (List Bool) := [bits 25 [4, 5]]
@[simp] def r18 : List Bool := bits 25 [4, 5]
@[simp] def R18 (s4 s5 : V) : St := tab 25 9 (fu (fu dd 5 s5) 4 s4) dd
def c18 : MF := ⟨(.seq (.ops [⟨none, .asg 4 (.c (.v (.int .i64 0)))⟩,
   ⟨none, .asg 5 (.c (.v (.bool false)))⟩])
 (.seq (.ops [⟨none, .mv 9 (.t 0)⟩,
   ⟨none, .mv 10 (.t 1)⟩,
   ⟨none, .call (some 11) 14 [(.t 9), (.t 10)]⟩,
   ⟨none, .mv 8 (.t 11)⟩,
   ⟨none, .ext 12 (.t 8) 0⟩,
   ⟨none, .ext 13 (.t 8) 1⟩,
   ⟨none, .asg 6 (.t 12)⟩,
   ⟨none, .asg 7 (.t 13)⟩])
 (.seq (.ops [⟨none, .mv 14 (.t 6)⟩,
   ⟨none, .mv 15 (.t 7)⟩,
   ⟨none, .bin 16 .eql .num (.t 15) (.c (.v (.int .i64 0)))⟩,
   ⟨none, .mv 17 (.t 16)⟩,
   ⟨some (17, false), .mv 18 (.t 7)⟩,
   ⟨some (17, false), .bin 19 .eql .num (.t 18) (.c (.v (.int .i64 11)))⟩,
   ⟨some (17, false), .mv 20 (.t 19)⟩,
   ⟨some (20, true), .mv 21 (.t 6)⟩,
   ⟨some (20, true), .bin 22 .eql .num (.t 21) (.c (.v (.int .i64 0)))⟩,
   ⟨some (17, false), .pick 23 (.t 20) (.t 22) (.c (.v (.bool false)))⟩,
   ⟨none, .pick 24 (.t 17) (.c (.v (.bool true))) (.t 23)⟩,
   ⟨none, .asg 4 (.t 14)⟩,
   ⟨none, .asg 5 (.t 24)⟩])
 (.seq (.scr r18) .ret)))),
  25, [4, 5]⟩

/-- coinage/coinagelaw23.with -/
abbrev K19 : Nat := 6
def hints19 : List (List Bool) := [bits 54 [0, 3, 5], bits 54 [0, 3, 5], bits 54 [0, 3, 5], bits 54 [0, 3, 5], bits 54 [4]]
@[simp] def r19 : List Bool := bits 54 [4]
@[simp] def R19 (s4 : V) : St := tab 54 6 (fu dd 4 s4) dd
@[simp] def x19_0 : List Bool := bits 54 [0, 3, 5]
@[simp] def X19_0 (s0 s3 s5 : V) : St := tab 54 6 (fu (fu (fu dd 5 s5) 3 s3) 0 s0) dd
@[simp] def h19_0 : List Bool := bits 54 [0, 3, 5]
@[simp] def L19_0 (s0 s3 s5 : V) : St := tab 54 6 (fu (fu (fu dd 5 s5) 3 s3) 0 s0) dd
@[simp] def x19_1 : List Bool := bits 54 [0, 3, 5]
@[simp] def X19_1 (s0 s3 s5 : V) : St := tab 54 6 (fu (fu (fu dd 5 s5) 3 s3) 0 s0) dd
def b19_0 : MC := .seq (.scr h19_0)
 (.seq (.seq (.drw (⟨none, .mv 6 (.t 5)⟩ ::
    ⟨none, .mv 7 (.t 0)⟩ ::
    ⟨none, .len 8 false (.t 7)⟩ ::
    ⟨none, .bin 9 .lss .num (.t 6) (.t 8)⟩ ::
    ⟨none, .mv 10 (.t 9)⟩ ::
    ⟨some (10, true), .mv 11 (.t 0)⟩ ::
    ⟨some (10, true), .mv 12 (.t 5)⟩ ::
    ⟨some (10, true), .ixs 13 2 (.t 11) (.t 12)⟩ ::
    ⟨some (10, true), .fa 14 0 (.t 13)⟩ ::
    ⟨some (10, true), .ld1 15 (.t 14)⟩ ::
    ⟨some (10, true), .fa 16 0 (.t 3)⟩ ::
    ⟨some (10, true), .ld1 17 (.t 16)⟩ ::
    ⟨some (10, true), .bin 18 .lss .num (.t 15) (.t 17)⟩ ::
    ⟨some (10, true), .mv 19 (.t 18)⟩ ::
    ⟨some (19, false), .mv 20 (.t 0)⟩ ::
    ⟨some (19, false), .mv 21 (.t 5)⟩ ::
    ⟨some (19, false), .ixs 22 2 (.t 20) (.t 21)⟩ ::
    ⟨some (19, false), .fa 23 0 (.t 22)⟩ ::
    ⟨some (19, false), .ld1 24 (.t 23)⟩ ::
    ⟨some (19, false), .fa 25 0 (.t 3)⟩ ::
    ⟨some (19, false), .ld1 26 (.t 25)⟩ ::
    ⟨some (19, false), .bin 27 .eql .num (.t 24) (.t 26)⟩ ::
    ⟨some (19, false), .mv 28 (.t 27)⟩ ::
    ⟨some (28, true), .mv 29 (.t 0)⟩ ::
    ⟨some (28, true), .mv 30 (.t 5)⟩ ::
    ⟨some (28, true), .ixs 31 2 (.t 29) (.t 30)⟩ ::
    ⟨some (28, true), .fa 32 1 (.t 31)⟩ ::
    ⟨some (28, true), .ld1 33 (.t 32)⟩ ::
    ⟨some (28, true), .fa 34 1 (.t 3)⟩ ::
    ⟨some (28, true), .ld1 35 (.t 34)⟩ :: []) [⟨some (28, true), .bin 36 .lss .num (.t 33) (.t 35)⟩,
    ⟨some (19, false), .pick 37 (.t 28) (.t 36) (.c (.v (.bool false)))⟩,
    ⟨some (10, true), .pick 38 (.t 19) (.c (.v (.bool true))) (.t 37)⟩,
    ⟨none, .pick 39 (.t 10) (.t 38) (.c (.v (.bool false)))⟩])
  (.cnd (.t 39)
   .skip
   (.seq (.scr x19_0) (.ex 0))))
 (.seq (.blk 1 (.ops [⟨none, .mv 40 (.t 5)⟩,
   ⟨none, .bin 41 .add .num (.t 40) (.c (.v (.int .i64 1)))⟩,
   ⟨none, .asg 5 (.t 41)⟩])) (.scr x19_1)))
def c19 : MF := ⟨(.seq (.ops [⟨none, .box 3 (.t 1)⟩,
   ⟨none, .asg 4 (.c (.nd (.sl true 2 0) []))⟩])
 (.seq (.ops [⟨none, .asg 5 (.c (.v (.int .i64 0)))⟩])
 (.seq (.seq (.blk 0 (.lop b19_0)) (.scr x19_0))
 (.seq (.drw [⟨none, .mv 43 (.t 0)⟩,
   ⟨none, .mv 44 (.t 5)⟩,
   ⟨none, .sl 45 2 (.t 43) none (some (.t 44))⟩,
   ⟨none, .mv 50 (.t 0)⟩,
   ⟨none, .mv 51 (.t 5)⟩,
   ⟨none, .sl 52 2 (.t 50) (some (.t 51)) none⟩,
   ⟨none, .mz 42 2⟩,
   ⟨none, .app 46 2 (.t 42) (.t 45)⟩,
   ⟨none, .ldn 47 2 (.t 3)⟩,
   ⟨none, .bs 48 2 1 [(.v (.int .i64 0)), (.v (.int .i64 0))] [(0, 2, (.t 47))]⟩] [⟨none, .app 49 2 (.t 46) (.t 48)⟩,
   ⟨none, .app 53 2 (.t 49) (.t 52)⟩,
   ⟨none, .asg 4 (.t 53)⟩])
 (.seq (.scr r19) .ret))))),
  54, [4]⟩

/-- coinage/sequence.Is -/
abbrev K20 : Nat := 7
def hints20 : List (List Bool) := [bits 19 [6]]
@[simp] def r20 : List Bool := bits 19 [6]
@[simp] def R20 (s6 : V) : St := tab 19 7 (fu dd 6 s6) dd
def c20 : MF := ⟨(.seq (.ops [⟨none, .asg 6 (.c (.v (.bool false)))⟩])
 (.seq (.ops [⟨none, .mv 7 (.t 0)⟩,
   ⟨none, .mv 8 (.t 1)⟩,
   ⟨none, .call (some 9) 35 [(.t 7), (.t 8)]⟩,
   ⟨none, .bin 10 .eql .num (.t 9) (.c (.v (.int .i64 0)))⟩,
   ⟨none, .mv 11 (.t 10)⟩,
   ⟨some (11, true), .mv 12 (.t 0)⟩,
   ⟨some (11, true), .mv 13 (.t 1)⟩,
   ⟨some (11, true), .call (some 14) 36 [(.t 12), (.t 13)]⟩,
   ⟨some (11, true), .mv 15 (.t 2)⟩,
   ⟨some (11, true), .call (some 16) 40 [(.t 14), (.t 15)]⟩,
   ⟨some (11, true), .bin 17 .geq .num (.t 16) (.c (.v (.int .i64 0)))⟩,
   ⟨none, .pick 18 (.t 11) (.t 17) (.c (.v (.bool false)))⟩,
   ⟨none, .asg 6 (.t 18)⟩])
 (.seq (.scr r20) .ret))),
  19, [6]⟩

/-- coinage/sequence.First -/
abbrev K21 : Nat := 6
def hints21 : List (List Bool) := [bits 11 [4, 5]]
@[simp] def r21 : List Bool := bits 11 [4, 5]
@[simp] def R21 (s4 s5 : V) : St := tab 11 6 (fu (fu dd 5 s5) 4 s4) dd
def c21 : MF := ⟨(.seq (.ops [⟨none, .asg 4 (.c (.nd (.sl true 1 0) []))⟩,
   ⟨none, .asg 5 (.c (.v (.int .i64 0)))⟩])
 (.seq (.ops [⟨none, .mv 6 (.t 0)⟩,
   ⟨none, .mv 7 (.t 1)⟩,
   ⟨none, .call (some 8) 31 [(.t 6), (.t 7), (.c (.v (.int .i64 0)))]⟩,
   ⟨none, .ext 9 (.t 8) 0⟩,
   ⟨none, .ext 10 (.t 8) 1⟩,
   ⟨none, .asg 4 (.t 9)⟩,
   ⟨none, .asg 5 (.t 10)⟩])
 (.seq (.scr r21) .ret))),
  11, [4, 5]⟩

/-- coinage/coinageref23.Count -/
abbrev K22 : Nat := 7
def hints22 : List (List Bool) := [bits 18 [4, 5], bits 18 [4, 5]]
@[simp] def r22 : List Bool := bits 18 [4, 5]
@[simp] def R22 (s4 s5 : V) : St := tab 18 7 (fu (fu dd 5 s5) 4 s4) dd
def c22 : MF := ⟨(.seq (.ops [⟨none, .asg 4 (.c (.v (.int .i64 0)))⟩,
   ⟨none, .asg 5 (.c (.v (.int .i64 0)))⟩])
 (.seq (.seq (.ops [⟨none, .mv 7 (.t 0)⟩,
    ⟨none, .mv 8 (.t 1)⟩,
    ⟨none, .call (some 9) 15 [(.t 7), (.t 8)]⟩,
    ⟨none, .asg 6 (.t 9)⟩])
  (.seq (.ops [⟨none, .mv 10 (.t 6)⟩,
    ⟨none, .bin 11 .neq .num (.t 10) (.c (.v (.int .i64 0)))⟩])
  (.cnd (.t 11)
   (.seq (.ops [⟨none, .mv 12 (.t 6)⟩,
     ⟨none, .asg 4 (.c (.v (.int .i64 0)))⟩,
     ⟨none, .asg 5 (.t 12)⟩])
   (.seq (.scr r22) .ret))
   .skip)))
 (.seq (.ops [⟨none, .mv 13 (.t 0)⟩,
   ⟨none, .mv 14 (.t 1)⟩,
   ⟨none, .call (some 15) 41 [(.t 13), (.t 14)]⟩,
   ⟨none, .ixs 16 1 (.t 15) (.c (.v (.int .i64 0)))⟩,
   ⟨none, .ld1 17 (.t 16)⟩,
   ⟨none, .asg 4 (.t 17)⟩,
   ⟨none, .asg 5 (.c (.v (.int .i64 0)))⟩])
 (.seq (.scr r22) .ret)))),
  18, [4, 5]⟩

/-- coinage/coinageref23.First -/
abbrev K23 : Nat := 6
def hints23 : List (List Bool) := [bits 11 [4, 5]]
@[simp] def r23 : List Bool := bits 11 [4, 5]
@[simp] def R23 (s4 s5 : V) : St := tab 11 6 (fu (fu dd 5 s5) 4 s4) dd
def c23 : MF := ⟨(.seq (.ops [⟨none, .asg 4 (.c (.nd (.sl true 1 0) []))⟩,
   ⟨none, .asg 5 (.c (.v (.int .i64 0)))⟩])
 (.seq (.ops [⟨none, .mv 6 (.t 0)⟩,
   ⟨none, .mv 7 (.t 1)⟩,
   ⟨none, .call (some 8) 33 [(.t 6), (.t 7), (.c (.v (.int .i64 0)))]⟩,
   ⟨none, .ext 9 (.t 8) 0⟩,
   ⟨none, .ext 10 (.t 8) 1⟩,
   ⟨none, .asg 4 (.t 9)⟩,
   ⟨none, .asg 5 (.t 10)⟩])
 (.seq (.scr r23) .ret))),
  11, [4, 5]⟩

/-- coinage/coinageref23.All -/
abbrev K24 : Nat := 29
def hints24 : List (List Bool) := [bits 40 [4, 5], bits 40 [4, 5], bits 40 [8], bits 40 [0, 1, 6, 8, 9], bits 40 [8], bits 40 [0, 1, 6, 8, 9], bits 40 [4, 5]]
@[simp] def r24 : List Bool := bits 40 [4, 5]
@[simp] def R24 (s4 s5 : V) : St := tab 40 29 (fu (fu dd 5 s5) 4 s4) dd
@[simp] def x24_0 : List Bool := bits 40 [8]
@[simp] def X24_0 (s8 : V) : St := tab 40 29 (fu dd 8 s8) dd
@[simp] def h24_0 : List Bool := bits 40 [0, 1, 6, 8, 9]
@[simp] def L24_0 (s0 s1 s6 s8 s9 : V) : St := tab 40 29 (fu (fu (fu (fu (fu dd 9 s9) 8 s8) 6 s6) 1 s1) 0 s0) dd
@[simp] def x24_1 : List Bool := bits 40 [0, 1, 6, 8, 9]
@[simp] def X24_1 (s0 s1 s6 s8 s9 : V) : St := tab 40 29 (fu (fu (fu (fu (fu dd 9 s9) 8 s8) 6 s6) 1 s1) 0 s0) dd
def b24_0 : MC := .seq (.scr h24_0)
 (.seq (.seq (.ops [⟨none, .mv 23 (.t 9)⟩,
    ⟨none, .mv 24 (.t 6)⟩,
    ⟨none, .bin 25 .lss .num (.t 23) (.t 24)⟩])
  (.cnd (.t 25)
   .skip
   (.seq (.scr x24_0) (.ex 0))))
 (.seq (.seq (.blk 1 (.seq (.ops [⟨none, .mv 29 (.t 0)⟩,
     ⟨none, .mv 30 (.t 1)⟩,
     ⟨none, .mv 31 (.t 9)⟩,
     ⟨none, .call (some 32) 33 [(.t 29), (.t 30), (.t 31)]⟩,
     ⟨none, .mv 28 (.t 32)⟩,
     ⟨none, .ext 33 (.t 28) 0⟩,
     ⟨none, .ext 34 (.t 28) 1⟩,
     ⟨none, .asg 10 (.t 33)⟩,
     ⟨none, .asg 11 (.t 34)⟩])
   (.ops [⟨none, .mv 35 (.t 8)⟩,
    ⟨none, .mv 36 (.t 10)⟩,
    ⟨none, .bs 37 1 1 [(.nd (.sl true 1 0) [])] [(0, 1, (.t 36))]⟩,
    ⟨none, .app 38 1 (.t 35) (.t 37)⟩,
    ⟨none, .asg 8 (.t 38)⟩]))) (.scr x24_1))
 (.ops [⟨none, .mv 26 (.t 9)⟩,
  ⟨none, .bin 27 .add .num (.t 26) (.c (.v (.int .i64 1)))⟩,
  ⟨none, .asg 9 (.t 27)⟩])))
def c24 : MF := ⟨(.seq (.ops [⟨none, .asg 4 (.c (.nd (.sl true 1 0) []))⟩,
   ⟨none, .asg 5 (.c (.v (.int .i64 0)))⟩])
 (.seq (.ops [⟨none, .mv 13 (.t 0)⟩,
   ⟨none, .mv 14 (.t 1)⟩,
   ⟨none, .call (some 15) 22 [(.t 13), (.t 14)]⟩,
   ⟨none, .mv 12 (.t 15)⟩,
   ⟨none, .ext 16 (.t 12) 0⟩,
   ⟨none, .ext 17 (.t 12) 1⟩,
   ⟨none, .asg 6 (.t 16)⟩,
   ⟨none, .asg 7 (.t 17)⟩])
 (.seq (.seq (.ops [⟨none, .mv 18 (.t 7)⟩,
    ⟨none, .bin 19 .neq .num (.t 18) (.c (.v (.int .i64 0)))⟩])
  (.cnd (.t 19)
   (.seq (.ops [⟨none, .mv 20 (.t 7)⟩,
     ⟨none, .asg 4 (.c (.nd (.sl true 1 0) []))⟩,
     ⟨none, .asg 5 (.t 20)⟩])
   (.seq (.scr r24) .ret))
   .skip))
 (.seq (.seq (.ops [⟨none, .mv 21 (.t 6)⟩,
    ⟨none, .bin 22 .gtr .num (.t 21) (.c (.v (.int .i64 200)))⟩])
  (.cnd (.t 22)
   (.seq (.ops [⟨none, .asg 4 (.c (.nd (.sl true 1 0) []))⟩,
     ⟨none, .asg 5 (.c (.v (.int .i64 2)))⟩])
   (.seq (.scr r24) .ret))
   .skip))
 (.seq (.ops [⟨none, .asg 8 (.c (.nd (.sl true 1 0) []))⟩])
 (.seq (.seq (.ops [⟨none, .asg 9 (.c (.v (.int .i64 0)))⟩])
  (.seq (.blk 0 (.lop b24_0)) (.scr x24_0)))
 (.seq (.ops [⟨none, .mv 39 (.t 8)⟩,
   ⟨none, .asg 4 (.t 39)⟩,
   ⟨none, .asg 5 (.c (.v (.int .i64 0)))⟩])
 (.seq (.scr r24) .ret)))))))),
  40, [4, 5]⟩

/-- coinage/coinagebase.Lists -/
abbrev K25 : Nat := 6
def hints25 : List (List Bool) := [bits 27 [4], bits 27 [], bits 27 [0, 1, 5], bits 27 [], bits 27 [0, 1, 5], bits 27 [4], bits 27 [4]]
@[simp] def r25 : List Bool := bits 27 [4]
@[simp] def R25 (s4 : V) : St := tab 27 6 (fu dd 4 s4) dd
@[simp] def x25_0 : List Bool := bits 27 []
@[simp] def X25_0 : St := tab 27 6 dd dd
@[simp] def h25_0 : List Bool := bits 27 [0, 1, 5]
@[simp] def L25_0 (s0 s1 s5 : V) : St := tab 27 6 (fu (fu (fu dd 5 s5) 1 s1) 0 s0) dd
@[simp] def x25_1 : List Bool := bits 27 [0, 1, 5]
@[simp] def X25_1 (s0 s1 s5 : V) : St := tab 27 6 (fu (fu (fu dd 5 s5) 1 s1) 0 s0) dd
def b25_0 : MC := .seq (.scr h25_0)
 (.seq (.seq (.ops [⟨none, .mv 11 (.t 5)⟩,
    ⟨none, .mv 12 (.t 0)⟩,
    ⟨none, .len 13 false (.t 12)⟩,
    ⟨none, .bin 14 .lss .num (.t 11) (.t 13)⟩])
  (.cnd (.t 14)
   .skip
   (.seq (.scr x25_0) (.ex 0))))
 (.seq (.seq (.blk 1 (.seq (.drw [⟨none, .mv 17 (.t 0)⟩,
     ⟨none, .mv 18 (.t 5)⟩,
     ⟨none, .ixs 19 1 (.t 17) (.t 18)⟩,
     ⟨none, .ld1 20 (.t 19)⟩,
     ⟨none, .mv 21 (.t 1)⟩,
     ⟨none, .mv 22 (.t 5)⟩,
     ⟨none, .ixs 23 1 (.t 21) (.t 22)⟩,
     ⟨none, .ld1 24 (.t 23)⟩] [⟨none, .call (some 25) 17 [(.t 20), (.t 24)]⟩,
     ⟨none, .un 26 .not (.t 25)⟩])
   (.cnd (.t 26)
    (.seq (.ops [⟨none, .asg 4 (.c (.v (.bool false)))⟩])
    (.seq (.scr r25) .ret))
    .skip))) (.scr x25_1))
 (.ops [⟨none, .mv 15 (.t 5)⟩,
  ⟨none, .bin 16 .add .num (.t 15) (.c (.v (.int .i64 1)))⟩,
  ⟨none, .asg 5 (.t 16)⟩])))
def c25 : MF := ⟨(.seq (.ops [⟨none, .asg 4 (.c (.v (.bool false)))⟩])
 (.seq (.seq (.ops [⟨none, .mv 6 (.t 0)⟩,
    ⟨none, .len 7 false (.t 6)⟩,
    ⟨none, .mv 8 (.t 1)⟩,
    ⟨none, .len 9 false (.t 8)⟩,
    ⟨none, .bin 10 .neq .num (.t 7) (.t 9)⟩])
  (.cnd (.t 10)
   (.seq (.ops [⟨none, .asg 4 (.c (.v (.bool false)))⟩])
   (.seq (.scr r25) .ret))
   .skip))
 (.seq (.seq (.ops [⟨none, .asg 5 (.c (.v (.int .i64 0)))⟩])
  (.seq (.blk 0 (.lop b25_0)) (.scr x25_0)))
 (.seq (.ops [⟨none, .asg 4 (.c (.v (.bool true)))⟩])
 (.seq (.scr r25) .ret))))),
  27, [4]⟩

/-- coinage/sequence.Next -/
abbrev K26 : Nat := 11
def hints26 : List (List Bool) := [bits 27 [6, 7], bits 27 [6, 7]]
@[simp] def r26 : List Bool := bits 27 [6, 7]
@[simp] def R26 (s6 s7 : V) : St := tab 27 11 (fu (fu dd 7 s7) 6 s6) dd
def c26 : MF := ⟨(.seq (.ops [⟨none, .asg 6 (.c (.nd (.sl true 1 0) []))⟩,
   ⟨none, .asg 7 (.c (.v (.int .i64 0)))⟩])
 (.seq (.ops [⟨none, .mv 11 (.t 0)⟩,
   ⟨none, .mv 12 (.t 1)⟩,
   ⟨none, .mv 13 (.t 2)⟩,
   ⟨none, .call (some 14) 27 [(.t 11), (.t 12), (.t 13)]⟩,
   ⟨none, .mv 10 (.t 14)⟩,
   ⟨none, .ext 15 (.t 10) 0⟩,
   ⟨none, .ext 16 (.t 10) 1⟩,
   ⟨none, .asg 8 (.t 15)⟩,
   ⟨none, .asg 9 (.t 16)⟩])
 (.seq (.seq (.ops [⟨none, .mv 17 (.t 9)⟩,
    ⟨none, .bin 18 .neq .num (.t 17) (.c (.v (.int .i64 0)))⟩])
  (.cnd (.t 18)
   (.seq (.ops [⟨none, .mv 19 (.t 9)⟩,
     ⟨none, .asg 6 (.c (.nd (.sl true 1 0) []))⟩,
     ⟨none, .asg 7 (.t 19)⟩])
   (.seq (.scr r26) .ret))
   .skip))
 (.seq (.ops [⟨none, .mv 20 (.t 0)⟩,
   ⟨none, .mv 21 (.t 1)⟩,
   ⟨none, .mv 22 (.t 8)⟩,
   ⟨none, .bin 23 .add .num (.t 22) (.c (.v (.int .i64 1)))⟩,
   ⟨none, .call (some 24) 31 [(.t 20), (.t 21), (.t 23)]⟩,
   ⟨none, .ext 25 (.t 24) 0⟩,
   ⟨none, .ext 26 (.t 24) 1⟩,
   ⟨none, .asg 6 (.t 25)⟩,
   ⟨none, .asg 7 (.t 26)⟩])
 (.seq (.scr r26) .ret))))),
  27, [6, 7]⟩

/-- coinage/sequence.Rank -/
abbrev K27 : Nat := 10
def hints27 : List (List Bool) := [bits 24 [6, 7], bits 24 [6, 7], bits 24 [6, 7]]
@[simp] def r27 : List Bool := bits 24 [6, 7]
@[simp] def R27 (s6 s7 : V) : St := tab 24 10 (fu (fu dd 7 s7) 6 s6) dd
def c27 : MF := ⟨(.seq (.ops [⟨none, .asg 6 (.c (.v (.int .i64 0)))⟩,
   ⟨none, .asg 7 (.c (.v (.int .i64 0)))⟩])
 (.seq (.seq (.ops [⟨none, .mv 10 (.t 0)⟩,
    ⟨none, .mv 11 (.t 1)⟩,
    ⟨none, .call (some 12) 35 [(.t 10), (.t 11)]⟩,
    ⟨none, .asg 8 (.t 12)⟩])
  (.seq (.ops [⟨none, .mv 13 (.t 8)⟩,
    ⟨none, .bin 14 .neq .num (.t 13) (.c (.v (.int .i64 0)))⟩])
  (.cnd (.t 14)
   (.seq (.ops [⟨none, .mv 15 (.t 8)⟩,
     ⟨none, .asg 6 (.c (.v (.int .i64 0)))⟩,
     ⟨none, .asg 7 (.t 15)⟩])
   (.seq (.scr r27) .ret))
   .skip)))
 (.seq (.ops [⟨none, .mv 16 (.t 0)⟩,
   ⟨none, .mv 17 (.t 1)⟩,
   ⟨none, .call (some 18) 36 [(.t 16), (.t 17)]⟩,
   ⟨none, .mv 19 (.t 2)⟩,
   ⟨none, .call (some 20) 40 [(.t 18), (.t 19)]⟩,
   ⟨none, .asg 9 (.t 20)⟩])
 (.seq (.seq (.ops [⟨none, .mv 21 (.t 9)⟩,
    ⟨none, .bin 22 .lss .num (.t 21) (.c (.v (.int .i64 0)))⟩])
  (.cnd (.t 22)
   (.seq (.ops [⟨none, .asg 6 (.c (.v (.int .i64 0)))⟩,
     ⟨none, .asg 7 (.c (.v (.int .i64 9)))⟩])
   (.seq (.scr r27) .ret))
   .skip))
 (.seq (.ops [⟨none, .mv 23 (.t 9)⟩,
   ⟨none, .asg 6 (.t 23)⟩,
   ⟨none, .asg 7 (.c (.v (.int .i64 0)))⟩])
 (.seq (.scr r27) .ret)))))),
  24, [6, 7]⟩

/-- coinage/coinageref23.Next -/
abbrev K28 : Nat := 11
def hints28 : List (List Bool) := [bits 27 [6, 7], bits 27 [6, 7]]
@[simp] def r28 : List Bool := bits 27 [6, 7]
@[simp] def R28 (s6 s7 : V) : St := tab 27 11 (fu (fu dd 7 s7) 6 s6) dd
def c28 : MF := ⟨(.seq (.ops [⟨none, .asg 6 (.c (.nd (.sl true 1 0) []))⟩,
   ⟨none, .asg 7 (.c (.v (.int .i64 0)))⟩])
 (.seq (.ops [⟨none, .mv 11 (.t 0)⟩,
   ⟨none, .mv 12 (.t 1)⟩,
   ⟨none, .mv 13 (.t 2)⟩,
   ⟨none, .call (some 14) 29 [(.t 11), (.t 12), (.t 13)]⟩,
   ⟨none, .mv 10 (.t 14)⟩,
   ⟨none, .ext 15 (.t 10) 0⟩,
   ⟨none, .ext 16 (.t 10) 1⟩,
   ⟨none, .asg 8 (.t 15)⟩,
   ⟨none, .asg 9 (.t 16)⟩])
 (.seq (.seq (.ops [⟨none, .mv 17 (.t 9)⟩,
    ⟨none, .bin 18 .neq .num (.t 17) (.c (.v (.int .i64 0)))⟩])
  (.cnd (.t 18)
   (.seq (.ops [⟨none, .mv 19 (.t 9)⟩,
     ⟨none, .asg 6 (.c (.nd (.sl true 1 0) []))⟩,
     ⟨none, .asg 7 (.t 19)⟩])
   (.seq (.scr r28) .ret))
   .skip))
 (.seq (.ops [⟨none, .mv 20 (.t 0)⟩,
   ⟨none, .mv 21 (.t 1)⟩,
   ⟨none, .mv 22 (.t 8)⟩,
   ⟨none, .bin 23 .add .num (.t 22) (.c (.v (.int .i64 1)))⟩,
   ⟨none, .call (some 24) 33 [(.t 20), (.t 21), (.t 23)]⟩,
   ⟨none, .ext 25 (.t 24) 0⟩,
   ⟨none, .ext 26 (.t 24) 1⟩,
   ⟨none, .asg 6 (.t 25)⟩,
   ⟨none, .asg 7 (.t 26)⟩])
 (.seq (.scr r28) .ret))))),
  27, [6, 7]⟩

/-- coinage/coinageref23.Rank -/
abbrev K29 : Nat := 14
def hints29 : List (List Bool) := [bits 62 [6, 7], bits 62 [6, 7], bits 62 [11], bits 62 [0, 1, 2, 9, 10, 11, 12], bits 62 [11], bits 62 [0, 1, 2, 9, 10, 11, 12], bits 62 [0, 1, 2, 9, 10, 11, 12], bits 62 [0, 1, 2, 9, 10, 11, 12, 13], bits 62 [0, 1, 2, 9, 10, 11, 12], bits 62 [0, 1, 2, 9, 10, 11, 12, 13], bits 62 [6, 7]]
@[simp] def r29 : List Bool := bits 62 [6, 7]
@[simp] def R29 (s6 s7 : V) : St := tab 62 14 (fu (fu dd 7 s7) 6 s6) dd
@[simp] def x29_0 : List Bool := bits 62 [11]
@[simp] def X29_0 (s11 : V) : St := tab 62 14 (fu dd 11 s11) dd
@[simp] def h29_0 : List Bool := bits 62 [0, 1, 2, 9, 10, 11, 12]
@[simp] def L29_0 (s0 s1 s2 s9 s10 s11 s12 : V) : St := tab 62 14 (fu (fu (fu (fu (fu (fu (fu dd 12 s12) 11 s11) 10 s10) 9 s9) 2 s2) 1 s1) 0 s0) dd
@[simp] def x29_1 : List Bool := bits 62 [0, 1, 2, 9, 10, 11, 12]
@[simp] def X29_1 (s0 s1 s2 s9 s10 s11 s12 : V) : St := tab 62 14 (fu (fu (fu (fu (fu (fu (fu dd 12 s12) 11 s11) 10 s10) 9 s9) 2 s2) 1 s1) 0 s0) dd
@[simp] def x29_2 : List Bool := bits 62 [0, 1, 2, 9, 10, 11, 12]
@[simp] def X29_2 (s0 s1 s2 s9 s10 s11 s12 : V) : St := tab 62 14 (fu (fu (fu (fu (fu (fu (fu dd 12 s12) 11 s11) 10 s10) 9 s9) 2 s2) 1 s1) 0 s0) dd
@[simp] def h29_1 : List Bool := bits 62 [0, 1, 2, 9, 10, 11, 12, 13]
@[simp] def L29_1 (s0 s1 s2 s9 s10 s11 s12 s13 : V) : St := tab 62 14 (fu (fu (fu (fu (fu (fu (fu (fu dd 13 s13) 12 s12) 11 s11) 10 s10) 9 s9) 2 s2) 1 s1) 0 s0) dd
@[simp] def x29_3 : List Bool := bits 62 [0, 1, 2, 9, 10, 11, 12, 13]
@[simp] def X29_3 (s0 s1 s2 s9 s10 s11 s12 s13 : V) : St := tab 62 14 (fu (fu (fu (fu (fu (fu (fu (fu dd 13 s13) 12 s12) 11 s11) 10 s10) 9 s9) 2 s2) 1 s1) 0 s0) dd
def b29_1 : MC := .seq (.scr h29_1)
 (.seq (.seq (.ops [⟨none, .mv 33 (.t 13)⟩,
    ⟨none, .mv 34 (.t 2)⟩,
    ⟨none, .mv 35 (.t 12)⟩,
    ⟨none, .ixs 36 1 (.t 34) (.t 35)⟩,
    ⟨none, .ld1 37 (.t 36)⟩,
    ⟨none, .bin 38 .lss .num (.t 33) (.t 37)⟩])
  (.cnd (.t 38)
   .skip
   (.seq (.scr x29_2) (.ex 2))))
 (.seq (.seq (.blk 3 (.seq (.ops [⟨none, .mv 41 (.t 1)⟩,
     ⟨none, .mv 42 (.t 10)⟩,
     ⟨none, .mv 43 (.t 13)⟩,
     ⟨none, .call (some 44) 42 [(.t 41), (.t 42), (.t 43)]⟩])
   (.cnd (.t 44)
    (.ops [⟨none, .mv 45 (.t 11)⟩,
     ⟨none, .mv 46 (.t 9)⟩,
     ⟨none, .mv 47 (.t 10)⟩,
     ⟨none, .mv 48 (.t 13)⟩,
     ⟨none, .bin 49 .shl .num (.c (.v (.int .i64 1))) (.t 48)⟩,
     ⟨none, .bin 50 .or .num (.t 47) (.t 49)⟩,
     ⟨none, .ixs 51 1 (.t 46) (.t 50)⟩,
     ⟨none, .ld1 52 (.t 51)⟩,
     ⟨none, .bin 53 .add .num (.t 45) (.t 52)⟩,
     ⟨none, .asg 11 (.t 53)⟩])
    .skip))) (.scr x29_3))
 (.ops [⟨none, .mv 39 (.t 13)⟩,
  ⟨none, .bin 40 .add .num (.t 39) (.c (.v (.int .i64 1)))⟩,
  ⟨none, .asg 13 (.t 40)⟩])))
def b29_0 : MC := .seq (.scr h29_0)
 (.seq (.seq (.ops [⟨none, .mv 28 (.t 12)⟩,
    ⟨none, .mv 29 (.t 0)⟩,
    ⟨none, .bin 30 .lss .num (.t 28) (.t 29)⟩])
  (.cnd (.t 30)
   .skip
   (.seq (.scr x29_0) (.ex 0))))
 (.seq (.seq (.blk 1 (.seq (.seq (.ops [⟨none, .asg 13 (.c (.v (.int .i64 0)))⟩])
    (.seq (.blk 2 (.lop b29_1)) (.scr x29_2)))
   (.ops [⟨none, .mv 54 (.t 10)⟩,
    ⟨none, .mv 55 (.t 2)⟩,
    ⟨none, .mv 56 (.t 12)⟩,
    ⟨none, .ixs 57 1 (.t 55) (.t 56)⟩,
    ⟨none, .ld1 58 (.t 57)⟩,
    ⟨none, .bin 59 .shl .num (.c (.v (.int .i64 1))) (.t 58)⟩,
    ⟨none, .bin 60 .or .num (.t 54) (.t 59)⟩,
    ⟨none, .asg 10 (.t 60)⟩]))) (.scr x29_1))
 (.ops [⟨none, .mv 31 (.t 12)⟩,
  ⟨none, .bin 32 .add .num (.t 31) (.c (.v (.int .i64 1)))⟩,
  ⟨none, .asg 12 (.t 32)⟩])))
def c29 : MF := ⟨(.seq (.ops [⟨none, .asg 6 (.c (.v (.int .i64 0)))⟩,
   ⟨none, .asg 7 (.c (.v (.int .i64 0)))⟩])
 (.seq (.seq (.ops [⟨none, .mv 14 (.t 0)⟩,
    ⟨none, .mv 15 (.t 1)⟩,
    ⟨none, .call (some 16) 15 [(.t 14), (.t 15)]⟩,
    ⟨none, .asg 8 (.t 16)⟩])
  (.seq (.ops [⟨none, .mv 17 (.t 8)⟩,
    ⟨none, .bin 18 .neq .num (.t 17) (.c (.v (.int .i64 0)))⟩])
  (.cnd (.t 18)
   (.seq (.ops [⟨none, .mv 19 (.t 8)⟩,
     ⟨none, .asg 6 (.c (.v (.int .i64 0)))⟩,
     ⟨none, .asg 7 (.t 19)⟩])
   (.seq (.scr r29) .ret))
   .skip)))
 (.seq (.seq (.ops [⟨none, .mv 20 (.t 0)⟩,
    ⟨none, .mv 21 (.t 1)⟩,
    ⟨none, .mv 22 (.t 2)⟩,
    ⟨none, .call (some 23) 30 [(.t 20), (.t 21), (.t 22)]⟩,
    ⟨none, .un 24 .not (.t 23)⟩])
  (.cnd (.t 24)
   (.seq (.ops [⟨none, .asg 6 (.c (.v (.int .i64 0)))⟩,
     ⟨none, .asg 7 (.c (.v (.int .i64 9)))⟩])
   (.seq (.scr r29) .ret))
   .skip))
 (.seq (.ops [⟨none, .mv 25 (.t 0)⟩,
   ⟨none, .mv 26 (.t 1)⟩,
   ⟨none, .call (some 27) 41 [(.t 25), (.t 26)]⟩,
   ⟨none, .asg 9 (.t 27)⟩])
 (.seq (.ops [⟨none, .asg 10 (.c (.v (.int .i64 0)))⟩,
   ⟨none, .asg 11 (.c (.v (.int .i64 0)))⟩])
 (.seq (.seq (.ops [⟨none, .asg 12 (.c (.v (.int .i64 0)))⟩])
  (.seq (.blk 0 (.lop b29_0)) (.scr x29_0)))
 (.seq (.ops [⟨none, .mv 61 (.t 11)⟩,
   ⟨none, .asg 6 (.t 61)⟩,
   ⟨none, .asg 7 (.c (.v (.int .i64 0)))⟩])
 (.seq (.scr r29) .ret)))))))),
  62, [6, 7]⟩

/-- coinage/coinageref23.Is -/
abbrev K30 : Nat := 9
def hints30 : List (List Bool) := [bits 39 [6], bits 39 [], bits 39 [0, 1, 2, 7, 8], bits 39 [], bits 39 [0, 1, 2, 7, 8], bits 39 [6], bits 39 [6]]
@[simp] def r30 : List Bool := bits 39 [6]
@[simp] def R30 (s6 : V) : St := tab 39 9 (fu dd 6 s6) dd
@[simp] def x30_0 : List Bool := bits 39 []
@[simp] def X30_0 : St := tab 39 9 dd dd
@[simp] def h30_0 : List Bool := bits 39 [0, 1, 2, 7, 8]
@[simp] def L30_0 (s0 s1 s2 s7 s8 : V) : St := tab 39 9 (fu (fu (fu (fu (fu dd 8 s8) 7 s7) 2 s2) 1 s1) 0 s0) dd
@[simp] def x30_1 : List Bool := bits 39 [0, 1, 2, 7, 8]
@[simp] def X30_1 (s0 s1 s2 s7 s8 : V) : St := tab 39 9 (fu (fu (fu (fu (fu dd 8 s8) 7 s7) 2 s2) 1 s1) 0 s0) dd
def b30_0 : MC := .seq (.scr h30_0)
 (.seq (.seq (.ops [⟨none, .mv 19 (.t 8)⟩,
    ⟨none, .mv 20 (.t 0)⟩,
    ⟨none, .bin 21 .lss .num (.t 19) (.t 20)⟩])
  (.cnd (.t 21)
   .skip
   (.seq (.scr x30_0) (.ex 0))))
 (.seq (.seq (.blk 1 (.seq (.seq (.ops [⟨none, .mv 24 (.t 1)⟩,
      ⟨none, .mv 25 (.t 7)⟩,
      ⟨none, .mv 26 (.t 2)⟩,
      ⟨none, .mv 27 (.t 8)⟩,
      ⟨none, .ixs 28 1 (.t 26) (.t 27)⟩,
      ⟨none, .ld1 29 (.t 28)⟩,
      ⟨none, .call (some 30) 42 [(.t 24), (.t 25), (.t 29)]⟩,
      ⟨none, .un 31 .not (.t 30)⟩])
    (.cnd (.t 31)
     (.seq (.ops [⟨none, .asg 6 (.c (.v (.bool false)))⟩])
     (.seq (.scr r30) .ret))
     .skip))
   (.ops [⟨none, .mv 32 (.t 7)⟩,
    ⟨none, .mv 33 (.t 2)⟩,
    ⟨none, .mv 34 (.t 8)⟩,
    ⟨none, .ixs 35 1 (.t 33) (.t 34)⟩,
    ⟨none, .ld1 36 (.t 35)⟩,
    ⟨none, .bin 37 .shl .num (.c (.v (.int .i64 1))) (.t 36)⟩,
    ⟨none, .bin 38 .or .num (.t 32) (.t 37)⟩,
    ⟨none, .asg 7 (.t 38)⟩]))) (.scr x30_1))
 (.ops [⟨none, .mv 22 (.t 8)⟩,
  ⟨none, .bin 23 .add .num (.t 22) (.c (.v (.int .i64 1)))⟩,
  ⟨none, .asg 8 (.t 23)⟩])))
def c30 : MF := ⟨(.seq (.ops [⟨none, .asg 6 (.c (.v (.bool false)))⟩])
 (.seq (.seq (.ops [⟨none, .mv 9 (.t 0)⟩,
    ⟨none, .mv 10 (.t 1)⟩,
    ⟨none, .call (some 11) 15 [(.t 9), (.t 10)]⟩,
    ⟨none, .bin 12 .neq .num (.t 11) (.c (.v (.int .i64 0)))⟩,
    ⟨none, .mv 13 (.t 12)⟩,
    ⟨some (13, false), .mv 14 (.t 2)⟩,
    ⟨some (13, false), .mv 15 (.t 0)⟩,
    ⟨some (13, false), .call (some 16) 16 [(.t 14), (.t 15)]⟩,
    ⟨some (13, false), .un 17 .not (.t 16)⟩,
    ⟨none, .pick 18 (.t 13) (.c (.v (.bool true))) (.t 17)⟩])
  (.cnd (.t 18)
   (.seq (.ops [⟨none, .asg 6 (.c (.v (.bool false)))⟩])
   (.seq (.scr r30) .ret))
   .skip))
 (.seq (.ops [⟨none, .asg 7 (.c (.v (.int .i64 0)))⟩])
 (.seq (.seq (.ops [⟨none, .asg 8 (.c (.v (.int .i64 0)))⟩])
  (.seq (.blk 0 (.lop b30_0)) (.scr x30_0)))
 (.seq (.ops [⟨none, .asg 6 (.c (.v (.bool true)))⟩])
 (.seq (.scr r30) .ret)))))),
  39, [6]⟩

/-- coinage/sequence.At -/
abbrev K31 : Nat := 9
def hints31 : List (List Bool) := [bits 32 [6, 7], bits 32 [6, 7], bits 32 [6, 7]]
@[simp] def r31 : List Bool := bits 32 [6, 7]
@[simp] def R31 (s6 s7 : V) : St := tab 32 9 (fu (fu dd 7 s7) 6 s6) dd
def c31 : MF := ⟨(.seq (.ops [⟨none, .asg 6 (.c (.nd (.sl true 1 0) []))⟩,
   ⟨none, .asg 7 (.c (.v (.int .i64 0)))⟩])
 (.seq (.seq (.ops [⟨none, .mv 10 (.t 0)⟩,
    ⟨none, .mv 11 (.t 1)⟩,
    ⟨none, .call (some 12) 35 [(.t 10), (.t 11)]⟩,
    ⟨none, .asg 8 (.t 12)⟩])
  (.seq (.ops [⟨none, .mv 13 (.t 8)⟩,
    ⟨none, .bin 14 .neq .num (.t 13) (.c (.v (.int .i64 0)))⟩])
  (.cnd (.t 14)
   (.seq (.ops [⟨none, .mv 15 (.t 8)⟩,
     ⟨none, .asg 6 (.c (.nd (.sl true 1 0) []))⟩,
     ⟨none, .asg 7 (.t 15)⟩])
   (.seq (.scr r31) .ret))
   .skip)))
 (.seq (.ops [⟨none, .mv 16 (.t 0)⟩,
   ⟨none, .mv 17 (.t 1)⟩,
   ⟨none, .call (some 18) 36 [(.t 16), (.t 17)]⟩,
   ⟨none, .alc 9 [(.v (.int .i64 0)), (.nd (.sl true 1 0) []), (.nd (.sl true 1 0) [])]⟩,
   ⟨none, .stn none 3 (.t 9) (.t 18)⟩])
 (.seq (.seq (.ops [⟨none, .mv 19 (.t 2)⟩,
    ⟨none, .bin 20 .lss .num (.t 19) (.c (.v (.int .i64 0)))⟩,
    ⟨none, .mv 21 (.t 20)⟩,
    ⟨some (21, false), .mv 22 (.t 2)⟩,
    ⟨some (21, false), .fa 23 2 (.t 9)⟩,
    ⟨some (21, false), .ld1 24 (.t 23)⟩,
    ⟨some (21, false), .ixs 25 1 (.t 24) (.c (.v (.int .i64 0)))⟩,
    ⟨some (21, false), .ld1 26 (.t 25)⟩,
    ⟨some (21, false), .bin 27 .geq .num (.t 22) (.t 26)⟩,
    ⟨none, .pick 28 (.t 21) (.c (.v (.bool true))) (.t 27)⟩])
  (.cnd (.t 28)
   (.seq (.ops [⟨none, .asg 6 (.c (.nd (.sl true 1 0) []))⟩,
     ⟨none, .asg 7 (.c (.v (.int .i64 7)))⟩])
   (.seq (.scr r31) .ret))
   .skip))
 (.seq (.ops [⟨none, .ldn 29 3 (.t 9)⟩,
   ⟨none, .mv 30 (.t 2)⟩,
   ⟨none, .call (some 31) 37 [(.t 29), (.t 30)]⟩,
   ⟨none, .asg 6 (.t 31)⟩,
   ⟨none, .asg 7 (.c (.v (.int .i64 0)))⟩])
 (.seq (.scr r31) .ret)))))),
  32, [6, 7]⟩

/-- coinage/sequence.Place -/
abbrev K32 : Nat := 89
def hints32 : List (List Bool) := [bits 122 [6, 7], bits 122 [6, 7], bits 122 [2, 9, 10, 11, 12], bits 122 [0, 2, 9, 10, 11, 12, 44, 45, 46], bits 122 [2, 9, 10, 11, 12], bits 122 [0, 2, 9, 10, 11, 12, 44, 45, 46], bits 122 [0, 2, 9, 10, 11, 12, 44, 45, 46], bits 122 [0, 2, 9, 10, 11, 12, 13, 14, 44, 45, 46, 51, 52], bits 122 [0, 2, 9, 10, 11, 12, 44, 45, 46], bits 122 [0, 2, 9, 10, 11, 12, 13, 14, 44, 45, 46, 51, 52], bits 122 [12], bits 122 [2, 9, 10, 11, 12, 86, 87, 88], bits 122 [12], bits 122 [2, 9, 10, 11, 12, 86, 87, 88], bits 122 [6, 7]]
@[simp] def r32 : List Bool := bits 122 [6, 7]
@[simp] def R32 (s6 s7 : V) : St := tab 122 89 (fu (fu dd 7 s7) 6 s6) dd
@[simp] def x32_0 : List Bool := bits 122 [2, 9, 10, 11, 12]
@[simp] def X32_0 (s2 s9 s10 s11 s12 : V) : St := tab 122 89 (fu (fu (fu (fu (fu dd 12 s12) 11 s11) 10 s10) 9 s9) 2 s2) dd
@[simp] def h32_0 : List Bool := bits 122 [0, 2, 9, 10, 11, 12, 44, 45, 46]
@[simp] def L32_0 (s0 s2 s9 s10 s11 s12 s44 s45 s46 : V) : St := tab 122 89 (fu (fu (fu (fu (fu (fu (fu (fu (fu dd 46 s46) 45 s45) 44 s44) 12 s12) 11 s11) 10 s10) 9 s9) 2 s2) 0 s0) dd
@[simp] def x32_1 : List Bool := bits 122 [0, 2, 9, 10, 11, 12, 44, 45, 46]
@[simp] def X32_1 (s0 s2 s9 s10 s11 s12 s44 s45 s46 : V) : St := tab 122 89 (fu (fu (fu (fu (fu (fu (fu (fu (fu dd 46 s46) 45 s45) 44 s44) 12 s12) 11 s11) 10 s10) 9 s9) 2 s2) 0 s0) dd
@[simp] def x32_2 : List Bool := bits 122 [0, 2, 9, 10, 11, 12, 44, 45, 46]
@[simp] def X32_2 (s0 s2 s9 s10 s11 s12 s44 s45 s46 : V) : St := tab 122 89 (fu (fu (fu (fu (fu (fu (fu (fu (fu dd 46 s46) 45 s45) 44 s44) 12 s12) 11 s11) 10 s10) 9 s9) 2 s2) 0 s0) dd
@[simp] def h32_1 : List Bool := bits 122 [0, 2, 9, 10, 11, 12, 13, 14, 44, 45, 46, 51, 52]
@[simp] def L32_1 (s0 s2 s9 s10 s11 s12 s13 s14 s44 s45 s46 s51 s52 : V) : St := tab 122 89 (fu (fu (fu (fu (fu (fu (fu (fu (fu (fu (fu (fu (fu dd 52 s52) 51 s51) 46 s46) 45 s45) 44 s44) 14 s14) 13 s13) 12 s12) 11 s11) 10 s10) 9 s9) 2 s2) 0 s0) dd
@[simp] def x32_3 : List Bool := bits 122 [0, 2, 9, 10, 11, 12, 13, 14, 44, 45, 46, 51, 52]
@[simp] def X32_3 (s0 s2 s9 s10 s11 s12 s13 s14 s44 s45 s46 s51 s52 : V) : St := tab 122 89 (fu (fu (fu (fu (fu (fu (fu (fu (fu (fu (fu (fu (fu dd 52 s52) 51 s51) 46 s46) 45 s45) 44 s44) 14 s14) 13 s13) 12 s12) 11 s11) 10 s10) 9 s9) 2 s2) 0 s0) dd
def b32_1 : MC := .seq (.scr h32_1)
 (.seq (.ops [⟨none, .bin 53 .lss .num (.t 52) (.t 51)⟩])
 (.seq (.cnd (.t 53)
   .skip
   (.seq (.scr x32_2) (.ex 2)))
 (.seq (.seq (.blk 3 (.seq (.ops [⟨none, .mv 54 (.t 52)⟩,
     ⟨none, .asg 15 (.t 54)⟩])
   (.seq (.ops [⟨none, .ldn 55 3 (.t 9)⟩,
     ⟨none, .mv 56 (.t 13)⟩,
     ⟨none, .mv 57 (.t 15)⟩,
     ⟨none, .call (some 58) 43 [(.t 55), (.t 56), (.t 57)]⟩,
     ⟨none, .mv 59 (.t 58)⟩,
     ⟨some (59, true), .mv 60 (.t 14)⟩,
     ⟨some (59, true), .bin 61 .gtr .num (.t 60) (.c (.v (.int .i64 0)))⟩,
     ⟨none, .pick 62 (.t 59) (.t 61) (.c (.v (.bool false)))⟩])
   (.cnd (.t 62)
    (.seq (.ops [⟨none, .mv 63 (.t 10)⟩,
      ⟨none, .mv 64 (.t 13)⟩,
      ⟨none, .mv 65 (.t 15)⟩,
      ⟨none, .bin 66 .shl .num (.c (.v (.int .i64 1))) (.t 65)⟩,
      ⟨none, .bin 67 .or .num (.t 64) (.t 66)⟩,
      ⟨none, .ixs 68 1 (.t 63) (.t 67)⟩,
      ⟨none, .ld1 69 (.t 68)⟩,
      ⟨none, .mv 70 (.t 14)⟩,
      ⟨none, .bin 71 .add .num (.t 69) (.t 70)⟩,
      ⟨none, .ixs 72 1 (.t 63) (.t 67)⟩,
      ⟨none, .stn none 1 (.t 72) (.t 71)⟩])
    (.drw [⟨none, .mv 73 (.t 11)⟩,
     ⟨none, .mv 74 (.t 13)⟩,
     ⟨none, .mv 75 (.t 15)⟩,
     ⟨none, .bin 76 .shl .num (.c (.v (.int .i64 1))) (.t 75)⟩,
     ⟨none, .bin 77 .or .num (.t 74) (.t 76)⟩,
     ⟨none, .mv 78 (.t 11)⟩,
     ⟨none, .mv 79 (.t 13)⟩,
     ⟨none, .ixs 80 1 (.t 78) (.t 79)⟩,
     ⟨none, .ld1 81 (.t 80)⟩,
     ⟨none, .bin 82 .add .num (.t 81) (.c (.v (.int .i64 1)))⟩] [⟨none, .ixs 83 1 (.t 73) (.t 77)⟩,
     ⟨none, .stn none 1 (.t 83) (.t 82)⟩]))
    .skip)))) (.scr x32_3))
 (.ops [⟨none, .bin 84 .add .num (.t 52) (.c (.v (.int .i64 1)))⟩,
  ⟨none, .mv 52 (.t 84)⟩]))))
def b32_0 : MC := .seq (.scr h32_0)
 (.seq (.ops [⟨none, .bin 47 .lss .num (.t 46) (.t 45)⟩])
 (.seq (.cnd (.t 47)
   .skip
   (.seq (.scr x32_0) (.ex 0)))
 (.seq (.seq (.blk 1 (.seq (.ops [⟨none, .mv 48 (.t 46)⟩,
     ⟨none, .ixs 49 1 (.t 44) (.t 46)⟩,
     ⟨none, .ld1 50 (.t 49)⟩,
     ⟨none, .asg 13 (.t 48)⟩,
     ⟨none, .asg 14 (.t 50)⟩])
   (.seq (.ops [⟨none, .mv 51 (.t 0)⟩,
     ⟨none, .mv 52 (.c (.v (.int .i64 0)))⟩])
   (.seq (.blk 2 (.lop b32_1)) (.scr x32_2))))) (.scr x32_1))
 (.ops [⟨none, .bin 85 .add .num (.t 46) (.c (.v (.int .i64 1)))⟩,
  ⟨none, .mv 46 (.t 85)⟩]))))
@[simp] def x32_4 : List Bool := bits 122 [12]
@[simp] def X32_4 (s12 : V) : St := tab 122 89 (fu dd 12 s12) dd
@[simp] def h32_2 : List Bool := bits 122 [2, 9, 10, 11, 12, 86, 87, 88]
@[simp] def L32_2 (s2 s9 s10 s11 s12 s86 s87 s88 : V) : St := tab 122 89 (fu (fu (fu (fu (fu (fu (fu (fu dd 88 s88) 87 s87) 86 s86) 12 s12) 11 s11) 10 s10) 9 s9) 2 s2) dd
@[simp] def x32_5 : List Bool := bits 122 [2, 9, 10, 11, 12, 86, 87, 88]
@[simp] def X32_5 (s2 s9 s10 s11 s12 s86 s87 s88 : V) : St := tab 122 89 (fu (fu (fu (fu (fu (fu (fu (fu dd 88 s88) 87 s87) 86 s86) 12 s12) 11 s11) 10 s10) 9 s9) 2 s2) dd
def b32_2 : MC := .seq (.scr h32_2)
 (.seq (.ops [⟨none, .bin 89 .lss .num (.t 88) (.t 87)⟩])
 (.seq (.cnd (.t 89)
   .skip
   (.seq (.scr x32_4) (.ex 4)))
 (.seq (.seq (.blk 5 (.seq (.ops [⟨none, .mv 90 (.t 88)⟩,
     ⟨none, .ixs 91 1 (.t 86) (.t 88)⟩,
     ⟨none, .ld1 92 (.t 91)⟩,
     ⟨none, .asg 16 (.t 90)⟩,
     ⟨none, .asg 17 (.t 92)⟩])
   (.seq (.ops [⟨none, .mv 93 (.t 17)⟩,
     ⟨none, .bin 94 .gtr .num (.t 93) (.c (.v (.int .i64 0)))⟩,
     ⟨none, .mv 95 (.t 94)⟩,
     ⟨some (95, true), .ldn 96 3 (.t 9)⟩,
     ⟨some (95, true), .mv 97 (.t 16)⟩,
     ⟨some (95, true), .mv 98 (.t 2)⟩,
     ⟨some (95, true), .call (some 99) 43 [(.t 96), (.t 97), (.t 98)]⟩,
     ⟨none, .pick 100 (.t 95) (.t 99) (.c (.v (.bool false)))⟩])
   (.cnd (.t 100)
    (.drw (⟨none, .mv 101 (.t 12)⟩ ::
     ⟨none, .mv 102 (.t 11)⟩ ::
     ⟨none, .mv 103 (.t 16)⟩ ::
     ⟨none, .ixs 104 1 (.t 102) (.t 103)⟩ ::
     ⟨none, .ld1 105 (.t 104)⟩ ::
     ⟨none, .ixs 106 1 (.t 101) (.t 105)⟩ ::
     ⟨none, .ld1 107 (.t 106)⟩ ::
     ⟨none, .mv 108 (.t 17)⟩ ::
     ⟨none, .fa 109 2 (.t 9)⟩ ::
     ⟨none, .ld1 110 (.t 109)⟩ ::
     ⟨none, .mv 111 (.t 16)⟩ ::
     ⟨none, .mv 112 (.t 2)⟩ ::
     ⟨none, .bin 113 .shl .num (.c (.v (.int .i64 1))) (.t 112)⟩ ::
     ⟨none, .bin 114 .or .num (.t 111) (.t 113)⟩ ::
     ⟨none, .ixs 115 1 (.t 110) (.t 114)⟩ ::
     ⟨none, .ld1 116 (.t 115)⟩ ::
     ⟨none, .bin 117 .mul .num (.t 108) (.t 116)⟩ :: []) [⟨none, .bin 118 .add .num (.t 107) (.t 117)⟩,
     ⟨none, .ixs 119 1 (.t 101) (.t 105)⟩,
     ⟨none, .stn none 1 (.t 119) (.t 118)⟩])
    .skip)))) (.scr x32_5))
 (.ops [⟨none, .bin 120 .add .num (.t 88) (.c (.v (.int .i64 1)))⟩,
  ⟨none, .mv 88 (.t 120)⟩]))))
def c32 : MF := ⟨(.seq (.ops [⟨none, .asg 6 (.c (.nd (.sl true 1 0) []))⟩,
   ⟨none, .asg 7 (.c (.v (.int .i64 0)))⟩])
 (.seq (.seq (.ops [⟨none, .mv 18 (.t 0)⟩,
    ⟨none, .mv 19 (.t 1)⟩,
    ⟨none, .call (some 20) 35 [(.t 18), (.t 19)]⟩,
    ⟨none, .asg 8 (.t 20)⟩])
  (.seq (.ops [⟨none, .mv 21 (.t 8)⟩,
    ⟨none, .bin 22 .neq .num (.t 21) (.c (.v (.int .i64 0)))⟩])
  (.cnd (.t 22)
   (.seq (.ops [⟨none, .mv 23 (.t 8)⟩,
     ⟨none, .asg 6 (.c (.nd (.sl true 1 0) []))⟩,
     ⟨none, .asg 7 (.t 23)⟩])
   (.seq (.scr r32) .ret))
   .skip)))
 (.seq (.seq (.ops [⟨none, .mv 24 (.t 2)⟩,
    ⟨none, .bin 25 .lss .num (.t 24) (.c (.v (.int .i64 0)))⟩,
    ⟨none, .mv 26 (.t 25)⟩,
    ⟨some (26, false), .mv 27 (.t 2)⟩,
    ⟨some (26, false), .mv 28 (.t 0)⟩,
    ⟨some (26, false), .bin 29 .geq .num (.t 27) (.t 28)⟩,
    ⟨none, .pick 30 (.t 26) (.c (.v (.bool true))) (.t 29)⟩])
  (.cnd (.t 30)
   (.seq (.ops [⟨none, .asg 6 (.c (.nd (.sl true 1 0) []))⟩,
     ⟨none, .asg 7 (.c (.v (.int .i64 2)))⟩])
   (.seq (.scr r32) .ret))
   .skip))
 (.seq (.ops [⟨none, .mv 31 (.t 0)⟩,
   ⟨none, .mv 32 (.t 1)⟩,
   ⟨none, .call (some 33) 36 [(.t 31), (.t 32)]⟩,
   ⟨none, .alc 9 [(.v (.int .i64 0)), (.nd (.sl true 1 0) []), (.nd (.sl true 1 0) [])]⟩,
   ⟨none, .stn none 3 (.t 9) (.t 33)⟩])
 (.seq (.ops [⟨none, .mv 34 (.t 0)⟩,
   ⟨none, .bin 35 .shl .num (.c (.v (.int .i64 1))) (.t 34)⟩,
   ⟨none, .mks 36 1 [(.v (.int .i64 0))] (.t 35) (.t 35)⟩,
   ⟨none, .asg 10 (.t 36)⟩])
 (.seq (.ops [⟨none, .mv 37 (.t 0)⟩,
   ⟨none, .bin 38 .shl .num (.c (.v (.int .i64 1))) (.t 37)⟩,
   ⟨none, .mks 39 1 [(.v (.int .i64 0))] (.t 38) (.t 38)⟩,
   ⟨none, .asg 11 (.t 39)⟩])
 (.seq (.ops [⟨none, .mv 40 (.t 10)⟩,
   ⟨none, .ixs 41 1 (.t 40) (.c (.v (.int .i64 0)))⟩,
   ⟨none, .stn none 1 (.t 41) (.c (.v (.int .i64 1)))⟩])
 (.seq (.ops [⟨none, .mv 42 (.t 0)⟩,
   ⟨none, .mks 43 1 [(.v (.int .i64 0))] (.t 42) (.t 42)⟩,
   ⟨none, .asg 12 (.t 43)⟩])
 (.seq (.seq (.ops [⟨none, .mv 44 (.t 10)⟩,
    ⟨none, .len 45 false (.t 44)⟩,
    ⟨none, .mv 46 (.c (.v (.int .i64 0)))⟩])
  (.seq (.blk 0 (.lop b32_0)) (.scr x32_0)))
 (.seq (.seq (.ops [⟨none, .mv 86 (.t 10)⟩,
    ⟨none, .len 87 false (.t 86)⟩,
    ⟨none, .mv 88 (.c (.v (.int .i64 0)))⟩])
  (.seq (.blk 4 (.lop b32_2)) (.scr x32_4)))
 (.seq (.ops [⟨none, .mv 121 (.t 12)⟩,
   ⟨none, .asg 6 (.t 121)⟩,
   ⟨none, .asg 7 (.c (.v (.int .i64 0)))⟩])
 (.seq (.scr r32) .ret)))))))))))),
  122, [6, 7]⟩

/-- coinage/coinageref23.At -/
abbrev K33 : Nat := 15
def hints33 : List (List Bool) := [bits 74 [6, 7], bits 74 [6, 7], bits 74 [12], bits 74 [0, 1, 2, 10, 11, 12], bits 74 [12], bits 74 [0, 1, 2, 10, 11, 12], bits 74 [0, 1, 2, 10, 11, 12], bits 74 [0, 1, 2, 10, 11, 12, 13], bits 74 [0, 1, 2, 10, 11, 12], bits 74 [0, 1, 2, 10, 11, 12, 13], bits 74 [0, 1, 2, 10, 11, 12, 13], bits 74 [0, 1, 2, 10, 11, 12], bits 74 [6, 7]]
@[simp] def r33 : List Bool := bits 74 [6, 7]
@[simp] def R33 (s6 s7 : V) : St := tab 74 15 (fu (fu dd 7 s7) 6 s6) dd
@[simp] def x33_0 : List Bool := bits 74 [12]
@[simp] def X33_0 (s12 : V) : St := tab 74 15 (fu dd 12 s12) dd
@[simp] def h33_0 : List Bool := bits 74 [0, 1, 2, 10, 11, 12]
@[simp] def L33_0 (s0 s1 s2 s10 s11 s12 : V) : St := tab 74 15 (fu (fu (fu (fu (fu (fu dd 12 s12) 11 s11) 10 s10) 2 s2) 1 s1) 0 s0) dd
@[simp] def x33_1 : List Bool := bits 74 [0, 1, 2, 10, 11, 12]
@[simp] def X33_1 (s0 s1 s2 s10 s11 s12 : V) : St := tab 74 15 (fu (fu (fu (fu (fu (fu dd 12 s12) 11 s11) 10 s10) 2 s2) 1 s1) 0 s0) dd
@[simp] def x33_2 : List Bool := bits 74 [0, 1, 2, 10, 11, 12]
@[simp] def X33_2 (s0 s1 s2 s10 s11 s12 : V) : St := tab 74 15 (fu (fu (fu (fu (fu (fu dd 12 s12) 11 s11) 10 s10) 2 s2) 1 s1) 0 s0) dd
@[simp] def h33_1 : List Bool := bits 74 [0, 1, 2, 10, 11, 12, 13]
@[simp] def L33_1 (s0 s1 s2 s10 s11 s12 s13 : V) : St := tab 74 15 (fu (fu (fu (fu (fu (fu (fu dd 13 s13) 12 s12) 11 s11) 10 s10) 2 s2) 1 s1) 0 s0) dd
@[simp] def x33_3 : List Bool := bits 74 [0, 1, 2, 10, 11, 12, 13]
@[simp] def X33_3 (s0 s1 s2 s10 s11 s12 s13 : V) : St := tab 74 15 (fu (fu (fu (fu (fu (fu (fu dd 13 s13) 12 s12) 11 s11) 10 s10) 2 s2) 1 s1) 0 s0) dd
def b33_1 : MC := .seq (.scr h33_1)
 (.seq (.seq (.ops [⟨none, .mv 37 (.t 13)⟩,
    ⟨none, .mv 38 (.t 0)⟩,
    ⟨none, .bin 39 .lss .num (.t 37) (.t 38)⟩])
  (.cnd (.t 39)
   .skip
   (.seq (.scr x33_2) (.ex 2))))
 (.seq (.seq (.blk 3 (.seq (.seq (.ops [⟨none, .mv 42 (.t 1)⟩,
      ⟨none, .mv 43 (.t 11)⟩,
      ⟨none, .mv 44 (.t 13)⟩,
      ⟨none, .call (some 45) 42 [(.t 42), (.t 43), (.t 44)]⟩,
      ⟨none, .un 46 .not (.t 45)⟩])
    (.cnd (.t 46)
     (.seq (.scr x33_3) (.ex 3))
     .skip))
   (.seq (.seq (.ops [⟨none, .mv 47 (.t 2)⟩,
      ⟨none, .mv 48 (.t 10)⟩,
      ⟨none, .mv 49 (.t 11)⟩,
      ⟨none, .mv 50 (.t 13)⟩,
      ⟨none, .bin 51 .shl .num (.c (.v (.int .i64 1))) (.t 50)⟩,
      ⟨none, .bin 52 .or .num (.t 49) (.t 51)⟩,
      ⟨none, .ixs 53 1 (.t 48) (.t 52)⟩,
      ⟨none, .ld1 54 (.t 53)⟩,
      ⟨none, .bin 55 .lss .num (.t 47) (.t 54)⟩])
    (.cnd (.t 55)
     (.seq (.ops [⟨none, .mv 56 (.t 12)⟩,
       ⟨none, .mv 57 (.t 13)⟩,
       ⟨none, .bs 58 1 1 [(.v (.int .i64 0))] [(0, 1, (.t 57))]⟩,
       ⟨none, .app 59 1 (.t 56) (.t 58)⟩,
       ⟨none, .asg 12 (.t 59)⟩])
     (.seq (.ops [⟨none, .mv 60 (.t 11)⟩,
       ⟨none, .mv 61 (.t 13)⟩,
       ⟨none, .bin 62 .shl .num (.c (.v (.int .i64 1))) (.t 61)⟩,
       ⟨none, .bin 63 .or .num (.t 60) (.t 62)⟩,
       ⟨none, .asg 11 (.t 63)⟩])
     (.seq (.scr x33_2) (.ex 2))))
     .skip))
   (.ops [⟨none, .mv 64 (.t 2)⟩,
    ⟨none, .mv 65 (.t 10)⟩,
    ⟨none, .mv 66 (.t 11)⟩,
    ⟨none, .mv 67 (.t 13)⟩,
    ⟨none, .bin 68 .shl .num (.c (.v (.int .i64 1))) (.t 67)⟩,
    ⟨none, .bin 69 .or .num (.t 66) (.t 68)⟩,
    ⟨none, .ixs 70 1 (.t 65) (.t 69)⟩,
    ⟨none, .ld1 71 (.t 70)⟩,
    ⟨none, .bin 72 .sub .num (.t 64) (.t 71)⟩,
    ⟨none, .asg 2 (.t 72)⟩])))) (.scr x33_3))
 (.ops [⟨none, .mv 40 (.t 13)⟩,
  ⟨none, .bin 41 .add .num (.t 40) (.c (.v (.int .i64 1)))⟩,
  ⟨none, .asg 13 (.t 41)⟩])))
def b33_0 : MC := .seq (.scr h33_0)
 (.seq (.seq (.ops [⟨none, .mv 33 (.t 12)⟩,
    ⟨none, .len 34 false (.t 33)⟩,
    ⟨none, .mv 35 (.t 0)⟩,
    ⟨none, .bin 36 .lss .num (.t 34) (.t 35)⟩])
  (.cnd (.t 36)
   .skip
   (.seq (.scr x33_0) (.ex 0))))
 (.seq (.blk 1 (.seq (.ops [⟨none, .asg 13 (.c (.v (.int .i64 0)))⟩])
  (.seq (.blk 2 (.lop b33_1)) (.scr x33_2)))) (.scr x33_1)))
def c33 : MF := ⟨(.seq (.ops [⟨none, .asg 6 (.c (.nd (.sl true 1 0) []))⟩,
   ⟨none, .asg 7 (.c (.v (.int .i64 0)))⟩])
 (.seq (.ops [⟨none, .mv 15 (.t 0)⟩,
   ⟨none, .mv 16 (.t 1)⟩,
   ⟨none, .call (some 17) 22 [(.t 15), (.t 16)]⟩,
   ⟨none, .mv 14 (.t 17)⟩,
   ⟨none, .ext 18 (.t 14) 0⟩,
   ⟨none, .ext 19 (.t 14) 1⟩,
   ⟨none, .asg 8 (.t 18)⟩,
   ⟨none, .asg 9 (.t 19)⟩])
 (.seq (.seq (.ops [⟨none, .mv 20 (.t 9)⟩,
    ⟨none, .bin 21 .neq .num (.t 20) (.c (.v (.int .i64 0)))⟩])
  (.cnd (.t 21)
   (.seq (.ops [⟨none, .mv 22 (.t 9)⟩,
     ⟨none, .asg 6 (.c (.nd (.sl true 1 0) []))⟩,
     ⟨none, .asg 7 (.t 22)⟩])
   (.seq (.scr r33) .ret))
   .skip))
 (.seq (.seq (.ops [⟨none, .mv 23 (.t 2)⟩,
    ⟨none, .bin 24 .lss .num (.t 23) (.c (.v (.int .i64 0)))⟩,
    ⟨none, .mv 25 (.t 24)⟩,
    ⟨some (25, false), .mv 26 (.t 2)⟩,
    ⟨some (25, false), .mv 27 (.t 8)⟩,
    ⟨some (25, false), .bin 28 .geq .num (.t 26) (.t 27)⟩,
    ⟨none, .pick 29 (.t 25) (.c (.v (.bool true))) (.t 28)⟩])
  (.cnd (.t 29)
   (.seq (.ops [⟨none, .asg 6 (.c (.nd (.sl true 1 0) []))⟩,
     ⟨none, .asg 7 (.c (.v (.int .i64 7)))⟩])
   (.seq (.scr r33) .ret))
   .skip))
 (.seq (.ops [⟨none, .mv 30 (.t 0)⟩,
   ⟨none, .mv 31 (.t 1)⟩,
   ⟨none, .call (some 32) 41 [(.t 30), (.t 31)]⟩,
   ⟨none, .asg 10 (.t 32)⟩])
 (.seq (.ops [⟨none, .asg 11 (.c (.v (.int .i64 0)))⟩])
 (.seq (.ops [⟨none, .asg 12 (.c (.nd (.sl true 1 0) []))⟩])
 (.seq (.seq (.blk 0 (.lop b33_0)) (.scr x33_0))
 (.seq (.ops [⟨none, .mv 73 (.t 12)⟩,
   ⟨none, .asg 6 (.t 73)⟩,
   ⟨none, .asg 7 (.c (.v (.int .i64 0)))⟩])
 (.seq (.scr r33) .ret)))))))))),
  74, [6, 7]⟩

/-- coinage/coinageref23.Place -/
abbrev K34 : Nat := 15
def hints34 : List (List Bool) := [bits 95 [6, 7], bits 95 [6, 7], bits 95 [11], bits 95 [0, 1, 2, 9, 10, 11, 12], bits 95 [11], bits 95 [0, 1, 2, 9, 10, 11, 12], bits 95 [0, 1, 2, 9, 10, 11, 12, 13], bits 95 [0, 1, 2, 9, 10, 11, 12, 13, 14], bits 95 [0, 1, 2, 9, 10, 11, 12, 13], bits 95 [0, 1, 2, 9, 10, 11, 12, 13, 14], bits 95 [6, 7]]
@[simp] def r34 : List Bool := bits 95 [6, 7]
@[simp] def R34 (s6 s7 : V) : St := tab 95 15 (fu (fu dd 7 s7) 6 s6) dd
@[simp] def x34_0 : List Bool := bits 95 [11]
@[simp] def X34_0 (s11 : V) : St := tab 95 15 (fu dd 11 s11) dd
@[simp] def h34_0 : List Bool := bits 95 [0, 1, 2, 9, 10, 11, 12]
@[simp] def L34_0 (s0 s1 s2 s9 s10 s11 s12 : V) : St := tab 95 15 (fu (fu (fu (fu (fu (fu (fu dd 12 s12) 11 s11) 10 s10) 9 s9) 2 s2) 1 s1) 0 s0) dd
@[simp] def x34_1 : List Bool := bits 95 [0, 1, 2, 9, 10, 11, 12]
@[simp] def X34_1 (s0 s1 s2 s9 s10 s11 s12 : V) : St := tab 95 15 (fu (fu (fu (fu (fu (fu (fu dd 12 s12) 11 s11) 10 s10) 9 s9) 2 s2) 1 s1) 0 s0) dd
@[simp] def x34_2 : List Bool := bits 95 [0, 1, 2, 9, 10, 11, 12, 13]
@[simp] def X34_2 (s0 s1 s2 s9 s10 s11 s12 s13 : V) : St := tab 95 15 (fu (fu (fu (fu (fu (fu (fu (fu dd 13 s13) 12 s12) 11 s11) 10 s10) 9 s9) 2 s2) 1 s1) 0 s0) dd
@[simp] def h34_1 : List Bool := bits 95 [0, 1, 2, 9, 10, 11, 12, 13, 14]
@[simp] def L34_1 (s0 s1 s2 s9 s10 s11 s12 s13 s14 : V) : St := tab 95 15 (fu (fu (fu (fu (fu (fu (fu (fu (fu dd 14 s14) 13 s13) 12 s12) 11 s11) 10 s10) 9 s9) 2 s2) 1 s1) 0 s0) dd
@[simp] def x34_3 : List Bool := bits 95 [0, 1, 2, 9, 10, 11, 12, 13, 14]
@[simp] def X34_3 (s0 s1 s2 s9 s10 s11 s12 s13 s14 : V) : St := tab 95 15 (fu (fu (fu (fu (fu (fu (fu (fu (fu dd 14 s14) 13 s13) 12 s12) 11 s11) 10 s10) 9 s9) 2 s2) 1 s1) 0 s0) dd
def b34_1 : MC := .seq (.scr h34_1)
 (.seq (.seq (.ops [⟨none, .mv 44 (.t 14)⟩,
    ⟨none, .mv 45 (.t 0)⟩,
    ⟨none, .bin 46 .lss .num (.t 44) (.t 45)⟩])
  (.cnd (.t 46)
   .skip
   (.seq (.scr x34_2) (.ex 2))))
 (.seq (.seq (.blk 3 (.seq (.ops [⟨none, .mv 49 (.t 13)⟩,
     ⟨none, .mv 50 (.t 12)⟩,
     ⟨none, .mv 51 (.t 14)⟩,
     ⟨none, .bin 52 .shr .num (.t 50) (.t 51)⟩,
     ⟨none, .bin 53 .and .num (.t 52) (.c (.v (.int .i64 1)))⟩,
     ⟨none, .bin 54 .add .num (.t 49) (.t 53)⟩,
     ⟨none, .asg 13 (.t 54)⟩])
   (.seq (.ops [⟨none, .mv 55 (.t 1)⟩,
     ⟨none, .mv 56 (.t 12)⟩,
     ⟨none, .mv 57 (.t 14)⟩,
     ⟨none, .call (some 58) 42 [(.t 55), (.t 56), (.t 57)]⟩])
   (.cnd (.t 58)
    (.drw [⟨none, .mv 59 (.t 10)⟩,
     ⟨none, .mv 60 (.t 12)⟩,
     ⟨none, .mv 61 (.t 14)⟩,
     ⟨none, .bin 62 .shl .num (.c (.v (.int .i64 1))) (.t 61)⟩,
     ⟨none, .bin 63 .or .num (.t 60) (.t 62)⟩,
     ⟨none, .ixs 64 1 (.t 59) (.t 63)⟩,
     ⟨none, .ld1 65 (.t 64)⟩,
     ⟨none, .mv 66 (.t 10)⟩,
     ⟨none, .mv 67 (.t 12)⟩,
     ⟨none, .ixs 68 1 (.t 66) (.t 67)⟩,
     ⟨none, .ld1 69 (.t 68)⟩] [⟨none, .bin 70 .add .num (.t 65) (.t 69)⟩,
     ⟨none, .ixs 71 1 (.t 59) (.t 63)⟩,
     ⟨none, .stn none 1 (.t 71) (.t 70)⟩])
    .skip)))) (.scr x34_3))
 (.ops [⟨none, .mv 47 (.t 14)⟩,
  ⟨none, .bin 48 .add .num (.t 47) (.c (.v (.int .i64 1)))⟩,
  ⟨none, .asg 14 (.t 48)⟩])))
def b34_0 : MC := .seq (.scr h34_0)
 (.seq (.seq (.ops [⟨none, .mv 38 (.t 12)⟩,
    ⟨none, .mv 39 (.t 0)⟩,
    ⟨none, .bin 40 .shl .num (.c (.v (.int .i64 1))) (.t 39)⟩,
    ⟨none, .bin 41 .lss .num (.t 38) (.t 40)⟩])
  (.cnd (.t 41)
   .skip
   (.seq (.scr x34_0) (.ex 0))))
 (.seq (.seq (.blk 1 (.seq (.ops [⟨none, .asg 13 (.c (.v (.int .i64 0)))⟩])
   (.seq (.seq (.ops [⟨none, .asg 14 (.c (.v (.int .i64 0)))⟩])
    (.seq (.blk 2 (.lop b34_1)) (.scr x34_2)))
   (.seq (.ops [⟨none, .mv 72 (.t 1)⟩,
     ⟨none, .mv 73 (.t 12)⟩,
     ⟨none, .mv 74 (.t 2)⟩,
     ⟨none, .call (some 75) 42 [(.t 72), (.t 73), (.t 74)]⟩])
   (.cnd (.t 75)
    (.drw [⟨none, .mv 76 (.t 11)⟩,
     ⟨none, .mv 77 (.t 13)⟩,
     ⟨none, .ixs 78 1 (.t 76) (.t 77)⟩,
     ⟨none, .ld1 79 (.t 78)⟩,
     ⟨none, .mv 80 (.t 10)⟩,
     ⟨none, .mv 81 (.t 12)⟩,
     ⟨none, .ixs 82 1 (.t 80) (.t 81)⟩,
     ⟨none, .ld1 83 (.t 82)⟩,
     ⟨none, .mv 84 (.t 9)⟩,
     ⟨none, .mv 85 (.t 12)⟩,
     ⟨none, .mv 86 (.t 2)⟩,
     ⟨none, .bin 87 .shl .num (.c (.v (.int .i64 1))) (.t 86)⟩,
     ⟨none, .bin 88 .or .num (.t 85) (.t 87)⟩,
     ⟨none, .ixs 89 1 (.t 84) (.t 88)⟩,
     ⟨none, .ld1 90 (.t 89)⟩,
     ⟨none, .bin 91 .mul .num (.t 83) (.t 90)⟩] [⟨none, .bin 92 .add .num (.t 79) (.t 91)⟩,
     ⟨none, .ixs 93 1 (.t 76) (.t 77)⟩,
     ⟨none, .stn none 1 (.t 93) (.t 92)⟩])
    .skip))))) (.scr x34_1))
 (.ops [⟨none, .mv 42 (.t 12)⟩,
  ⟨none, .bin 43 .add .num (.t 42) (.c (.v (.int .i64 1)))⟩,
  ⟨none, .asg 12 (.t 43)⟩])))
def c34 : MF := ⟨(.seq (.ops [⟨none, .asg 6 (.c (.nd (.sl true 1 0) []))⟩,
   ⟨none, .asg 7 (.c (.v (.int .i64 0)))⟩])
 (.seq (.seq (.ops [⟨none, .mv 15 (.t 0)⟩,
    ⟨none, .mv 16 (.t 1)⟩,
    ⟨none, .call (some 17) 15 [(.t 15), (.t 16)]⟩,
    ⟨none, .asg 8 (.t 17)⟩])
  (.seq (.ops [⟨none, .mv 18 (.t 8)⟩,
    ⟨none, .bin 19 .neq .num (.t 18) (.c (.v (.int .i64 0)))⟩])
  (.cnd (.t 19)
   (.seq (.ops [⟨none, .mv 20 (.t 8)⟩,
     ⟨none, .asg 6 (.c (.nd (.sl true 1 0) []))⟩,
     ⟨none, .asg 7 (.t 20)⟩])
   (.seq (.scr r34) .ret))
   .skip)))
 (.seq (.seq (.ops [⟨none, .mv 21 (.t 2)⟩,
    ⟨none, .bin 22 .lss .num (.t 21) (.c (.v (.int .i64 0)))⟩,
    ⟨none, .mv 23 (.t 22)⟩,
    ⟨some (23, false), .mv 24 (.t 2)⟩,
    ⟨some (23, false), .mv 25 (.t 0)⟩,
    ⟨some (23, false), .bin 26 .geq .num (.t 24) (.t 25)⟩,
    ⟨none, .pick 27 (.t 23) (.c (.v (.bool true))) (.t 26)⟩])
  (.cnd (.t 27)
   (.seq (.ops [⟨none, .asg 6 (.c (.nd (.sl true 1 0) []))⟩,
     ⟨none, .asg 7 (.c (.v (.int .i64 2)))⟩])
   (.seq (.scr r34) .ret))
   .skip))
 (.seq (.ops [⟨none, .mv 28 (.t 0)⟩,
   ⟨none, .mv 29 (.t 1)⟩,
   ⟨none, .call (some 30) 41 [(.t 28), (.t 29)]⟩,
   ⟨none, .asg 9 (.t 30)⟩])
 (.seq (.ops [⟨none, .mv 31 (.t 0)⟩,
   ⟨none, .bin 32 .shl .num (.c (.v (.int .i64 1))) (.t 31)⟩,
   ⟨none, .mks 33 1 [(.v (.int .i64 0))] (.t 32) (.t 32)⟩,
   ⟨none, .asg 10 (.t 33)⟩])
 (.seq (.ops [⟨none, .mv 34 (.t 10)⟩,
   ⟨none, .ixs 35 1 (.t 34) (.c (.v (.int .i64 0)))⟩,
   ⟨none, .stn none 1 (.t 35) (.c (.v (.int .i64 1)))⟩])
 (.seq (.ops [⟨none, .mv 36 (.t 0)⟩,
   ⟨none, .mks 37 1 [(.v (.int .i64 0))] (.t 36) (.t 36)⟩,
   ⟨none, .asg 11 (.t 37)⟩])
 (.seq (.seq (.ops [⟨none, .asg 12 (.c (.v (.int .i64 0)))⟩])
  (.seq (.blk 0 (.lop b34_0)) (.scr x34_0)))
 (.seq (.ops [⟨none, .mv 94 (.t 11)⟩,
   ⟨none, .asg 6 (.t 94)⟩,
   ⟨none, .asg 7 (.c (.v (.int .i64 0)))⟩])
 (.seq (.scr r34) .ret)))))))))),
  95, [6, 7]⟩

/-- coinage/sequence.check -/
abbrev K35 : Nat := 14
def hints35 : List (List Bool) := [bits 18 [], bits 18 [4], bits 18 [4], bits 18 [4], bits 18 [4]]
@[simp] def r35 : List Bool := bits 18 [4]
@[simp] def R35 (s4 : V) : St := tab 18 14 (fu dd 4 s4) dd
@[simp] def x35_0 : List Bool := bits 18 []
@[simp] def X35_0 : St := tab 18 14 dd dd
def c35 : MF := ⟨(.seq (.ops [⟨none, .asg 4 (.c (.v (.int .i64 0)))⟩])
 (.seq (.seq (.blk 0 (.seq (.ops [⟨none, .mv 6 (.t 0)⟩,
     ⟨none, .mv 7 (.t 1)⟩,
     ⟨none, .call (some 8) 44 [(.t 6), (.t 7)]⟩,
     ⟨none, .un 9 .not (.t 8)⟩,
     ⟨none, .asg 5 (.t 9)⟩])
   (.cnd (.t 5)
    (.seq (.ops [⟨none, .asg 4 (.c (.v (.int .i64 1)))⟩])
    (.seq (.scr r35) .ret))
    (.seq (.ops [⟨none, .mv 11 (.t 0)⟩,
      ⟨none, .bin 12 .gtr .num (.t 11) (.c (.v (.int .i64 10)))⟩,
      ⟨none, .asg 10 (.t 12)⟩])
    (.cnd (.t 10)
     (.seq (.ops [⟨none, .asg 4 (.c (.v (.int .i64 6)))⟩])
     (.seq (.scr r35) .ret))
     (.seq (.ops [⟨none, .mv 14 (.t 0)⟩,
       ⟨none, .mv 15 (.t 1)⟩,
       ⟨none, .call (some 16) 45 [(.t 14), (.t 15)]⟩,
       ⟨none, .un 17 .not (.t 16)⟩,
       ⟨none, .asg 13 (.t 17)⟩])
     (.cnd (.t 13)
      (.seq (.ops [⟨none, .asg 4 (.c (.v (.int .i64 11)))⟩])
      (.seq (.scr r35) .ret))
      .skip))))))) (.scr x35_0))
 (.seq (.ops [⟨none, .asg 4 (.c (.v (.int .i64 0)))⟩])
 (.seq (.scr r35) .ret)))),
  18, [4]⟩

/-- coinage/sequence.of -/
abbrev K36 : Nat := 74
def hints36 : List (List Bool) := [bits 74 [0, 3, 4, 5], bits 74 [0, 1, 3, 4, 5, 18, 19, 20], bits 74 [0, 3, 4, 5], bits 74 [0, 1, 3, 4, 5, 18, 19, 20], bits 74 [3, 4, 5], bits 74 [0, 3, 4, 5, 9], bits 74 [3, 4, 5], bits 74 [0, 3, 4, 5, 9], bits 74 [0, 3, 4, 5, 9], bits 74 [0, 3, 4, 5, 9, 49, 50], bits 74 [0, 3, 4, 5, 9], bits 74 [0, 3, 4, 5, 9, 49, 50], bits 74 [3, 4]]
@[simp] def r36 : List Bool := bits 74 [3, 4]
@[simp] def R36 (s3 s4 : V) : St := tab 74 74 (fu (fu dd 4 s4) 3 s3) dd
@[simp] def x36_0 : List Bool := bits 74 [0, 3, 4, 5]
@[simp] def X36_0 (s0 s3 s4 s5 : V) : St := tab 74 74 (fu (fu (fu (fu dd 5 s5) 4 s4) 3 s3) 0 s0) dd
@[simp] def h36_0 : List Bool := bits 74 [0, 1, 3, 4, 5, 18, 19, 20]
@[simp] def L36_0 (s0 s1 s3 s4 s5 s18 s19 s20 : V) : St := tab 74 74 (fu (fu (fu (fu (fu (fu (fu (fu dd 20 s20) 19 s19) 18 s18) 5 s5) 4 s4) 3 s3) 1 s1) 0 s0) dd
@[simp] def x36_1 : List Bool := bits 74 [0, 1, 3, 4, 5, 18, 19, 20]
@[simp] def X36_1 (s0 s1 s3 s4 s5 s18 s19 s20 : V) : St := tab 74 74 (fu (fu (fu (fu (fu (fu (fu (fu dd 20 s20) 19 s19) 18 s18) 5 s5) 4 s4) 3 s3) 1 s1) 0 s0) dd
def b36_0 : MC := .seq (.scr h36_0)
 (.seq (.ops [⟨none, .bin 21 .lss .num (.t 20) (.t 19)⟩])
 (.seq (.cnd (.t 21)
   .skip
   (.seq (.scr x36_0) (.ex 0)))
 (.seq (.seq (.blk 1 (.seq (.ops [⟨none, .ixs 22 2 (.t 18) (.t 20)⟩,
     ⟨none, .ldn 23 2 (.t 22)⟩,
     ⟨none, .alc 7 [(.v (.int .i64 0)), (.v (.int .i64 0))]⟩,
     ⟨none, .stn none 2 (.t 7) (.t 23)⟩])
   (.drw [⟨none, .fa 24 1 (.t 5)⟩,
    ⟨none, .ld1 25 (.t 24)⟩,
    ⟨none, .fa 26 1 (.t 7)⟩,
    ⟨none, .ld1 27 (.t 26)⟩,
    ⟨none, .ixs 28 1 (.t 25) (.t 27)⟩,
    ⟨none, .ld1 29 (.t 28)⟩,
    ⟨none, .fa 30 0 (.t 7)⟩,
    ⟨none, .ld1 31 (.t 30)⟩,
    ⟨none, .bin 32 .shl .num (.c (.v (.int .i64 1))) (.t 31)⟩] [⟨none, .bin 33 .or .num (.t 29) (.t 32)⟩,
    ⟨none, .ixs 34 1 (.t 25) (.t 27)⟩,
    ⟨none, .stn none 1 (.t 34) (.t 33)⟩]))) (.scr x36_1))
 (.ops [⟨none, .bin 35 .add .num (.t 20) (.c (.v (.int .i64 1)))⟩,
  ⟨none, .mv 20 (.t 35)⟩]))))
@[simp] def x36_2 : List Bool := bits 74 [3, 4, 5]
@[simp] def X36_2 (s3 s4 s5 : V) : St := tab 74 74 (fu (fu (fu dd 5 s5) 4 s4) 3 s3) dd
@[simp] def h36_1 : List Bool := bits 74 [0, 3, 4, 5, 9]
@[simp] def L36_1 (s0 s3 s4 s5 s9 : V) : St := tab 74 74 (fu (fu (fu (fu (fu dd 9 s9) 5 s5) 4 s4) 3 s3) 0 s0) dd
@[simp] def x36_3 : List Bool := bits 74 [0, 3, 4, 5, 9]
@[simp] def X36_3 (s0 s3 s4 s5 s9 : V) : St := tab 74 74 (fu (fu (fu (fu (fu dd 9 s9) 5 s5) 4 s4) 3 s3) 0 s0) dd
@[simp] def x36_4 : List Bool := bits 74 [0, 3, 4, 5, 9]
@[simp] def X36_4 (s0 s3 s4 s5 s9 : V) : St := tab 74 74 (fu (fu (fu (fu (fu dd 9 s9) 5 s5) 4 s4) 3 s3) 0 s0) dd
@[simp] def h36_2 : List Bool := bits 74 [0, 3, 4, 5, 9, 49, 50]
@[simp] def L36_2 (s0 s3 s4 s5 s9 s49 s50 : V) : St := tab 74 74 (fu (fu (fu (fu (fu (fu (fu dd 50 s50) 49 s49) 9 s9) 5 s5) 4 s4) 3 s3) 0 s0) dd
@[simp] def x36_5 : List Bool := bits 74 [0, 3, 4, 5, 9, 49, 50]
@[simp] def X36_5 (s0 s3 s4 s5 s9 s49 s50 : V) : St := tab 74 74 (fu (fu (fu (fu (fu (fu (fu dd 50 s50) 49 s49) 9 s9) 5 s5) 4 s4) 3 s3) 0 s0) dd
def b36_2 : MC := .seq (.scr h36_2)
 (.seq (.ops [⟨none, .bin 51 .lss .num (.t 50) (.t 49)⟩])
 (.seq (.cnd (.t 51)
   .skip
   (.seq (.scr x36_4) (.ex 4)))
 (.seq (.seq (.blk 5 (.seq (.ops [⟨none, .mv 52 (.t 50)⟩,
     ⟨none, .asg 10 (.t 52)⟩])
   (.seq (.ops [⟨none, .ldn 53 3 (.t 5)⟩,
     ⟨none, .mv 54 (.t 9)⟩,
     ⟨none, .mv 55 (.t 10)⟩,
     ⟨none, .call (some 56) 43 [(.t 53), (.t 54), (.t 55)]⟩])
   (.cnd (.t 56)
    (.drw [⟨none, .fa 57 2 (.t 5)⟩,
     ⟨none, .ld1 58 (.t 57)⟩,
     ⟨none, .mv 59 (.t 9)⟩,
     ⟨none, .ixs 60 1 (.t 58) (.t 59)⟩,
     ⟨none, .ld1 61 (.t 60)⟩,
     ⟨none, .fa 62 2 (.t 5)⟩,
     ⟨none, .ld1 63 (.t 62)⟩,
     ⟨none, .mv 64 (.t 9)⟩,
     ⟨none, .mv 65 (.t 10)⟩,
     ⟨none, .bin 66 .shl .num (.c (.v (.int .i64 1))) (.t 65)⟩,
     ⟨none, .bin 67 .or .num (.t 64) (.t 66)⟩,
     ⟨none, .ixs 68 1 (.t 63) (.t 67)⟩,
     ⟨none, .ld1 69 (.t 68)⟩] [⟨none, .bin 70 .add .num (.t 61) (.t 69)⟩,
     ⟨none, .ixs 71 1 (.t 58) (.t 59)⟩,
     ⟨none, .stn none 1 (.t 71) (.t 70)⟩])
    .skip)))) (.scr x36_5))
 (.ops [⟨none, .bin 72 .add .num (.t 50) (.c (.v (.int .i64 1)))⟩,
  ⟨none, .mv 50 (.t 72)⟩]))))
def b36_1 : MC := .seq (.scr h36_1)
 (.seq (.seq (.ops [⟨none, .mv 45 (.t 9)⟩,
    ⟨none, .bin 46 .geq .num (.t 45) (.c (.v (.int .i64 0)))⟩])
  (.cnd (.t 46)
   .skip
   (.seq (.scr x36_2) (.ex 2))))
 (.seq (.seq (.blk 3 (.seq (.ops [⟨none, .mv 49 (.t 0)⟩,
     ⟨none, .mv 50 (.c (.v (.int .i64 0)))⟩])
   (.seq (.blk 4 (.lop b36_2)) (.scr x36_4)))) (.scr x36_3))
 (.ops [⟨none, .mv 47 (.t 9)⟩,
  ⟨none, .bin 48 .sub .num (.t 47) (.c (.v (.int .i64 1)))⟩,
  ⟨none, .asg 9 (.t 48)⟩])))
def c36 : MF := ⟨(.seq (.ops [⟨none, .alc 4 [(.v (.int .i64 0)), (.nd (.sl true 1 0) []), (.nd (.sl true 1 0) [])]⟩])
 (.seq (.drw [⟨none, .mv 11 (.t 0)⟩,
   ⟨none, .mv 12 (.t 0)⟩,
   ⟨none, .mks 13 1 [(.v (.int .i64 0))] (.t 12) (.t 12)⟩,
   ⟨none, .mv 14 (.t 0)⟩,
   ⟨none, .bin 15 .shl .num (.c (.v (.int .i64 1))) (.t 14)⟩,
   ⟨none, .mks 16 1 [(.v (.int .i64 0))] (.t 15) (.t 15)⟩,
   ⟨none, .bv 17 [(.v (.int .i64 0)), (.nd (.sl true 1 0) []), (.nd (.sl true 1 0) [])] [(0, 1, (.t 11)), (1, 1, (.t 13)), (2, 1, (.t 16))]⟩,
   ⟨none, .alc 5 [(.v (.int .i64 0)), (.nd (.sl true 1 0) []), (.nd (.sl true 1 0) [])]⟩] [⟨none, .stn none 3 (.t 5) (.t 17)⟩])
 (.seq (.seq (.ops [⟨none, .mv 18 (.t 1)⟩,
    ⟨none, .len 19 false (.t 18)⟩,
    ⟨none, .mv 20 (.c (.v (.int .i64 0)))⟩])
  (.seq (.blk 0 (.lop b36_0)) (.scr x36_0)))
 (.seq (.ops [⟨none, .mv 36 (.t 0)⟩,
   ⟨none, .bin 37 .shl .num (.c (.v (.int .i64 1))) (.t 36)⟩,
   ⟨none, .bin 38 .sub .num (.t 37) (.c (.v (.int .i64 1)))⟩,
   ⟨none, .asg 8 (.t 38)⟩])
 (.seq (.ops [⟨none, .fa 39 2 (.t 5)⟩,
   ⟨none, .ld1 40 (.t 39)⟩,
   ⟨none, .mv 41 (.t 8)⟩,
   ⟨none, .ixs 42 1 (.t 40) (.t 41)⟩,
   ⟨none, .stn none 1 (.t 42) (.c (.v (.int .i64 1)))⟩])
 (.seq (.seq (.ops [⟨none, .mv 43 (.t 8)⟩,
    ⟨none, .bin 44 .sub .num (.t 43) (.c (.v (.int .i64 1)))⟩,
    ⟨none, .asg 9 (.t 44)⟩])
  (.seq (.blk 2 (.lop b36_1)) (.scr x36_2)))
 (.seq (.ops [⟨none, .ldn 73 3 (.t 5)⟩,
   ⟨none, .stn none 3 (.t 4) (.t 73)⟩])
 (.seq (.scr r36) .ret)))))))),
  74, [4, 3, 1000000]⟩

/-- (coinage/sequence.table).at -/
abbrev K37 : Nat := 17
def hints37 : List (List Bool) := [bits 48 [5], bits 48 [1, 2, 5, 6], bits 48 [5], bits 48 [1, 2, 5, 6], bits 48 [1, 2, 5, 6], bits 48 [1, 2, 5, 6, 15, 16], bits 48 [1, 2, 5, 6], bits 48 [1, 2, 5, 6, 15, 16], bits 48 [1, 2, 5, 6, 15, 16], bits 48 [1, 2, 5, 6, 15, 16], bits 48 [1, 2, 5, 6], bits 48 [4]]
@[simp] def r37 : List Bool := bits 48 [4]
@[simp] def R37 (s4 : V) : St := tab 48 17 (fu dd 4 s4) dd
@[simp] def x37_0 : List Bool := bits 48 [5]
@[simp] def X37_0 (s5 : V) : St := tab 48 17 (fu dd 5 s5) dd
@[simp] def h37_0 : List Bool := bits 48 [1, 2, 5, 6]
@[simp] def L37_0 (s1 s2 s5 s6 : V) : St := tab 48 17 (fu (fu (fu (fu dd 6 s6) 5 s5) 2 s2) 1 s1) dd
@[simp] def x37_1 : List Bool := bits 48 [1, 2, 5, 6]
@[simp] def X37_1 (s1 s2 s5 s6 : V) : St := tab 48 17 (fu (fu (fu (fu dd 6 s6) 5 s5) 2 s2) 1 s1) dd
@[simp] def x37_2 : List Bool := bits 48 [1, 2, 5, 6]
@[simp] def X37_2 (s1 s2 s5 s6 : V) : St := tab 48 17 (fu (fu (fu (fu dd 6 s6) 5 s5) 2 s2) 1 s1) dd
@[simp] def h37_1 : List Bool := bits 48 [1, 2, 5, 6, 15, 16]
@[simp] def L37_1 (s1 s2 s5 s6 s15 s16 : V) : St := tab 48 17 (fu (fu (fu (fu (fu (fu dd 16 s16) 15 s15) 6 s6) 5 s5) 2 s2) 1 s1) dd
@[simp] def x37_3 : List Bool := bits 48 [1, 2, 5, 6, 15, 16]
@[simp] def X37_3 (s1 s2 s5 s6 s15 s16 : V) : St := tab 48 17 (fu (fu (fu (fu (fu (fu dd 16 s16) 15 s15) 6 s6) 5 s5) 2 s2) 1 s1) dd
def b37_1 : MC := .seq (.scr h37_1)
 (.seq (.ops [⟨none, .bin 17 .lss .num (.t 16) (.t 15)⟩])
 (.seq (.cnd (.t 17)
   .skip
   (.seq (.scr x37_2) (.ex 2)))
 (.seq (.seq (.blk 3 (.seq (.ops [⟨none, .mv 18 (.t 16)⟩,
     ⟨none, .asg 7 (.t 18)⟩])
   (.seq (.seq (.ops [⟨none, .ldn 19 3 (.t 2)⟩,
      ⟨none, .mv 20 (.t 6)⟩,
      ⟨none, .mv 21 (.t 7)⟩,
      ⟨none, .call (some 22) 43 [(.t 19), (.t 20), (.t 21)]⟩,
      ⟨none, .un 23 .not (.t 22)⟩])
    (.cnd (.t 23)
     (.seq (.scr x37_3) (.ex 3))
     .skip))
   (.seq (.seq (.drw [⟨none, .fa 24 2 (.t 2)⟩,
      ⟨none, .ld1 25 (.t 24)⟩,
      ⟨none, .mv 26 (.t 6)⟩,
      ⟨none, .mv 27 (.t 7)⟩,
      ⟨none, .bin 28 .shl .num (.c (.v (.int .i64 1))) (.t 27)⟩,
      ⟨none, .bin 29 .or .num (.t 26) (.t 28)⟩] [⟨none, .ixs 30 1 (.t 25) (.t 29)⟩,
      ⟨none, .ld1 31 (.t 30)⟩,
      ⟨none, .asg 8 (.t 31)⟩])
    (.seq (.ops [⟨none, .mv 32 (.t 1)⟩,
      ⟨none, .mv 33 (.t 8)⟩,
      ⟨none, .bin 34 .geq .num (.t 32) (.t 33)⟩])
    (.cnd (.t 34)
     (.seq (.ops [⟨none, .mv 35 (.t 1)⟩,
       ⟨none, .mv 36 (.t 8)⟩,
       ⟨none, .bin 37 .sub .num (.t 35) (.t 36)⟩,
       ⟨none, .asg 1 (.t 37)⟩])
     (.seq (.scr x37_3) (.ex 3)))
     .skip)))
   (.seq (.ops [⟨none, .mv 38 (.t 5)⟩,
     ⟨none, .mv 39 (.t 7)⟩,
     ⟨none, .bs 40 1 1 [(.v (.int .i64 0))] [(0, 1, (.t 39))]⟩,
     ⟨none, .app 41 1 (.t 38) (.t 40)⟩,
     ⟨none, .asg 5 (.t 41)⟩])
   (.seq (.ops [⟨none, .mv 42 (.t 6)⟩,
     ⟨none, .mv 43 (.t 7)⟩,
     ⟨none, .bin 44 .shl .num (.c (.v (.int .i64 1))) (.t 43)⟩,
     ⟨none, .bin 45 .or .num (.t 42) (.t 44)⟩,
     ⟨none, .asg 6 (.t 45)⟩])
   (.seq (.scr x37_2) (.ex 2)))))))) (.scr x37_3))
 (.ops [⟨none, .bin 46 .add .num (.t 16) (.c (.v (.int .i64 1)))⟩,
  ⟨none, .mv 16 (.t 46)⟩]))))
def b37_0 : MC := .seq (.scr h37_0)
 (.seq (.seq (.ops [⟨none, .mv 9 (.t 5)⟩,
    ⟨none, .len 10 false (.t 9)⟩,
    ⟨none, .fa 11 0 (.t 2)⟩,
    ⟨none, .ld1 12 (.t 11)⟩,
    ⟨none, .bin 13 .lss .num (.t 10) (.t 12)⟩])
  (.cnd (.t 13)
   .skip
   (.seq (.scr x37_0) (.ex 0))))
 (.seq (.blk 1 (.seq (.ops [⟨none, .fa 14 0 (.t 2)⟩,
    ⟨none, .ld1 15 (.t 14)⟩,
    ⟨none, .mv 16 (.c (.v (.int .i64 0)))⟩])
  (.seq (.blk 2 (.lop b37_1)) (.scr x37_2)))) (.scr x37_1)))
def c37 : MF := ⟨(.seq (.ops [⟨none, .sl0 2 0 (.t 0)⟩,
   ⟨none, .asg 4 (.c (.nd (.sl true 1 0) []))⟩])
 (.seq (.ops [⟨none, .asg 5 (.c (.nd (.sl true 1 0) []))⟩])
 (.seq (.seq (.ops [⟨none, .asg 6 (.c (.v (.int .i64 0)))⟩])
  (.seq (.blk 0 (.lop b37_0)) (.scr x37_0)))
 (.seq (.ops [⟨none, .mv 47 (.t 5)⟩,
   ⟨none, .asg 4 (.t 47)⟩])
 (.seq (.scr r37) .ret))))),
  48, [4]⟩

/-- coinage/coinageref06.Valid -/
abbrev K38 : Nat := 5
def hints38 : List (List Bool) := [bits 8 [4]]
@[simp] def r38 : List Bool := bits 8 [4]
@[simp] def R38 (s4 : V) : St := tab 8 5 (fu dd 4 s4) dd
def c38 : MF := ⟨(.seq (.ops [⟨none, .asg 4 (.c (.v (.bool false)))⟩])
 (.seq (.ops [⟨none, .mv 5 (.t 0)⟩,
   ⟨none, .mv 6 (.t 1)⟩,
   ⟨none, .call (some 7) 46 [(.t 5), (.t 6)]⟩,
   ⟨none, .asg 4 (.t 7)⟩])
 (.seq (.scr r38) .ret))),
  8, [4]⟩

/-- coinage/coinageref06.Acyclic -/
abbrev K39 : Nat := 7
def hints39 : List (List Bool) := [bits 24 [4], bits 24 [], bits 24 [0, 5, 6], bits 24 [], bits 24 [0, 5, 6], bits 24 [4], bits 24 [4]]
@[simp] def r39 : List Bool := bits 24 [4]
@[simp] def R39 (s4 : V) : St := tab 24 7 (fu dd 4 s4) dd
@[simp] def x39_0 : List Bool := bits 24 []
@[simp] def X39_0 : St := tab 24 7 dd dd
@[simp] def h39_0 : List Bool := bits 24 [0, 5, 6]
@[simp] def L39_0 (s0 s5 s6 : V) : St := tab 24 7 (fu (fu (fu dd 6 s6) 5 s5) 0 s0) dd
@[simp] def x39_1 : List Bool := bits 24 [0, 5, 6]
@[simp] def X39_1 (s0 s5 s6 : V) : St := tab 24 7 (fu (fu (fu dd 6 s6) 5 s5) 0 s0) dd
def b39_0 : MC := .seq (.scr h39_0)
 (.seq (.seq (.ops [⟨none, .mv 14 (.t 6)⟩,
    ⟨none, .mv 15 (.t 0)⟩,
    ⟨none, .bin 16 .lss .num (.t 14) (.t 15)⟩])
  (.cnd (.t 16)
   .skip
   (.seq (.scr x39_0) (.ex 0))))
 (.seq (.seq (.blk 1 (.seq (.ops [⟨none, .mv 19 (.t 6)⟩,
     ⟨none, .mv 20 (.t 6)⟩,
     ⟨none, .ixa 21 24 24 (.t 5) (.t 19)⟩,
     ⟨none, .ixa 22 1 24 (.t 21) (.t 20)⟩,
     ⟨none, .ld1 23 (.t 22)⟩])
   (.cnd (.t 23)
    (.seq (.ops [⟨none, .asg 4 (.c (.v (.bool false)))⟩])
    (.seq (.scr r39) .ret))
    .skip))) (.scr x39_1))
 (.ops [⟨none, .mv 17 (.t 6)⟩,
  ⟨none, .bin 18 .add .num (.t 17) (.c (.v (.int .i64 1)))⟩,
  ⟨none, .asg 6 (.t 18)⟩])))
def c39 : MF := ⟨(.seq (.ops [⟨none, .asg 4 (.c (.v (.bool false)))⟩])
 (.seq (.seq (.ops [⟨none, .mv 7 (.t 0)⟩,
    ⟨none, .mv 8 (.t 1)⟩,
    ⟨none, .call (some 9) 38 [(.t 7), (.t 8)]⟩,
    ⟨none, .un 10 .not (.t 9)⟩])
  (.cnd (.t 10)
   (.seq (.ops [⟨none, .asg 4 (.c (.v (.bool false)))⟩])
   (.seq (.scr r39) .ret))
   .skip))
 (.seq (.ops [⟨none, .mv 11 (.t 0)⟩,
   ⟨none, .mv 12 (.t 1)⟩,
   ⟨none, .call (some 13) 47 [(.t 11), (.t 12)]⟩,
   ⟨none, .alc 5 (rp 576 (.v (.bool false)))⟩,
   ⟨none, .stn none 576 (.t 5) (.t 13)⟩])
 (.seq (.seq (.ops [⟨none, .asg 6 (.c (.v (.int .i64 0)))⟩])
  (.seq (.blk 0 (.lop b39_0)) (.scr x39_0)))
 (.seq (.ops [⟨none, .asg 4 (.c (.v (.bool true)))⟩])
 (.seq (.scr r39) .ret)))))),
  24, [4]⟩

/-- (coinage/sequence.table).rank -/
abbrev K40 : Nat := 38
def hints40 : List (List Bool) := [bits 61 [4], bits 61 [6], bits 61 [1, 2, 5, 6, 15, 16, 17], bits 61 [6], bits 61 [1, 2, 5, 6, 15, 16, 17], bits 61 [4], bits 61 [1, 2, 5, 6, 8, 15, 16, 17], bits 61 [1, 2, 5, 6, 8, 15, 16, 17, 36, 37], bits 61 [1, 2, 5, 6, 8, 15, 16, 17], bits 61 [1, 2, 5, 6, 8, 15, 16, 17, 36, 37], bits 61 [4]]
@[simp] def r40 : List Bool := bits 61 [4]
@[simp] def R40 (s4 : V) : St := tab 61 38 (fu dd 4 s4) dd
@[simp] def x40_0 : List Bool := bits 61 [6]
@[simp] def X40_0 (s6 : V) : St := tab 61 38 (fu dd 6 s6) dd
@[simp] def h40_0 : List Bool := bits 61 [1, 2, 5, 6, 15, 16, 17]
@[simp] def L40_0 (s1 s2 s5 s6 s15 s16 s17 : V) : St := tab 61 38 (fu (fu (fu (fu (fu (fu (fu dd 17 s17) 16 s16) 15 s15) 6 s6) 5 s5) 2 s2) 1 s1) dd
@[simp] def x40_1 : List Bool := bits 61 [1, 2, 5, 6, 15, 16, 17]
@[simp] def X40_1 (s1 s2 s5 s6 s15 s16 s17 : V) : St := tab 61 38 (fu (fu (fu (fu (fu (fu (fu dd 17 s17) 16 s16) 15 s15) 6 s6) 5 s5) 2 s2) 1 s1) dd
@[simp] def x40_2 : List Bool := bits 61 [1, 2, 5, 6, 8, 15, 16, 17]
@[simp] def X40_2 (s1 s2 s5 s6 s8 s15 s16 s17 : V) : St := tab 61 38 (fu (fu (fu (fu (fu (fu (fu (fu dd 17 s17) 16 s16) 15 s15) 8 s8) 6 s6) 5 s5) 2 s2) 1 s1) dd
@[simp] def h40_1 : List Bool := bits 61 [1, 2, 5, 6, 8, 15, 16, 17, 36, 37]
@[simp] def L40_1 (s1 s2 s5 s6 s8 s15 s16 s17 s36 s37 : V) : St := tab 61 38 (fu (fu (fu (fu (fu (fu (fu (fu (fu (fu dd 37 s37) 36 s36) 17 s17) 16 s16) 15 s15) 8 s8) 6 s6) 5 s5) 2 s2) 1 s1) dd
@[simp] def x40_3 : List Bool := bits 61 [1, 2, 5, 6, 8, 15, 16, 17, 36, 37]
@[simp] def X40_3 (s1 s2 s5 s6 s8 s15 s16 s17 s36 s37 : V) : St := tab 61 38 (fu (fu (fu (fu (fu (fu (fu (fu (fu (fu dd 37 s37) 36 s36) 17 s17) 16 s16) 15 s15) 8 s8) 6 s6) 5 s5) 2 s2) 1 s1) dd
def b40_1 : MC := .seq (.scr h40_1)
 (.seq (.ops [⟨none, .bin 38 .lss .num (.t 37) (.t 36)⟩])
 (.seq (.cnd (.t 38)
   .skip
   (.seq (.scr x40_2) (.ex 2)))
 (.seq (.seq (.blk 3 (.seq (.ops [⟨none, .mv 39 (.t 37)⟩,
     ⟨none, .asg 9 (.t 39)⟩])
   (.seq (.ops [⟨none, .ldn 40 3 (.t 2)⟩,
     ⟨none, .mv 41 (.t 5)⟩,
     ⟨none, .mv 42 (.t 9)⟩,
     ⟨none, .call (some 43) 43 [(.t 40), (.t 41), (.t 42)]⟩])
   (.cnd (.t 43)
    (.drw [⟨none, .mv 44 (.t 6)⟩,
     ⟨none, .fa 45 2 (.t 2)⟩,
     ⟨none, .ld1 46 (.t 45)⟩,
     ⟨none, .mv 47 (.t 5)⟩,
     ⟨none, .mv 48 (.t 9)⟩,
     ⟨none, .bin 49 .shl .num (.c (.v (.int .i64 1))) (.t 48)⟩,
     ⟨none, .bin 50 .or .num (.t 47) (.t 49)⟩,
     ⟨none, .ixs 51 1 (.t 46) (.t 50)⟩,
     ⟨none, .ld1 52 (.t 51)⟩] [⟨none, .bin 53 .add .num (.t 44) (.t 52)⟩,
     ⟨none, .asg 6 (.t 53)⟩])
    .skip)))) (.scr x40_3))
 (.ops [⟨none, .bin 54 .add .num (.t 37) (.c (.v (.int .i64 1)))⟩,
  ⟨none, .mv 37 (.t 54)⟩]))))
def b40_0 : MC := .seq (.scr h40_0)
 (.seq (.ops [⟨none, .bin 18 .lss .num (.t 17) (.t 16)⟩])
 (.seq (.cnd (.t 18)
   .skip
   (.seq (.scr x40_0) (.ex 0)))
 (.seq (.seq (.blk 1 (.seq (.ops [⟨none, .ixs 19 1 (.t 15) (.t 17)⟩,
     ⟨none, .ld1 20 (.t 19)⟩,
     ⟨none, .asg 8 (.t 20)⟩])
   (.seq (.seq (.ops [⟨none, .mv 21 (.t 8)⟩,
      ⟨none, .bin 22 .lss .num (.t 21) (.c (.v (.int .i64 0)))⟩,
      ⟨none, .mv 23 (.t 22)⟩,
      ⟨some (23, false), .mv 24 (.t 8)⟩,
      ⟨some (23, false), .fa 25 0 (.t 2)⟩,
      ⟨some (23, false), .ld1 26 (.t 25)⟩,
      ⟨some (23, false), .bin 27 .geq .num (.t 24) (.t 26)⟩,
      ⟨none, .pick 28 (.t 23) (.c (.v (.bool true))) (.t 27)⟩,
      ⟨none, .mv 29 (.t 28)⟩,
      ⟨some (29, false), .ldn 30 3 (.t 2)⟩,
      ⟨some (29, false), .mv 31 (.t 5)⟩,
      ⟨some (29, false), .mv 32 (.t 8)⟩,
      ⟨some (29, false), .call (some 33) 43 [(.t 30), (.t 31), (.t 32)]⟩,
      ⟨some (29, false), .un 34 .not (.t 33)⟩,
      ⟨none, .pick 35 (.t 29) (.c (.v (.bool true))) (.t 34)⟩])
    (.cnd (.t 35)
     (.seq (.ops [⟨none, .asg 4 (.c (.v (.int .i64 (-1))))⟩])
     (.seq (.scr r40) .ret))
     .skip))
   (.seq (.seq (.ops [⟨none, .mv 36 (.t 8)⟩,
      ⟨none, .mv 37 (.c (.v (.int .i64 0)))⟩])
    (.seq (.blk 2 (.lop b40_1)) (.scr x40_2)))
   (.ops [⟨none, .mv 55 (.t 5)⟩,
    ⟨none, .mv 56 (.t 8)⟩,
    ⟨none, .bin 57 .shl .num (.c (.v (.int .i64 1))) (.t 56)⟩,
    ⟨none, .bin 58 .or .num (.t 55) (.t 57)⟩,
    ⟨none, .asg 5 (.t 58)⟩]))))) (.scr x40_1))
 (.ops [⟨none, .bin 59 .add .num (.t 17) (.c (.v (.int .i64 1)))⟩,
  ⟨none, .mv 17 (.t 59)⟩]))))
def c40 : MF := ⟨(.seq (.ops [⟨none, .sl0 2 0 (.t 0)⟩,
   ⟨none, .asg 4 (.c (.v (.int .i64 0)))⟩])
 (.seq (.seq (.ops [⟨none, .mv 10 (.t 1)⟩,
    ⟨none, .len 11 false (.t 10)⟩,
    ⟨none, .fa 12 0 (.t 2)⟩,
    ⟨none, .ld1 13 (.t 12)⟩,
    ⟨none, .bin 14 .neq .num (.t 11) (.t 13)⟩])
  (.cnd (.t 14)
   (.seq (.ops [⟨none, .asg 4 (.c (.v (.int .i64 (-1))))⟩])
   (.seq (.scr r40) .ret))
   .skip))
 (.seq (.ops [⟨none, .asg 5 (.c (.v (.int .i64 0)))⟩,
   ⟨none, .asg 6 (.c (.v (.int .i64 0)))⟩])
 (.seq (.seq (.ops [⟨none, .mv 15 (.t 1)⟩,
    ⟨none, .len 16 false (.t 15)⟩,
    ⟨none, .mv 17 (.c (.v (.int .i64 0)))⟩])
  (.seq (.blk 0 (.lop b40_0)) (.scr x40_0)))
 (.seq (.ops [⟨none, .mv 60 (.t 6)⟩,
   ⟨none, .asg 4 (.t 60)⟩])
 (.seq (.scr r40) .ret)))))),
  61, [4]⟩

/-- coinage/coinageref23.ways -/
abbrev K41 : Nat := 8
def hints41 : List (List Bool) := [bits 46 [5], bits 46 [0, 1, 5, 6], bits 46 [5], bits 46 [0, 1, 5, 6], bits 46 [0, 1, 5, 6], bits 46 [0, 1, 5, 6, 7], bits 46 [0, 1, 5, 6], bits 46 [0, 1, 5, 6, 7], bits 46 [4]]
@[simp] def r41 : List Bool := bits 46 [4]
@[simp] def R41 (s4 : V) : St := tab 46 8 (fu dd 4 s4) dd
@[simp] def x41_0 : List Bool := bits 46 [5]
@[simp] def X41_0 (s5 : V) : St := tab 46 8 (fu dd 5 s5) dd
@[simp] def h41_0 : List Bool := bits 46 [0, 1, 5, 6]
@[simp] def L41_0 (s0 s1 s5 s6 : V) : St := tab 46 8 (fu (fu (fu (fu dd 6 s6) 5 s5) 1 s1) 0 s0) dd
@[simp] def x41_1 : List Bool := bits 46 [0, 1, 5, 6]
@[simp] def X41_1 (s0 s1 s5 s6 : V) : St := tab 46 8 (fu (fu (fu (fu dd 6 s6) 5 s5) 1 s1) 0 s0) dd
@[simp] def x41_2 : List Bool := bits 46 [0, 1, 5, 6]
@[simp] def X41_2 (s0 s1 s5 s6 : V) : St := tab 46 8 (fu (fu (fu (fu dd 6 s6) 5 s5) 1 s1) 0 s0) dd
@[simp] def h41_1 : List Bool := bits 46 [0, 1, 5, 6, 7]
@[simp] def L41_1 (s0 s1 s5 s6 s7 : V) : St := tab 46 8 (fu (fu (fu (fu (fu dd 7 s7) 6 s6) 5 s5) 1 s1) 0 s0) dd
@[simp] def x41_3 : List Bool := bits 46 [0, 1, 5, 6, 7]
@[simp] def X41_3 (s0 s1 s5 s6 s7 : V) : St := tab 46 8 (fu (fu (fu (fu (fu dd 7 s7) 6 s6) 5 s5) 1 s1) 0 s0) dd
def b41_1 : MC := .seq (.scr h41_1)
 (.seq (.seq (.ops [⟨none, .mv 23 (.t 7)⟩,
    ⟨none, .mv 24 (.t 0)⟩,
    ⟨none, .bin 25 .lss .num (.t 23) (.t 24)⟩])
  (.cnd (.t 25)
   .skip
   (.seq (.scr x41_2) (.ex 2))))
 (.seq (.seq (.blk 3 (.seq (.ops [⟨none, .mv 28 (.t 1)⟩,
     ⟨none, .mv 29 (.t 6)⟩,
     ⟨none, .mv 30 (.t 7)⟩,
     ⟨none, .call (some 31) 42 [(.t 28), (.t 29), (.t 30)]⟩])
   (.cnd (.t 31)
    (.drw [⟨none, .mv 32 (.t 5)⟩,
     ⟨none, .mv 33 (.t 6)⟩,
     ⟨none, .ixs 34 1 (.t 32) (.t 33)⟩,
     ⟨none, .ld1 35 (.t 34)⟩,
     ⟨none, .mv 36 (.t 5)⟩,
     ⟨none, .mv 37 (.t 6)⟩,
     ⟨none, .mv 38 (.t 7)⟩,
     ⟨none, .bin 39 .shl .num (.c (.v (.int .i64 1))) (.t 38)⟩,
     ⟨none, .bin 40 .or .num (.t 37) (.t 39)⟩,
     ⟨none, .ixs 41 1 (.t 36) (.t 40)⟩,
     ⟨none, .ld1 42 (.t 41)⟩] [⟨none, .bin 43 .add .num (.t 35) (.t 42)⟩,
     ⟨none, .ixs 44 1 (.t 32) (.t 33)⟩,
     ⟨none, .stn none 1 (.t 44) (.t 43)⟩])
    .skip))) (.scr x41_3))
 (.ops [⟨none, .mv 26 (.t 7)⟩,
  ⟨none, .bin 27 .add .num (.t 26) (.c (.v (.int .i64 1)))⟩,
  ⟨none, .asg 7 (.t 27)⟩])))
def b41_0 : MC := .seq (.scr h41_0)
 (.seq (.seq (.ops [⟨none, .mv 19 (.t 6)⟩,
    ⟨none, .bin 20 .geq .num (.t 19) (.c (.v (.int .i64 0)))⟩])
  (.cnd (.t 20)
   .skip
   (.seq (.scr x41_0) (.ex 0))))
 (.seq (.seq (.blk 1 (.seq (.ops [⟨none, .asg 7 (.c (.v (.int .i64 0)))⟩])
   (.seq (.blk 2 (.lop b41_1)) (.scr x41_2)))) (.scr x41_1))
 (.ops [⟨none, .mv 21 (.t 6)⟩,
  ⟨none, .bin 22 .sub .num (.t 21) (.c (.v (.int .i64 1)))⟩,
  ⟨none, .asg 6 (.t 22)⟩])))
def c41 : MF := ⟨(.seq (.ops [⟨none, .asg 4 (.c (.nd (.sl true 1 0) []))⟩])
 (.seq (.ops [⟨none, .mv 8 (.t 0)⟩,
   ⟨none, .bin 9 .shl .num (.c (.v (.int .i64 1))) (.t 8)⟩,
   ⟨none, .mks 10 1 [(.v (.int .i64 0))] (.t 9) (.t 9)⟩,
   ⟨none, .asg 5 (.t 10)⟩])
 (.seq (.ops [⟨none, .mv 11 (.t 5)⟩,
   ⟨none, .mv 12 (.t 0)⟩,
   ⟨none, .bin 13 .shl .num (.c (.v (.int .i64 1))) (.t 12)⟩,
   ⟨none, .bin 14 .sub .num (.t 13) (.c (.v (.int .i64 1)))⟩,
   ⟨none, .ixs 15 1 (.t 11) (.t 14)⟩,
   ⟨none, .stn none 1 (.t 15) (.c (.v (.int .i64 1)))⟩])
 (.seq (.seq (.ops [⟨none, .mv 16 (.t 0)⟩,
    ⟨none, .bin 17 .shl .num (.c (.v (.int .i64 1))) (.t 16)⟩,
    ⟨none, .bin 18 .sub .num (.t 17) (.c (.v (.int .i64 2)))⟩,
    ⟨none, .asg 6 (.t 18)⟩])
  (.seq (.blk 0 (.lop b41_0)) (.scr x41_0)))
 (.seq (.ops [⟨none, .mv 45 (.t 5)⟩,
   ⟨none, .asg 4 (.t 45)⟩])
 (.seq (.scr r41) .ret)))))),
  46, [4]⟩

/-- coinage/coinageref23.fits -/
abbrev K42 : Nat := 8
def hints42 : List (List Bool) := [bits 37 [6], bits 37 [], bits 37 [0, 1, 2, 7], bits 37 [], bits 37 [0, 1, 2, 7], bits 37 [6], bits 37 [6]]
@[simp] def r42 : List Bool := bits 37 [6]
@[simp] def R42 (s6 : V) : St := tab 37 8 (fu dd 6 s6) dd
@[simp] def x42_0 : List Bool := bits 37 []
@[simp] def X42_0 : St := tab 37 8 dd dd
@[simp] def h42_0 : List Bool := bits 37 [0, 1, 2, 7]
@[simp] def L42_0 (s0 s1 s2 s7 : V) : St := tab 37 8 (fu (fu (fu (fu dd 7 s7) 2 s2) 1 s1) 0 s0) dd
@[simp] def x42_1 : List Bool := bits 37 [0, 1, 2, 7]
@[simp] def X42_1 (s0 s1 s2 s7 : V) : St := tab 37 8 (fu (fu (fu (fu dd 7 s7) 2 s2) 1 s1) 0 s0) dd
def b42_0 : MC := .seq (.scr h42_0)
 (.seq (.seq (.ops [⟨none, .mv 13 (.t 7)⟩,
    ⟨none, .mv 14 (.t 0)⟩,
    ⟨none, .len 15 false (.t 14)⟩,
    ⟨none, .bin 16 .lss .num (.t 13) (.t 15)⟩])
  (.cnd (.t 16)
   .skip
   (.seq (.scr x42_0) (.ex 0))))
 (.seq (.seq (.blk 1 (.seq (.ops (⟨none, .mv 19 (.t 0)⟩ ::
     ⟨none, .mv 20 (.t 7)⟩ ::
     ⟨none, .ixs 21 2 (.t 19) (.t 20)⟩ ::
     ⟨none, .fa 22 1 (.t 21)⟩ ::
     ⟨none, .ld1 23 (.t 22)⟩ ::
     ⟨none, .mv 24 (.t 2)⟩ ::
     ⟨none, .bin 25 .eql .num (.t 23) (.t 24)⟩ ::
     ⟨none, .mv 26 (.t 25)⟩ ::
     ⟨some (26, true), .mv 27 (.t 1)⟩ ::
     ⟨some (26, true), .mv 28 (.t 0)⟩ ::
     ⟨some (26, true), .mv 29 (.t 7)⟩ ::
     ⟨some (26, true), .ixs 30 2 (.t 28) (.t 29)⟩ ::
     ⟨some (26, true), .fa 31 0 (.t 30)⟩ ::
     ⟨some (26, true), .ld1 32 (.t 31)⟩ ::
     ⟨some (26, true), .bin 33 .shr .num (.t 27) (.t 32)⟩ ::
     ⟨some (26, true), .bin 34 .and .num (.t 33) (.c (.v (.int .i64 1)))⟩ ::
     ⟨some (26, true), .bin 35 .eql .num (.t 34) (.c (.v (.int .i64 0)))⟩ ::
     ⟨none, .pick 36 (.t 26) (.t 35) (.c (.v (.bool false)))⟩ :: []))
   (.cnd (.t 36)
    (.seq (.ops [⟨none, .asg 6 (.c (.v (.bool false)))⟩])
    (.seq (.scr r42) .ret))
    .skip))) (.scr x42_1))
 (.ops [⟨none, .mv 17 (.t 7)⟩,
  ⟨none, .bin 18 .add .num (.t 17) (.c (.v (.int .i64 1)))⟩,
  ⟨none, .asg 7 (.t 18)⟩])))
def c42 : MF := ⟨(.seq (.ops [⟨none, .asg 6 (.c (.v (.bool false)))⟩])
 (.seq (.seq (.ops [⟨none, .mv 8 (.t 1)⟩,
    ⟨none, .mv 9 (.t 2)⟩,
    ⟨none, .bin 10 .shr .num (.t 8) (.t 9)⟩,
    ⟨none, .bin 11 .and .num (.t 10) (.c (.v (.int .i64 1)))⟩,
    ⟨none, .bin 12 .neq .num (.t 11) (.c (.v (.int .i64 0)))⟩])
  (.cnd (.t 12)
   (.seq (.ops [⟨none, .asg 6 (.c (.v (.bool false)))⟩])
   (.seq (.scr r42) .ret))
   .skip))
 (.seq (.seq (.ops [⟨none, .asg 7 (.c (.v (.int .i64 0)))⟩])
  (.seq (.blk 0 (.lop b42_0)) (.scr x42_0)))
 (.seq (.ops [⟨none, .asg 6 (.c (.v (.bool true)))⟩])
 (.seq (.scr r42) .ret))))),
  37, [6]⟩

/-- (coinage/sequence.table).ready -/
abbrev K43 : Nat := 7
def hints43 : List (List Bool) := [bits 22 [6]]
@[simp] def r43 : List Bool := bits 22 [6]
@[simp] def R43 (s6 : V) : St := tab 22 7 (fu dd 6 s6) dd
def c43 : MF := ⟨(.seq (.ops [⟨none, .sl0 3 0 (.t 0)⟩,
   ⟨none, .asg 6 (.c (.v (.bool false)))⟩])
 (.seq (.ops [⟨none, .mv 7 (.t 1)⟩,
   ⟨none, .mv 8 (.t 2)⟩,
   ⟨none, .bin 9 .shr .num (.t 7) (.t 8)⟩,
   ⟨none, .bin 10 .and .num (.t 9) (.c (.v (.int .i64 1)))⟩,
   ⟨none, .bin 11 .eql .num (.t 10) (.c (.v (.int .i64 0)))⟩,
   ⟨none, .mv 12 (.t 11)⟩,
   ⟨some (12, true), .fa 13 1 (.t 3)⟩,
   ⟨some (12, true), .ld1 14 (.t 13)⟩,
   ⟨some (12, true), .mv 15 (.t 2)⟩,
   ⟨some (12, true), .ixs 16 1 (.t 14) (.t 15)⟩,
   ⟨some (12, true), .ld1 17 (.t 16)⟩,
   ⟨some (12, true), .mv 18 (.t 1)⟩,
   ⟨some (12, true), .bin 19 .andNot .num (.t 17) (.t 18)⟩,
   ⟨some (12, true), .bin 20 .eql .num (.t 19) (.c (.v (.int .i64 0)))⟩,
   ⟨none, .pick 21 (.t 12) (.t 20) (.c (.v (.bool false)))⟩,
   ⟨none, .asg 6 (.t 21)⟩])
 (.seq (.scr r43) .ret))),
  22, [6]⟩

/-- coinage/poset.Valid -/
abbrev K44 : Nat := 16
def hints44 : List (List Bool) := [bits 83 [4], bits 83 [], bits 83 [0, 1, 13, 14, 15], bits 83 [], bits 83 [0, 1, 13, 14, 15], bits 83 [4], bits 83 [4], bits 83 [4]]
@[simp] def r44 : List Bool := bits 83 [4]
@[simp] def R44 (s4 : V) : St := tab 83 16 (fu dd 4 s4) dd
@[simp] def x44_0 : List Bool := bits 83 []
@[simp] def X44_0 : St := tab 83 16 dd dd
@[simp] def h44_0 : List Bool := bits 83 [0, 1, 13, 14, 15]
@[simp] def L44_0 (s0 s1 s13 s14 s15 : V) : St := tab 83 16 (fu (fu (fu (fu (fu dd 15 s15) 14 s14) 13 s13) 1 s1) 0 s0) dd
@[simp] def x44_1 : List Bool := bits 83 [0, 1, 13, 14, 15]
@[simp] def X44_1 (s0 s1 s13 s14 s15 : V) : St := tab 83 16 (fu (fu (fu (fu (fu dd 15 s15) 14 s14) 13 s13) 1 s1) 0 s0) dd
def b44_0 : MC := .seq (.scr h44_0)
 (.seq (.ops [⟨none, .bin 16 .lss .num (.t 15) (.t 14)⟩])
 (.seq (.cnd (.t 16)
   .skip
   (.seq (.scr x44_0) (.ex 0)))
 (.seq (.seq (.blk 1 (.seq (.ops [⟨none, .mv 17 (.t 15)⟩,
     ⟨none, .ixs 18 2 (.t 13) (.t 15)⟩,
     ⟨none, .ldn 19 2 (.t 18)⟩,
     ⟨none, .alc 6 [(.v (.int .i64 0)), (.v (.int .i64 0))]⟩,
     ⟨none, .asg 5 (.t 17)⟩,
     ⟨none, .stn none 2 (.t 6) (.t 19)⟩])
   (.seq (.seq (.ops (⟨none, .fa 20 0 (.t 6)⟩ ::
      ⟨none, .ld1 21 (.t 20)⟩ ::
      ⟨none, .bin 22 .lss .num (.t 21) (.c (.v (.int .i64 0)))⟩ ::
      ⟨none, .mv 23 (.t 22)⟩ ::
      ⟨some (23, false), .fa 24 0 (.t 6)⟩ ::
      ⟨some (23, false), .ld1 25 (.t 24)⟩ ::
      ⟨some (23, false), .mv 26 (.t 0)⟩ ::
      ⟨some (23, false), .bin 27 .geq .num (.t 25) (.t 26)⟩ ::
      ⟨none, .pick 28 (.t 23) (.c (.v (.bool true))) (.t 27)⟩ ::
      ⟨none, .mv 29 (.t 28)⟩ ::
      ⟨some (29, false), .fa 30 1 (.t 6)⟩ ::
      ⟨some (29, false), .ld1 31 (.t 30)⟩ ::
      ⟨some (29, false), .bin 32 .lss .num (.t 31) (.c (.v (.int .i64 0)))⟩ ::
      ⟨none, .pick 33 (.t 29) (.c (.v (.bool true))) (.t 32)⟩ ::
      ⟨none, .mv 34 (.t 33)⟩ ::
      ⟨some (34, false), .fa 35 1 (.t 6)⟩ ::
      ⟨some (34, false), .ld1 36 (.t 35)⟩ ::
      ⟨some (34, false), .mv 37 (.t 0)⟩ ::
      ⟨some (34, false), .bin 38 .geq .num (.t 36) (.t 37)⟩ ::
      ⟨none, .pick 39 (.t 34) (.c (.v (.bool true))) (.t 38)⟩ ::
      ⟨none, .mv 40 (.t 39)⟩ ::
      ⟨some (40, false), .fa 41 0 (.t 6)⟩ ::
      ⟨some (40, false), .ld1 42 (.t 41)⟩ ::
      ⟨some (40, false), .fa 43 1 (.t 6)⟩ ::
      ⟨some (40, false), .ld1 44 (.t 43)⟩ ::
      ⟨some (40, false), .bin 45 .eql .num (.t 42) (.t 44)⟩ ::
      ⟨none, .pick 46 (.t 40) (.c (.v (.bool true))) (.t 45)⟩ :: []))
    (.cnd (.t 46)
     (.seq (.ops [⟨none, .asg 4 (.c (.v (.bool false)))⟩])
     (.seq (.scr r44) .ret))
     .skip))
   (.seq (.drw (⟨none, .mv 47 (.t 5)⟩ ::
     ⟨none, .bin 48 .gtr .num (.t 47) (.c (.v (.int .i64 0)))⟩ ::
     ⟨none, .mv 49 (.t 48)⟩ ::
     ⟨some (49, true), .fa 50 0 (.t 6)⟩ ::
     ⟨some (49, true), .ld1 51 (.t 50)⟩ ::
     ⟨some (49, true), .mv 52 (.t 1)⟩ ::
     ⟨some (49, true), .mv 53 (.t 5)⟩ ::
     ⟨some (49, true), .bin 54 .sub .num (.t 53) (.c (.v (.int .i64 1)))⟩ ::
     ⟨some (49, true), .ixs 55 2 (.t 52) (.t 54)⟩ ::
     ⟨some (49, true), .fa 56 0 (.t 55)⟩ ::
     ⟨some (49, true), .ld1 57 (.t 56)⟩ ::
     ⟨some (49, true), .bin 58 .lss .num (.t 51) (.t 57)⟩ ::
     ⟨some (49, true), .mv 59 (.t 58)⟩ ::
     ⟨some (59, false), .fa 60 0 (.t 6)⟩ ::
     ⟨some (59, false), .ld1 61 (.t 60)⟩ ::
     ⟨some (59, false), .mv 62 (.t 1)⟩ ::
     ⟨some (59, false), .mv 63 (.t 5)⟩ ::
     ⟨some (59, false), .bin 64 .sub .num (.t 63) (.c (.v (.int .i64 1)))⟩ ::
     ⟨some (59, false), .ixs 65 2 (.t 62) (.t 64)⟩ ::
     ⟨some (59, false), .fa 66 0 (.t 65)⟩ ::
     ⟨some (59, false), .ld1 67 (.t 66)⟩ ::
     ⟨some (59, false), .bin 68 .eql .num (.t 61) (.t 67)⟩ ::
     ⟨some (59, false), .mv 69 (.t 68)⟩ ::
     ⟨some (69, true), .fa 70 1 (.t 6)⟩ ::
     ⟨some (69, true), .ld1 71 (.t 70)⟩ ::
     ⟨some (69, true), .mv 72 (.t 1)⟩ ::
     ⟨some (69, true), .mv 73 (.t 5)⟩ ::
     ⟨some (69, true), .bin 74 .sub .num (.t 73) (.c (.v (.int .i64 1)))⟩ ::
     ⟨some (69, true), .ixs 75 2 (.t 72) (.t 74)⟩ ::
     ⟨some (69, true), .fa 76 1 (.t 75)⟩ ::
     ⟨some (69, true), .ld1 77 (.t 76)⟩ :: []) [⟨some (69, true), .bin 78 .leq .num (.t 71) (.t 77)⟩,
     ⟨some (59, false), .pick 79 (.t 69) (.t 78) (.c (.v (.bool false)))⟩,
     ⟨some (49, true), .pick 80 (.t 59) (.c (.v (.bool true))) (.t 79)⟩,
     ⟨none, .pick 81 (.t 49) (.t 80) (.c (.v (.bool false)))⟩])
   (.cnd (.t 81)
    (.seq (.ops [⟨none, .asg 4 (.c (.v (.bool false)))⟩])
    (.seq (.scr r44) .ret))
    .skip))))) (.scr x44_1))
 (.ops [⟨none, .bin 82 .add .num (.t 15) (.c (.v (.int .i64 1)))⟩,
  ⟨none, .mv 15 (.t 82)⟩]))))
def c44 : MF := ⟨(.seq (.ops [⟨none, .asg 4 (.c (.v (.bool false)))⟩])
 (.seq (.seq (.ops [⟨none, .mv 7 (.t 0)⟩,
    ⟨none, .bin 8 .lss .num (.t 7) (.c (.v (.int .i64 0)))⟩,
    ⟨none, .mv 9 (.t 8)⟩,
    ⟨some (9, false), .mv 10 (.t 0)⟩,
    ⟨some (9, false), .bin 11 .gtr .num (.t 10) (.c (.v (.int .i64 24)))⟩,
    ⟨none, .pick 12 (.t 9) (.c (.v (.bool true))) (.t 11)⟩])
  (.cnd (.t 12)
   (.seq (.ops [⟨none, .asg 4 (.c (.v (.bool false)))⟩])
   (.seq (.scr r44) .ret))
   .skip))
 (.seq (.seq (.ops [⟨none, .mv 13 (.t 1)⟩,
    ⟨none, .len 14 false (.t 13)⟩,
    ⟨none, .mv 15 (.c (.v (.int .i64 0)))⟩])
  (.seq (.blk 0 (.lop b44_0)) (.scr x44_0)))
 (.seq (.ops [⟨none, .asg 4 (.c (.v (.bool true)))⟩])
 (.seq (.scr r44) .ret))))),
  83, [4]⟩

/-- coinage/poset.Acyclic -/
abbrev K45 : Nat := 5
def hints45 : List (List Bool) := [bits 14 [4]]
@[simp] def r45 : List Bool := bits 14 [4]
@[simp] def R45 (s4 : V) : St := tab 14 5 (fu dd 4 s4) dd
def c45 : MF := ⟨(.seq (.ops [⟨none, .asg 4 (.c (.v (.bool false)))⟩])
 (.seq (.ops [⟨none, .mv 5 (.t 0)⟩,
   ⟨none, .mv 6 (.t 1)⟩,
   ⟨none, .call (some 7) 44 [(.t 5), (.t 6)]⟩,
   ⟨none, .mv 8 (.t 7)⟩,
   ⟨some (8, true), .mv 9 (.t 0)⟩,
   ⟨some (8, true), .mv 10 (.t 1)⟩,
   ⟨some (8, true), .call (some 11) 49 [(.t 9), (.t 10)]⟩,
   ⟨some (8, true), .call (some 12) 48 [(.t 11)]⟩,
   ⟨none, .pick 13 (.t 8) (.t 12) (.c (.v (.bool false)))⟩,
   ⟨none, .asg 4 (.t 13)⟩])
 (.seq (.scr r45) .ret))),
  14, [4]⟩

/-- coinage/coinagebase.Digraph -/
abbrev K46 : Nat := 6
def hints46 : List (List Bool) := [bits 115 [4], bits 115 [], bits 115 [0, 1, 5], bits 115 [], bits 115 [0, 1, 5], bits 115 [4], bits 115 [4], bits 115 [4]]
@[simp] def r46 : List Bool := bits 115 [4]
@[simp] def R46 (s4 : V) : St := tab 115 6 (fu dd 4 s4) dd
@[simp] def x46_0 : List Bool := bits 115 []
@[simp] def X46_0 : St := tab 115 6 dd dd
@[simp] def h46_0 : List Bool := bits 115 [0, 1, 5]
@[simp] def L46_0 (s0 s1 s5 : V) : St := tab 115 6 (fu (fu (fu dd 5 s5) 1 s1) 0 s0) dd
@[simp] def x46_1 : List Bool := bits 115 [0, 1, 5]
@[simp] def X46_1 (s0 s1 s5 : V) : St := tab 115 6 (fu (fu (fu dd 5 s5) 1 s1) 0 s0) dd
def b46_0 : MC := .seq (.scr h46_0)
 (.seq (.seq (.ops [⟨none, .mv 20 (.t 5)⟩,
    ⟨none, .mv 21 (.t 1)⟩,
    ⟨none, .len 22 false (.t 21)⟩,
    ⟨none, .bin 23 .lss .num (.t 20) (.t 22)⟩])
  (.cnd (.t 23)
   .skip
   (.seq (.scr x46_0) (.ex 0))))
 (.seq (.seq (.blk 1 (.seq (.seq (.drw (⟨none, .mv 26 (.t 1)⟩ ::
      ⟨none, .mv 27 (.t 5)⟩ ::
      ⟨none, .ixs 28 2 (.t 26) (.t 27)⟩ ::
      ⟨none, .fa 29 0 (.t 28)⟩ ::
      ⟨none, .ld1 30 (.t 29)⟩ ::
      ⟨none, .bin 31 .lss .num (.t 30) (.c (.v (.int .i64 0)))⟩ ::
      ⟨none, .mv 32 (.t 31)⟩ ::
      ⟨some (32, false), .mv 33 (.t 1)⟩ ::
      ⟨some (32, false), .mv 34 (.t 5)⟩ ::
      ⟨some (32, false), .ixs 35 2 (.t 33) (.t 34)⟩ ::
      ⟨some (32, false), .fa 36 0 (.t 35)⟩ ::
      ⟨some (32, false), .ld1 37 (.t 36)⟩ ::
      ⟨some (32, false), .mv 38 (.t 0)⟩ ::
      ⟨some (32, false), .bin 39 .geq .num (.t 37) (.t 38)⟩ ::
      ⟨none, .pick 40 (.t 32) (.c (.v (.bool true))) (.t 39)⟩ ::
      ⟨none, .mv 41 (.t 40)⟩ ::
      ⟨some (41, false), .mv 42 (.t 1)⟩ ::
      ⟨some (41, false), .mv 43 (.t 5)⟩ ::
      ⟨some (41, false), .ixs 44 2 (.t 42) (.t 43)⟩ ::
      ⟨some (41, false), .fa 45 1 (.t 44)⟩ ::
      ⟨some (41, false), .ld1 46 (.t 45)⟩ ::
      ⟨some (41, false), .bin 47 .lss .num (.t 46) (.c (.v (.int .i64 0)))⟩ ::
      ⟨none, .pick 48 (.t 41) (.c (.v (.bool true))) (.t 47)⟩ ::
      ⟨none, .mv 49 (.t 48)⟩ ::
      ⟨some (49, false), .mv 50 (.t 1)⟩ ::
      ⟨some (49, false), .mv 51 (.t 5)⟩ ::
      ⟨some (49, false), .ixs 52 2 (.t 50) (.t 51)⟩ ::
      ⟨some (49, false), .fa 53 1 (.t 52)⟩ ::
      ⟨some (49, false), .ld1 54 (.t 53)⟩ ::
      ⟨some (49, false), .mv 55 (.t 0)⟩ ::
      ⟨some (49, false), .bin 56 .geq .num (.t 54) (.t 55)⟩ ::
      ⟨none, .pick 57 (.t 49) (.c (.v (.bool true))) (.t 56)⟩ ::
      ⟨none, .mv 58 (.t 57)⟩ ::
      ⟨some (58, false), .mv 59 (.t 1)⟩ ::
      ⟨some (58, false), .mv 60 (.t 5)⟩ ::
      ⟨some (58, false), .ixs 61 2 (.t 59) (.t 60)⟩ ::
      ⟨some (58, false), .fa 62 0 (.t 61)⟩ ::
      ⟨some (58, false), .ld1 63 (.t 62)⟩ ::
      ⟨some (58, false), .mv 64 (.t 1)⟩ ::
      ⟨some (58, false), .mv 65 (.t 5)⟩ ::
      ⟨some (58, false), .ixs 66 2 (.t 64) (.t 65)⟩ ::
      ⟨some (58, false), .fa 67 1 (.t 66)⟩ ::
      ⟨some (58, false), .ld1 68 (.t 67)⟩ :: []) [⟨some (58, false), .bin 69 .eql .num (.t 63) (.t 68)⟩,
      ⟨none, .pick 70 (.t 58) (.c (.v (.bool true))) (.t 69)⟩])
    (.cnd (.t 70)
     (.seq (.ops [⟨none, .asg 4 (.c (.v (.bool false)))⟩])
     (.seq (.scr r46) .ret))
     .skip))
   (.seq (.drw (⟨none, .mv 71 (.t 5)⟩ ::
     ⟨none, .bin 72 .gtr .num (.t 71) (.c (.v (.int .i64 0)))⟩ ::
     ⟨none, .mv 73 (.t 72)⟩ ::
     ⟨some (73, true), .mv 74 (.t 1)⟩ ::
     ⟨some (73, true), .mv 75 (.t 5)⟩ ::
     ⟨some (73, true), .ixs 76 2 (.t 74) (.t 75)⟩ ::
     ⟨some (73, true), .fa 77 0 (.t 76)⟩ ::
     ⟨some (73, true), .ld1 78 (.t 77)⟩ ::
     ⟨some (73, true), .mv 79 (.t 1)⟩ ::
     ⟨some (73, true), .mv 80 (.t 5)⟩ ::
     ⟨some (73, true), .bin 81 .sub .num (.t 80) (.c (.v (.int .i64 1)))⟩ ::
     ⟨some (73, true), .ixs 82 2 (.t 79) (.t 81)⟩ ::
     ⟨some (73, true), .fa 83 0 (.t 82)⟩ ::
     ⟨some (73, true), .ld1 84 (.t 83)⟩ ::
     ⟨some (73, true), .bin 85 .lss .num (.t 78) (.t 84)⟩ ::
     ⟨some (73, true), .mv 86 (.t 85)⟩ ::
     ⟨some (86, false), .mv 87 (.t 1)⟩ ::
     ⟨some (86, false), .mv 88 (.t 5)⟩ ::
     ⟨some (86, false), .ixs 89 2 (.t 87) (.t 88)⟩ ::
     ⟨some (86, false), .fa 90 0 (.t 89)⟩ ::
     ⟨some (86, false), .ld1 91 (.t 90)⟩ ::
     ⟨some (86, false), .mv 92 (.t 1)⟩ ::
     ⟨some (86, false), .mv 93 (.t 5)⟩ ::
     ⟨some (86, false), .bin 94 .sub .num (.t 93) (.c (.v (.int .i64 1)))⟩ ::
     ⟨some (86, false), .ixs 95 2 (.t 92) (.t 94)⟩ ::
     ⟨some (86, false), .fa 96 0 (.t 95)⟩ ::
     ⟨some (86, false), .ld1 97 (.t 96)⟩ ::
     ⟨some (86, false), .bin 98 .eql .num (.t 91) (.t 97)⟩ ::
     ⟨some (86, false), .mv 99 (.t 98)⟩ ::
     ⟨some (99, true), .mv 100 (.t 1)⟩ ::
     ⟨some (99, true), .mv 101 (.t 5)⟩ ::
     ⟨some (99, true), .ixs 102 2 (.t 100) (.t 101)⟩ ::
     ⟨some (99, true), .fa 103 1 (.t 102)⟩ ::
     ⟨some (99, true), .ld1 104 (.t 103)⟩ ::
     ⟨some (99, true), .mv 105 (.t 1)⟩ ::
     ⟨some (99, true), .mv 106 (.t 5)⟩ ::
     ⟨some (99, true), .bin 107 .sub .num (.t 106) (.c (.v (.int .i64 1)))⟩ ::
     ⟨some (99, true), .ixs 108 2 (.t 105) (.t 107)⟩ ::
     ⟨some (99, true), .fa 109 1 (.t 108)⟩ ::
     ⟨some (99, true), .ld1 110 (.t 109)⟩ :: []) [⟨some (99, true), .bin 111 .leq .num (.t 104) (.t 110)⟩,
     ⟨some (86, false), .pick 112 (.t 99) (.t 111) (.c (.v (.bool false)))⟩,
     ⟨some (73, true), .pick 113 (.t 86) (.c (.v (.bool true))) (.t 112)⟩,
     ⟨none, .pick 114 (.t 73) (.t 113) (.c (.v (.bool false)))⟩])
   (.cnd (.t 114)
    (.seq (.ops [⟨none, .asg 4 (.c (.v (.bool false)))⟩])
    (.seq (.scr r46) .ret))
    .skip)))) (.scr x46_1))
 (.ops [⟨none, .mv 24 (.t 5)⟩,
  ⟨none, .bin 25 .add .num (.t 24) (.c (.v (.int .i64 1)))⟩,
  ⟨none, .asg 5 (.t 25)⟩])))
def c46 : MF := ⟨(.seq (.ops [⟨none, .asg 4 (.c (.v (.bool false)))⟩])
 (.seq (.seq (.ops [⟨none, .mv 6 (.t 0)⟩,
    ⟨none, .bin 7 .lss .num (.t 6) (.c (.v (.int .i64 0)))⟩,
    ⟨none, .mv 8 (.t 7)⟩,
    ⟨some (8, false), .mv 9 (.t 0)⟩,
    ⟨some (8, false), .bin 10 .gtr .num (.t 9) (.c (.v (.int .i64 24)))⟩,
    ⟨none, .pick 11 (.t 8) (.c (.v (.bool true))) (.t 10)⟩,
    ⟨none, .mv 12 (.t 11)⟩,
    ⟨some (12, false), .mv 13 (.t 1)⟩,
    ⟨some (12, false), .len 14 false (.t 13)⟩,
    ⟨some (12, false), .mv 15 (.t 0)⟩,
    ⟨some (12, false), .mv 16 (.t 0)⟩,
    ⟨some (12, false), .bin 17 .mul .num (.t 15) (.t 16)⟩,
    ⟨some (12, false), .bin 18 .gtr .num (.t 14) (.t 17)⟩,
    ⟨none, .pick 19 (.t 12) (.c (.v (.bool true))) (.t 18)⟩])
  (.cnd (.t 19)
   (.seq (.ops [⟨none, .asg 4 (.c (.v (.bool false)))⟩])
   (.seq (.scr r46) .ret))
   .skip))
 (.seq (.seq (.ops [⟨none, .asg 5 (.c (.v (.int .i64 0)))⟩])
  (.seq (.blk 0 (.lop b46_0)) (.scr x46_0)))
 (.seq (.ops [⟨none, .asg 4 (.c (.v (.bool true)))⟩])
 (.seq (.scr r46) .ret))))),
  115, [4]⟩

/-- coinage/coinageref06.Table -/
abbrev K47 : Nat := 60
def hints47 : List (List Bool) := [bits 60 [0, 4, 5], bits 60 [0, 1, 4, 5, 6], bits 60 [0, 4, 5], bits 60 [0, 1, 4, 5, 6], bits 60 [4, 5], bits 60 [0, 4, 5, 7], bits 60 [4, 5], bits 60 [0, 4, 5, 7], bits 60 [0, 4, 5, 7], bits 60 [0, 4, 5, 7, 8], bits 60 [0, 4, 5, 7], bits 60 [0, 4, 5, 7, 8], bits 60 [0, 4, 5, 7, 8], bits 60 [0, 4, 5, 7, 8, 9], bits 60 [0, 4, 5, 7, 8], bits 60 [0, 4, 5, 7, 8, 9], bits 60 [4]]
@[simp] def r47 : List Bool := bits 60 [4]
@[simp] def R47 (s4 : V) : St := tab 60 60 (fu dd 4 s4) dd
@[simp] def x47_0 : List Bool := bits 60 [0, 4, 5]
@[simp] def X47_0 (s0 s4 s5 : V) : St := tab 60 60 (fu (fu (fu dd 5 s5) 4 s4) 0 s0) dd
@[simp] def h47_0 : List Bool := bits 60 [0, 1, 4, 5, 6]
@[simp] def L47_0 (s0 s1 s4 s5 s6 : V) : St := tab 60 60 (fu (fu (fu (fu (fu dd 6 s6) 5 s5) 4 s4) 1 s1) 0 s0) dd
@[simp] def x47_1 : List Bool := bits 60 [0, 1, 4, 5, 6]
@[simp] def X47_1 (s0 s1 s4 s5 s6 : V) : St := tab 60 60 (fu (fu (fu (fu (fu dd 6 s6) 5 s5) 4 s4) 1 s1) 0 s0) dd
def b47_0 : MC := .seq (.scr h47_0)
 (.seq (.seq (.ops [⟨none, .mv 10 (.t 6)⟩,
    ⟨none, .mv 11 (.t 1)⟩,
    ⟨none, .len 12 false (.t 11)⟩,
    ⟨none, .bin 13 .lss .num (.t 10) (.t 12)⟩])
  (.cnd (.t 13)
   .skip
   (.seq (.scr x47_0) (.ex 0))))
 (.seq (.seq (.blk 1 (.drw [⟨none, .mv 16 (.t 1)⟩,
    ⟨none, .mv 17 (.t 6)⟩,
    ⟨none, .ixs 18 2 (.t 16) (.t 17)⟩,
    ⟨none, .fa 19 0 (.t 18)⟩,
    ⟨none, .ld1 20 (.t 19)⟩,
    ⟨none, .mv 21 (.t 1)⟩,
    ⟨none, .mv 22 (.t 6)⟩,
    ⟨none, .ixs 23 2 (.t 21) (.t 22)⟩,
    ⟨none, .fa 24 1 (.t 23)⟩,
    ⟨none, .ld1 25 (.t 24)⟩,
    ⟨none, .ixa 26 24 24 (.t 5) (.t 20)⟩] [⟨none, .ixa 27 1 24 (.t 26) (.t 25)⟩,
    ⟨none, .stn none 1 (.t 27) (.c (.v (.bool true)))⟩])) (.scr x47_1))
 (.ops [⟨none, .mv 14 (.t 6)⟩,
  ⟨none, .bin 15 .add .num (.t 14) (.c (.v (.int .i64 1)))⟩,
  ⟨none, .asg 6 (.t 15)⟩])))
@[simp] def x47_2 : List Bool := bits 60 [4, 5]
@[simp] def X47_2 (s4 s5 : V) : St := tab 60 60 (fu (fu dd 5 s5) 4 s4) dd
@[simp] def h47_1 : List Bool := bits 60 [0, 4, 5, 7]
@[simp] def L47_1 (s0 s4 s5 s7 : V) : St := tab 60 60 (fu (fu (fu (fu dd 7 s7) 5 s5) 4 s4) 0 s0) dd
@[simp] def x47_3 : List Bool := bits 60 [0, 4, 5, 7]
@[simp] def X47_3 (s0 s4 s5 s7 : V) : St := tab 60 60 (fu (fu (fu (fu dd 7 s7) 5 s5) 4 s4) 0 s0) dd
@[simp] def x47_4 : List Bool := bits 60 [0, 4, 5, 7]
@[simp] def X47_4 (s0 s4 s5 s7 : V) : St := tab 60 60 (fu (fu (fu (fu dd 7 s7) 5 s5) 4 s4) 0 s0) dd
@[simp] def h47_2 : List Bool := bits 60 [0, 4, 5, 7, 8]
@[simp] def L47_2 (s0 s4 s5 s7 s8 : V) : St := tab 60 60 (fu (fu (fu (fu (fu dd 8 s8) 7 s7) 5 s5) 4 s4) 0 s0) dd
@[simp] def x47_5 : List Bool := bits 60 [0, 4, 5, 7, 8]
@[simp] def X47_5 (s0 s4 s5 s7 s8 : V) : St := tab 60 60 (fu (fu (fu (fu (fu dd 8 s8) 7 s7) 5 s5) 4 s4) 0 s0) dd
@[simp] def x47_6 : List Bool := bits 60 [0, 4, 5, 7, 8]
@[simp] def X47_6 (s0 s4 s5 s7 s8 : V) : St := tab 60 60 (fu (fu (fu (fu (fu dd 8 s8) 7 s7) 5 s5) 4 s4) 0 s0) dd
@[simp] def h47_3 : List Bool := bits 60 [0, 4, 5, 7, 8, 9]
@[simp] def L47_3 (s0 s4 s5 s7 s8 s9 : V) : St := tab 60 60 (fu (fu (fu (fu (fu (fu dd 9 s9) 8 s8) 7 s7) 5 s5) 4 s4) 0 s0) dd
@[simp] def x47_7 : List Bool := bits 60 [0, 4, 5, 7, 8, 9]
@[simp] def X47_7 (s0 s4 s5 s7 s8 s9 : V) : St := tab 60 60 (fu (fu (fu (fu (fu (fu dd 9 s9) 8 s8) 7 s7) 5 s5) 4 s4) 0 s0) dd
def b47_3 : MC := .seq (.scr h47_3)
 (.seq (.seq (.ops [⟨none, .mv 38 (.t 9)⟩,
    ⟨none, .mv 39 (.t 0)⟩,
    ⟨none, .bin 40 .lss .num (.t 38) (.t 39)⟩])
  (.cnd (.t 40)
   .skip
   (.seq (.scr x47_6) (.ex 6))))
 (.seq (.seq (.blk 7 (.seq (.ops [⟨none, .mv 43 (.t 8)⟩,
     ⟨none, .mv 44 (.t 7)⟩,
     ⟨none, .ixa 45 24 24 (.t 5) (.t 43)⟩,
     ⟨none, .ixa 46 1 24 (.t 45) (.t 44)⟩,
     ⟨none, .ld1 47 (.t 46)⟩,
     ⟨none, .mv 48 (.t 47)⟩,
     ⟨some (48, true), .mv 49 (.t 7)⟩,
     ⟨some (48, true), .mv 50 (.t 9)⟩,
     ⟨some (48, true), .ixa 51 24 24 (.t 5) (.t 49)⟩,
     ⟨some (48, true), .ixa 52 1 24 (.t 51) (.t 50)⟩,
     ⟨some (48, true), .ld1 53 (.t 52)⟩,
     ⟨none, .pick 54 (.t 48) (.t 53) (.c (.v (.bool false)))⟩])
   (.cnd (.t 54)
    (.ops [⟨none, .mv 55 (.t 8)⟩,
     ⟨none, .mv 56 (.t 9)⟩,
     ⟨none, .ixa 57 24 24 (.t 5) (.t 55)⟩,
     ⟨none, .ixa 58 1 24 (.t 57) (.t 56)⟩,
     ⟨none, .stn none 1 (.t 58) (.c (.v (.bool true)))⟩])
    .skip))) (.scr x47_7))
 (.ops [⟨none, .mv 41 (.t 9)⟩,
  ⟨none, .bin 42 .add .num (.t 41) (.c (.v (.int .i64 1)))⟩,
  ⟨none, .asg 9 (.t 42)⟩])))
def b47_2 : MC := .seq (.scr h47_2)
 (.seq (.seq (.ops [⟨none, .mv 33 (.t 8)⟩,
    ⟨none, .mv 34 (.t 0)⟩,
    ⟨none, .bin 35 .lss .num (.t 33) (.t 34)⟩])
  (.cnd (.t 35)
   .skip
   (.seq (.scr x47_4) (.ex 4))))
 (.seq (.seq (.blk 5 (.seq (.ops [⟨none, .asg 9 (.c (.v (.int .i64 0)))⟩])
   (.seq (.blk 6 (.lop b47_3)) (.scr x47_6)))) (.scr x47_5))
 (.ops [⟨none, .mv 36 (.t 8)⟩,
  ⟨none, .bin 37 .add .num (.t 36) (.c (.v (.int .i64 1)))⟩,
  ⟨none, .asg 8 (.t 37)⟩])))
def b47_1 : MC := .seq (.scr h47_1)
 (.seq (.seq (.ops [⟨none, .mv 28 (.t 7)⟩,
    ⟨none, .mv 29 (.t 0)⟩,
    ⟨none, .bin 30 .lss .num (.t 28) (.t 29)⟩])
  (.cnd (.t 30)
   .skip
   (.seq (.scr x47_2) (.ex 2))))
 (.seq (.seq (.blk 3 (.seq (.ops [⟨none, .asg 8 (.c (.v (.int .i64 0)))⟩])
   (.seq (.blk 4 (.lop b47_2)) (.scr x47_4)))) (.scr x47_3))
 (.ops [⟨none, .mv 31 (.t 7)⟩,
  ⟨none, .bin 32 .add .num (.t 31) (.c (.v (.int .i64 1)))⟩,
  ⟨none, .asg 7 (.t 32)⟩])))
def c47 : MF := ⟨(.seq (.ops [⟨none, .alc 4 (rp 576 (.v (.bool false)))⟩])
 (.seq (.ops [⟨none, .alc 5 (rp 576 (.v (.bool false)))⟩])
 (.seq (.seq (.ops [⟨none, .asg 6 (.c (.v (.int .i64 0)))⟩])
  (.seq (.blk 0 (.lop b47_0)) (.scr x47_0)))
 (.seq (.seq (.ops [⟨none, .asg 7 (.c (.v (.int .i64 0)))⟩])
  (.seq (.blk 2 (.lop b47_1)) (.scr x47_2)))
 (.seq (.ops [⟨none, .ldn 59 576 (.t 5)⟩,
   ⟨none, .stn none 576 (.t 4) (.t 59)⟩])
 (.seq (.scr r47) .ret)))))),
  60, [4, 576, 1000000]⟩

/-- coinage/poset.acyclic -/
abbrev K48 : Nat := 8
def hints48 : List (List Bool) := [bits 16 [], bits 16 [0, 5, 6, 7], bits 16 [], bits 16 [0, 5, 6, 7], bits 16 [2], bits 16 [2]]
@[simp] def r48 : List Bool := bits 16 [2]
@[simp] def R48 (s2 : V) : St := tab 16 8 (fu dd 2 s2) dd
@[simp] def x48_0 : List Bool := bits 16 []
@[simp] def X48_0 : St := tab 16 8 dd dd
@[simp] def h48_0 : List Bool := bits 16 [0, 5, 6, 7]
@[simp] def L48_0 (s0 s5 s6 s7 : V) : St := tab 16 8 (fu (fu (fu (fu dd 7 s7) 6 s6) 5 s5) 0 s0) dd
@[simp] def x48_1 : List Bool := bits 16 [0, 5, 6, 7]
@[simp] def X48_1 (s0 s5 s6 s7 : V) : St := tab 16 8 (fu (fu (fu (fu dd 7 s7) 6 s6) 5 s5) 0 s0) dd
def b48_0 : MC := .seq (.scr h48_0)
 (.seq (.ops [⟨none, .bin 8 .lss .num (.t 7) (.t 6)⟩])
 (.seq (.cnd (.t 8)
   .skip
   (.seq (.scr x48_0) (.ex 0)))
 (.seq (.seq (.blk 1 (.seq (.ops [⟨none, .mv 9 (.t 7)⟩,
     ⟨none, .ixs 10 1 (.t 5) (.t 7)⟩,
     ⟨none, .ld1 11 (.t 10)⟩,
     ⟨none, .asg 3 (.t 9)⟩,
     ⟨none, .asg 4 (.t 11)⟩])
   (.seq (.ops [⟨none, .mv 12 (.t 4)⟩,
     ⟨none, .mv 13 (.t 3)⟩,
     ⟨none, .call (some 14) 50 [(.t 12), (.t 13)]⟩])
   (.cnd (.t 14)
    (.seq (.ops [⟨none, .asg 2 (.c (.v (.bool false)))⟩])
    (.seq (.scr r48) .ret))
    .skip)))) (.scr x48_1))
 (.ops [⟨none, .bin 15 .add .num (.t 7) (.c (.v (.int .i64 1)))⟩,
  ⟨none, .mv 7 (.t 15)⟩]))))
def c48 : MF := ⟨(.seq (.ops [⟨none, .asg 2 (.c (.v (.bool false)))⟩])
 (.seq (.seq (.ops [⟨none, .mv 5 (.t 0)⟩,
    ⟨none, .len 6 false (.t 5)⟩,
    ⟨none, .mv 7 (.c (.v (.int .i64 0)))⟩])
  (.seq (.blk 0 (.lop b48_0)) (.scr x48_0)))
 (.seq (.ops [⟨none, .asg 2 (.c (.v (.bool true)))⟩])
 (.seq (.scr r48) .ret)))),
  16, [2]⟩

/-- coinage/poset.reach -/
abbrev K49 : Nat := 17
def hints49 : List (List Bool) := [bits 38 [5], bits 38 [0, 5, 11, 12], bits 38 [5], bits 38 [0, 5, 11, 12], bits 38 [0, 5, 11, 12], bits 38 [0, 5, 6, 11, 12, 15, 16], bits 38 [0, 5, 11, 12], bits 38 [0, 5, 6, 11, 12, 15, 16], bits 38 [4]]
@[simp] def r49 : List Bool := bits 38 [4]
@[simp] def R49 (s4 : V) : St := tab 38 17 (fu dd 4 s4) dd
@[simp] def x49_0 : List Bool := bits 38 [5]
@[simp] def X49_0 (s5 : V) : St := tab 38 17 (fu dd 5 s5) dd
@[simp] def h49_0 : List Bool := bits 38 [0, 5, 11, 12]
@[simp] def L49_0 (s0 s5 s11 s12 : V) : St := tab 38 17 (fu (fu (fu (fu dd 12 s12) 11 s11) 5 s5) 0 s0) dd
@[simp] def x49_1 : List Bool := bits 38 [0, 5, 11, 12]
@[simp] def X49_1 (s0 s5 s11 s12 : V) : St := tab 38 17 (fu (fu (fu (fu dd 12 s12) 11 s11) 5 s5) 0 s0) dd
@[simp] def x49_2 : List Bool := bits 38 [0, 5, 11, 12]
@[simp] def X49_2 (s0 s5 s11 s12 : V) : St := tab 38 17 (fu (fu (fu (fu dd 12 s12) 11 s11) 5 s5) 0 s0) dd
@[simp] def h49_1 : List Bool := bits 38 [0, 5, 6, 11, 12, 15, 16]
@[simp] def L49_1 (s0 s5 s6 s11 s12 s15 s16 : V) : St := tab 38 17 (fu (fu (fu (fu (fu (fu (fu dd 16 s16) 15 s15) 12 s12) 11 s11) 6 s6) 5 s5) 0 s0) dd
@[simp] def x49_3 : List Bool := bits 38 [0, 5, 6, 11, 12, 15, 16]
@[simp] def X49_3 (s0 s5 s6 s11 s12 s15 s16 : V) : St := tab 38 17 (fu (fu (fu (fu (fu (fu (fu dd 16 s16) 15 s15) 12 s12) 11 s11) 6 s6) 5 s5) 0 s0) dd
def b49_1 : MC := .seq (.scr h49_1)
 (.seq (.ops [⟨none, .bin 17 .lss .num (.t 16) (.t 15)⟩])
 (.seq (.cnd (.t 17)
   .skip
   (.seq (.scr x49_2) (.ex 2)))
 (.seq (.seq (.blk 3 (.seq (.ops [⟨none, .mv 18 (.t 16)⟩,
     ⟨none, .asg 7 (.t 18)⟩])
   (.seq (.ops [⟨none, .mv 19 (.t 5)⟩,
     ⟨none, .mv 20 (.t 7)⟩,
     ⟨none, .ixs 21 1 (.t 19) (.t 20)⟩,
     ⟨none, .ld1 22 (.t 21)⟩,
     ⟨none, .mv 23 (.t 6)⟩,
     ⟨none, .call (some 24) 50 [(.t 22), (.t 23)]⟩])
   (.cnd (.t 24)
    (.drw [⟨none, .mv 25 (.t 5)⟩,
     ⟨none, .mv 26 (.t 7)⟩,
     ⟨none, .ixs 27 1 (.t 25) (.t 26)⟩,
     ⟨none, .ld1 28 (.t 27)⟩,
     ⟨none, .mv 29 (.t 5)⟩,
     ⟨none, .mv 30 (.t 6)⟩,
     ⟨none, .ixs 31 1 (.t 29) (.t 30)⟩,
     ⟨none, .ld1 32 (.t 31)⟩] [⟨none, .bin 33 .or .num (.t 28) (.t 32)⟩,
     ⟨none, .ixs 34 1 (.t 25) (.t 26)⟩,
     ⟨none, .stn none 1 (.t 34) (.t 33)⟩])
    .skip)))) (.scr x49_3))
 (.ops [⟨none, .bin 35 .add .num (.t 16) (.c (.v (.int .i64 1)))⟩,
  ⟨none, .mv 16 (.t 35)⟩]))))
def b49_0 : MC := .seq (.scr h49_0)
 (.seq (.ops [⟨none, .bin 13 .lss .num (.t 12) (.t 11)⟩])
 (.seq (.cnd (.t 13)
   .skip
   (.seq (.scr x49_0) (.ex 0)))
 (.seq (.seq (.blk 1 (.seq (.ops [⟨none, .mv 14 (.t 12)⟩,
     ⟨none, .asg 6 (.t 14)⟩])
   (.seq (.ops [⟨none, .mv 15 (.t 0)⟩,
     ⟨none, .mv 16 (.c (.v (.int .i64 0)))⟩])
   (.seq (.blk 2 (.lop b49_1)) (.scr x49_2))))) (.scr x49_1))
 (.ops [⟨none, .bin 36 .add .num (.t 12) (.c (.v (.int .i64 1)))⟩,
  ⟨none, .mv 12 (.t 36)⟩]))))
def c49 : MF := ⟨(.seq (.ops [⟨none, .asg 4 (.c (.nd (.sl true 1 0) []))⟩])
 (.seq (.ops [⟨none, .mv 8 (.t 0)⟩,
   ⟨none, .mv 9 (.t 1)⟩,
   ⟨none, .call (some 10) 51 [(.t 8), (.t 9)]⟩,
   ⟨none, .asg 5 (.t 10)⟩])
 (.seq (.seq (.ops [⟨none, .mv 11 (.t 0)⟩,
    ⟨none, .mv 12 (.c (.v (.int .i64 0)))⟩])
  (.seq (.blk 0 (.lop b49_0)) (.scr x49_0)))
 (.seq (.ops [⟨none, .mv 37 (.t 5)⟩,
   ⟨none, .asg 4 (.t 37)⟩])
 (.seq (.scr r49) .ret))))),
  38, [4]⟩

/-- (coinage/poset.set).has -/
abbrev K50 : Nat := 5
def hints50 : List (List Bool) := [bits 10 [4]]
@[simp] def r50 : List Bool := bits 10 [4]
@[simp] def R50 (s4 : V) : St := tab 10 5 (fu dd 4 s4) dd
def c50 : MF := ⟨(.seq (.ops [⟨none, .asg 4 (.c (.v (.bool false)))⟩])
 (.seq (.ops [⟨none, .mv 5 (.t 0)⟩,
   ⟨none, .mv 6 (.t 1)⟩,
   ⟨none, .bin 7 .shr .num (.t 5) (.t 6)⟩,
   ⟨none, .bin 8 .and .num (.t 7) (.c (.v (.int .u32 1)))⟩,
   ⟨none, .bin 9 .neq .num (.t 8) (.c (.v (.int .u32 0)))⟩,
   ⟨none, .asg 4 (.t 9)⟩])
 (.seq (.scr r50) .ret))),
  10, [4]⟩

/-- coinage/poset.next -/
abbrev K51 : Nat := 13
def hints51 : List (List Bool) := [bits 28 [5], bits 28 [1, 5, 10, 11, 12], bits 28 [5], bits 28 [1, 5, 10, 11, 12], bits 28 [4]]
@[simp] def r51 : List Bool := bits 28 [4]
@[simp] def R51 (s4 : V) : St := tab 28 13 (fu dd 4 s4) dd
@[simp] def x51_0 : List Bool := bits 28 [5]
@[simp] def X51_0 (s5 : V) : St := tab 28 13 (fu dd 5 s5) dd
@[simp] def h51_0 : List Bool := bits 28 [1, 5, 10, 11, 12]
@[simp] def L51_0 (s1 s5 s10 s11 s12 : V) : St := tab 28 13 (fu (fu (fu (fu (fu dd 12 s12) 11 s11) 10 s10) 5 s5) 1 s1) dd
@[simp] def x51_1 : List Bool := bits 28 [1, 5, 10, 11, 12]
@[simp] def X51_1 (s1 s5 s10 s11 s12 : V) : St := tab 28 13 (fu (fu (fu (fu (fu dd 12 s12) 11 s11) 10 s10) 5 s5) 1 s1) dd
def b51_0 : MC := .seq (.scr h51_0)
 (.seq (.ops [⟨none, .bin 13 .lss .num (.t 12) (.t 11)⟩])
 (.seq (.cnd (.t 13)
   .skip
   (.seq (.scr x51_0) (.ex 0)))
 (.seq (.seq (.blk 1 (.seq (.ops [⟨none, .ixs 14 2 (.t 10) (.t 12)⟩,
     ⟨none, .ldn 15 2 (.t 14)⟩,
     ⟨none, .alc 7 [(.v (.int .i64 0)), (.v (.int .i64 0))]⟩,
     ⟨none, .stn none 2 (.t 7) (.t 15)⟩])
   (.drw [⟨none, .mv 16 (.t 5)⟩,
    ⟨none, .fa 17 0 (.t 7)⟩,
    ⟨none, .ld1 18 (.t 17)⟩,
    ⟨none, .ixs 19 1 (.t 16) (.t 18)⟩,
    ⟨none, .ld1 20 (.t 19)⟩,
    ⟨none, .fa 21 1 (.t 7)⟩,
    ⟨none, .ld1 22 (.t 21)⟩,
    ⟨none, .bin 23 .shl .num (.c (.v (.int .u32 1))) (.t 22)⟩] [⟨none, .bin 24 .or .num (.t 20) (.t 23)⟩,
    ⟨none, .ixs 25 1 (.t 16) (.t 18)⟩,
    ⟨none, .stn none 1 (.t 25) (.t 24)⟩]))) (.scr x51_1))
 (.ops [⟨none, .bin 26 .add .num (.t 12) (.c (.v (.int .i64 1)))⟩,
  ⟨none, .mv 12 (.t 26)⟩]))))
def c51 : MF := ⟨(.seq (.ops [⟨none, .asg 4 (.c (.nd (.sl true 1 0) []))⟩])
 (.seq (.ops [⟨none, .mv 8 (.t 0)⟩,
   ⟨none, .mks 9 1 [(.v (.int .u32 0))] (.t 8) (.t 8)⟩,
   ⟨none, .asg 5 (.t 9)⟩])
 (.seq (.seq (.ops [⟨none, .mv 10 (.t 1)⟩,
    ⟨none, .len 11 false (.t 10)⟩,
    ⟨none, .mv 12 (.c (.v (.int .i64 0)))⟩])
  (.seq (.blk 0 (.lop b51_0)) (.scr x51_0)))
 (.seq (.ops [⟨none, .mv 27 (.t 5)⟩,
   ⟨none, .asg 4 (.t 27)⟩])
 (.seq (.scr r51) .ret))))),
  28, [4]⟩


theorem comp3 : compF Go.Proofs.Try.prog hints3 3 = some c3 := by kernel_rfl
theorem comp4 : compF Go.Proofs.Try.prog hints4 4 = some c4 := by kernel_rfl
theorem comp5 : compF Go.Proofs.Try.prog hints5 5 = some c5 := by kernel_rfl
theorem comp6 : compF Go.Proofs.Try.prog hints6 6 = some c6 := by kernel_rfl
theorem comp7 : compF Go.Proofs.Try.prog hints7 7 = some c7 := by kernel_rfl
theorem comp8 : compF Go.Proofs.Try.prog hints8 8 = some c8 := by kernel_rfl
theorem comp9 : compF Go.Proofs.Try.prog hints9 9 = some c9 := by kernel_rfl
theorem comp10 : compF Go.Proofs.Try.prog hints10 10 = some c10 := by kernel_rfl
theorem comp11 : compF Go.Proofs.Try.prog hints11 11 = some c11 := by kernel_rfl
theorem comp12 : compF Go.Proofs.Try.prog hints12 12 = some c12 := by kernel_rfl
theorem comp13 : compF Go.Proofs.Try.prog hints13 13 = some c13 := by kernel_rfl
theorem comp14 : compF Go.Proofs.Try.prog hints14 14 = some c14 := by kernel_rfl
theorem comp15 : compF Go.Proofs.Try.prog hints15 15 = some c15 := by kernel_rfl
theorem comp16 : compF Go.Proofs.Try.prog hints16 16 = some c16 := by kernel_rfl
theorem comp17 : compF Go.Proofs.Try.prog hints17 17 = some c17 := by kernel_rfl
theorem comp18 : compF Go.Proofs.Try.prog hints18 18 = some c18 := by kernel_rfl
theorem comp19 : compF Go.Proofs.Try.prog hints19 19 = some c19 := by kernel_rfl
theorem comp20 : compF Go.Proofs.Try.prog hints20 20 = some c20 := by kernel_rfl
theorem comp21 : compF Go.Proofs.Try.prog hints21 21 = some c21 := by kernel_rfl
theorem comp22 : compF Go.Proofs.Try.prog hints22 22 = some c22 := by kernel_rfl
theorem comp23 : compF Go.Proofs.Try.prog hints23 23 = some c23 := by kernel_rfl
theorem comp24 : compF Go.Proofs.Try.prog hints24 24 = some c24 := by kernel_rfl
theorem comp25 : compF Go.Proofs.Try.prog hints25 25 = some c25 := by kernel_rfl
theorem comp26 : compF Go.Proofs.Try.prog hints26 26 = some c26 := by kernel_rfl
theorem comp27 : compF Go.Proofs.Try.prog hints27 27 = some c27 := by kernel_rfl
theorem comp28 : compF Go.Proofs.Try.prog hints28 28 = some c28 := by kernel_rfl
theorem comp29 : compF Go.Proofs.Try.prog hints29 29 = some c29 := by kernel_rfl
theorem comp30 : compF Go.Proofs.Try.prog hints30 30 = some c30 := by kernel_rfl
theorem comp31 : compF Go.Proofs.Try.prog hints31 31 = some c31 := by kernel_rfl
theorem comp32 : compF Go.Proofs.Try.prog hints32 32 = some c32 := by kernel_rfl
theorem comp33 : compF Go.Proofs.Try.prog hints33 33 = some c33 := by kernel_rfl
theorem comp34 : compF Go.Proofs.Try.prog hints34 34 = some c34 := by kernel_rfl
theorem comp35 : compF Go.Proofs.Try.prog hints35 35 = some c35 := by kernel_rfl
theorem comp36 : compF Go.Proofs.Try.prog hints36 36 = some c36 := by kernel_rfl
theorem comp37 : compF Go.Proofs.Try.prog hints37 37 = some c37 := by kernel_rfl
theorem comp38 : compF Go.Proofs.Try.prog hints38 38 = some c38 := by kernel_rfl
theorem comp39 : compF Go.Proofs.Try.prog hints39 39 = some c39 := by kernel_rfl
theorem comp40 : compF Go.Proofs.Try.prog hints40 40 = some c40 := by kernel_rfl
theorem comp41 : compF Go.Proofs.Try.prog hints41 41 = some c41 := by kernel_rfl
theorem comp42 : compF Go.Proofs.Try.prog hints42 42 = some c42 := by kernel_rfl
theorem comp43 : compF Go.Proofs.Try.prog hints43 43 = some c43 := by kernel_rfl
theorem comp44 : compF Go.Proofs.Try.prog hints44 44 = some c44 := by kernel_rfl
theorem comp45 : compF Go.Proofs.Try.prog hints45 45 = some c45 := by kernel_rfl
theorem comp46 : compF Go.Proofs.Try.prog hints46 46 = some c46 := by kernel_rfl
theorem comp47 : compF Go.Proofs.Try.prog hints47 47 = some c47 := by kernel_rfl
theorem comp48 : compF Go.Proofs.Try.prog hints48 48 = some c48 := by kernel_rfl
theorem comp49 : compF Go.Proofs.Try.prog hints49 49 = some c49 := by kernel_rfl
theorem comp50 : compF Go.Proofs.Try.prog hints50 50 = some c50 := by kernel_rfl
theorem comp51 : compF Go.Proofs.Try.prog hints51 51 = some c51 := by kernel_rfl

def tbl : FuncId → Option MF
  | 3 => some c3
  | 4 => some c4
  | 5 => some c5
  | 6 => some c6
  | 7 => some c7
  | 8 => some c8
  | 9 => some c9
  | 10 => some c10
  | 11 => some c11
  | 12 => some c12
  | 13 => some c13
  | 14 => some c14
  | 15 => some c15
  | 16 => some c16
  | 17 => some c17
  | 18 => some c18
  | 19 => some c19
  | 20 => some c20
  | 21 => some c21
  | 22 => some c22
  | 23 => some c23
  | 24 => some c24
  | 25 => some c25
  | 26 => some c26
  | 27 => some c27
  | 28 => some c28
  | 29 => some c29
  | 30 => some c30
  | 31 => some c31
  | 32 => some c32
  | 33 => some c33
  | 34 => some c34
  | 35 => some c35
  | 36 => some c36
  | 37 => some c37
  | 38 => some c38
  | 39 => some c39
  | 40 => some c40
  | 41 => some c41
  | 42 => some c42
  | 43 => some c43
  | 44 => some c44
  | 45 => some c45
  | 46 => some c46
  | 47 => some c47
  | 48 => some c48
  | 49 => some c49
  | 50 => some c50
  | 51 => some c51
  | _ => none

theorem tbl_ok (f : FuncId) (mf : MF) (h : tbl f = some mf) : ∃ hints, compF Go.Proofs.Try.prog hints f = some mf := by
  unfold tbl at h
  split at h
  · cases h; exact ⟨_, comp3⟩
  · cases h; exact ⟨_, comp4⟩
  · cases h; exact ⟨_, comp5⟩
  · cases h; exact ⟨_, comp6⟩
  · cases h; exact ⟨_, comp7⟩
  · cases h; exact ⟨_, comp8⟩
  · cases h; exact ⟨_, comp9⟩
  · cases h; exact ⟨_, comp10⟩
  · cases h; exact ⟨_, comp11⟩
  · cases h; exact ⟨_, comp12⟩
  · cases h; exact ⟨_, comp13⟩
  · cases h; exact ⟨_, comp14⟩
  · cases h; exact ⟨_, comp15⟩
  · cases h; exact ⟨_, comp16⟩
  · cases h; exact ⟨_, comp17⟩
  · cases h; exact ⟨_, comp18⟩
  · cases h; exact ⟨_, comp19⟩
  · cases h; exact ⟨_, comp20⟩
  · cases h; exact ⟨_, comp21⟩
  · cases h; exact ⟨_, comp22⟩
  · cases h; exact ⟨_, comp23⟩
  · cases h; exact ⟨_, comp24⟩
  · cases h; exact ⟨_, comp25⟩
  · cases h; exact ⟨_, comp26⟩
  · cases h; exact ⟨_, comp27⟩
  · cases h; exact ⟨_, comp28⟩
  · cases h; exact ⟨_, comp29⟩
  · cases h; exact ⟨_, comp30⟩
  · cases h; exact ⟨_, comp31⟩
  · cases h; exact ⟨_, comp32⟩
  · cases h; exact ⟨_, comp33⟩
  · cases h; exact ⟨_, comp34⟩
  · cases h; exact ⟨_, comp35⟩
  · cases h; exact ⟨_, comp36⟩
  · cases h; exact ⟨_, comp37⟩
  · cases h; exact ⟨_, comp38⟩
  · cases h; exact ⟨_, comp39⟩
  · cases h; exact ⟨_, comp40⟩
  · cases h; exact ⟨_, comp41⟩
  · cases h; exact ⟨_, comp42⟩
  · cases h; exact ⟨_, comp43⟩
  · cases h; exact ⟨_, comp44⟩
  · cases h; exact ⟨_, comp45⟩
  · cases h; exact ⟨_, comp46⟩
  · cases h; exact ⟨_, comp47⟩
  · cases h; exact ⟨_, comp48⟩
  · cases h; exact ⟨_, comp49⟩
  · cases h; exact ⟨_, comp50⟩
  · cases h; exact ⟨_, comp51⟩
  · cases h

end Go.Mx
