import Derived.Test.YthahhbbfhohhfaaMgI
import Derived.KernelRfl
import Derived.Test.YthahhbbfhohhfaaChecked
/-
  The functions of this chapter in the machine's code,and that the given program's code is this one. Printed by a program of this repo (gencodes.py).
-/
namespace Go.Mx
set_option linter.unusedVariables false
set_option linter.unusedSimpArgs false
set_option linter.unusedSectionVars false
open Go
abbrev K3 : Nat:=108
def hints3 : List (List Bool):=[bits 201 [6],bits 201 [6],bits 201 [6],bits 201 [6],bits 201 [6],bits 201 [6]]
@[simp] def r3 : List Bool:=bits 201 [6]
@[simp] def R3 (s6 : V) : St:=tab 201 108 (fu dd 6 s6) dd
def c3 : MF:=⟨(.seq (.ops [⟨none,.asg 6 (.c (.v (.bool false)))⟩])
 (.seq (.seq (.ops [⟨none,.call (some 26) 4 []⟩,
    ⟨none,.un 27 .not (.t 26)⟩,
    ⟨none,.mv 28 (.t 27)⟩,
    ⟨some (28,false),.mv 29 (.t 0)⟩,
    ⟨some (28,false),.len 30 false (.t 29)⟩,
    ⟨some (28,false),.bin 31 .gtr .num (.t 30) (.c (.v (.int .i64 7)))⟩,
    ⟨none,.pick 32 (.t 28) (.c (.v (.bool true))) (.t 31)⟩,
    ⟨none,.mv 33 (.t 32)⟩,
    ⟨some (33,false),.mv 34 (.t 1)⟩,
    ⟨some (33,false),.len 35 false (.t 34)⟩,
    ⟨some (33,false),.bin 36 .gtr .num (.t 35) (.c (.v (.int .i64 6)))⟩,
    ⟨none,.pick 37 (.t 33) (.c (.v (.bool true))) (.t 36)⟩])
  (.cnd (.t 37)
   (.seq (.ops [⟨none,.call (some 38) 4 []⟩,
     ⟨none,.asg 6 (.t 38)⟩])
   (.seq (.scr r3) .ret))
   .skip))
 (.seq (.ops [⟨none,.mv 40 (.t 0)⟩,
   ⟨none,.mv 41 (.t 1)⟩,
   ⟨none,.call (some 42) 5 [(.t 40),(.t 41)]⟩,
   ⟨none,.mv 39 (.t 42)⟩,
   ⟨none,.ext 43 (.t 39) 0⟩,
   ⟨none,.ext 44 (.t 39) 1⟩,
   ⟨none,.asg 7 (.t 43)⟩,
   ⟨none,.asg 8 (.t 44)⟩])
 (.seq (.seq (.ops [⟨none,.mv 45 (.t 8)⟩,
    ⟨none,.bin 46 .neq .num (.t 45) (.c (.v (.int .i64 0)))⟩])
  (.cnd (.t 46)
   (.seq (.ops [⟨none,.mv 47 (.t 7)⟩,
     ⟨none,.len 48 false (.t 47)⟩,
     ⟨none,.bin 49 .eql .num (.t 48) (.c (.v (.int .i64 0)))⟩,
     ⟨none,.asg 6 (.t 49)⟩])
   (.seq (.scr r3) .ret))
   .skip))
 (.seq (.ops [⟨none,.mv 51 (.t 0)⟩,
   ⟨none,.len 52 false (.t 51)⟩,
   ⟨none,.mv 53 (.t 7)⟩,
   ⟨none,.call (some 54) 6 [(.t 52),(.t 53)]⟩,
   ⟨none,.mv 50 (.t 54)⟩,
   ⟨none,.ext 55 (.t 50) 0⟩,
   ⟨none,.ext 56 (.t 50) 1⟩,
   ⟨none,.asg 9 (.t 55)⟩,
   ⟨none,.asg 10 (.t 56)⟩])
 (.seq (.seq (.ops [⟨none,.mv 57 (.t 10)⟩,
    ⟨none,.bin 58 .neq .num (.t 57) (.c (.v (.int .i64 0)))⟩])
  (.cnd (.t 58)
   (.seq (.ops [⟨none,.mv 59 (.t 9)⟩,
     ⟨none,.bin 60 .eql .num (.t 59) (.c (.v (.int .i64 0)))⟩,
     ⟨none,.asg 6 (.t 60)⟩])
   (.seq (.scr r3) .ret))
   .skip))
 (.seq (.ops [⟨none,.mv 62 (.t 0)⟩,
   ⟨none,.len 63 false (.t 62)⟩,
   ⟨none,.mv 64 (.t 7)⟩,
   ⟨none,.call (some 65) 7 [(.t 63),(.t 64)]⟩,
   ⟨none,.mv 61 (.t 65)⟩,
   ⟨none,.ext 66 (.t 61) 0⟩,
   ⟨none,.ext 67 (.t 61) 1⟩,
   ⟨none,.asg 11 (.t 66)⟩,
   ⟨none,.asg 12 (.t 67)⟩])
 (.seq (.ops [⟨none,.mv 69 (.t 0)⟩,
   ⟨none,.len 70 false (.t 69)⟩,
   ⟨none,.mv 71 (.t 7)⟩,
   ⟨none,.call (some 72) 8 [(.t 70),(.t 71)]⟩,
   ⟨none,.mv 68 (.t 72)⟩,
   ⟨none,.ext 73 (.t 68) 0⟩,
   ⟨none,.ext 74 (.t 68) 1⟩,
   ⟨none,.asg 13 (.t 73)⟩,
   ⟨none,.asg 14 (.t 74)⟩])
 (.seq (.ops [⟨none,.mv 76 (.t 0)⟩,
   ⟨none,.len 77 false (.t 76)⟩,
   ⟨none,.mv 78 (.t 7)⟩,
   ⟨none,.call (some 79) 9 [(.t 77),(.t 78)]⟩,
   ⟨none,.mv 75 (.t 79)⟩,
   ⟨none,.ext 80 (.t 75) 0⟩,
   ⟨none,.ext 81 (.t 75) 1⟩,
   ⟨none,.asg 15 (.t 80)⟩,
   ⟨none,.asg 16 (.t 81)⟩])
 (.seq (.ops [⟨none,.mv 83 (.t 0)⟩,
   ⟨none,.len 84 false (.t 83)⟩,
   ⟨none,.mv 85 (.t 7)⟩,
   ⟨none,.call (some 86) 10 [(.t 84),(.t 85)]⟩,
   ⟨none,.mv 82 (.t 86)⟩,
   ⟨none,.ext 87 (.t 82) 0⟩,
   ⟨none,.ext 88 (.t 82) 1⟩,
   ⟨none,.asg 17 (.t 87)⟩,
   ⟨none,.asg 18 (.t 88)⟩])
 (.seq (.ops [⟨none,.mv 90 (.t 0)⟩,
   ⟨none,.len 91 false (.t 90)⟩,
   ⟨none,.mv 92 (.t 7)⟩,
   ⟨none,.call (some 93) 11 [(.t 91),(.t 92)]⟩,
   ⟨none,.mv 89 (.t 93)⟩,
   ⟨none,.ext 94 (.t 89) 0⟩,
   ⟨none,.ext 95 (.t 89) 1⟩,
   ⟨none,.asg 19 (.t 94)⟩,
   ⟨none,.asg 20 (.t 95)⟩])
 (.seq (.ops [⟨none,.mv 97 (.t 0)⟩,
   ⟨none,.len 98 false (.t 97)⟩,
   ⟨none,.mv 99 (.t 7)⟩,
   ⟨none,.call (some 100) 12 [(.t 98),(.t 99)]⟩,
   ⟨none,.mv 96 (.t 100)⟩,
   ⟨none,.ext 101 (.t 96) 0⟩,
   ⟨none,.ext 102 (.t 96) 1⟩,
   ⟨none,.asg 21 (.t 101)⟩,
   ⟨none,.asg 22 (.t 102)⟩])
 (.seq (.ops [⟨none,.mv 103 (.t 2)⟩,
   ⟨none,.cvi 104 .i64 (.t 103)⟩,
   ⟨none,.bin 105 .rem .num (.t 104) (.c (.v (.int .i64 12)))⟩,
   ⟨none,.bin 106 .add .num (.c (.v (.int .i64 1))) (.t 105)⟩,
   ⟨none,.asg 23 (.t 106)⟩])
 (.seq (.ops [⟨none,.mv 108 (.t 0)⟩,
   ⟨none,.len 109 false (.t 108)⟩,
   ⟨none,.mv 110 (.t 7)⟩,
   ⟨none,.mv 111 (.t 23)⟩,
   ⟨none,.call (some 112) 13 [(.t 109),(.t 110),(.t 111)]⟩,
   ⟨none,.mv 107 (.t 112)⟩,
   ⟨none,.ext 113 (.t 107) 0⟩,
   ⟨none,.ext 114 (.t 107) 1⟩,
   ⟨none,.asg 24 (.t 113)⟩,
   ⟨none,.asg 25 (.t 114)⟩])
 (.seq (.seq (.ops (⟨none,.mv 115 (.t 12)⟩ ::
    ⟨none,.bin 116 .neq .num (.t 115) (.c (.v (.int .i64 0)))⟩ ::
    ⟨none,.mv 117 (.t 116)⟩ ::
    ⟨some (117,false),.mv 118 (.t 14)⟩ ::
    ⟨some (117,false),.bin 119 .neq .num (.t 118) (.c (.v (.int .i64 0)))⟩ ::
    ⟨none,.pick 120 (.t 117) (.c (.v (.bool true))) (.t 119)⟩ ::
    ⟨none,.mv 121 (.t 120)⟩ ::
    ⟨some (121,false),.mv 122 (.t 16)⟩ ::
    ⟨some (121,false),.bin 123 .neq .num (.t 122) (.c (.v (.int .i64 0)))⟩ ::
    ⟨none,.pick 124 (.t 121) (.c (.v (.bool true))) (.t 123)⟩ ::
    ⟨none,.mv 125 (.t 124)⟩ ::
    ⟨some (125,false),.mv 126 (.t 18)⟩ ::
    ⟨some (125,false),.bin 127 .neq .num (.t 126) (.c (.v (.int .i64 0)))⟩ ::
    ⟨none,.pick 128 (.t 125) (.c (.v (.bool true))) (.t 127)⟩ ::
    ⟨none,.mv 129 (.t 128)⟩ ::
    ⟨some (129,false),.mv 130 (.t 20)⟩ ::
    ⟨some (129,false),.bin 131 .neq .num (.t 130) (.c (.v (.int .i64 0)))⟩ ::
    ⟨none,.pick 132 (.t 129) (.c (.v (.bool true))) (.t 131)⟩ ::
    ⟨none,.mv 133 (.t 132)⟩ ::
    ⟨some (133,false),.mv 134 (.t 22)⟩ ::
    ⟨some (133,false),.bin 135 .neq .num (.t 134) (.c (.v (.int .i64 0)))⟩ ::
    ⟨none,.pick 136 (.t 133) (.c (.v (.bool true))) (.t 135)⟩ ::
    ⟨none,.mv 137 (.t 136)⟩ ::
    ⟨some (137,false),.mv 138 (.t 25)⟩ ::
    ⟨some (137,false),.bin 139 .neq .num (.t 138) (.c (.v (.int .i64 0)))⟩ ::
    ⟨none,.pick 140 (.t 137) (.c (.v (.bool true))) (.t 139)⟩ :: []))
  (.cnd (.t 140)
   (.seq (.ops [⟨none,.asg 6 (.c (.v (.bool false)))⟩])
   (.seq (.scr r3) .ret))
   .skip))
 (.seq (.seq (.ops (⟨none,.mv 141 (.t 11)⟩ ::
    ⟨none,.len 142 false (.t 141)⟩ ::
    ⟨none,.mv 143 (.t 9)⟩ ::
    ⟨none,.bin 144 .neq .num (.t 142) (.t 143)⟩ ::
    ⟨none,.mv 145 (.t 144)⟩ ::
    ⟨some (145,false),.mv 146 (.t 0)⟩ ::
    ⟨some (145,false),.len 147 false (.t 146)⟩ ::
    ⟨some (145,false),.mv 148 (.t 7)⟩ ::
    ⟨some (145,false),.mv 149 (.t 11)⟩ ::
    ⟨some (145,false),.call (some 150) 14 [(.t 147),(.t 148),(.t 149)]⟩ ::
    ⟨some (145,false),.un 151 .not (.t 150)⟩ ::
    ⟨none,.pick 152 (.t 145) (.c (.v (.bool true))) (.t 151)⟩ ::
    ⟨none,.mv 153 (.t 152)⟩ ::
    ⟨some (153,false),.mv 154 (.t 13)⟩ ::
    ⟨some (153,false),.len 155 false (.t 154)⟩ ::
    ⟨some (153,false),.mv 156 (.t 9)⟩ ::
    ⟨some (153,false),.bin 157 .neq .num (.t 155) (.t 156)⟩ ::
    ⟨none,.pick 158 (.t 153) (.c (.v (.bool true))) (.t 157)⟩ ::
    ⟨none,.mv 159 (.t 158)⟩ ::
    ⟨some (159,false),.mv 160 (.t 17)⟩ ::
    ⟨some (159,false),.len 161 false (.t 160)⟩ ::
    ⟨some (159,false),.mv 162 (.t 15)⟩ ::
    ⟨some (159,false),.bin 163 .neq .num (.t 161) (.t 162)⟩ ::
    ⟨none,.pick 164 (.t 159) (.c (.v (.bool true))) (.t 163)⟩ ::
    ⟨none,.mv 165 (.t 164)⟩ ::
    ⟨some (165,false),.mv 166 (.t 19)⟩ ::
    ⟨some (165,false),.bin 167 .eql .num (.t 166) (.c (.v (.int .i64 1)))⟩ ::
    ⟨some (165,false),.mv 168 (.t 9)⟩ ::
    ⟨some (165,false),.bin 169 .leq .num (.t 168) (.c (.v (.int .i64 1)))⟩ ::
    ⟨some (165,false),.bin 170 .neq .bool (.t 167) (.t 169)⟩ ::
    ⟨none,.pick 171 (.t 165) (.c (.v (.bool true))) (.t 170)⟩ ::
    ⟨none,.mv 172 (.t 171)⟩ ::
    ⟨some (172,false),.mv 173 (.t 21)⟩ ::
    ⟨some (172,false),.len 174 false (.t 173)⟩ ::
    ⟨some (172,false),.bin 175 .eql .num (.t 174) (.c (.v (.int .i64 0)))⟩ ::
    ⟨some (172,false),.mv 176 (.t 9)⟩ ::
    ⟨some (172,false),.bin 177 .leq .num (.t 176) (.c (.v (.int .i64 1)))⟩ ::
    ⟨some (172,false),.bin 178 .neq .bool (.t 175) (.t 177)⟩ ::
    ⟨none,.pick 179 (.t 172) (.c (.v (.bool true))) (.t 178)⟩ :: []))
  (.cnd (.t 179)
   (.seq (.ops [⟨none,.asg 6 (.c (.v (.bool false)))⟩])
   (.seq (.scr r3) .ret))
   .skip))
 (.seq (.ops (⟨none,.mv 180 (.t 24)⟩ ::
   ⟨none,.mv 181 (.t 15)⟩ ::
   ⟨none,.bin 182 .geq .num (.t 180) (.t 181)⟩ ::
   ⟨none,.mv 183 (.t 182)⟩ ::
   ⟨some (183,true),.mv 184 (.t 24)⟩ ::
   ⟨some (183,true),.mv 185 (.t 23)⟩ ::
   ⟨some (183,true),.bin 186 .mul .num (.t 184) (.t 185)⟩ ::
   ⟨some (183,true),.mv 187 (.t 0)⟩ ::
   ⟨some (183,true),.len 188 false (.t 187)⟩ ::
   ⟨some (183,true),.bin 189 .geq .num (.t 186) (.t 188)⟩ ::
   ⟨none,.pick 190 (.t 183) (.t 189) (.c (.v (.bool false)))⟩ ::
   ⟨none,.mv 191 (.t 190)⟩ ::
   ⟨some (191,true),.mv 192 (.t 23)⟩ ::
   ⟨some (191,true),.mv 193 (.t 9)⟩ ::
   ⟨some (191,true),.bin 194 .lss .num (.t 192) (.t 193)⟩ ::
   ⟨some (191,true),.mv 195 (.t 194)⟩ ::
   ⟨some (195,false),.mv 196 (.t 24)⟩ ::
   ⟨some (195,false),.mv 197 (.t 15)⟩ ::
   ⟨some (195,false),.bin 198 .eql .num (.t 196) (.t 197)⟩ ::
   ⟨some (191,true),.pick 199 (.t 195) (.c (.v (.bool true))) (.t 198)⟩ ::
   ⟨none,.pick 200 (.t 191) (.t 199) (.c (.v (.bool false)))⟩ ::
   ⟨none,.asg 6 (.t 200)⟩ :: []))
 (.seq (.scr r3) .ret)))))))))))))))))),
  201,[6]⟩
abbrev K4 : Nat:=13
def hints4 : List (List Bool):=[bits 33 [0]]
@[simp] def r4 : List Bool:=bits 33 [0]
@[simp] def R4 (s0 : V) : St:=tab 33 13 (fu dd 0 s0) dd
def c4 : MF:=⟨(.seq (.ops [⟨none,.asg 0 (.c (.v (.bool false)))⟩])
 (.seq (.ops [⟨none,.bld 6 [(.v (.int .i64 0)),(.v (.int .i64 0))] [(0,1,(.c (.v (.int .i64 0)))),(1,1,(.c (.v (.int .i64 2))))]⟩,
   ⟨none,.bld 7 [(.v (.int .i64 0)),(.v (.int .i64 0))] [(0,1,(.c (.v (.int .i64 1)))),(1,1,(.c (.v (.int .i64 2))))]⟩,
   ⟨none,.bs 8 2 2 [(.v (.int .i64 0)),(.v (.int .i64 0))] [(0,2,(.t 6)),(2,2,(.t 7))]⟩,
   ⟨none,.call (some 9) 6 [(.c (.v (.int .i64 3))),(.t 8)]⟩,
   ⟨none,.mv 5 (.t 9)⟩,
   ⟨none,.ext 10 (.t 5) 0⟩,
   ⟨none,.ext 11 (.t 5) 1⟩,
   ⟨none,.asg 1 (.t 10)⟩,
   ⟨none,.asg 2 (.t 11)⟩])
 (.seq (.ops [⟨none,.bld 13 [(.v (.int .i64 0)),(.v (.int .i64 0))] [(0,1,(.c (.v (.int .i64 0)))),(1,1,(.c (.v (.int .i64 2))))]⟩,
   ⟨none,.bld 14 [(.v (.int .i64 0)),(.v (.int .i64 0))] [(0,1,(.c (.v (.int .i64 1)))),(1,1,(.c (.v (.int .i64 2))))]⟩,
   ⟨none,.bs 15 2 2 [(.v (.int .i64 0)),(.v (.int .i64 0))] [(0,2,(.t 13)),(2,2,(.t 14))]⟩,
   ⟨none,.call (some 16) 13 [(.c (.v (.int .i64 3))),(.t 15),(.c (.v (.int .i64 1)))]⟩,
   ⟨none,.mv 12 (.t 16)⟩,
   ⟨none,.ext 17 (.t 12) 0⟩,
   ⟨none,.ext 18 (.t 12) 1⟩,
   ⟨none,.asg 3 (.t 17)⟩,
   ⟨none,.asg 4 (.t 18)⟩])
 (.seq (.ops [⟨none,.mv 19 (.t 1)⟩,
   ⟨none,.bin 20 .eql .num (.t 19) (.c (.v (.int .i64 2)))⟩,
   ⟨none,.mv 21 (.t 20)⟩,
   ⟨some (21,true),.mv 22 (.t 2)⟩,
   ⟨some (21,true),.bin 23 .eql .num (.t 22) (.c (.v (.int .i64 0)))⟩,
   ⟨none,.pick 24 (.t 21) (.t 23) (.c (.v (.bool false)))⟩,
   ⟨none,.mv 25 (.t 24)⟩,
   ⟨some (25,true),.mv 26 (.t 3)⟩,
   ⟨some (25,true),.bin 27 .eql .num (.t 26) (.c (.v (.int .i64 3)))⟩,
   ⟨none,.pick 28 (.t 25) (.t 27) (.c (.v (.bool false)))⟩,
   ⟨none,.mv 29 (.t 28)⟩,
   ⟨some (29,true),.mv 30 (.t 4)⟩,
   ⟨some (29,true),.bin 31 .eql .num (.t 30) (.c (.v (.int .i64 0)))⟩,
   ⟨none,.pick 32 (.t 29) (.t 31) (.c (.v (.bool false)))⟩,
   ⟨none,.asg 0 (.t 32)⟩])
 (.seq (.scr r4) .ret))))),
  33,[0]⟩
def hints6 : List (List Bool):=[bits 20 [4,5],bits 20 [4,5]]
@[simp] def r6 : List Bool:=bits 20 [4,5]
@[simp] def R6 (s4 s5 : V) : St:=tab 20 9 (fu (fu dd 5 s5) 4 s4) dd
def c6 : MF:=⟨(.seq (.ops [⟨none,.asg 4 (.c (.v (.int .i64 0)))⟩,
   ⟨none,.asg 5 (.c (.v (.int .i64 0)))⟩])
 (.seq (.ops [⟨none,.mv 9 (.t 0)⟩,
   ⟨none,.mv 10 (.t 1)⟩,
   ⟨none,.call (some 11) 17 [(.t 9),(.t 10)]⟩,
   ⟨none,.mv 8 (.t 11)⟩,
   ⟨none,.ext 12 (.t 8) 0⟩,
   ⟨none,.ext 13 (.t 8) 1⟩,
   ⟨none,.asg 6 (.t 12)⟩,
   ⟨none,.asg 7 (.t 13)⟩])
 (.seq (.seq (.ops [⟨none,.mv 14 (.t 7)⟩,
    ⟨none,.bin 15 .neq .num (.t 14) (.c (.v (.int .i64 0)))⟩])
  (.cnd (.t 15)
   (.seq (.ops [⟨none,.mv 16 (.t 7)⟩,
     ⟨none,.asg 4 (.c (.v (.int .i64 0)))⟩,
     ⟨none,.asg 5 (.t 16)⟩])
   (.seq (.scr r6) .ret))
   .skip))
 (.seq (.ops [⟨none,.mv 17 (.t 6)⟩,
   ⟨none,.call (some 18) 18 [(.t 17)]⟩,
   ⟨none,.len 19 false (.t 18)⟩,
   ⟨none,.asg 4 (.t 19)⟩,
   ⟨none,.asg 5 (.c (.v (.int .i64 0)))⟩])
 (.seq (.scr r6) .ret))))),
  20,[4,5]⟩
abbrev K8 : Nat:=9
def hints8 : List (List Bool):=[bits 19 [4,5],bits 19 [4,5]]
@[simp] def r8 : List Bool:=bits 19 [4,5]
@[simp] def R8 (s4 s5 : V) : St:=tab 19 9 (fu (fu dd 5 s5) 4 s4) dd
def c8 : MF:=⟨(.seq (.ops [⟨none,.asg 4 (.c (.nd (.sl true 1 0) []))⟩,
   ⟨none,.asg 5 (.c (.v (.int .i64 0)))⟩])
 (.seq (.ops [⟨none,.mv 9 (.t 0)⟩,
   ⟨none,.mv 10 (.t 1)⟩,
   ⟨none,.call (some 11) 17 [(.t 9),(.t 10)]⟩,
   ⟨none,.mv 8 (.t 11)⟩,
   ⟨none,.ext 12 (.t 8) 0⟩,
   ⟨none,.ext 13 (.t 8) 1⟩,
   ⟨none,.asg 6 (.t 12)⟩,
   ⟨none,.asg 7 (.t 13)⟩])
 (.seq (.seq (.ops [⟨none,.mv 14 (.t 7)⟩,
    ⟨none,.bin 15 .neq .num (.t 14) (.c (.v (.int .i64 0)))⟩])
  (.cnd (.t 15)
   (.seq (.ops [⟨none,.mv 16 (.t 7)⟩,
     ⟨none,.asg 4 (.c (.nd (.sl true 1 0) []))⟩,
     ⟨none,.asg 5 (.t 16)⟩])
   (.seq (.scr r8) .ret))
   .skip))
 (.seq (.ops [⟨none,.mv 17 (.t 6)⟩,
   ⟨none,.call (some 18) 18 [(.t 17)]⟩,
   ⟨none,.asg 4 (.t 18)⟩,
   ⟨none,.asg 5 (.c (.v (.int .i64 0)))⟩])
 (.seq (.scr r8) .ret))))),
  19,[4,5]⟩
def hints9 : List (List Bool):=[bits 17 [4,5]]
@[simp] def r9 : List Bool:=bits 17 [4,5]
@[simp] def R9 (s4 s5 : V) : St:=tab 17 9 (fu (fu dd 5 s5) 4 s4) dd
def c9 : MF:=⟨(.seq (.ops [⟨none,.asg 4 (.c (.v (.int .i64 0)))⟩,
   ⟨none,.asg 5 (.c (.v (.int .i64 0)))⟩])
 (.seq (.ops [⟨none,.mv 9 (.t 0)⟩,
   ⟨none,.mv 10 (.t 1)⟩,
   ⟨none,.call (some 11) 10 [(.t 9),(.t 10)]⟩,
   ⟨none,.mv 8 (.t 11)⟩,
   ⟨none,.ext 12 (.t 8) 0⟩,
   ⟨none,.ext 13 (.t 8) 1⟩,
   ⟨none,.asg 6 (.t 12)⟩,
   ⟨none,.asg 7 (.t 13)⟩])
 (.seq (.ops [⟨none,.mv 14 (.t 6)⟩,
   ⟨none,.len 15 false (.t 14)⟩,
   ⟨none,.mv 16 (.t 7)⟩,
   ⟨none,.asg 4 (.t 15)⟩,
   ⟨none,.asg 5 (.t 16)⟩])
 (.seq (.scr r9) .ret)))),
  17,[4,5]⟩
def hints10 : List (List Bool):=[bits 54 [4,5],bits 54 [10],bits 54 [8,10,28,29,30],bits 54 [10],bits 54 [8,10,28,29,30],bits 54 [8,10,11,12,28,29,30],bits 54 [8,10,11,12,28,29,30],bits 54 [8,10,11,12,28,29,30],bits 54 [8,10,11,12,28,29,30],bits 54 [4,5]]
@[simp] def r10 : List Bool:=bits 54 [4,5]
@[simp] def R10 (s4 s5 : V) : St:=tab 54 31 (fu (fu dd 5 s5) 4 s4) dd
@[simp] def x10_0 : List Bool:=bits 54 [10]
@[simp] def X10_0 (s10 : V) : St:=tab 54 31 (fu dd 10 s10) dd
@[simp] def h10_0 : List Bool:=bits 54 [8,10,28,29,30]
@[simp] def L10_0 (s8 s10 s28 s29 s30 : V) : St:=tab 54 31 (fu (fu (fu (fu (fu dd 30 s30) 29 s29) 28 s28) 10 s10) 8 s8) dd
@[simp] def x10_1 : List Bool:=bits 54 [8,10,28,29,30]
@[simp] def X10_1 (s8 s10 s28 s29 s30 : V) : St:=tab 54 31 (fu (fu (fu (fu (fu dd 30 s30) 29 s29) 28 s28) 10 s10) 8 s8) dd
@[simp] def x10_2 : List Bool:=bits 54 [8,10,11,12,28,29,30]
@[simp] def X10_2 (s8 s10 s11 s12 s28 s29 s30 : V) : St:=tab 54 31 (fu (fu (fu (fu (fu (fu (fu dd 30 s30) 29 s29) 28 s28) 12 s12) 11 s11) 10 s10) 8 s8) dd
@[simp] def h10_1 : List Bool:=bits 54 [8,10,11,12,28,29,30]
@[simp] def L10_1 (s8 s10 s11 s12 s28 s29 s30 : V) : St:=tab 54 31 (fu (fu (fu (fu (fu (fu (fu dd 30 s30) 29 s29) 28 s28) 12 s12) 11 s11) 10 s10) 8 s8) dd
@[simp] def x10_3 : List Bool:=bits 54 [8,10,11,12,28,29,30]
@[simp] def X10_3 (s8 s10 s11 s12 s28 s29 s30 : V) : St:=tab 54 31 (fu (fu (fu (fu (fu (fu (fu dd 30 s30) 29 s29) 28 s28) 12 s12) 11 s11) 10 s10) 8 s8) dd
def b10_1 : MC:=.seq (.scr h10_1)
 (.seq (.seq (.ops [⟨none,.mv 35 (.t 10)⟩,
    ⟨none,.len 36 false (.t 35)⟩,
    ⟨none,.mv 37 (.t 12)⟩,
    ⟨none,.bin 38 .leq .num (.t 36) (.t 37)⟩])
  (.cnd (.t 38)
   .skip
   (.seq (.scr x10_2) (.ex 2))))
 (.seq (.blk 3 (.ops [⟨none,.mv 39 (.t 10)⟩,
   ⟨none,.bs 40 1 1 [(.nd (.sl true 1 0) [])] [(0,1,(.c (.nd (.sl true 1 0) [])))]⟩,
   ⟨none,.app 41 1 (.t 39) (.t 40)⟩,
   ⟨none,.asg 10 (.t 41)⟩])) (.scr x10_3)))
def b10_0 : MC:=.seq (.scr h10_0)
 (.seq (.ops [⟨none,.bin 31 .lss .num (.t 30) (.t 29)⟩])
 (.seq (.cnd (.t 31)
   .skip
   (.seq (.scr x10_0) (.ex 0)))
 (.seq (.seq (.blk 1 (.seq (.ops [⟨none,.mv 32 (.t 30)⟩,
     ⟨none,.ixs 33 1 (.t 28) (.t 30)⟩,
     ⟨none,.ld1 34 (.t 33)⟩,
     ⟨none,.asg 11 (.t 32)⟩,
     ⟨none,.asg 12 (.t 34)⟩])
   (.seq (.seq (.blk 2 (.lop b10_1)) (.scr x10_2))
   (.ops [⟨none,.mv 42 (.t 10)⟩,
    ⟨none,.mv 43 (.t 12)⟩,
    ⟨none,.mv 44 (.t 10)⟩,
    ⟨none,.mv 45 (.t 12)⟩,
    ⟨none,.ixs 46 1 (.t 44) (.t 45)⟩,
    ⟨none,.ld1 47 (.t 46)⟩,
    ⟨none,.mv 48 (.t 11)⟩,
    ⟨none,.bs 49 1 1 [(.v (.int .i64 0))] [(0,1,(.t 48))]⟩,
    ⟨none,.app 50 1 (.t 47) (.t 49)⟩,
    ⟨none,.ixs 51 1 (.t 42) (.t 43)⟩,
    ⟨none,.stn none 1 (.t 51) (.t 50)⟩])))) (.scr x10_1))
 (.ops [⟨none,.bin 52 .add .num (.t 30) (.c (.v (.int .i64 1)))⟩,
  ⟨none,.mv 30 (.t 52)⟩]))))
def c10 : MF:=⟨(.seq (.ops [⟨none,.asg 4 (.c (.nd (.sl true 1 0) []))⟩,
   ⟨none,.asg 5 (.c (.v (.int .i64 0)))⟩])
 (.seq (.seq (.ops [⟨none,.mv 14 (.t 0)⟩,
    ⟨none,.mv 15 (.t 1)⟩,
    ⟨none,.call (some 16) 17 [(.t 14),(.t 15)]⟩,
    ⟨none,.mv 13 (.t 16)⟩,
    ⟨none,.ext 17 (.t 13) 0⟩,
    ⟨none,.ext 18 (.t 13) 1⟩,
    ⟨none,.asg 6 (.t 17)⟩,
    ⟨none,.asg 7 (.t 18)⟩])
  (.seq (.ops [⟨none,.mv 19 (.t 7)⟩,
    ⟨none,.bin 20 .neq .num (.t 19) (.c (.v (.int .i64 0)))⟩])
  (.cnd (.t 20)
   (.seq (.ops [⟨none,.mv 21 (.t 7)⟩,
     ⟨none,.asg 4 (.c (.nd (.sl true 1 0) []))⟩,
     ⟨none,.asg 5 (.t 21)⟩])
   (.seq (.scr r10) .ret))
   .skip)))
 (.seq (.ops [⟨none,.mv 23 (.t 0)⟩,
   ⟨none,.mv 24 (.t 1)⟩,
   ⟨none,.call (some 25) 22 [(.t 23),(.t 24)]⟩,
   ⟨none,.mv 22 (.t 25)⟩,
   ⟨none,.ext 26 (.t 22) 0⟩,
   ⟨none,.ext 27 (.t 22) 1⟩,
   ⟨none,.asg 8 (.t 26)⟩,
   ⟨none,.asg 9 (.t 27)⟩])
 (.seq (.ops [⟨none,.asg 10 (.c (.nd (.sl true 1 0) []))⟩])
 (.seq (.seq (.ops [⟨none,.mv 28 (.t 8)⟩,
    ⟨none,.len 29 false (.t 28)⟩,
    ⟨none,.mv 30 (.c (.v (.int .i64 0)))⟩])
  (.seq (.blk 0 (.lop b10_0)) (.scr x10_0)))
 (.seq (.ops [⟨none,.mv 53 (.t 10)⟩,
   ⟨none,.asg 4 (.t 53)⟩,
   ⟨none,.asg 5 (.c (.v (.int .i64 0)))⟩])
 (.seq (.scr r10) .ret))))))),
  54,[4,5]⟩
def hints11 : List (List Bool):=[bits 19 [4,5],bits 19 [4,5]]
@[simp] def r11 : List Bool:=bits 19 [4,5]
@[simp] def R11 (s4 s5 : V) : St:=tab 19 7 (fu (fu dd 5 s5) 4 s4) dd
def c11 : MF:=⟨(.seq (.ops [⟨none,.asg 4 (.c (.v (.int .i64 0)))⟩,
   ⟨none,.asg 5 (.c (.v (.int .i64 0)))⟩])
 (.seq (.seq (.ops [⟨none,.mv 7 (.t 0)⟩,
    ⟨none,.mv 8 (.t 1)⟩,
    ⟨none,.call (some 9) 23 [(.t 7),(.t 8)]⟩,
    ⟨none,.asg 6 (.t 9)⟩])
  (.seq (.ops [⟨none,.mv 10 (.t 6)⟩,
    ⟨none,.bin 11 .neq .num (.t 10) (.c (.v (.int .i64 0)))⟩])
  (.cnd (.t 11)
   (.seq (.ops [⟨none,.mv 12 (.t 6)⟩,
     ⟨none,.asg 4 (.c (.v (.int .i64 0)))⟩,
     ⟨none,.asg 5 (.t 12)⟩])
   (.seq (.scr r11) .ret))
   .skip)))
 (.seq (.ops [⟨none,.mv 13 (.t 0)⟩,
   ⟨none,.mv 14 (.t 1)⟩,
   ⟨none,.call (some 15) 24 [(.t 13),(.t 14)]⟩,
   ⟨none,.fld 16 2 none (.t 15)⟩,
   ⟨none,.ixs 17 1 (.t 16) (.c (.v (.int .i64 0)))⟩,
   ⟨none,.ld1 18 (.t 17)⟩,
   ⟨none,.asg 4 (.t 18)⟩,
   ⟨none,.asg 5 (.c (.v (.int .i64 0)))⟩])
 (.seq (.scr r11) .ret)))),
  19,[4,5]⟩
abbrev K12 : Nat:=22
def hints12 : List (List Bool):=[bits 53 [4,5],bits 53 [8],bits 53 [0,1,8,20,21],bits 53 [8],bits 53 [0,1,8,20,21],bits 53 [0,1,8,20,21],bits 53 [0,1,8,9,10,20,21],bits 53 [0,1,8,20,21],bits 53 [0,1,8,9,10,20,21],bits 53 [4,5]]
@[simp] def r12 : List Bool:=bits 53 [4,5]
@[simp] def R12 (s4 s5 : V) : St:=tab 53 22 (fu (fu dd 5 s5) 4 s4) dd
@[simp] def x12_0 : List Bool:=bits 53 [8]
@[simp] def X12_0 (s8 : V) : St:=tab 53 22 (fu dd 8 s8) dd
@[simp] def h12_0 : List Bool:=bits 53 [0,1,8,20,21]
@[simp] def L12_0 (s0 s1 s8 s20 s21 : V) : St:=tab 53 22 (fu (fu (fu (fu (fu dd 21 s21) 20 s20) 8 s8) 1 s1) 0 s0) dd
@[simp] def x12_1 : List Bool:=bits 53 [0,1,8,20,21]
@[simp] def X12_1 (s0 s1 s8 s20 s21 : V) : St:=tab 53 22 (fu (fu (fu (fu (fu dd 21 s21) 20 s20) 8 s8) 1 s1) 0 s0) dd
@[simp] def x12_2 : List Bool:=bits 53 [0,1,8,20,21]
@[simp] def X12_2 (s0 s1 s8 s20 s21 : V) : St:=tab 53 22 (fu (fu (fu (fu (fu dd 21 s21) 20 s20) 8 s8) 1 s1) 0 s0) dd
@[simp] def h12_1 : List Bool:=bits 53 [0,1,8,9,10,20,21]
@[simp] def L12_1 (s0 s1 s8 s9 s10 s20 s21 : V) : St:=tab 53 22 (fu (fu (fu (fu (fu (fu (fu dd 21 s21) 20 s20) 10 s10) 9 s9) 8 s8) 1 s1) 0 s0) dd
@[simp] def x12_3 : List Bool:=bits 53 [0,1,8,9,10,20,21]
@[simp] def X12_3 (s0 s1 s8 s9 s10 s20 s21 : V) : St:=tab 53 22 (fu (fu (fu (fu (fu (fu (fu dd 21 s21) 20 s20) 10 s10) 9 s9) 8 s8) 1 s1) 0 s0) dd
def b12_1 : MC:=.seq (.scr h12_1)
 (.seq (.seq (.ops [⟨none,.mv 26 (.t 10)⟩,
    ⟨none,.mv 27 (.t 0)⟩,
    ⟨none,.bin 28 .lss .num (.t 26) (.t 27)⟩])
  (.cnd (.t 28)
   .skip
   (.seq (.scr x12_2) (.ex 2))))
 (.seq (.seq (.blk 3 (.seq (.ops [⟨none,.mv 31 (.t 0)⟩,
     ⟨none,.mv 32 (.t 1)⟩,
     ⟨none,.mv 33 (.t 9)⟩,
     ⟨none,.mv 34 (.t 10)⟩,
     ⟨none,.call (some 35) 26 [(.t 31),(.t 32),(.t 33),(.t 34)]⟩,
     ⟨none,.un 36 .not (.t 35)⟩,
     ⟨none,.mv 37 (.t 36)⟩,
     ⟨some (37,true),.mv 38 (.t 0)⟩,
     ⟨some (37,true),.mv 39 (.t 1)⟩,
     ⟨some (37,true),.mv 40 (.t 10)⟩,
     ⟨some (37,true),.mv 41 (.t 9)⟩,
     ⟨some (37,true),.call (some 42) 26 [(.t 38),(.t 39),(.t 40),(.t 41)]⟩,
     ⟨some (37,true),.un 43 .not (.t 42)⟩,
     ⟨none,.pick 44 (.t 37) (.t 43) (.c (.v (.bool false)))⟩])
   (.cnd (.t 44)
    (.ops [⟨none,.mv 45 (.t 8)⟩,
     ⟨none,.mv 46 (.t 9)⟩,
     ⟨none,.mv 47 (.t 10)⟩,
     ⟨none,.bld 48 [(.v (.int .i64 0)),(.v (.int .i64 0))] [(0,1,(.t 46)),(1,1,(.t 47))]⟩,
     ⟨none,.bs 49 2 1 [(.v (.int .i64 0)),(.v (.int .i64 0))] [(0,2,(.t 48))]⟩,
     ⟨none,.app 50 2 (.t 45) (.t 49)⟩,
     ⟨none,.asg 8 (.t 50)⟩])
    .skip))) (.scr x12_3))
 (.ops [⟨none,.mv 29 (.t 10)⟩,
  ⟨none,.bin 30 .add .num (.t 29) (.c (.v (.int .i64 1)))⟩,
  ⟨none,.asg 10 (.t 30)⟩])))
def b12_0 : MC:=.seq (.scr h12_0)
 (.seq (.ops [⟨none,.bin 22 .lss .num (.t 21) (.t 20)⟩])
 (.seq (.cnd (.t 22)
   .skip
   (.seq (.scr x12_0) (.ex 0)))
 (.seq (.seq (.blk 1 (.seq (.ops [⟨none,.mv 23 (.t 21)⟩,
     ⟨none,.asg 9 (.t 23)⟩])
   (.seq (.ops [⟨none,.mv 24 (.t 9)⟩,
     ⟨none,.bin 25 .add .num (.t 24) (.c (.v (.int .i64 1)))⟩,
     ⟨none,.asg 10 (.t 25)⟩])
   (.seq (.blk 2 (.lop b12_1)) (.scr x12_2))))) (.scr x12_1))
 (.ops [⟨none,.bin 51 .add .num (.t 21) (.c (.v (.int .i64 1)))⟩,
  ⟨none,.mv 21 (.t 51)⟩]))))
def c12 : MF:=⟨(.seq (.ops [⟨none,.asg 4 (.c (.nd (.sl true 2 0) []))⟩,
   ⟨none,.asg 5 (.c (.v (.int .i64 0)))⟩])
 (.seq (.seq (.ops [⟨none,.mv 12 (.t 0)⟩,
    ⟨none,.mv 13 (.t 1)⟩,
    ⟨none,.call (some 14) 25 [(.t 12),(.t 13)]⟩,
    ⟨none,.mv 11 (.t 14)⟩,
    ⟨none,.ext 15 (.t 11) 0⟩,
    ⟨none,.ext 16 (.t 11) 1⟩,
    ⟨none,.asg 6 (.t 15)⟩,
    ⟨none,.asg 7 (.t 16)⟩])
  (.seq (.ops [⟨none,.mv 17 (.t 7)⟩,
    ⟨none,.bin 18 .neq .num (.t 17) (.c (.v (.int .i64 0)))⟩])
  (.cnd (.t 18)
   (.seq (.ops [⟨none,.mv 19 (.t 7)⟩,
     ⟨none,.asg 4 (.c (.nd (.sl true 2 0) []))⟩,
     ⟨none,.asg 5 (.t 19)⟩])
   (.seq (.scr r12) .ret))
   .skip)))
 (.seq (.ops [⟨none,.asg 8 (.c (.nd (.sl true 2 0) []))⟩])
 (.seq (.seq (.ops [⟨none,.mv 20 (.t 0)⟩,
    ⟨none,.mv 21 (.c (.v (.int .i64 0)))⟩])
  (.seq (.blk 0 (.lop b12_0)) (.scr x12_0)))
 (.seq (.ops [⟨none,.mv 52 (.t 8)⟩,
   ⟨none,.asg 4 (.t 52)⟩,
   ⟨none,.asg 5 (.c (.v (.int .i64 0)))⟩])
 (.seq (.scr r12) .ret)))))),
  53,[4,5]⟩
def hints14 : List (List Bool):=[bits 77 [6],bits 77 [0,9],bits 77 [0,2,7,9,22,23,24],bits 77 [0,9],bits 77 [0,2,7,9,22,23,24],bits 77 [6],bits 77 [0,2,7,9,22,23,24],bits 77 [0,2,7,9,11,22,23,24,26,27,31,32,33],bits 77 [0,2,7,9,22,23,24],bits 77 [0,2,7,9,11,22,23,24,26,27,31,32,33],bits 77 [6],bits 77 [6]]
@[simp] def r14 : List Bool:=bits 77 [6]
@[simp] def R14 (s6 : V) : St:=tab 77 34 (fu dd 6 s6) dd
@[simp] def x14_0 : List Bool:=bits 77 [0,9]
@[simp] def X14_0 (s0 s9 : V) : St:=tab 77 34 (fu (fu dd 9 s9) 0 s0) dd
@[simp] def h14_0 : List Bool:=bits 77 [0,2,7,9,22,23,24]
@[simp] def L14_0 (s0 s2 s7 s9 s22 s23 s24 : V) : St:=tab 77 34 (fu (fu (fu (fu (fu (fu (fu dd 24 s24) 23 s23) 22 s22) 9 s9) 7 s7) 2 s2) 0 s0) dd
@[simp] def x14_1 : List Bool:=bits 77 [0,2,7,9,22,23,24]
@[simp] def X14_1 (s0 s2 s7 s9 s22 s23 s24 : V) : St:=tab 77 34 (fu (fu (fu (fu (fu (fu (fu dd 24 s24) 23 s23) 22 s22) 9 s9) 7 s7) 2 s2) 0 s0) dd
@[simp] def x14_2 : List Bool:=bits 77 [0,2,7,9,22,23,24]
@[simp] def X14_2 (s0 s2 s7 s9 s22 s23 s24 : V) : St:=tab 77 34 (fu (fu (fu (fu (fu (fu (fu dd 24 s24) 23 s23) 22 s22) 9 s9) 7 s7) 2 s2) 0 s0) dd
@[simp] def h14_1 : List Bool:=bits 77 [0,2,7,9,11,22,23,24,26,27,31,32,33]
@[simp] def L14_1 (s0 s2 s7 s9 s11 s22 s23 s24 s26 s27 s31 s32 s33 : V) : St:=tab 77 34 (fu (fu (fu (fu (fu (fu (fu (fu (fu (fu (fu (fu (fu dd 33 s33) 32 s32) 31 s31) 27 s27) 26 s26) 24 s24) 23 s23) 22 s22) 11 s11) 9 s9) 7 s7) 2 s2) 0 s0) dd
@[simp] def x14_3 : List Bool:=bits 77 [0,2,7,9,11,22,23,24,26,27,31,32,33]
@[simp] def X14_3 (s0 s2 s7 s9 s11 s22 s23 s24 s26 s27 s31 s32 s33 : V) : St:=tab 77 34 (fu (fu (fu (fu (fu (fu (fu (fu (fu (fu (fu (fu (fu dd 33 s33) 32 s32) 31 s31) 27 s27) 26 s26) 24 s24) 23 s23) 22 s22) 11 s11) 9 s9) 7 s7) 2 s2) 0 s0) dd
def b14_1 : MC:=.seq (.scr h14_1)
 (.seq (.ops [⟨none,.bin 34 .lss .num (.t 33) (.t 32)⟩])
 (.seq (.cnd (.t 34)
   .skip
   (.seq (.scr x14_2) (.ex 2)))
 (.seq (.seq (.blk 3 (.seq (.ops [⟨none,.mv 35 (.t 33)⟩,
     ⟨none,.ixs 36 1 (.t 31) (.t 33)⟩,
     ⟨none,.ld1 37 (.t 36)⟩,
     ⟨none,.asg 12 (.t 35)⟩,
     ⟨none,.asg 13 (.t 37)⟩])
   (.seq (.seq (.ops (⟨none,.mv 38 (.t 13)⟩ ::
      ⟨none,.bin 39 .lss .num (.t 38) (.c (.v (.int .i64 0)))⟩ ::
      ⟨none,.mv 40 (.t 39)⟩ ::
      ⟨some (40,false),.mv 41 (.t 13)⟩ ::
      ⟨some (40,false),.mv 42 (.t 0)⟩ ::
      ⟨some (40,false),.bin 43 .geq .num (.t 41) (.t 42)⟩ ::
      ⟨none,.pick 44 (.t 40) (.c (.v (.bool true))) (.t 43)⟩ ::
      ⟨none,.mv 45 (.t 44)⟩ ::
      ⟨some (45,false),.mv 46 (.t 9)⟩ ::
      ⟨some (45,false),.mv 47 (.t 13)⟩ ::
      ⟨some (45,false),.bin 48 .shr .num (.t 46) (.t 47)⟩ ::
      ⟨some (45,false),.bin 49 .and .num (.t 48) (.c (.v (.int .u64 1)))⟩ ::
      ⟨some (45,false),.bin 50 .neq .num (.t 49) (.c (.v (.int .u64 0)))⟩ ::
      ⟨none,.pick 51 (.t 45) (.c (.v (.bool true))) (.t 50)⟩ ::
      ⟨none,.mv 52 (.t 51)⟩ ::
      ⟨some (52,false),.mv 53 (.t 12)⟩ ::
      ⟨some (52,false),.bin 54 .gtr .num (.t 53) (.c (.v (.int .i64 0)))⟩ ::
      ⟨some (52,false),.mv 55 (.t 54)⟩ ::
      ⟨some (55,true),.mv 56 (.t 7)⟩ ::
      ⟨some (55,true),.mv 57 (.t 11)⟩ ::
      ⟨some (55,true),.mv 58 (.t 12)⟩ ::
      ⟨some (55,true),.bin 59 .sub .num (.t 58) (.c (.v (.int .i64 1)))⟩ ::
      ⟨some (55,true),.ixs 60 1 (.t 57) (.t 59)⟩ ::
      ⟨some (55,true),.ld1 61 (.t 60)⟩ ::
      ⟨some (55,true),.mv 62 (.t 13)⟩ ::
      ⟨some (55,true),.call (some 63) 21 [(.t 56),(.t 61),(.t 62)]⟩ ::
      ⟨some (55,true),.un 64 .not (.t 63)⟩ ::
      ⟨some (52,false),.pick 65 (.t 55) (.t 64) (.c (.v (.bool false)))⟩ ::
      ⟨none,.pick 66 (.t 52) (.c (.v (.bool true))) (.t 65)⟩ :: []))
    (.cnd (.t 66)
     (.seq (.ops [⟨none,.asg 6 (.c (.v (.bool false)))⟩])
     (.seq (.scr r14) .ret))
     .skip))
   (.ops [⟨none,.mv 67 (.t 9)⟩,
    ⟨none,.mv 68 (.t 13)⟩,
    ⟨none,.bin 69 .shl .num (.c (.v (.int .u64 1))) (.t 68)⟩,
    ⟨none,.bin 70 .or .num (.t 67) (.t 69)⟩,
    ⟨none,.asg 9 (.t 70)⟩])))) (.scr x14_3))
 (.ops [⟨none,.bin 71 .add .num (.t 33) (.c (.v (.int .i64 1)))⟩,
  ⟨none,.mv 33 (.t 71)⟩]))))
def b14_0 : MC:=.seq (.scr h14_0)
 (.seq (.ops [⟨none,.bin 25 .lss .num (.t 24) (.t 23)⟩])
 (.seq (.cnd (.t 25)
   .skip
   (.seq (.scr x14_0) (.ex 0)))
 (.seq (.seq (.blk 1 (.seq (.ops [⟨none,.ixs 26 1 (.t 22) (.t 24)⟩,
     ⟨none,.ld1 27 (.t 26)⟩,
     ⟨none,.asg 11 (.t 27)⟩])
   (.seq (.seq (.ops [⟨none,.mv 28 (.t 11)⟩,
      ⟨none,.len 29 false (.t 28)⟩,
      ⟨none,.bin 30 .eql .num (.t 29) (.c (.v (.int .i64 0)))⟩])
    (.cnd (.t 30)
     (.seq (.ops [⟨none,.asg 6 (.c (.v (.bool false)))⟩])
     (.seq (.scr r14) .ret))
     .skip))
   (.seq (.ops [⟨none,.mv 31 (.t 11)⟩,
     ⟨none,.len 32 false (.t 31)⟩,
     ⟨none,.mv 33 (.c (.v (.int .i64 0)))⟩])
   (.seq (.blk 2 (.lop b14_1)) (.scr x14_2)))))) (.scr x14_1))
 (.ops [⟨none,.bin 72 .add .num (.t 24) (.c (.v (.int .i64 1)))⟩,
  ⟨none,.mv 24 (.t 72)⟩]))))
def c14 : MF:=⟨(.seq (.ops [⟨none,.asg 6 (.c (.v (.bool false)))⟩])
 (.seq (.ops [⟨none,.mv 15 (.t 0)⟩,
   ⟨none,.mv 16 (.t 1)⟩,
   ⟨none,.call (some 17) 17 [(.t 15),(.t 16)]⟩,
   ⟨none,.mv 14 (.t 17)⟩,
   ⟨none,.ext 18 (.t 14) 0⟩,
   ⟨none,.ext 19 (.t 14) 1⟩,
   ⟨none,.asg 7 (.t 18)⟩,
   ⟨none,.asg 8 (.t 19)⟩])
 (.seq (.seq (.ops [⟨none,.mv 20 (.t 8)⟩,
    ⟨none,.bin 21 .neq .num (.t 20) (.c (.v (.int .i64 0)))⟩])
  (.cnd (.t 21)
   (.seq (.ops [⟨none,.asg 6 (.c (.v (.bool false)))⟩])
   (.seq (.scr r14) .ret))
   .skip))
 (.seq (.ops [⟨none,.asg 9 (.c (.v (.int .u64 0)))⟩])
 (.seq (.seq (.ops [⟨none,.mv 22 (.t 2)⟩,
    ⟨none,.len 23 false (.t 22)⟩,
    ⟨none,.mv 24 (.c (.v (.int .i64 0)))⟩])
  (.seq (.blk 0 (.lop b14_0)) (.scr x14_0)))
 (.seq (.ops [⟨none,.mv 73 (.t 9)⟩,
   ⟨none,.call (some 74) 28 [(.t 73)]⟩,
   ⟨none,.mv 75 (.t 0)⟩,
   ⟨none,.bin 76 .eql .num (.t 74) (.t 75)⟩,
   ⟨none,.asg 6 (.t 76)⟩])
 (.seq (.scr r14) .ret))))))),
  77,[6]⟩
def hints17 : List (List Bool):=[bits 50 [0,1],bits 50 [4,5],bits 50 [4,5],bits 50 [4,5],bits 50 [6],bits 50 [6,7,32,33,34],bits 50 [6],bits 50 [6,7,32,33,34],bits 50 [4,5]]
@[simp] def r17 : List Bool:=bits 50 [4,5]
@[simp] def R17 (s4 s5 : V) : St:=tab 50 35 (fu (fu dd 5 s5) 4 s4) dd
@[simp] def x17_0 : List Bool:=bits 50 [0,1]
@[simp] def X17_0 (s0 s1 : V) : St:=tab 50 35 (fu (fu dd 1 s1) 0 s0) dd
@[simp] def x17_1 : List Bool:=bits 50 [6]
@[simp] def X17_1 (s6 : V) : St:=tab 50 35 (fu dd 6 s6) dd
@[simp] def h17_0 : List Bool:=bits 50 [6,7,32,33,34]
@[simp] def L17_0 (s6 s7 s32 s33 s34 : V) : St:=tab 50 35 (fu (fu (fu (fu (fu dd 34 s34) 33 s33) 32 s32) 7 s7) 6 s6) dd
@[simp] def x17_2 : List Bool:=bits 50 [6,7,32,33,34]
@[simp] def X17_2 (s6 s7 s32 s33 s34 : V) : St:=tab 50 35 (fu (fu (fu (fu (fu dd 34 s34) 33 s33) 32 s32) 7 s7) 6 s6) dd
def b17_0 : MC:=.seq (.scr h17_0)
 (.seq (.ops [⟨none,.bin 35 .lss .num (.t 34) (.t 33)⟩])
 (.seq (.cnd (.t 35)
   .skip
   (.seq (.scr x17_1) (.ex 1)))
 (.seq (.seq (.blk 2 (.seq (.ops [⟨none,.ixs 36 2 (.t 32) (.t 34)⟩,
     ⟨none,.ldn 37 2 (.t 36)⟩,
     ⟨none,.alc 10 [(.v (.int .i64 0)),(.v (.int .i64 0))]⟩,
     ⟨none,.stn none 2 (.t 10) (.t 37)⟩])
   (.drw [⟨none,.mv 38 (.t 6)⟩,
    ⟨none,.fa 39 0 (.t 10)⟩,
    ⟨none,.ld1 40 (.t 39)⟩,
    ⟨none,.ixs 41 1 (.t 38) (.t 40)⟩,
    ⟨none,.ld1 42 (.t 41)⟩,
    ⟨none,.fa 43 1 (.t 10)⟩,
    ⟨none,.ld1 44 (.t 43)⟩,
    ⟨none,.bin 45 .shl .num (.c (.v (.int .u64 1))) (.t 44)⟩] [⟨none,.bin 46 .or .num (.t 42) (.t 45)⟩,
    ⟨none,.ixs 47 1 (.t 38) (.t 40)⟩,
    ⟨none,.stn none 1 (.t 47) (.t 46)⟩]))) (.scr x17_2))
 (.ops [⟨none,.bin 48 .add .num (.t 34) (.c (.v (.int .i64 1)))⟩,
  ⟨none,.mv 34 (.t 48)⟩]))))
def c17 : MF:=⟨(.seq (.ops [⟨none,.asg 4 (.c (.nd (.sl true 1 0) []))⟩,
   ⟨none,.asg 5 (.c (.v (.int .i64 0)))⟩])
 (.seq (.seq (.blk 0 (.seq (.ops [⟨none,.mv 12 (.t 0)⟩,
     ⟨none,.mv 13 (.t 1)⟩,
     ⟨none,.call (some 14) 38 [(.t 12),(.t 13)]⟩,
     ⟨none,.un 15 .not (.t 14)⟩,
     ⟨none,.asg 11 (.t 15)⟩])
   (.cnd (.t 11)
    (.seq (.ops [⟨none,.asg 4 (.c (.nd (.sl true 1 0) []))⟩,
      ⟨none,.asg 5 (.c (.v (.int .i64 1)))⟩])
    (.seq (.scr r17) .ret))
    (.seq (.ops [⟨none,.mv 17 (.t 0)⟩,
      ⟨none,.bin 18 .gtr .num (.t 17) (.c (.v (.int .i64 12)))⟩,
      ⟨none,.asg 16 (.t 18)⟩])
    (.cnd (.t 16)
     (.seq (.ops [⟨none,.asg 4 (.c (.nd (.sl true 1 0) []))⟩,
       ⟨none,.asg 5 (.c (.v (.int .i64 6)))⟩])
     (.seq (.scr r17) .ret))
     (.seq (.ops [⟨none,.mv 20 (.t 0)⟩,
       ⟨none,.mv 21 (.t 1)⟩,
       ⟨none,.call (some 22) 39 [(.t 20),(.t 21)]⟩,
       ⟨none,.un 23 .not (.t 22)⟩,
       ⟨none,.asg 19 (.t 23)⟩])
     (.cnd (.t 19)
      (.seq (.ops [⟨none,.asg 4 (.c (.nd (.sl true 1 0) []))⟩,
        ⟨none,.asg 5 (.c (.v (.int .i64 11)))⟩])
      (.seq (.scr r17) .ret))
      .skip))))))) (.scr x17_0))
 (.seq (.ops [⟨none,.mv 24 (.t 0)⟩,
   ⟨none,.mks 25 1 [(.v (.int .u64 0))] (.t 24) (.t 24)⟩,
   ⟨none,.asg 6 (.t 25)⟩])
 (.seq (.ops [⟨none,.mv 27 (.t 0)⟩,
   ⟨none,.mv 28 (.t 1)⟩,
   ⟨none,.call (some 29) 40 [(.t 27),(.t 28)]⟩,
   ⟨none,.mv 26 (.t 29)⟩,
   ⟨none,.ext 30 (.t 26) 0⟩,
   ⟨none,.ext 31 (.t 26) 1⟩,
   ⟨none,.asg 7 (.t 30)⟩,
   ⟨none,.asg 8 (.t 31)⟩])
 (.seq (.seq (.ops [⟨none,.mv 32 (.t 7)⟩,
    ⟨none,.len 33 false (.t 32)⟩,
    ⟨none,.mv 34 (.c (.v (.int .i64 0)))⟩])
  (.seq (.blk 1 (.lop b17_0)) (.scr x17_1)))
 (.seq (.ops [⟨none,.mv 49 (.t 6)⟩,
   ⟨none,.asg 4 (.t 49)⟩,
   ⟨none,.asg 5 (.c (.v (.int .i64 0)))⟩])
 (.seq (.scr r17) .ret))))))),
  50,[4,5]⟩
def hints21 : List (List Bool):=[bits 15 [6]]
@[simp] def r21 : List Bool:=bits 15 [6]
@[simp] def R21 (s6 : V) : St:=tab 15 7 (fu dd 6 s6) dd
def c21 : MF:=⟨(.seq (.ops [⟨none,.asg 6 (.c (.v (.bool false)))⟩])
 (.seq (.ops [⟨none,.mv 7 (.t 0)⟩,
   ⟨none,.mv 8 (.t 1)⟩,
   ⟨none,.ixs 9 1 (.t 7) (.t 8)⟩,
   ⟨none,.ld1 10 (.t 9)⟩,
   ⟨none,.mv 11 (.t 2)⟩,
   ⟨none,.bin 12 .shr .num (.t 10) (.t 11)⟩,
   ⟨none,.bin 13 .and .num (.t 12) (.c (.v (.int .u64 1)))⟩,
   ⟨none,.bin 14 .neq .num (.t 13) (.c (.v (.int .u64 0)))⟩,
   ⟨none,.asg 6 (.t 14)⟩])
 (.seq (.scr r21) .ret))),
  15,[6]⟩
def hints22 : List (List Bool):=[bits 59 [4,5],bits 59 [9],bits 59 [0,6,8,9,27,28,29],bits 59 [9],bits 59 [0,6,8,9,27,28,29],bits 59 [0,6,8,9,27,28,29],bits 59 [0,6,8,9,11,27,28,29,33,34],bits 59 [0,6,8,9,27,28,29],bits 59 [0,6,8,9,11,27,28,29,33,34],bits 59 [4,5]]
@[simp] def r22 : List Bool:=bits 59 [4,5]
@[simp] def R22 (s4 s5 : V) : St:=tab 59 35 (fu (fu dd 5 s5) 4 s4) dd
@[simp] def x22_0 : List Bool:=bits 59 [9]
@[simp] def X22_0 (s9 : V) : St:=tab 59 35 (fu dd 9 s9) dd
@[simp] def h22_0 : List Bool:=bits 59 [0,6,8,9,27,28,29]
@[simp] def L22_0 (s0 s6 s8 s9 s27 s28 s29 : V) : St:=tab 59 35 (fu (fu (fu (fu (fu (fu (fu dd 29 s29) 28 s28) 27 s27) 9 s9) 8 s8) 6 s6) 0 s0) dd
@[simp] def x22_1 : List Bool:=bits 59 [0,6,8,9,27,28,29]
@[simp] def X22_1 (s0 s6 s8 s9 s27 s28 s29 : V) : St:=tab 59 35 (fu (fu (fu (fu (fu (fu (fu dd 29 s29) 28 s28) 27 s27) 9 s9) 8 s8) 6 s6) 0 s0) dd
@[simp] def x22_2 : List Bool:=bits 59 [0,6,8,9,27,28,29]
@[simp] def X22_2 (s0 s6 s8 s9 s27 s28 s29 : V) : St:=tab 59 35 (fu (fu (fu (fu (fu (fu (fu dd 29 s29) 28 s28) 27 s27) 9 s9) 8 s8) 6 s6) 0 s0) dd
@[simp] def h22_1 : List Bool:=bits 59 [0,6,8,9,11,27,28,29,33,34]
@[simp] def L22_1 (s0 s6 s8 s9 s11 s27 s28 s29 s33 s34 : V) : St:=tab 59 35 (fu (fu (fu (fu (fu (fu (fu (fu (fu (fu dd 34 s34) 33 s33) 29 s29) 28 s28) 27 s27) 11 s11) 9 s9) 8 s8) 6 s6) 0 s0) dd
@[simp] def x22_3 : List Bool:=bits 59 [0,6,8,9,11,27,28,29,33,34]
@[simp] def X22_3 (s0 s6 s8 s9 s11 s27 s28 s29 s33 s34 : V) : St:=tab 59 35 (fu (fu (fu (fu (fu (fu (fu (fu (fu (fu dd 34 s34) 33 s33) 29 s29) 28 s28) 27 s27) 11 s11) 9 s9) 8 s8) 6 s6) 0 s0) dd
def b22_1 : MC:=.seq (.scr h22_1)
 (.seq (.ops [⟨none,.bin 35 .lss .num (.t 34) (.t 33)⟩])
 (.seq (.cnd (.t 35)
   .skip
   (.seq (.scr x22_2) (.ex 2)))
 (.seq (.seq (.blk 3 (.seq (.ops [⟨none,.mv 36 (.t 34)⟩,
     ⟨none,.asg 12 (.t 36)⟩])
   (.seq (.ops [⟨none,.mv 37 (.t 8)⟩,
     ⟨none,.mv 38 (.t 11)⟩,
     ⟨none,.ixs 39 1 (.t 37) (.t 38)⟩,
     ⟨none,.ld1 40 (.t 39)⟩,
     ⟨none,.mv 41 (.t 12)⟩,
     ⟨none,.call (some 42) 48 [(.t 40),(.t 41)]⟩])
   (.cnd (.t 42)
    (.drw [⟨none,.mv 43 (.t 9)⟩,
     ⟨none,.mv 44 (.t 12)⟩,
     ⟨none,.mv 45 (.t 9)⟩,
     ⟨none,.mv 46 (.t 12)⟩,
     ⟨none,.ixs 47 1 (.t 45) (.t 46)⟩,
     ⟨none,.ld1 48 (.t 47)⟩,
     ⟨none,.mv 49 (.t 9)⟩,
     ⟨none,.mv 50 (.t 11)⟩,
     ⟨none,.ixs 51 1 (.t 49) (.t 50)⟩,
     ⟨none,.ld1 52 (.t 51)⟩,
     ⟨none,.bin 53 .add .num (.t 52) (.c (.v (.int .i64 1)))⟩,
     ⟨none,.mm 54 true (.t 48) (.t 53)⟩] [⟨none,.ixs 55 1 (.t 43) (.t 44)⟩,
     ⟨none,.stn none 1 (.t 55) (.t 54)⟩])
    .skip)))) (.scr x22_3))
 (.ops [⟨none,.bin 56 .add .num (.t 34) (.c (.v (.int .i64 1)))⟩,
  ⟨none,.mv 34 (.t 56)⟩]))))
def b22_0 : MC:=.seq (.scr h22_0)
 (.seq (.ops [⟨none,.bin 30 .lss .num (.t 29) (.t 28)⟩])
 (.seq (.cnd (.t 30)
   .skip
   (.seq (.scr x22_0) (.ex 0)))
 (.seq (.seq (.blk 1 (.seq (.ops [⟨none,.ixs 31 1 (.t 27) (.t 29)⟩,
     ⟨none,.ld1 32 (.t 31)⟩,
     ⟨none,.asg 11 (.t 32)⟩])
   (.seq (.ops [⟨none,.mv 33 (.t 0)⟩,
     ⟨none,.mv 34 (.c (.v (.int .i64 0)))⟩])
   (.seq (.blk 2 (.lop b22_1)) (.scr x22_2))))) (.scr x22_1))
 (.ops [⟨none,.bin 57 .add .num (.t 29) (.c (.v (.int .i64 1)))⟩,
  ⟨none,.mv 29 (.t 57)⟩]))))
def c22 : MF:=⟨(.seq (.ops [⟨none,.asg 4 (.c (.nd (.sl true 1 0) []))⟩,
   ⟨none,.asg 5 (.c (.v (.int .i64 0)))⟩])
 (.seq (.ops [⟨none,.mv 14 (.t 0)⟩,
   ⟨none,.mv 15 (.t 1)⟩,
   ⟨none,.call (some 16) 46 [(.t 14),(.t 15)]⟩,
   ⟨none,.mv 13 (.t 16)⟩,
   ⟨none,.ext 17 (.t 13) 0⟩,
   ⟨none,.ext 18 (.t 13) 1⟩,
   ⟨none,.asg 6 (.t 17)⟩,
   ⟨none,.asg 7 (.t 18)⟩])
 (.seq (.seq (.ops [⟨none,.mv 19 (.t 7)⟩,
    ⟨none,.bin 20 .neq .num (.t 19) (.c (.v (.int .i64 0)))⟩])
  (.cnd (.t 20)
   (.seq (.ops [⟨none,.mv 21 (.t 7)⟩,
     ⟨none,.asg 4 (.c (.nd (.sl true 1 0) []))⟩,
     ⟨none,.asg 5 (.t 21)⟩])
   (.seq (.scr r22) .ret))
   .skip))
 (.seq (.ops [⟨none,.mv 22 (.t 0)⟩,
   ⟨none,.mv 23 (.t 1)⟩,
   ⟨none,.call (some 24) 47 [(.t 22),(.t 23)]⟩,
   ⟨none,.asg 8 (.t 24)⟩])
 (.seq (.ops [⟨none,.mv 25 (.t 0)⟩,
   ⟨none,.mks 26 1 [(.v (.int .i64 0))] (.t 25) (.t 25)⟩,
   ⟨none,.asg 9 (.t 26)⟩])
 (.seq (.seq (.ops [⟨none,.mv 27 (.t 6)⟩,
    ⟨none,.len 28 false (.t 27)⟩,
    ⟨none,.mv 29 (.c (.v (.int .i64 0)))⟩])
  (.seq (.blk 0 (.lop b22_0)) (.scr x22_0)))
 (.seq (.ops [⟨none,.mv 58 (.t 9)⟩,
   ⟨none,.asg 4 (.t 58)⟩,
   ⟨none,.asg 5 (.c (.v (.int .i64 0)))⟩])
 (.seq (.scr r22) .ret)))))))),
  59,[4,5]⟩
def hints23 : List (List Bool):=[bits 18 [],bits 18 [4],bits 18 [4],bits 18 [4],bits 18 [4]]
@[simp] def r23 : List Bool:=bits 18 [4]
@[simp] def R23 (s4 : V) : St:=tab 18 14 (fu dd 4 s4) dd
@[simp] def x23_0 : List Bool:=bits 18 []
@[simp] def X23_0 : St:=tab 18 14 dd dd
def c23 : MF:=⟨(.seq (.ops [⟨none,.asg 4 (.c (.v (.int .i64 0)))⟩])
 (.seq (.seq (.blk 0 (.seq (.ops [⟨none,.mv 6 (.t 0)⟩,
     ⟨none,.mv 7 (.t 1)⟩,
     ⟨none,.call (some 8) 38 [(.t 6),(.t 7)]⟩,
     ⟨none,.un 9 .not (.t 8)⟩,
     ⟨none,.asg 5 (.t 9)⟩])
   (.cnd (.t 5)
    (.seq (.ops [⟨none,.asg 4 (.c (.v (.int .i64 1)))⟩])
    (.seq (.scr r23) .ret))
    (.seq (.ops [⟨none,.mv 11 (.t 0)⟩,
      ⟨none,.bin 12 .gtr .num (.t 11) (.c (.v (.int .i64 10)))⟩,
      ⟨none,.asg 10 (.t 12)⟩])
    (.cnd (.t 10)
     (.seq (.ops [⟨none,.asg 4 (.c (.v (.int .i64 6)))⟩])
     (.seq (.scr r23) .ret))
     (.seq (.ops [⟨none,.mv 14 (.t 0)⟩,
       ⟨none,.mv 15 (.t 1)⟩,
       ⟨none,.call (some 16) 39 [(.t 14),(.t 15)]⟩,
       ⟨none,.un 17 .not (.t 16)⟩,
       ⟨none,.asg 13 (.t 17)⟩])
     (.cnd (.t 13)
      (.seq (.ops [⟨none,.asg 4 (.c (.v (.int .i64 11)))⟩])
      (.seq (.scr r23) .ret))
      .skip))))))) (.scr x23_0))
 (.seq (.ops [⟨none,.asg 4 (.c (.v (.int .i64 0)))⟩])
 (.seq (.scr r23) .ret)))),
  18,[4]⟩
def hints24 : List (List Bool):=[bits 74 [0,3,4,5],bits 74 [0,1,3,4,5,18,19,20],bits 74 [0,3,4,5],bits 74 [0,1,3,4,5,18,19,20],bits 74 [3,4,5],bits 74 [0,3,4,5,9],bits 74 [3,4,5],bits 74 [0,3,4,5,9],bits 74 [0,3,4,5,9],bits 74 [0,3,4,5,9,49,50],bits 74 [0,3,4,5,9],bits 74 [0,3,4,5,9,49,50],bits 74 [3,4]]
@[simp] def r24 : List Bool:=bits 74 [3,4]
@[simp] def R24 (s3 s4 : V) : St:=tab 74 74 (fu (fu dd 4 s4) 3 s3) dd
@[simp] def x24_0 : List Bool:=bits 74 [0,3,4,5]
@[simp] def X24_0 (s0 s3 s4 s5 : V) : St:=tab 74 74 (fu (fu (fu (fu dd 5 s5) 4 s4) 3 s3) 0 s0) dd
@[simp] def h24_0 : List Bool:=bits 74 [0,1,3,4,5,18,19,20]
@[simp] def L24_0 (s0 s1 s3 s4 s5 s18 s19 s20 : V) : St:=tab 74 74 (fu (fu (fu (fu (fu (fu (fu (fu dd 20 s20) 19 s19) 18 s18) 5 s5) 4 s4) 3 s3) 1 s1) 0 s0) dd
@[simp] def x24_1 : List Bool:=bits 74 [0,1,3,4,5,18,19,20]
@[simp] def X24_1 (s0 s1 s3 s4 s5 s18 s19 s20 : V) : St:=tab 74 74 (fu (fu (fu (fu (fu (fu (fu (fu dd 20 s20) 19 s19) 18 s18) 5 s5) 4 s4) 3 s3) 1 s1) 0 s0) dd
def b24_0 : MC:=.seq (.scr h24_0)
 (.seq (.ops [⟨none,.bin 21 .lss .num (.t 20) (.t 19)⟩])
 (.seq (.cnd (.t 21)
   .skip
   (.seq (.scr x24_0) (.ex 0)))
 (.seq (.seq (.blk 1 (.seq (.ops [⟨none,.ixs 22 2 (.t 18) (.t 20)⟩,
     ⟨none,.ldn 23 2 (.t 22)⟩,
     ⟨none,.alc 7 [(.v (.int .i64 0)),(.v (.int .i64 0))]⟩,
     ⟨none,.stn none 2 (.t 7) (.t 23)⟩])
   (.drw [⟨none,.fa 24 1 (.t 5)⟩,
    ⟨none,.ld1 25 (.t 24)⟩,
    ⟨none,.fa 26 1 (.t 7)⟩,
    ⟨none,.ld1 27 (.t 26)⟩,
    ⟨none,.ixs 28 1 (.t 25) (.t 27)⟩,
    ⟨none,.ld1 29 (.t 28)⟩,
    ⟨none,.fa 30 0 (.t 7)⟩,
    ⟨none,.ld1 31 (.t 30)⟩,
    ⟨none,.bin 32 .shl .num (.c (.v (.int .i64 1))) (.t 31)⟩] [⟨none,.bin 33 .or .num (.t 29) (.t 32)⟩,
    ⟨none,.ixs 34 1 (.t 25) (.t 27)⟩,
    ⟨none,.stn none 1 (.t 34) (.t 33)⟩]))) (.scr x24_1))
 (.ops [⟨none,.bin 35 .add .num (.t 20) (.c (.v (.int .i64 1)))⟩,
  ⟨none,.mv 20 (.t 35)⟩]))))
@[simp] def x24_2 : List Bool:=bits 74 [3,4,5]
@[simp] def X24_2 (s3 s4 s5 : V) : St:=tab 74 74 (fu (fu (fu dd 5 s5) 4 s4) 3 s3) dd
@[simp] def h24_1 : List Bool:=bits 74 [0,3,4,5,9]
@[simp] def L24_1 (s0 s3 s4 s5 s9 : V) : St:=tab 74 74 (fu (fu (fu (fu (fu dd 9 s9) 5 s5) 4 s4) 3 s3) 0 s0) dd
@[simp] def x24_3 : List Bool:=bits 74 [0,3,4,5,9]
@[simp] def X24_3 (s0 s3 s4 s5 s9 : V) : St:=tab 74 74 (fu (fu (fu (fu (fu dd 9 s9) 5 s5) 4 s4) 3 s3) 0 s0) dd
@[simp] def x24_4 : List Bool:=bits 74 [0,3,4,5,9]
@[simp] def X24_4 (s0 s3 s4 s5 s9 : V) : St:=tab 74 74 (fu (fu (fu (fu (fu dd 9 s9) 5 s5) 4 s4) 3 s3) 0 s0) dd
@[simp] def h24_2 : List Bool:=bits 74 [0,3,4,5,9,49,50]
@[simp] def L24_2 (s0 s3 s4 s5 s9 s49 s50 : V) : St:=tab 74 74 (fu (fu (fu (fu (fu (fu (fu dd 50 s50) 49 s49) 9 s9) 5 s5) 4 s4) 3 s3) 0 s0) dd
@[simp] def x24_5 : List Bool:=bits 74 [0,3,4,5,9,49,50]
@[simp] def X24_5 (s0 s3 s4 s5 s9 s49 s50 : V) : St:=tab 74 74 (fu (fu (fu (fu (fu (fu (fu dd 50 s50) 49 s49) 9 s9) 5 s5) 4 s4) 3 s3) 0 s0) dd
def b24_2 : MC:=.seq (.scr h24_2)
 (.seq (.ops [⟨none,.bin 51 .lss .num (.t 50) (.t 49)⟩])
 (.seq (.cnd (.t 51)
   .skip
   (.seq (.scr x24_4) (.ex 4)))
 (.seq (.seq (.blk 5 (.seq (.ops [⟨none,.mv 52 (.t 50)⟩,
     ⟨none,.asg 10 (.t 52)⟩])
   (.seq (.ops [⟨none,.ldn 53 3 (.t 5)⟩,
     ⟨none,.mv 54 (.t 9)⟩,
     ⟨none,.mv 55 (.t 10)⟩,
     ⟨none,.call (some 56) 49 [(.t 53),(.t 54),(.t 55)]⟩])
   (.cnd (.t 56)
    (.drw [⟨none,.fa 57 2 (.t 5)⟩,
     ⟨none,.ld1 58 (.t 57)⟩,
     ⟨none,.mv 59 (.t 9)⟩,
     ⟨none,.ixs 60 1 (.t 58) (.t 59)⟩,
     ⟨none,.ld1 61 (.t 60)⟩,
     ⟨none,.fa 62 2 (.t 5)⟩,
     ⟨none,.ld1 63 (.t 62)⟩,
     ⟨none,.mv 64 (.t 9)⟩,
     ⟨none,.mv 65 (.t 10)⟩,
     ⟨none,.bin 66 .shl .num (.c (.v (.int .i64 1))) (.t 65)⟩,
     ⟨none,.bin 67 .or .num (.t 64) (.t 66)⟩,
     ⟨none,.ixs 68 1 (.t 63) (.t 67)⟩,
     ⟨none,.ld1 69 (.t 68)⟩] [⟨none,.bin 70 .add .num (.t 61) (.t 69)⟩,
     ⟨none,.ixs 71 1 (.t 58) (.t 59)⟩,
     ⟨none,.stn none 1 (.t 71) (.t 70)⟩])
    .skip)))) (.scr x24_5))
 (.ops [⟨none,.bin 72 .add .num (.t 50) (.c (.v (.int .i64 1)))⟩,
  ⟨none,.mv 50 (.t 72)⟩]))))
def b24_1 : MC:=.seq (.scr h24_1)
 (.seq (.seq (.ops [⟨none,.mv 45 (.t 9)⟩,
    ⟨none,.bin 46 .geq .num (.t 45) (.c (.v (.int .i64 0)))⟩])
  (.cnd (.t 46)
   .skip
   (.seq (.scr x24_2) (.ex 2))))
 (.seq (.seq (.blk 3 (.seq (.ops [⟨none,.mv 49 (.t 0)⟩,
     ⟨none,.mv 50 (.c (.v (.int .i64 0)))⟩])
   (.seq (.blk 4 (.lop b24_2)) (.scr x24_4)))) (.scr x24_3))
 (.ops [⟨none,.mv 47 (.t 9)⟩,
  ⟨none,.bin 48 .sub .num (.t 47) (.c (.v (.int .i64 1)))⟩,
  ⟨none,.asg 9 (.t 48)⟩])))
def c24 : MF:=⟨(.seq (.ops [⟨none,.alc 4 [(.v (.int .i64 0)),(.nd (.sl true 1 0) []),(.nd (.sl true 1 0) [])]⟩])
 (.seq (.drw [⟨none,.mv 11 (.t 0)⟩,
   ⟨none,.mv 12 (.t 0)⟩,
   ⟨none,.mks 13 1 [(.v (.int .i64 0))] (.t 12) (.t 12)⟩,
   ⟨none,.mv 14 (.t 0)⟩,
   ⟨none,.bin 15 .shl .num (.c (.v (.int .i64 1))) (.t 14)⟩,
   ⟨none,.mks 16 1 [(.v (.int .i64 0))] (.t 15) (.t 15)⟩,
   ⟨none,.bv 17 [(.v (.int .i64 0)),(.nd (.sl true 1 0) []),(.nd (.sl true 1 0) [])] [(0,1,(.t 11)),(1,1,(.t 13)),(2,1,(.t 16))]⟩,
   ⟨none,.alc 5 [(.v (.int .i64 0)),(.nd (.sl true 1 0) []),(.nd (.sl true 1 0) [])]⟩] [⟨none,.stn none 3 (.t 5) (.t 17)⟩])
 (.seq (.seq (.ops [⟨none,.mv 18 (.t 1)⟩,
    ⟨none,.len 19 false (.t 18)⟩,
    ⟨none,.mv 20 (.c (.v (.int .i64 0)))⟩])
  (.seq (.blk 0 (.lop b24_0)) (.scr x24_0)))
 (.seq (.ops [⟨none,.mv 36 (.t 0)⟩,
   ⟨none,.bin 37 .shl .num (.c (.v (.int .i64 1))) (.t 36)⟩,
   ⟨none,.bin 38 .sub .num (.t 37) (.c (.v (.int .i64 1)))⟩,
   ⟨none,.asg 8 (.t 38)⟩])
 (.seq (.ops [⟨none,.fa 39 2 (.t 5)⟩,
   ⟨none,.ld1 40 (.t 39)⟩,
   ⟨none,.mv 41 (.t 8)⟩,
   ⟨none,.ixs 42 1 (.t 40) (.t 41)⟩,
   ⟨none,.stn none 1 (.t 42) (.c (.v (.int .i64 1)))⟩])
 (.seq (.seq (.ops [⟨none,.mv 43 (.t 8)⟩,
    ⟨none,.bin 44 .sub .num (.t 43) (.c (.v (.int .i64 1)))⟩,
    ⟨none,.asg 9 (.t 44)⟩])
  (.seq (.blk 2 (.lop b24_1)) (.scr x24_2)))
 (.seq (.ops [⟨none,.ldn 73 3 (.t 5)⟩,
   ⟨none,.stn none 3 (.t 4) (.t 73)⟩])
 (.seq (.scr r24) .ret)))))))),
  74,[4,3,1000000]⟩
abbrev K25 : Nat:=6
def hints25 : List (List Bool):=[bits 11 [4,5]]
@[simp] def r25 : List Bool:=bits 11 [4,5]
@[simp] def R25 (s4 s5 : V) : St:=tab 11 6 (fu (fu dd 5 s5) 4 s4) dd
def c25 : MF:=⟨(.seq (.ops [⟨none,.asg 4 (.c (.v (.int .i64 0)))⟩,
   ⟨none,.asg 5 (.c (.v (.int .i64 0)))⟩])
 (.seq (.ops [⟨none,.mv 6 (.t 0)⟩,
   ⟨none,.mv 7 (.t 1)⟩,
   ⟨none,.call (some 8) 11 [(.t 6),(.t 7)]⟩,
   ⟨none,.ext 9 (.t 8) 0⟩,
   ⟨none,.ext 10 (.t 8) 1⟩,
   ⟨none,.asg 4 (.t 9)⟩,
   ⟨none,.asg 5 (.t 10)⟩])
 (.seq (.scr r25) .ret))),
  11,[4,5]⟩
def hints26 : List (List Bool):=[bits 40 [8]]
@[simp] def r26 : List Bool:=bits 40 [8]
@[simp] def R26 (s8 : V) : St:=tab 40 9 (fu dd 8 s8) dd
def c26 : MF:=⟨(.seq (.ops [⟨none,.asg 8 (.c (.v (.bool false)))⟩])
 (.seq (.ops (⟨none,.mv 9 (.t 0)⟩ ::
   ⟨none,.mv 10 (.t 1)⟩ ::
   ⟨none,.call (some 11) 38 [(.t 9),(.t 10)]⟩ ::
   ⟨none,.mv 12 (.t 11)⟩ ::
   ⟨some (12,true),.mv 13 (.t 2)⟩ ::
   ⟨some (12,true),.bin 14 .geq .num (.t 13) (.c (.v (.int .i64 0)))⟩ ::
   ⟨none,.pick 15 (.t 12) (.t 14) (.c (.v (.bool false)))⟩ ::
   ⟨none,.mv 16 (.t 15)⟩ ::
   ⟨some (16,true),.mv 17 (.t 2)⟩ ::
   ⟨some (16,true),.mv 18 (.t 0)⟩ ::
   ⟨some (16,true),.bin 19 .lss .num (.t 17) (.t 18)⟩ ::
   ⟨none,.pick 20 (.t 16) (.t 19) (.c (.v (.bool false)))⟩ ::
   ⟨none,.mv 21 (.t 20)⟩ ::
   ⟨some (21,true),.mv 22 (.t 3)⟩ ::
   ⟨some (21,true),.bin 23 .geq .num (.t 22) (.c (.v (.int .i64 0)))⟩ ::
   ⟨none,.pick 24 (.t 21) (.t 23) (.c (.v (.bool false)))⟩ ::
   ⟨none,.mv 25 (.t 24)⟩ ::
   ⟨some (25,true),.mv 26 (.t 3)⟩ ::
   ⟨some (25,true),.mv 27 (.t 0)⟩ ::
   ⟨some (25,true),.bin 28 .lss .num (.t 26) (.t 27)⟩ ::
   ⟨none,.pick 29 (.t 25) (.t 28) (.c (.v (.bool false)))⟩ ::
   ⟨none,.mv 30 (.t 29)⟩ ::
   ⟨some (30,true),.mv 31 (.t 0)⟩ ::
   ⟨some (30,true),.mv 32 (.t 1)⟩ ::
   ⟨some (30,true),.call (some 33) 50 [(.t 31),(.t 32)]⟩ ::
   ⟨some (30,true),.mv 34 (.t 2)⟩ ::
   ⟨some (30,true),.ixs 35 1 (.t 33) (.t 34)⟩ ::
   ⟨some (30,true),.ld1 36 (.t 35)⟩ ::
   ⟨some (30,true),.mv 37 (.t 3)⟩ ::
   ⟨some (30,true),.call (some 38) 48 [(.t 36),(.t 37)]⟩ ::
   ⟨none,.pick 39 (.t 30) (.t 38) (.c (.v (.bool false)))⟩ ::
   ⟨none,.asg 8 (.t 39)⟩ :: []))
 (.seq (.scr r26) .ret))),
  40,[8]⟩
def hints27 : List (List Bool):=[bits 21 [],bits 21 [0,1,2,6],bits 21 [0,1,2,6],bits 21 []]
@[simp] def r27 : List Bool:=bits 21 []
@[simp] def R27 : St:=tab 21 7 dd dd
@[simp] def x27_0 : List Bool:=bits 21 []
@[simp] def X27_0 : St:=tab 21 7 dd dd
@[simp] def h27_0 : List Bool:=bits 21 [0,1,2,6]
@[simp] def L27_0 (s0 s1 s2 s6 : V) : St:=tab 21 7 (fu (fu (fu (fu dd 6 s6) 2 s2) 1 s1) 0 s0) dd
@[simp] def x27_1 : List Bool:=bits 21 [0,1,2,6]
@[simp] def X27_1 (s0 s1 s2 s6 : V) : St:=tab 21 7 (fu (fu (fu (fu dd 6 s6) 2 s2) 1 s1) 0 s0) dd
def b27_0 : MC:=.seq (.scr h27_0)
 (.seq (.seq (.blk 1 (.seq (.seq (.ops [⟨none, .mv 12 (.t 6)⟩,
      ⟨none,.call (some 13) 28 [(.t 12)]⟩,
      ⟨none,.mv 14 (.t 1)⟩,
      ⟨none,.bin 15 .eql .num (.t 13) (.t 14)⟩])
    (.cnd (.t 15)
     (.ops [⟨none,.mv 16 (.t 2)⟩,
      ⟨none,.mv 17 (.t 6)⟩,
      ⟨none,.calv (some 18) (.t 16) [(.t 17)]⟩])
     .skip))
   (.seq (.ops [⟨none,.mv 19 (.t 6)⟩,
     ⟨none,.bin 20 .eql .num (.t 19) (.c (.v (.int .u64 0)))⟩])
   (.cnd (.t 20)
    (.seq (.scr r27) .ret)
    .skip)))) (.scr x27_1))
 (.ops [⟨none,.mv 8 (.t 6)⟩,
  ⟨none,.bin 9 .sub .num (.t 8) (.c (.v (.int .u64 1)))⟩,
  ⟨none,.mv 10 (.t 0)⟩,
  ⟨none,.bin 11 .and .num (.t 9) (.t 10)⟩,
  ⟨none,.asg 6 (.t 11)⟩]))
def c27 : MF:=⟨(.seq (.ops [⟨none,.mv 7 (.t 0)⟩,
   ⟨none,.asg 6 (.t 7)⟩])
 (.seq (.blk 0 (.lop b27_0)) (.scr x27_0))),
  21,[]⟩
def hints28 : List (List Bool):=[bits 8 [2],bits 8 [2]]
@[simp] def r28 : List Bool:=bits 8 [2]
@[simp] def R28 (s2 : V) : St:=tab 8 3 (fu dd 2 s2) dd
def c28 : MF:=⟨(.seq (.ops [⟨none,.asg 2 (.c (.v (.int .i64 0)))⟩])
 (.seq (.cnd (.c (.v (.bool false)))
   (.seq (.ops [⟨none,.mv 3 (.t 0)⟩,
     ⟨none,.cvi 4 .u32 (.t 3)⟩,
     ⟨none,.call (some 5) 51 [(.t 4)]⟩,
     ⟨none,.asg 2 (.t 5)⟩])
   (.seq (.scr r28) .ret))
   .skip)
 (.seq (.ops [⟨none,.mv 6 (.t 0)⟩,
   ⟨none,.call (some 7) 52 [(.t 6)]⟩,
   ⟨none,.asg 2 (.t 7)⟩])
 (.seq (.scr r28) .ret)))),
  8,[2]⟩
def hints38 : List (List Bool):=[bits 83 [4],bits 83 [],bits 83 [0,1,13,14,15],bits 83 [],bits 83 [0,1,13,14,15],bits 83 [4],bits 83 [4],bits 83 [4]]
@[simp] def r38 : List Bool:=bits 83 [4]
@[simp] def R38 (s4 : V) : St:=tab 83 16 (fu dd 4 s4) dd
@[simp] def x38_0 : List Bool:=bits 83 []
@[simp] def X38_0 : St:=tab 83 16 dd dd
@[simp] def h38_0 : List Bool:=bits 83 [0,1,13,14,15]
@[simp] def L38_0 (s0 s1 s13 s14 s15 : V) : St:=tab 83 16 (fu (fu (fu (fu (fu dd 15 s15) 14 s14) 13 s13) 1 s1) 0 s0) dd
@[simp] def x38_1 : List Bool:=bits 83 [0,1,13,14,15]
@[simp] def X38_1 (s0 s1 s13 s14 s15 : V) : St:=tab 83 16 (fu (fu (fu (fu (fu dd 15 s15) 14 s14) 13 s13) 1 s1) 0 s0) dd
def b38_0 : MC:=.seq (.scr h38_0)
 (.seq (.ops [⟨none,.bin 16 .lss .num (.t 15) (.t 14)⟩])
 (.seq (.cnd (.t 16)
   .skip
   (.seq (.scr x38_0) (.ex 0)))
 (.seq (.seq (.blk 1 (.seq (.ops [⟨none,.mv 17 (.t 15)⟩,
     ⟨none,.ixs 18 2 (.t 13) (.t 15)⟩,
     ⟨none,.ldn 19 2 (.t 18)⟩,
     ⟨none,.alc 6 [(.v (.int .i64 0)),(.v (.int .i64 0))]⟩,
     ⟨none,.asg 5 (.t 17)⟩,
     ⟨none,.stn none 2 (.t 6) (.t 19)⟩])
   (.seq (.seq (.ops (⟨none,.fa 20 0 (.t 6)⟩ ::
      ⟨none,.ld1 21 (.t 20)⟩ ::
      ⟨none,.bin 22 .lss .num (.t 21) (.c (.v (.int .i64 0)))⟩ ::
      ⟨none,.mv 23 (.t 22)⟩ ::
      ⟨some (23,false),.fa 24 0 (.t 6)⟩ ::
      ⟨some (23,false),.ld1 25 (.t 24)⟩ ::
      ⟨some (23,false),.mv 26 (.t 0)⟩ ::
      ⟨some (23,false),.bin 27 .geq .num (.t 25) (.t 26)⟩ ::
      ⟨none,.pick 28 (.t 23) (.c (.v (.bool true))) (.t 27)⟩ ::
      ⟨none,.mv 29 (.t 28)⟩ ::
      ⟨some (29,false),.fa 30 1 (.t 6)⟩ ::
      ⟨some (29,false),.ld1 31 (.t 30)⟩ ::
      ⟨some (29,false),.bin 32 .lss .num (.t 31) (.c (.v (.int .i64 0)))⟩ ::
      ⟨none,.pick 33 (.t 29) (.c (.v (.bool true))) (.t 32)⟩ ::
      ⟨none,.mv 34 (.t 33)⟩ ::
      ⟨some (34,false),.fa 35 1 (.t 6)⟩ ::
      ⟨some (34,false),.ld1 36 (.t 35)⟩ ::
      ⟨some (34,false),.mv 37 (.t 0)⟩ ::
      ⟨some (34,false),.bin 38 .geq .num (.t 36) (.t 37)⟩ ::
      ⟨none,.pick 39 (.t 34) (.c (.v (.bool true))) (.t 38)⟩ ::
      ⟨none,.mv 40 (.t 39)⟩ ::
      ⟨some (40,false),.fa 41 0 (.t 6)⟩ ::
      ⟨some (40,false),.ld1 42 (.t 41)⟩ ::
      ⟨some (40,false),.fa 43 1 (.t 6)⟩ ::
      ⟨some (40,false),.ld1 44 (.t 43)⟩ ::
      ⟨some (40,false),.bin 45 .eql .num (.t 42) (.t 44)⟩ ::
      ⟨none,.pick 46 (.t 40) (.c (.v (.bool true))) (.t 45)⟩ :: []))
    (.cnd (.t 46)
     (.seq (.ops [⟨none,.asg 4 (.c (.v (.bool false)))⟩])
     (.seq (.scr r38) .ret))
     .skip))
   (.seq (.drw (⟨none,.mv 47 (.t 5)⟩ ::
     ⟨none,.bin 48 .gtr .num (.t 47) (.c (.v (.int .i64 0)))⟩ ::
     ⟨none,.mv 49 (.t 48)⟩ ::
     ⟨some (49,true),.fa 50 0 (.t 6)⟩ ::
     ⟨some (49,true),.ld1 51 (.t 50)⟩ ::
     ⟨some (49,true),.mv 52 (.t 1)⟩ ::
     ⟨some (49,true),.mv 53 (.t 5)⟩ ::
     ⟨some (49,true),.bin 54 .sub .num (.t 53) (.c (.v (.int .i64 1)))⟩ ::
     ⟨some (49,true),.ixs 55 2 (.t 52) (.t 54)⟩ ::
     ⟨some (49,true),.fa 56 0 (.t 55)⟩ ::
     ⟨some (49,true),.ld1 57 (.t 56)⟩ ::
     ⟨some (49,true),.bin 58 .lss .num (.t 51) (.t 57)⟩ ::
     ⟨some (49,true),.mv 59 (.t 58)⟩ ::
     ⟨some (59,false),.fa 60 0 (.t 6)⟩ ::
     ⟨some (59,false),.ld1 61 (.t 60)⟩ ::
     ⟨some (59,false),.mv 62 (.t 1)⟩ ::
     ⟨some (59,false),.mv 63 (.t 5)⟩ ::
     ⟨some (59,false),.bin 64 .sub .num (.t 63) (.c (.v (.int .i64 1)))⟩ ::
     ⟨some (59,false),.ixs 65 2 (.t 62) (.t 64)⟩ ::
     ⟨some (59,false),.fa 66 0 (.t 65)⟩ ::
     ⟨some (59,false),.ld1 67 (.t 66)⟩ ::
     ⟨some (59,false),.bin 68 .eql .num (.t 61) (.t 67)⟩ ::
     ⟨some (59,false),.mv 69 (.t 68)⟩ ::
     ⟨some (69,true),.fa 70 1 (.t 6)⟩ ::
     ⟨some (69,true),.ld1 71 (.t 70)⟩ ::
     ⟨some (69,true),.mv 72 (.t 1)⟩ ::
     ⟨some (69,true),.mv 73 (.t 5)⟩ ::
     ⟨some (69,true),.bin 74 .sub .num (.t 73) (.c (.v (.int .i64 1)))⟩ ::
     ⟨some (69,true),.ixs 75 2 (.t 72) (.t 74)⟩ ::
     ⟨some (69,true),.fa 76 1 (.t 75)⟩ ::
     ⟨some (69,true),.ld1 77 (.t 76)⟩ :: []) [⟨some (69,true),.bin 78 .leq .num (.t 71) (.t 77)⟩,
     ⟨some (59,false),.pick 79 (.t 69) (.t 78) (.c (.v (.bool false)))⟩,
     ⟨some (49,true),.pick 80 (.t 59) (.c (.v (.bool true))) (.t 79)⟩,
     ⟨none,.pick 81 (.t 49) (.t 80) (.c (.v (.bool false)))⟩])
   (.cnd (.t 81)
    (.seq (.ops [⟨none,.asg 4 (.c (.v (.bool false)))⟩])
    (.seq (.scr r38) .ret))
    .skip))))) (.scr x38_1))
 (.ops [⟨none,.bin 82 .add .num (.t 15) (.c (.v (.int .i64 1)))⟩,
  ⟨none,.mv 15 (.t 82)⟩]))))
def c38 : MF:=⟨(.seq (.ops [⟨none,.asg 4 (.c (.v (.bool false)))⟩])
 (.seq (.seq (.ops [⟨none,.mv 7 (.t 0)⟩,
    ⟨none,.bin 8 .lss .num (.t 7) (.c (.v (.int .i64 0)))⟩,
    ⟨none,.mv 9 (.t 8)⟩,
    ⟨some (9,false),.mv 10 (.t 0)⟩,
    ⟨some (9,false),.bin 11 .gtr .num (.t 10) (.c (.v (.int .i64 24)))⟩,
    ⟨none,.pick 12 (.t 9) (.c (.v (.bool true))) (.t 11)⟩])
  (.cnd (.t 12)
   (.seq (.ops [⟨none,.asg 4 (.c (.v (.bool false)))⟩])
   (.seq (.scr r38) .ret))
   .skip))
 (.seq (.seq (.ops [⟨none,.mv 13 (.t 1)⟩,
    ⟨none,.len 14 false (.t 13)⟩,
    ⟨none,.mv 15 (.c (.v (.int .i64 0)))⟩])
  (.seq (.blk 0 (.lop b38_0)) (.scr x38_0)))
 (.seq (.ops [⟨none,.asg 4 (.c (.v (.bool true)))⟩])
 (.seq (.scr r38) .ret))))),
  83,[4]⟩
def hints39 : List (List Bool):=[bits 14 [4]]
@[simp] def r39 : List Bool:=bits 14 [4]
@[simp] def R39 (s4 : V) : St:=tab 14 5 (fu dd 4 s4) dd
def c39 : MF:=⟨(.seq (.ops [⟨none,.asg 4 (.c (.v (.bool false)))⟩])
 (.seq (.ops [⟨none,.mv 5 (.t 0)⟩,
   ⟨none,.mv 6 (.t 1)⟩,
   ⟨none,.call (some 7) 38 [(.t 5),(.t 6)]⟩,
   ⟨none,.mv 8 (.t 7)⟩,
   ⟨some (8,true),.mv 9 (.t 0)⟩,
   ⟨some (8,true),.mv 10 (.t 1)⟩,
   ⟨some (8,true),.call (some 11) 50 [(.t 9),(.t 10)]⟩,
   ⟨some (8,true),.call (some 12) 62 [(.t 11)]⟩,
   ⟨none,.pick 13 (.t 8) (.t 12) (.c (.v (.bool false)))⟩,
   ⟨none,.asg 4 (.t 13)⟩])
 (.seq (.scr r39) .ret))),
  14,[4]⟩
def hints40 : List (List Bool):=[bits 14 [4,5],bits 14 [4,5]]
@[simp] def r40 : List Bool:=bits 14 [4,5]
@[simp] def R40 (s4 s5 : V) : St:=tab 14 6 (fu (fu dd 5 s5) 4 s4) dd
def c40 : MF:=⟨(.seq (.ops [⟨none,.asg 4 (.c (.nd (.sl true 2 0) []))⟩,
   ⟨none,.asg 5 (.c (.v (.int .i64 0)))⟩])
 (.seq (.seq (.ops [⟨none,.mv 6 (.t 0)⟩,
    ⟨none,.mv 7 (.t 1)⟩,
    ⟨none,.call (some 8) 38 [(.t 6),(.t 7)]⟩,
    ⟨none,.un 9 .not (.t 8)⟩])
  (.cnd (.t 9)
   (.seq (.ops [⟨none,.asg 4 (.c (.nd (.sl true 2 0) []))⟩,
     ⟨none,.asg 5 (.c (.v (.int .i64 1)))⟩])
   (.seq (.scr r40) .ret))
   .skip))
 (.seq (.ops [⟨none,.mv 10 (.t 0)⟩,
   ⟨none,.mv 11 (.t 1)⟩,
   ⟨none,.call (some 12) 50 [(.t 10),(.t 11)]⟩,
   ⟨none,.call (some 13) 63 [(.t 12)]⟩,
   ⟨none,.asg 4 (.t 13)⟩,
   ⟨none,.asg 5 (.c (.v (.int .i64 0)))⟩])
 (.seq (.scr r40) .ret)))),
  14,[4,5]⟩
def hints42 : List (List Bool):=[bits 8 [2],bits 8 [2]]
@[simp] def r42 : List Bool:=bits 8 [2]
@[simp] def R42 (s2 : V) : St:=tab 8 3 (fu dd 2 s2) dd
def c42 : MF:=⟨(.seq (.ops [⟨none,.asg 2 (.c (.nd (.sl true 1 0) []))⟩])
 (.seq (.seq (.ops [⟨none,.mv 3 (.t 0)⟩,
    ⟨none,.bin 4 .eql (.nilT false) (.t 3) (.c (.nd (.sl true 0 0) []))⟩])
  (.cnd (.t 4)
   (.seq (.ops [⟨none,.asg 2 (.c (.nd (.sl true 1 0) []))⟩])
   (.seq (.scr r42) .ret))
   .skip))
 (.seq (.ops [⟨none,.mz 5 1⟩,
   ⟨none,.mv 6 (.t 0)⟩,
   ⟨none,.app 7 1 (.t 5) (.t 6)⟩,
   ⟨none,.asg 2 (.t 7)⟩])
 (.seq (.scr r42) .ret)))),
  8,[2]⟩
def hints43 : List (List Bool):=[bits 9 [4]]
@[simp] def r43 : List Bool:=bits 9 [4]
@[simp] def R43 (s4 : V) : St:=tab 9 5 (fu dd 4 s4) dd
def c43 : MF:=⟨(.seq (.ops [⟨none,.asg 4 (.c (.v (.bool false)))⟩])
 (.seq (.ops [⟨none,.mv 5 (.t 0)⟩,
   ⟨none,.mv 6 (.t 1)⟩,
   ⟨none,.call (some 7) 64 [(.t 5),(.t 6)]⟩,
   ⟨none,.bin 8 .geq .num (.t 7) (.c (.v (.int .i64 0)))⟩,
   ⟨none,.asg 4 (.t 8)⟩])
 (.seq (.scr r43) .ret))),
  9,[4]⟩
def hints44 : List (List Bool):=[bits 15 [4]]
@[simp] def r44 : List Bool:=bits 15 [4]
@[simp] def R44 (s4 : V) : St:=tab 15 5 (fu dd 4 s4) dd
def c44 : MF:=⟨(.seq (.ops [⟨none,.asg 4 (.c (.v (.bool false)))⟩])
 (.seq (.ops [⟨none,.ld1 5 (.t 1)⟩,
   ⟨none,.mv 6 (.t 0)⟩,
   ⟨none,.ld1 7 (.t 2)⟩,
   ⟨none,.call (some 8) 21 [(.t 5),(.t 6),(.t 7)]⟩,
   ⟨none,.mv 9 (.t 8)⟩,
   ⟨some (9,false),.ld1 10 (.t 1)⟩,
   ⟨some (9,false),.ld1 11 (.t 2)⟩,
   ⟨some (9,false),.mv 12 (.t 0)⟩,
   ⟨some (9,false),.call (some 13) 21 [(.t 10),(.t 11),(.t 12)]⟩,
   ⟨none,.pick 14 (.t 9) (.c (.v (.bool true))) (.t 13)⟩,
   ⟨none,.asg 4 (.t 14)⟩])
 (.seq (.scr r44) .ret))),
  15,[4]⟩
def hints45 : List (List Bool):=[bits 30 [4,5],bits 30 [4,5]]
@[simp] def r45 : List Bool:=bits 30 [4,5]
@[simp] def R45 (s4 s5 : V) : St:=tab 30 23 (fu (fu dd 5 s5) 4 s4) dd
def c45 : MF:=⟨(.seq (.ops [⟨none,.asg 4 (.c (.v (.int .u64 0)))⟩,
   ⟨none,.asg 5 (.c (.v (.int .u64 0)))⟩])
 (.seq (.cnd (.c (.v (.bool false)))
   (.seq (.ops [⟨none,.mv 11 (.t 0)⟩,
     ⟨none,.cvi 12 .u32 (.t 11)⟩,
     ⟨none,.mv 13 (.t 1)⟩,
     ⟨none,.cvi 14 .u32 (.t 13)⟩,
     ⟨none,.call (some 15) 65 [(.t 12),(.t 14)]⟩,
     ⟨none,.mv 10 (.t 15)⟩,
     ⟨none,.ext 16 (.t 10) 0⟩,
     ⟨none,.ext 17 (.t 10) 1⟩,
     ⟨none,.asg 6 (.t 16)⟩,
     ⟨none,.asg 7 (.t 17)⟩])
   (.seq (.ops [⟨none,.mv 18 (.t 6)⟩,
     ⟨none,.cvi 19 .u64 (.t 18)⟩,
     ⟨none,.mv 20 (.t 7)⟩,
     ⟨none,.cvi 21 .u64 (.t 20)⟩,
     ⟨none,.asg 4 (.t 19)⟩,
     ⟨none,.asg 5 (.t 21)⟩])
   (.seq (.scr r45) .ret)))
   .skip)
 (.seq (.ops [⟨none,.mv 23 (.t 0)⟩,
   ⟨none,.mv 24 (.t 1)⟩,
   ⟨none,.call (some 25) 66 [(.t 23),(.t 24)]⟩,
   ⟨none,.mv 22 (.t 25)⟩,
   ⟨none,.ext 26 (.t 22) 0⟩,
   ⟨none,.ext 27 (.t 22) 1⟩,
   ⟨none,.asg 8 (.t 26)⟩,
   ⟨none,.asg 9 (.t 27)⟩])
 (.seq (.ops [⟨none,.mv 28 (.t 8)⟩,
   ⟨none,.mv 29 (.t 9)⟩,
   ⟨none,.asg 4 (.t 28)⟩,
   ⟨none,.asg 5 (.t 29)⟩])
 (.seq (.scr r45) .ret))))),
  30,[4,5]⟩
def hints46 : List (List Bool):=[bits 70 [4,5],bits 70 [0,6],bits 70 [0,1,6,18,19,20],bits 70 [0,6],bits 70 [0,1,6,18,19,20],bits 70 [10],bits 70 [0,6,9,10],bits 70 [10],bits 70 [0,6,9,10],bits 70 [0,6,9,10,11],bits 70 [0,6,9,10,11],bits 70 [0,6,9,10,11],bits 70 [0,6,9,10,11],bits 70 [4,5],bits 70 [4,5]]
@[simp] def r46 : List Bool:=bits 70 [4,5]
@[simp] def R46 (s4 s5 : V) : St:=tab 70 21 (fu (fu dd 5 s5) 4 s4) dd
@[simp] def x46_0 : List Bool:=bits 70 [0,6]
@[simp] def X46_0 (s0 s6 : V) : St:=tab 70 21 (fu (fu dd 6 s6) 0 s0) dd
@[simp] def h46_0 : List Bool:=bits 70 [0,1,6,18,19,20]
@[simp] def L46_0 (s0 s1 s6 s18 s19 s20 : V) : St:=tab 70 21 (fu (fu (fu (fu (fu (fu dd 20 s20) 19 s19) 18 s18) 6 s6) 1 s1) 0 s0) dd
@[simp] def x46_1 : List Bool:=bits 70 [0,1,6,18,19,20]
@[simp] def X46_1 (s0 s1 s6 s18 s19 s20 : V) : St:=tab 70 21 (fu (fu (fu (fu (fu (fu dd 20 s20) 19 s19) 18 s18) 6 s6) 1 s1) 0 s0) dd
def b46_0 : MC:=.seq (.scr h46_0)
 (.seq (.ops [⟨none,.bin 21 .lss .num (.t 20) (.t 19)⟩])
 (.seq (.cnd (.t 21)
   .skip
   (.seq (.scr x46_0) (.ex 0)))
 (.seq (.seq (.blk 1 (.seq (.ops [⟨none,.ixs 22 2 (.t 18) (.t 20)⟩,
     ⟨none,.ldn 23 2 (.t 22)⟩,
     ⟨none,.alc 8 [(.v (.int .i64 0)),(.v (.int .i64 0))]⟩,
     ⟨none,.stn none 2 (.t 8) (.t 23)⟩])
   (.drw [⟨none,.mv 24 (.t 6)⟩,
    ⟨none,.fa 25 1 (.t 8)⟩,
    ⟨none,.ld1 26 (.t 25)⟩,
    ⟨none,.ixs 27 1 (.t 24) (.t 26)⟩,
    ⟨none,.ld1 28 (.t 27)⟩,
    ⟨none,.fa 29 0 (.t 8)⟩,
    ⟨none,.ld1 30 (.t 29)⟩,
    ⟨none,.bin 31 .shl .num (.c (.v (.int .u32 1))) (.t 30)⟩] [⟨none,.bin 32 .or .num (.t 28) (.t 31)⟩,
    ⟨none,.ixs 33 1 (.t 24) (.t 26)⟩,
    ⟨none,.stn none 1 (.t 33) (.t 32)⟩]))) (.scr x46_1))
 (.ops [⟨none,.bin 34 .add .num (.t 20) (.c (.v (.int .i64 1)))⟩,
  ⟨none,.mv 20 (.t 34)⟩]))))
@[simp] def x46_2 : List Bool:=bits 70 [10]
@[simp] def X46_2 (s10 : V) : St:=tab 70 21 (fu dd 10 s10) dd
@[simp] def h46_1 : List Bool:=bits 70 [0,6,9,10]
@[simp] def L46_1 (s0 s6 s9 s10 : V) : St:=tab 70 21 (fu (fu (fu (fu dd 10 s10) 9 s9) 6 s6) 0 s0) dd
@[simp] def x46_3 : List Bool:=bits 70 [0,6,9,10]
@[simp] def X46_3 (s0 s6 s9 s10 : V) : St:=tab 70 21 (fu (fu (fu (fu dd 10 s10) 9 s9) 6 s6) 0 s0) dd
@[simp] def x46_4 : List Bool:=bits 70 [0,6,9,10,11]
@[simp] def X46_4 (s0 s6 s9 s10 s11 : V) : St:=tab 70 21 (fu (fu (fu (fu (fu dd 11 s11) 10 s10) 9 s9) 6 s6) 0 s0) dd
@[simp] def h46_2 : List Bool:=bits 70 [0,6,9,10,11]
@[simp] def L46_2 (s0 s6 s9 s10 s11 : V) : St:=tab 70 21 (fu (fu (fu (fu (fu dd 11 s11) 10 s10) 9 s9) 6 s6) 0 s0) dd
@[simp] def x46_5 : List Bool:=bits 70 [0,6,9,10,11]
@[simp] def X46_5 (s0 s6 s9 s10 s11 : V) : St:=tab 70 21 (fu (fu (fu (fu (fu dd 11 s11) 10 s10) 9 s9) 6 s6) 0 s0) dd
def b46_2 : MC:=.seq (.scr h46_2)
 (.seq (.seq (.ops (⟨none,.mv 39 (.t 11)⟩ ::
    ⟨none,.mv 40 (.t 0)⟩ ::
    ⟨none,.bin 41 .lss .num (.t 39) (.t 40)⟩ ::
    ⟨none,.mv 42 (.t 41)⟩ ::
    ⟨some (42,true),.mv 43 (.t 9)⟩ ::
    ⟨some (42,true),.mv 44 (.t 11)⟩ ::
    ⟨some (42,true),.call (some 45) 48 [(.t 43),(.t 44)]⟩ ::
    ⟨some (42,true),.mv 46 (.t 45)⟩ ::
    ⟨some (46,false),.mv 47 (.t 6)⟩ ::
    ⟨some (46,false),.mv 48 (.t 11)⟩ ::
    ⟨some (46,false),.ixs 49 1 (.t 47) (.t 48)⟩ ::
    ⟨some (46,false),.ld1 50 (.t 49)⟩ ::
    ⟨some (46,false),.mv 51 (.t 9)⟩ ::
    ⟨some (46,false),.bin 52 .andNot .num (.t 50) (.t 51)⟩ ::
    ⟨some (46,false),.bin 53 .neq .num (.t 52) (.c (.v (.int .u32 0)))⟩ ::
    ⟨some (42,true),.pick 54 (.t 46) (.c (.v (.bool true))) (.t 53)⟩ ::
    ⟨none,.pick 55 (.t 42) (.t 54) (.c (.v (.bool false)))⟩ :: []))
  (.cnd (.t 55)
   .skip
   (.seq (.scr x46_4) (.ex 4))))
 (.seq (.blk 5 (.ops [⟨none,.mv 56 (.t 11)⟩,
   ⟨none,.bin 57 .add .num (.t 56) (.c (.v (.int .i64 1)))⟩,
   ⟨none,.asg 11 (.t 57)⟩])) (.scr x46_5)))
def b46_1 : MC:=.seq (.scr h46_1)
 (.seq (.seq (.ops [⟨none,.mv 35 (.t 10)⟩,
    ⟨none,.len 36 false (.t 35)⟩,
    ⟨none,.mv 37 (.t 0)⟩,
    ⟨none,.bin 38 .lss .num (.t 36) (.t 37)⟩])
  (.cnd (.t 38)
   .skip
   (.seq (.scr x46_2) (.ex 2))))
 (.seq (.blk 3 (.seq (.ops [⟨none,.asg 11 (.c (.v (.int .i64 0)))⟩])
  (.seq (.seq (.blk 4 (.lop b46_2)) (.scr x46_4))
  (.seq (.seq (.ops [⟨none,.mv 58 (.t 11)⟩,
     ⟨none,.mv 59 (.t 0)⟩,
     ⟨none,.bin 60 .eql .num (.t 58) (.t 59)⟩])
   (.cnd (.t 60)
    (.seq (.ops [⟨none,.asg 4 (.c (.nd (.sl true 1 0) []))⟩,
      ⟨none,.asg 5 (.c (.v (.int .i64 11)))⟩])
    (.seq (.scr r46) .ret))
    .skip))
  (.seq (.ops [⟨none,.mv 61 (.t 9)⟩,
    ⟨none,.mv 62 (.t 11)⟩,
    ⟨none,.bin 63 .shl .num (.c (.v (.int .u32 1))) (.t 62)⟩,
    ⟨none,.bin 64 .or .num (.t 61) (.t 63)⟩,
    ⟨none,.asg 9 (.t 64)⟩])
  (.ops [⟨none,.mv 65 (.t 10)⟩,
   ⟨none,.mv 66 (.t 11)⟩,
   ⟨none,.bs 67 1 1 [(.v (.int .i64 0))] [(0,1,(.t 66))]⟩,
   ⟨none,.app 68 1 (.t 65) (.t 67)⟩,
   ⟨none,.asg 10 (.t 68)⟩])))))) (.scr x46_3)))
def c46 : MF:=⟨(.seq (.ops [⟨none,.asg 4 (.c (.nd (.sl true 1 0) []))⟩,
   ⟨none,.asg 5 (.c (.v (.int .i64 0)))⟩])
 (.seq (.seq (.ops [⟨none,.mv 12 (.t 0)⟩,
    ⟨none,.mv 13 (.t 1)⟩,
    ⟨none,.call (some 14) 38 [(.t 12),(.t 13)]⟩,
    ⟨none,.un 15 .not (.t 14)⟩])
  (.cnd (.t 15)
   (.seq (.ops [⟨none,.asg 4 (.c (.nd (.sl true 1 0) []))⟩,
     ⟨none,.asg 5 (.c (.v (.int .i64 1)))⟩])
   (.seq (.scr r46) .ret))
   .skip))
 (.seq (.ops [⟨none,.mv 16 (.t 0)⟩,
   ⟨none,.mks 17 1 [(.v (.int .u32 0))] (.t 16) (.t 16)⟩,
   ⟨none,.asg 6 (.t 17)⟩])
 (.seq (.seq (.ops [⟨none,.mv 18 (.t 1)⟩,
    ⟨none,.len 19 false (.t 18)⟩,
    ⟨none,.mv 20 (.c (.v (.int .i64 0)))⟩])
  (.seq (.blk 0 (.lop b46_0)) (.scr x46_0)))
 (.seq (.ops [⟨none,.asg 9 (.c (.v (.int .u32 0)))⟩])
 (.seq (.ops [⟨none,.asg 10 (.c (.nd (.sl true 1 0) []))⟩])
 (.seq (.seq (.blk 2 (.lop b46_1)) (.scr x46_2))
 (.seq (.ops [⟨none,.mv 69 (.t 10)⟩,
   ⟨none,.asg 4 (.t 69)⟩,
   ⟨none,.asg 5 (.c (.v (.int .i64 0)))⟩])
 (.seq (.scr r46) .ret))))))))),
  70,[4,5]⟩
def hints47 : List (List Bool):=[bits 28 [5],bits 28 [1,5,10,11,12],bits 28 [5],bits 28 [1,5,10,11,12],bits 28 [4]]
@[simp] def r47 : List Bool:=bits 28 [4]
@[simp] def R47 (s4 : V) : St:=tab 28 13 (fu dd 4 s4) dd
@[simp] def x47_0 : List Bool:=bits 28 [5]
@[simp] def X47_0 (s5 : V) : St:=tab 28 13 (fu dd 5 s5) dd
@[simp] def h47_0 : List Bool:=bits 28 [1,5,10,11,12]
@[simp] def L47_0 (s1 s5 s10 s11 s12 : V) : St:=tab 28 13 (fu (fu (fu (fu (fu dd 12 s12) 11 s11) 10 s10) 5 s5) 1 s1) dd
@[simp] def x47_1 : List Bool:=bits 28 [1,5,10,11,12]
@[simp] def X47_1 (s1 s5 s10 s11 s12 : V) : St:=tab 28 13 (fu (fu (fu (fu (fu dd 12 s12) 11 s11) 10 s10) 5 s5) 1 s1) dd
def b47_0 : MC:=.seq (.scr h47_0)
 (.seq (.ops [⟨none,.bin 13 .lss .num (.t 12) (.t 11)⟩])
 (.seq (.cnd (.t 13)
   .skip
   (.seq (.scr x47_0) (.ex 0)))
 (.seq (.seq (.blk 1 (.seq (.ops [⟨none,.ixs 14 2 (.t 10) (.t 12)⟩,
     ⟨none,.ldn 15 2 (.t 14)⟩,
     ⟨none,.alc 7 [(.v (.int .i64 0)),(.v (.int .i64 0))]⟩,
     ⟨none,.stn none 2 (.t 7) (.t 15)⟩])
   (.drw [⟨none,.mv 16 (.t 5)⟩,
    ⟨none,.fa 17 0 (.t 7)⟩,
    ⟨none,.ld1 18 (.t 17)⟩,
    ⟨none,.ixs 19 1 (.t 16) (.t 18)⟩,
    ⟨none,.ld1 20 (.t 19)⟩,
    ⟨none,.fa 21 1 (.t 7)⟩,
    ⟨none,.ld1 22 (.t 21)⟩,
    ⟨none,.bin 23 .shl .num (.c (.v (.int .u32 1))) (.t 22)⟩] [⟨none,.bin 24 .or .num (.t 20) (.t 23)⟩,
    ⟨none,.ixs 25 1 (.t 16) (.t 18)⟩,
    ⟨none,.stn none 1 (.t 25) (.t 24)⟩]))) (.scr x47_1))
 (.ops [⟨none,.bin 26 .add .num (.t 12) (.c (.v (.int .i64 1)))⟩,
  ⟨none,.mv 12 (.t 26)⟩]))))
def c47 : MF:=⟨(.seq (.ops [⟨none,.asg 4 (.c (.nd (.sl true 1 0) []))⟩])
 (.seq (.ops [⟨none,.mv 8 (.t 0)⟩,
   ⟨none,.mks 9 1 [(.v (.int .u32 0))] (.t 8) (.t 8)⟩,
   ⟨none,.asg 5 (.t 9)⟩])
 (.seq (.seq (.ops [⟨none,.mv 10 (.t 1)⟩,
    ⟨none,.len 11 false (.t 10)⟩,
    ⟨none,.mv 12 (.c (.v (.int .i64 0)))⟩])
  (.seq (.blk 0 (.lop b47_0)) (.scr x47_0)))
 (.seq (.ops [⟨none,.mv 27 (.t 5)⟩,
   ⟨none,.asg 4 (.t 27)⟩])
 (.seq (.scr r47) .ret))))),
  28,[4]⟩
def hints48 : List (List Bool):=[bits 10 [4]]
@[simp] def r48 : List Bool:=bits 10 [4]
@[simp] def R48 (s4 : V) : St:=tab 10 5 (fu dd 4 s4) dd
def c48 : MF:=⟨(.seq (.ops [⟨none,.asg 4 (.c (.v (.bool false)))⟩])
 (.seq (.ops [⟨none,.mv 5 (.t 0)⟩,
   ⟨none,.mv 6 (.t 1)⟩,
   ⟨none,.bin 7 .shr .num (.t 5) (.t 6)⟩,
   ⟨none,.bin 8 .and .num (.t 7) (.c (.v (.int .u32 1)))⟩,
   ⟨none,.bin 9 .neq .num (.t 8) (.c (.v (.int .u32 0)))⟩,
   ⟨none,.asg 4 (.t 9)⟩])
 (.seq (.scr r48) .ret))),
  10,[4]⟩
def hints49 : List (List Bool):=[bits 22 [6]]
@[simp] def r49 : List Bool:=bits 22 [6]
@[simp] def R49 (s6 : V) : St:=tab 22 7 (fu dd 6 s6) dd
def c49 : MF:=⟨(.seq (.ops [⟨none,.sl0 3 0 (.t 0)⟩,
   ⟨none,.asg 6 (.c (.v (.bool false)))⟩])
 (.seq (.ops [⟨none,.mv 7 (.t 1)⟩,
   ⟨none,.mv 8 (.t 2)⟩,
   ⟨none,.bin 9 .shr .num (.t 7) (.t 8)⟩,
   ⟨none,.bin 10 .and .num (.t 9) (.c (.v (.int .i64 1)))⟩,
   ⟨none,.bin 11 .eql .num (.t 10) (.c (.v (.int .i64 0)))⟩,
   ⟨none,.mv 12 (.t 11)⟩,
   ⟨some (12,true),.fa 13 1 (.t 3)⟩,
   ⟨some (12,true),.ld1 14 (.t 13)⟩,
   ⟨some (12,true),.mv 15 (.t 2)⟩,
   ⟨some (12,true),.ixs 16 1 (.t 14) (.t 15)⟩,
   ⟨some (12,true),.ld1 17 (.t 16)⟩,
   ⟨some (12,true),.mv 18 (.t 1)⟩,
   ⟨some (12,true),.bin 19 .andNot .num (.t 17) (.t 18)⟩,
   ⟨some (12,true),.bin 20 .eql .num (.t 19) (.c (.v (.int .i64 0)))⟩,
   ⟨none,.pick 21 (.t 12) (.t 20) (.c (.v (.bool false)))⟩,
   ⟨none,.asg 6 (.t 21)⟩])
 (.seq (.scr r49) .ret))),
  22,[6]⟩
def hints50 : List (List Bool):=[bits 38 [5],bits 38 [0,5,11,12],bits 38 [5],bits 38 [0,5,11,12],bits 38 [0,5,11,12],bits 38 [0,5,6,11,12,15,16],bits 38 [0,5,11,12],bits 38 [0,5,6,11,12,15,16],bits 38 [4]]
@[simp] def r50 : List Bool:=bits 38 [4]
@[simp] def R50 (s4 : V) : St:=tab 38 17 (fu dd 4 s4) dd
@[simp] def x50_0 : List Bool:=bits 38 [5]
@[simp] def X50_0 (s5 : V) : St:=tab 38 17 (fu dd 5 s5) dd
@[simp] def h50_0 : List Bool:=bits 38 [0,5,11,12]
@[simp] def L50_0 (s0 s5 s11 s12 : V) : St:=tab 38 17 (fu (fu (fu (fu dd 12 s12) 11 s11) 5 s5) 0 s0) dd
@[simp] def x50_1 : List Bool:=bits 38 [0,5,11,12]
@[simp] def X50_1 (s0 s5 s11 s12 : V) : St:=tab 38 17 (fu (fu (fu (fu dd 12 s12) 11 s11) 5 s5) 0 s0) dd
@[simp] def x50_2 : List Bool:=bits 38 [0,5,11,12]
@[simp] def X50_2 (s0 s5 s11 s12 : V) : St:=tab 38 17 (fu (fu (fu (fu dd 12 s12) 11 s11) 5 s5) 0 s0) dd
@[simp] def h50_1 : List Bool:=bits 38 [0,5,6,11,12,15,16]
@[simp] def L50_1 (s0 s5 s6 s11 s12 s15 s16 : V) : St:=tab 38 17 (fu (fu (fu (fu (fu (fu (fu dd 16 s16) 15 s15) 12 s12) 11 s11) 6 s6) 5 s5) 0 s0) dd
@[simp] def x50_3 : List Bool:=bits 38 [0,5,6,11,12,15,16]
@[simp] def X50_3 (s0 s5 s6 s11 s12 s15 s16 : V) : St:=tab 38 17 (fu (fu (fu (fu (fu (fu (fu dd 16 s16) 15 s15) 12 s12) 11 s11) 6 s6) 5 s5) 0 s0) dd
def b50_1 : MC:=.seq (.scr h50_1)
 (.seq (.ops [⟨none,.bin 17 .lss .num (.t 16) (.t 15)⟩])
 (.seq (.cnd (.t 17)
   .skip
   (.seq (.scr x50_2) (.ex 2)))
 (.seq (.seq (.blk 3 (.seq (.ops [⟨none,.mv 18 (.t 16)⟩,
     ⟨none,.asg 7 (.t 18)⟩])
   (.seq (.ops [⟨none,.mv 19 (.t 5)⟩,
     ⟨none,.mv 20 (.t 7)⟩,
     ⟨none,.ixs 21 1 (.t 19) (.t 20)⟩,
     ⟨none,.ld1 22 (.t 21)⟩,
     ⟨none,.mv 23 (.t 6)⟩,
     ⟨none,.call (some 24) 48 [(.t 22),(.t 23)]⟩])
   (.cnd (.t 24)
    (.drw [⟨none,.mv 25 (.t 5)⟩,
     ⟨none,.mv 26 (.t 7)⟩,
     ⟨none,.ixs 27 1 (.t 25) (.t 26)⟩,
     ⟨none,.ld1 28 (.t 27)⟩,
     ⟨none,.mv 29 (.t 5)⟩,
     ⟨none,.mv 30 (.t 6)⟩,
     ⟨none,.ixs 31 1 (.t 29) (.t 30)⟩,
     ⟨none,.ld1 32 (.t 31)⟩] [⟨none,.bin 33 .or .num (.t 28) (.t 32)⟩,
     ⟨none,.ixs 34 1 (.t 25) (.t 26)⟩,
     ⟨none,.stn none 1 (.t 34) (.t 33)⟩])
    .skip)))) (.scr x50_3))
 (.ops [⟨none,.bin 35 .add .num (.t 16) (.c (.v (.int .i64 1)))⟩,
  ⟨none,.mv 16 (.t 35)⟩]))))
def b50_0 : MC:=.seq (.scr h50_0)
 (.seq (.ops [⟨none,.bin 13 .lss .num (.t 12) (.t 11)⟩])
 (.seq (.cnd (.t 13)
   .skip
   (.seq (.scr x50_0) (.ex 0)))
 (.seq (.seq (.blk 1 (.seq (.ops [⟨none,.mv 14 (.t 12)⟩,
     ⟨none,.asg 6 (.t 14)⟩])
   (.seq (.ops [⟨none,.mv 15 (.t 0)⟩,
     ⟨none,.mv 16 (.c (.v (.int .i64 0)))⟩])
   (.seq (.blk 2 (.lop b50_1)) (.scr x50_2))))) (.scr x50_1))
 (.ops [⟨none,.bin 36 .add .num (.t 12) (.c (.v (.int .i64 1)))⟩,
  ⟨none,.mv 12 (.t 36)⟩]))))
def c50 : MF:=⟨(.seq (.ops [⟨none,.asg 4 (.c (.nd (.sl true 1 0) []))⟩])
 (.seq (.ops [⟨none,.mv 8 (.t 0)⟩,
   ⟨none,.mv 9 (.t 1)⟩,
   ⟨none,.call (some 10) 47 [(.t 8),(.t 9)]⟩,
   ⟨none,.asg 5 (.t 10)⟩])
 (.seq (.seq (.ops [⟨none,.mv 11 (.t 0)⟩,
    ⟨none,.mv 12 (.c (.v (.int .i64 0)))⟩])
  (.seq (.blk 0 (.lop b50_0)) (.scr x50_0)))
 (.seq (.ops [⟨none,.mv 37 (.t 5)⟩,
   ⟨none,.asg 4 (.t 37)⟩])
 (.seq (.scr r50) .ret))))),
  38,[4]⟩
def hints52 : List (List Bool):=[bits 35 [2]]
@[simp] def r52 : List Bool:=bits 35 [2]
@[simp] def R52 (s2 : V) : St:=tab 35 3 (fu dd 2 s2) dd
def c52 : MF:=⟨(.seq (.ops [⟨none,.asg 2 (.c (.v (.int .i64 0)))⟩])
 (.seq (.ops [⟨none,.mv 3 (.t 0)⟩,
   ⟨none,.bin 4 .shr .num (.t 3) (.c (.v (.int .u64 1)))⟩,
   ⟨none,.bin 5 .and .num (.t 4) (.c (.v (.int .u64 6148914691236517205)))⟩,
   ⟨none,.mv 6 (.t 0)⟩,
   ⟨none,.bin 7 .and .num (.t 6) (.c (.v (.int .u64 6148914691236517205)))⟩,
   ⟨none,.bin 8 .add .num (.t 5) (.t 7)⟩,
   ⟨none,.asg 0 (.t 8)⟩])
 (.seq (.ops [⟨none,.mv 9 (.t 0)⟩,
   ⟨none,.bin 10 .shr .num (.t 9) (.c (.v (.int .u64 2)))⟩,
   ⟨none,.bin 11 .and .num (.t 10) (.c (.v (.int .u64 3689348814741910323)))⟩,
   ⟨none,.mv 12 (.t 0)⟩,
   ⟨none,.bin 13 .and .num (.t 12) (.c (.v (.int .u64 3689348814741910323)))⟩,
   ⟨none,.bin 14 .add .num (.t 11) (.t 13)⟩,
   ⟨none,.asg 0 (.t 14)⟩])
 (.seq (.ops [⟨none,.mv 15 (.t 0)⟩,
   ⟨none,.bin 16 .shr .num (.t 15) (.c (.v (.int .u64 4)))⟩,
   ⟨none,.mv 17 (.t 0)⟩,
   ⟨none,.bin 18 .add .num (.t 16) (.t 17)⟩,
   ⟨none,.bin 19 .and .num (.t 18) (.c (.v (.int .u64 1085102592571150095)))⟩,
   ⟨none,.asg 0 (.t 19)⟩])
 (.seq (.ops [⟨none,.mv 20 (.t 0)⟩,
   ⟨none,.mv 21 (.t 0)⟩,
   ⟨none,.bin 22 .shr .num (.t 21) (.c (.v (.int .u64 8)))⟩,
   ⟨none,.bin 23 .add .num (.t 20) (.t 22)⟩,
   ⟨none,.asg 0 (.t 23)⟩])
 (.seq (.ops [⟨none,.mv 24 (.t 0)⟩,
   ⟨none,.mv 25 (.t 0)⟩,
   ⟨none,.bin 26 .shr .num (.t 25) (.c (.v (.int .u64 16)))⟩,
   ⟨none,.bin 27 .add .num (.t 24) (.t 26)⟩,
   ⟨none,.asg 0 (.t 27)⟩])
 (.seq (.ops [⟨none,.mv 28 (.t 0)⟩,
   ⟨none,.mv 29 (.t 0)⟩,
   ⟨none,.bin 30 .shr .num (.t 29) (.c (.v (.int .u64 32)))⟩,
   ⟨none,.bin 31 .add .num (.t 28) (.t 30)⟩,
   ⟨none,.asg 0 (.t 31)⟩])
 (.seq (.ops [⟨none,.mv 32 (.t 0)⟩,
   ⟨none,.cvi 33 .i64 (.t 32)⟩,
   ⟨none,.bin 34 .and .num (.t 33) (.c (.v (.int .i64 127)))⟩,
   ⟨none,.asg 2 (.t 34)⟩])
 (.seq (.scr r52) .ret))))))))),
  35,[2]⟩
def hints62 : List (List Bool):=[bits 16 [],bits 16 [0,5,6,7],bits 16 [],bits 16 [0,5,6,7],bits 16 [2],bits 16 [2]]
@[simp] def r62 : List Bool:=bits 16 [2]
@[simp] def R62 (s2 : V) : St:=tab 16 8 (fu dd 2 s2) dd
@[simp] def x62_0 : List Bool:=bits 16 []
@[simp] def X62_0 : St:=tab 16 8 dd dd
@[simp] def h62_0 : List Bool:=bits 16 [0,5,6,7]
@[simp] def L62_0 (s0 s5 s6 s7 : V) : St:=tab 16 8 (fu (fu (fu (fu dd 7 s7) 6 s6) 5 s5) 0 s0) dd
@[simp] def x62_1 : List Bool:=bits 16 [0,5,6,7]
@[simp] def X62_1 (s0 s5 s6 s7 : V) : St:=tab 16 8 (fu (fu (fu (fu dd 7 s7) 6 s6) 5 s5) 0 s0) dd
def b62_0 : MC:=.seq (.scr h62_0)
 (.seq (.ops [⟨none,.bin 8 .lss .num (.t 7) (.t 6)⟩])
 (.seq (.cnd (.t 8)
   .skip
   (.seq (.scr x62_0) (.ex 0)))
 (.seq (.seq (.blk 1 (.seq (.ops [⟨none,.mv 9 (.t 7)⟩,
     ⟨none,.ixs 10 1 (.t 5) (.t 7)⟩,
     ⟨none,.ld1 11 (.t 10)⟩,
     ⟨none,.asg 3 (.t 9)⟩,
     ⟨none,.asg 4 (.t 11)⟩])
   (.seq (.ops [⟨none,.mv 12 (.t 4)⟩,
     ⟨none,.mv 13 (.t 3)⟩,
     ⟨none,.call (some 14) 48 [(.t 12),(.t 13)]⟩])
   (.cnd (.t 14)
    (.seq (.ops [⟨none,.asg 2 (.c (.v (.bool false)))⟩])
    (.seq (.scr r62) .ret))
    .skip)))) (.scr x62_1))
 (.ops [⟨none,.bin 15 .add .num (.t 7) (.c (.v (.int .i64 1)))⟩,
  ⟨none,.mv 7 (.t 15)⟩]))))
def c62 : MF:=⟨(.seq (.ops [⟨none,.asg 2 (.c (.v (.bool false)))⟩])
 (.seq (.seq (.ops [⟨none,.mv 5 (.t 0)⟩,
    ⟨none,.len 6 false (.t 5)⟩,
    ⟨none,.mv 7 (.c (.v (.int .i64 0)))⟩])
  (.seq (.blk 0 (.lop b62_0)) (.scr x62_0)))
 (.seq (.ops [⟨none,.asg 2 (.c (.v (.bool true)))⟩])
 (.seq (.scr r62) .ret)))),
  16,[2]⟩
def hints63 : List (List Bool):=[bits 36 [3],bits 36 [0,3,7,8,9],bits 36 [3],bits 36 [0,3,7,8,9],bits 36 [0,3,7,8,9],bits 36 [0,3,4,5,7,8,9,15,16],bits 36 [0,3,7,8,9],bits 36 [0,3,4,5,7,8,9,15,16],bits 36 [2]]
@[simp] def r63 : List Bool:=bits 36 [2]
@[simp] def R63 (s2 : V) : St:=tab 36 17 (fu dd 2 s2) dd
@[simp] def x63_0 : List Bool:=bits 36 [3]
@[simp] def X63_0 (s3 : V) : St:=tab 36 17 (fu dd 3 s3) dd
@[simp] def h63_0 : List Bool:=bits 36 [0,3,7,8,9]
@[simp] def L63_0 (s0 s3 s7 s8 s9 : V) : St:=tab 36 17 (fu (fu (fu (fu (fu dd 9 s9) 8 s8) 7 s7) 3 s3) 0 s0) dd
@[simp] def x63_1 : List Bool:=bits 36 [0,3,7,8,9]
@[simp] def X63_1 (s0 s3 s7 s8 s9 : V) : St:=tab 36 17 (fu (fu (fu (fu (fu dd 9 s9) 8 s8) 7 s7) 3 s3) 0 s0) dd
@[simp] def x63_2 : List Bool:=bits 36 [0,3,7,8,9]
@[simp] def X63_2 (s0 s3 s7 s8 s9 : V) : St:=tab 36 17 (fu (fu (fu (fu (fu dd 9 s9) 8 s8) 7 s7) 3 s3) 0 s0) dd
@[simp] def h63_1 : List Bool:=bits 36 [0,3,4,5,7,8,9,15,16]
@[simp] def L63_1 (s0 s3 s4 s5 s7 s8 s9 s15 s16 : V) : St:=tab 36 17 (fu (fu (fu (fu (fu (fu (fu (fu (fu dd 16 s16) 15 s15) 9 s9) 8 s8) 7 s7) 5 s5) 4 s4) 3 s3) 0 s0) dd
@[simp] def x63_3 : List Bool:=bits 36 [0,3,4,5,7,8,9,15,16]
@[simp] def X63_3 (s0 s3 s4 s5 s7 s8 s9 s15 s16 : V) : St:=tab 36 17 (fu (fu (fu (fu (fu (fu (fu (fu (fu dd 16 s16) 15 s15) 9 s9) 8 s8) 7 s7) 5 s5) 4 s4) 3 s3) 0 s0) dd
def b63_1 : MC:=.seq (.scr h63_1)
 (.seq (.ops [⟨none,.bin 17 .lss .num (.t 16) (.t 15)⟩])
 (.seq (.cnd (.t 17)
   .skip
   (.seq (.scr x63_2) (.ex 2)))
 (.seq (.seq (.blk 3 (.seq (.ops [⟨none,.mv 18 (.t 16)⟩,
     ⟨none,.asg 6 (.t 18)⟩])
   (.seq (.ops [⟨none,.mv 19 (.t 4)⟩,
     ⟨none,.mv 20 (.t 6)⟩,
     ⟨none,.bin 21 .neq .num (.t 19) (.t 20)⟩,
     ⟨none,.mv 22 (.t 21)⟩,
     ⟨some (22,true),.mv 23 (.t 5)⟩,
     ⟨some (22,true),.mv 24 (.t 6)⟩,
     ⟨some (22,true),.call (some 25) 48 [(.t 23),(.t 24)]⟩,
     ⟨none,.pick 26 (.t 22) (.t 25) (.c (.v (.bool false)))⟩])
   (.cnd (.t 26)
    (.ops [⟨none,.mv 27 (.t 3)⟩,
     ⟨none,.mv 28 (.t 4)⟩,
     ⟨none,.mv 29 (.t 6)⟩,
     ⟨none,.bld 30 [(.v (.int .i64 0)),(.v (.int .i64 0))] [(0,1,(.t 28)),(1,1,(.t 29))]⟩,
     ⟨none,.bs 31 2 1 [(.v (.int .i64 0)),(.v (.int .i64 0))] [(0,2,(.t 30))]⟩,
     ⟨none,.app 32 2 (.t 27) (.t 31)⟩,
     ⟨none,.asg 3 (.t 32)⟩])
    .skip)))) (.scr x63_3))
 (.ops [⟨none,.bin 33 .add .num (.t 16) (.c (.v (.int .i64 1)))⟩,
  ⟨none,.mv 16 (.t 33)⟩]))))
def b63_0 : MC:=.seq (.scr h63_0)
 (.seq (.ops [⟨none,.bin 10 .lss .num (.t 9) (.t 8)⟩])
 (.seq (.cnd (.t 10)
   .skip
   (.seq (.scr x63_0) (.ex 0)))
 (.seq (.seq (.blk 1 (.seq (.ops [⟨none,.mv 11 (.t 9)⟩,
     ⟨none,.ixs 12 1 (.t 7) (.t 9)⟩,
     ⟨none,.ld1 13 (.t 12)⟩,
     ⟨none,.asg 4 (.t 11)⟩,
     ⟨none,.asg 5 (.t 13)⟩])
   (.seq (.ops [⟨none,.mv 14 (.t 0)⟩,
     ⟨none,.len 15 false (.t 14)⟩,
     ⟨none,.mv 16 (.c (.v (.int .i64 0)))⟩])
   (.seq (.blk 2 (.lop b63_1)) (.scr x63_2))))) (.scr x63_1))
 (.ops [⟨none,.bin 34 .add .num (.t 9) (.c (.v (.int .i64 1)))⟩,
  ⟨none,.mv 9 (.t 34)⟩]))))
def c63 : MF:=⟨(.seq (.ops [⟨none,.asg 2 (.c (.nd (.sl true 2 0) []))⟩])
 (.seq (.ops [⟨none,.asg 3 (.c (.nd (.sl true 2 0) []))⟩])
 (.seq (.seq (.ops [⟨none,.mv 7 (.t 0)⟩,
    ⟨none,.len 8 false (.t 7)⟩,
    ⟨none,.mv 9 (.c (.v (.int .i64 0)))⟩])
  (.seq (.blk 0 (.lop b63_0)) (.scr x63_0)))
 (.seq (.ops [⟨none,.mv 35 (.t 3)⟩,
   ⟨none,.asg 2 (.t 35)⟩])
 (.seq (.scr r63) .ret))))),
  36,[2]⟩
def hints64 : List (List Bool):=[bits 19 [],bits 19 [0,1,7,8],bits 19 [],bits 19 [0,1,7,8],bits 19 [4],bits 19 [4]]
@[simp] def r64 : List Bool:=bits 19 [4]
@[simp] def R64 (s4 : V) : St:=tab 19 9 (fu dd 4 s4) dd
@[simp] def x64_0 : List Bool:=bits 19 []
@[simp] def X64_0 : St:=tab 19 9 dd dd
@[simp] def h64_0 : List Bool:=bits 19 [0,1,7,8]
@[simp] def L64_0 (s0 s1 s7 s8 : V) : St:=tab 19 9 (fu (fu (fu (fu dd 8 s8) 7 s7) 1 s1) 0 s0) dd
@[simp] def x64_1 : List Bool:=bits 19 [0,1,7,8]
@[simp] def X64_1 (s0 s1 s7 s8 : V) : St:=tab 19 9 (fu (fu (fu (fu dd 8 s8) 7 s7) 1 s1) 0 s0) dd
def b64_0 : MC:=.seq (.scr h64_0)
 (.seq (.ops [⟨none,.bin 9 .lss .num (.t 8) (.t 7)⟩])
 (.seq (.cnd (.t 9)
   .skip
   (.seq (.scr x64_0) (.ex 0)))
 (.seq (.seq (.blk 1 (.seq (.ops [⟨none,.mv 10 (.t 8)⟩,
     ⟨none,.asg 5 (.t 10)⟩])
   (.seq (.ops [⟨none,.mv 11 (.t 1)⟩,
     ⟨none,.mv 12 (.t 0)⟩,
     ⟨none,.mv 13 (.t 5)⟩,
     ⟨none,.ixs 14 1 (.t 12) (.t 13)⟩,
     ⟨none,.ld1 15 (.t 14)⟩,
     ⟨none,.calv (some 16) (.t 11) [(.t 15)]⟩])
   (.cnd (.t 16)
    (.seq (.ops [⟨none,.mv 17 (.t 5)⟩,
      ⟨none,.asg 4 (.t 17)⟩])
    (.seq (.scr r64) .ret))
    .skip)))) (.scr x64_1))
 (.ops [⟨none,.bin 18 .add .num (.t 8) (.c (.v (.int .i64 1)))⟩,
  ⟨none,.mv 8 (.t 18)⟩]))))
def c64 : MF:=⟨(.seq (.ops [⟨none,.asg 4 (.c (.v (.int .i64 0)))⟩])
 (.seq (.seq (.ops [⟨none,.mv 6 (.t 0)⟩,
    ⟨none,.len 7 false (.t 6)⟩,
    ⟨none,.mv 8 (.c (.v (.int .i64 0)))⟩])
  (.seq (.blk 0 (.lop b64_0)) (.scr x64_0)))
 (.seq (.ops [⟨none,.asg 4 (.c (.v (.int .i64 (-1))))⟩])
 (.seq (.scr r64) .ret)))),
  19,[4]⟩
def hints65 : List (List Bool):=[bits 17 [4,5]]
@[simp] def r65 : List Bool:=bits 17 [4,5]
@[simp] def R65 (s4 s5 : V) : St:=tab 17 7 (fu (fu dd 5 s5) 4 s4) dd
def c65 : MF:=⟨(.seq (.ops [⟨none,.asg 4 (.c (.v (.int .u32 0)))⟩,
   ⟨none,.asg 5 (.c (.v (.int .u32 0)))⟩])
 (.seq (.ops [⟨none,.mv 7 (.t 0)⟩,
   ⟨none,.cvi 8 .u64 (.t 7)⟩,
   ⟨none,.mv 9 (.t 1)⟩,
   ⟨none,.cvi 10 .u64 (.t 9)⟩,
   ⟨none,.bin 11 .mul .num (.t 8) (.t 10)⟩,
   ⟨none,.asg 6 (.t 11)⟩])
 (.seq (.ops [⟨none,.mv 12 (.t 6)⟩,
   ⟨none,.bin 13 .shr .num (.t 12) (.c (.v (.int .u64 32)))⟩,
   ⟨none,.cvi 14 .u32 (.t 13)⟩,
   ⟨none,.mv 15 (.t 6)⟩,
   ⟨none,.cvi 16 .u32 (.t 15)⟩,
   ⟨none,.asg 4 (.t 14)⟩,
   ⟨none,.asg 5 (.t 16)⟩])
 (.seq (.scr r65) .ret)))),
  17,[4,5]⟩
def hints66 : List (List Bool):=[bits 51 [4,5]]
@[simp] def r66 : List Bool:=bits 51 [4,5]
@[simp] def R66 (s4 s5 : V) : St:=tab 51 14 (fu (fu dd 5 s5) 4 s4) dd
def c66 : MF:=⟨(.seq (.ops [⟨none,.asg 4 (.c (.v (.int .u64 0)))⟩,
   ⟨none,.asg 5 (.c (.v (.int .u64 0)))⟩])
 (.seq (.ops [⟨none,.mv 14 (.t 0)⟩,
   ⟨none,.bin 15 .and .num (.t 14) (.c (.v (.int .u64 4294967295)))⟩,
   ⟨none,.asg 6 (.t 15)⟩])
 (.seq (.ops [⟨none,.mv 16 (.t 0)⟩,
   ⟨none,.bin 17 .shr .num (.t 16) (.c (.v (.int .u64 32)))⟩,
   ⟨none,.asg 7 (.t 17)⟩])
 (.seq (.ops [⟨none,.mv 18 (.t 1)⟩,
   ⟨none,.bin 19 .and .num (.t 18) (.c (.v (.int .u64 4294967295)))⟩,
   ⟨none,.asg 8 (.t 19)⟩])
 (.seq (.ops [⟨none,.mv 20 (.t 1)⟩,
   ⟨none,.bin 21 .shr .num (.t 20) (.c (.v (.int .u64 32)))⟩,
   ⟨none,.asg 9 (.t 21)⟩])
 (.seq (.ops [⟨none,.mv 22 (.t 6)⟩,
   ⟨none,.mv 23 (.t 8)⟩,
   ⟨none,.bin 24 .mul .num (.t 22) (.t 23)⟩,
   ⟨none,.asg 10 (.t 24)⟩])
 (.seq (.ops [⟨none,.mv 25 (.t 7)⟩,
   ⟨none,.mv 26 (.t 8)⟩,
   ⟨none,.bin 27 .mul .num (.t 25) (.t 26)⟩,
   ⟨none,.mv 28 (.t 10)⟩,
   ⟨none,.bin 29 .shr .num (.t 28) (.c (.v (.int .u64 32)))⟩,
   ⟨none,.bin 30 .add .num (.t 27) (.t 29)⟩,
   ⟨none,.asg 11 (.t 30)⟩])
 (.seq (.ops [⟨none,.mv 31 (.t 11)⟩,
   ⟨none,.bin 32 .and .num (.t 31) (.c (.v (.int .u64 4294967295)))⟩,
   ⟨none,.asg 12 (.t 32)⟩])
 (.seq (.ops [⟨none,.mv 33 (.t 11)⟩,
   ⟨none,.bin 34 .shr .num (.t 33) (.c (.v (.int .u64 32)))⟩,
   ⟨none,.asg 13 (.t 34)⟩])
 (.seq (.ops [⟨none,.mv 35 (.t 12)⟩,
   ⟨none,.mv 36 (.t 6)⟩,
   ⟨none,.mv 37 (.t 9)⟩,
   ⟨none,.bin 38 .mul .num (.t 36) (.t 37)⟩,
   ⟨none,.bin 39 .add .num (.t 35) (.t 38)⟩,
   ⟨none,.asg 12 (.t 39)⟩])
 (.seq (.ops [⟨none,.mv 40 (.t 7)⟩,
   ⟨none,.mv 41 (.t 9)⟩,
   ⟨none,.bin 42 .mul .num (.t 40) (.t 41)⟩,
   ⟨none,.mv 43 (.t 13)⟩,
   ⟨none,.bin 44 .add .num (.t 42) (.t 43)⟩,
   ⟨none,.mv 45 (.t 12)⟩,
   ⟨none,.bin 46 .shr .num (.t 45) (.c (.v (.int .u64 32)))⟩,
   ⟨none,.bin 47 .add .num (.t 44) (.t 46)⟩,
   ⟨none,.asg 4 (.t 47)⟩])
 (.seq (.ops [⟨none,.mv 48 (.t 0)⟩,
   ⟨none,.mv 49 (.t 1)⟩,
   ⟨none,.bin 50 .mul .num (.t 48) (.t 49)⟩,
   ⟨none,.asg 5 (.t 50)⟩])
 (.seq (.scr r66) .ret))))))))))))),
  51,[4,5]⟩
theorem comp3 : compF Go.Proofs.Try.prog hints3 3 = some c3:=by kernel_rfl
theorem comp4 : compF Go.Proofs.Try.prog hints4 4 = some c4:=by kernel_rfl
theorem comp6 : compF Go.Proofs.Try.prog hints6 6 = some c6:=by kernel_rfl
theorem comp8 : compF Go.Proofs.Try.prog hints8 8 = some c8:=by kernel_rfl
theorem comp9 : compF Go.Proofs.Try.prog hints9 9 = some c9:=by kernel_rfl
theorem comp10 : compF Go.Proofs.Try.prog hints10 10 = some c10:=by kernel_rfl
theorem comp11 : compF Go.Proofs.Try.prog hints11 11 = some c11:=by kernel_rfl
theorem comp12 : compF Go.Proofs.Try.prog hints12 12 = some c12:=by kernel_rfl
theorem comp14 : compF Go.Proofs.Try.prog hints14 14 = some c14:=by kernel_rfl
theorem comp17 : compF Go.Proofs.Try.prog hints17 17 = some c17:=by kernel_rfl
theorem comp21 : compF Go.Proofs.Try.prog hints21 21 = some c21:=by kernel_rfl
theorem comp22 : compF Go.Proofs.Try.prog hints22 22 = some c22:=by kernel_rfl
theorem comp23 : compF Go.Proofs.Try.prog hints23 23 = some c23:=by kernel_rfl
theorem comp24 : compF Go.Proofs.Try.prog hints24 24 = some c24:=by kernel_rfl
theorem comp25 : compF Go.Proofs.Try.prog hints25 25 = some c25:=by kernel_rfl
theorem comp26 : compF Go.Proofs.Try.prog hints26 26 = some c26:=by kernel_rfl
theorem comp27 : compF Go.Proofs.Try.prog hints27 27 = some c27:=by kernel_rfl
theorem comp28 : compF Go.Proofs.Try.prog hints28 28 = some c28:=by kernel_rfl
theorem comp38 : compF Go.Proofs.Try.prog hints38 38 = some c38:=by kernel_rfl
theorem comp39 : compF Go.Proofs.Try.prog hints39 39 = some c39:=by kernel_rfl
theorem comp40 : compF Go.Proofs.Try.prog hints40 40 = some c40:=by kernel_rfl
theorem comp42 : compF Go.Proofs.Try.prog hints42 42 = some c42:=by kernel_rfl
theorem comp43 : compF Go.Proofs.Try.prog hints43 43 = some c43:=by kernel_rfl
theorem comp44 : compF Go.Proofs.Try.prog hints44 44 = some c44:=by kernel_rfl
theorem comp45 : compF Go.Proofs.Try.prog hints45 45 = some c45:=by kernel_rfl
theorem comp46 : compF Go.Proofs.Try.prog hints46 46 = some c46:=by kernel_rfl
theorem comp47 : compF Go.Proofs.Try.prog hints47 47 = some c47:=by kernel_rfl
theorem comp48 : compF Go.Proofs.Try.prog hints48 48 = some c48:=by kernel_rfl
theorem comp49 : compF Go.Proofs.Try.prog hints49 49 = some c49:=by kernel_rfl
theorem comp50 : compF Go.Proofs.Try.prog hints50 50 = some c50:=by kernel_rfl
theorem comp52 : compF Go.Proofs.Try.prog hints52 52 = some c52:=by kernel_rfl
theorem comp62 : compF Go.Proofs.Try.prog hints62 62 = some c62:=by kernel_rfl
theorem comp63 : compF Go.Proofs.Try.prog hints63 63 = some c63:=by kernel_rfl
theorem comp64 : compF Go.Proofs.Try.prog hints64 64 = some c64:=by kernel_rfl
theorem comp65 : compF Go.Proofs.Try.prog hints65 65 = some c65:=by kernel_rfl
theorem comp66 : compF Go.Proofs.Try.prog hints66 66 = some c66:=by kernel_rfl
def tbl : FuncId→Option MF
  | 3 => some c3
  | 4 => some c4
  | 6 => some c6
  | 8 => some c8
  | 9 => some c9
  | 10 => some c10
  | 11 => some c11
  | 12 => some c12
  | 14 => some c14
  | 17 => some c17
  | 21 => some c21
  | 22 => some c22
  | 23 => some c23
  | 24 => some c24
  | 25 => some c25
  | 26 => some c26
  | 27 => some c27
  | 28 => some c28
  | 38 => some c38
  | 39 => some c39
  | 40 => some c40
  | 42 => some c42
  | 43 => some c43
  | 44 => some c44
  | 45 => some c45
  | 46 => some c46
  | 47 => some c47
  | 48 => some c48
  | 49 => some c49
  | 50 => some c50
  | 52 => some c52
  | 62 => some c62
  | 63 => some c63
  | 64 => some c64
  | 65 => some c65
  | 66 => some c66
  | _ => none
theorem tbl_ok (f : FuncId) (mf : MF) (h : tbl f = some mf) : ∃ hints,compF Go.Proofs.Try.prog hints f = some mf:=by
  unfold tbl at h
  split at h
  · cases h; exact ⟨_,comp3⟩
  · cases h; exact ⟨_,comp4⟩
  · cases h; exact ⟨_,comp6⟩
  · cases h; exact ⟨_,comp8⟩
  · cases h; exact ⟨_,comp9⟩
  · cases h; exact ⟨_,comp10⟩
  · cases h; exact ⟨_,comp11⟩
  · cases h; exact ⟨_,comp12⟩
  · cases h; exact ⟨_,comp14⟩
  · cases h; exact ⟨_,comp17⟩
  · cases h; exact ⟨_,comp21⟩
  · cases h; exact ⟨_,comp22⟩
  · cases h; exact ⟨_,comp23⟩
  · cases h; exact ⟨_,comp24⟩
  · cases h; exact ⟨_,comp25⟩
  · cases h; exact ⟨_,comp26⟩
  · cases h; exact ⟨_,comp27⟩
  · cases h; exact ⟨_,comp28⟩
  · cases h; exact ⟨_,comp38⟩
  · cases h; exact ⟨_,comp39⟩
  · cases h; exact ⟨_,comp40⟩
  · cases h; exact ⟨_,comp42⟩
  · cases h; exact ⟨_,comp43⟩
  · cases h; exact ⟨_,comp44⟩
  · cases h; exact ⟨_,comp45⟩
  · cases h; exact ⟨_,comp46⟩
  · cases h; exact ⟨_,comp47⟩
  · cases h; exact ⟨_,comp48⟩
  · cases h; exact ⟨_,comp49⟩
  · cases h; exact ⟨_,comp50⟩
  · cases h; exact ⟨_,comp52⟩
  · cases h; exact ⟨_,comp62⟩
  · cases h; exact ⟨_,comp63⟩
  · cases h; exact ⟨_,comp64⟩
  · cases h; exact ⟨_,comp65⟩
  · cases h; exact ⟨_,comp66⟩
  · cases h
end Go.Mx
namespace Go.Mx.B
set_option linter.unusedVariables false
set_option linter.unusedSimpArgs false
set_option linter.unusedSectionVars false
open Go
abbrev K31 : Nat:=7
def hints31 : List (List Bool):=[bits 21 [4,5],bits 21 [4,5],bits 21 [4,5]]
@[simp] def r31 : List Bool:=bits 21 [4,5]
@[simp] def R31 (s4 s5 : V) : St:=tab 21 7 (fu (fu dd 5 s5) 4 s4) dd
def c31 : MF:=⟨(.seq (.ops [⟨none,.box 3 (.t 1)⟩,
   ⟨none,.asg 4 (.c (.nd (.sl true 2 0) []))⟩,
   ⟨none,.asg 5 (.c (.v (.int .i64 0)))⟩])
 (.seq (.seq (.ops [⟨none,.mv 7 (.t 0)⟩,
    ⟨none,.call (some 8) 30 [(.t 7)]⟩,
    ⟨none,.asg 6 (.t 8)⟩])
  (.seq (.ops [⟨none,.mv 9 (.t 6)⟩,
    ⟨none,.bin 10 .neq .num (.t 9) (.c (.v (.int .i64 0)))⟩])
  (.cnd (.t 10)
   (.seq (.ops [⟨none,.mv 11 (.t 6)⟩,
     ⟨none,.asg 4 (.c (.nd (.sl true 2 0) []))⟩,
     ⟨none,.asg 5 (.t 11)⟩])
   (.seq (.scr r31) .ret))
   .skip)))
 (.seq (.seq (.ops [⟨none,.ld1 12 (.t 3)⟩,
    ⟨none,.bin 13 .neq .num (.t 12) (.c (.v (.int .i64 0)))⟩,
    ⟨none,.mv 14 (.t 13)⟩,
    ⟨some (14,true),.ld1 15 (.t 3)⟩,
    ⟨some (14,true),.bin 16 .neq .num (.t 15) (.c (.v (.int .i64 1)))⟩,
    ⟨none,.pick 17 (.t 14) (.t 16) (.c (.v (.bool false)))⟩])
  (.cnd (.t 17)
   (.seq (.ops [⟨none,.asg 4 (.c (.nd (.sl true 2 0) []))⟩,
     ⟨none,.asg 5 (.c (.v (.int .i64 2)))⟩])
   (.seq (.scr r31) .ret))
   .skip))
 (.seq (.ops [⟨none,.mv 18 (.t 0)⟩,
   ⟨none,.mkf 19 55 [(.t 3)]⟩,
   ⟨none,.call (some 20) 54 [(.t 18),(.t 19)]⟩,
   ⟨none,.asg 4 (.t 20)⟩,
   ⟨none,.asg 5 (.c (.v (.int .i64 0)))⟩])
 (.seq (.scr r31) .ret))))),
  21,[4,5]⟩
abbrev K32 : Nat:=5
def hints32 : List (List Bool):=[bits 8 [4]]
@[simp] def r32 : List Bool:=bits 8 [4]
@[simp] def R32 (s4 : V) : St:=tab 8 5 (fu dd 4 s4) dd
def c32 : MF:=⟨(.seq (.ops [⟨none,.box 3 (.t 1)⟩,
   ⟨none,.asg 4 (.c (.v (.int .i64 0)))⟩])
 (.seq (.ops [⟨none,.mv 5 (.t 0)⟩,
   ⟨none,.mkf 6 58 [(.t 3)]⟩,
   ⟨none,.call (some 7) 57 [(.t 5),(.t 6)]⟩,
   ⟨none,.asg 4 (.t 7)⟩])
 (.seq (.scr r32) .ret))),
  8,[4]⟩
abbrev K53 : Nat:=4
def hints53 : List (List Bool):=[bits 38 [2]]
@[simp] def r53 : List Bool:=bits 38 [2]
@[simp] def R53 (s2 : V) : St:=tab 38 4 (fu dd 2 s2) dd
def c53 : MF:=⟨(.seq (.ops [⟨none,.box 1 (.t 0)⟩,
   ⟨none,.asg 2 (.c (.v (.bool false)))⟩])
 (.seq (.ops (⟨none,.fa 4 1 (.t 1)⟩ ::
   ⟨none,.ld1 5 (.t 4)⟩ ::
   ⟨none,.call (some 6) 67 [(.t 5),(.c (.v (.int .i64 1))),(.c (.v (.int .i64 999)))]⟩ ::
   ⟨none,.mv 7 (.t 6)⟩ ::
   ⟨some (7,true),.fa 8 2 (.t 1)⟩ ::
   ⟨some (7,true),.ld1 9 (.t 8)⟩ ::
   ⟨some (7,true),.call (some 10) 67 [(.t 9),(.c (.v (.int .i64 1))),(.c (.v (.int .i64 999)))]⟩ ::
   ⟨none,.pick 11 (.t 7) (.t 10) (.c (.v (.bool false)))⟩ ::
   ⟨none,.mv 12 (.t 11)⟩ ::
   ⟨some (12,true),.fa 13 3 (.t 1)⟩ ::
   ⟨some (12,true),.ld1 14 (.t 13)⟩ ::
   ⟨some (12,true),.call (some 15) 67 [(.t 14),(.c (.v (.int .i64 1))),(.c (.v (.int .i64 9)))]⟩ ::
   ⟨none,.pick 16 (.t 12) (.t 15) (.c (.v (.bool false)))⟩ ::
   ⟨none,.mv 17 (.t 16)⟩ ::
   ⟨some (17,true),.fa 18 4 (.t 1)⟩ ::
   ⟨some (17,true),.ld1 19 (.t 18)⟩ ::
   ⟨some (17,true),.call (some 20) 67 [(.t 19),(.c (.v (.int .i64 1))),(.c (.v (.int .i64 9)))]⟩ ::
   ⟨none,.pick 21 (.t 17) (.t 20) (.c (.v (.bool false)))⟩ ::
   ⟨none,.asg 3 (.t 21)⟩ :: []))
 (.seq (.ops (⟨none,.mv 22 (.t 3)⟩ ::
   ⟨none,.mv 23 (.t 22)⟩ ::
   ⟨some (23,true),.fa 24 0 (.t 1)⟩ ::
   ⟨some (23,true),.ld1 25 (.t 24)⟩ ::
   ⟨some (23,true),.call (some 26) 67 [(.t 25),(.c (.v (.int .i64 1))),(.c (.v (.int .i64 9999)))]⟩ ::
   ⟨none,.pick 27 (.t 23) (.t 26) (.c (.v (.bool false)))⟩ ::
   ⟨none,.mv 28 (.t 27)⟩ ::
   ⟨some (28,true),.fa 29 5 (.t 1)⟩ ::
   ⟨some (28,true),.ld1 30 (.t 29)⟩ ::
   ⟨some (28,true),.call (some 31) 67 [(.t 30),(.c (.v (.int .i64 0))),(.c (.v (.int .i64 11)))]⟩ ::
   ⟨none,.pick 32 (.t 28) (.t 31) (.c (.v (.bool false)))⟩ ::
   ⟨none,.mv 33 (.t 32)⟩ ::
   ⟨some (33,true),.fa 34 6 (.t 1)⟩ ::
   ⟨some (33,true),.ld1 35 (.t 34)⟩ ::
   ⟨some (33,true),.call (some 36) 67 [(.t 35),(.c (.v (.int .i64 1))),(.c (.v (.int .i64 200000)))]⟩ ::
   ⟨none,.pick 37 (.t 33) (.t 36) (.c (.v (.bool false)))⟩ ::
   ⟨none,.asg 2 (.t 37)⟩ :: []))
 (.seq (.scr r53) .ret)))),
  38,[2]⟩
abbrev K54 : Nat:=20
def hints54 : List (List Bool):=[bits 37 [5],bits 37 [0,1,5,10,11,12],bits 37 [5],bits 37 [0,1,5,10,11,12],bits 37 [0,1,5,10,11,12],bits 37 [0,1,5,6,7,10,11,12,17,18,19],bits 37 [0,1,5,10,11,12],bits 37 [0,1,5,6,7,10,11,12,17,18,19],bits 37 [4]]
@[simp] def r54 : List Bool:=bits 37 [4]
@[simp] def R54 (s4 : V) : St:=tab 37 20 (fu dd 4 s4) dd
@[simp] def x54_0 : List Bool:=bits 37 [5]
@[simp] def X54_0 (s5 : V) : St:=tab 37 20 (fu dd 5 s5) dd
@[simp] def h54_0 : List Bool:=bits 37 [0,1,5,10,11,12]
@[simp] def L54_0 (s0 s1 s5 s10 s11 s12 : V) : St:=tab 37 20 (fu (fu (fu (fu (fu (fu dd 12 s12) 11 s11) 10 s10) 5 s5) 1 s1) 0 s0) dd
@[simp] def x54_1 : List Bool:=bits 37 [0,1,5,10,11,12]
@[simp] def X54_1 (s0 s1 s5 s10 s11 s12 : V) : St:=tab 37 20 (fu (fu (fu (fu (fu (fu dd 12 s12) 11 s11) 10 s10) 5 s5) 1 s1) 0 s0) dd
@[simp] def x54_2 : List Bool:=bits 37 [0,1,5,10,11,12]
@[simp] def X54_2 (s0 s1 s5 s10 s11 s12 : V) : St:=tab 37 20 (fu (fu (fu (fu (fu (fu dd 12 s12) 11 s11) 10 s10) 5 s5) 1 s1) 0 s0) dd
@[simp] def h54_1 : List Bool:=bits 37 [0,1,5,6,7,10,11,12,17,18,19]
@[simp] def L54_1 (s0 s1 s5 s6 s7 s10 s11 s12 s17 s18 s19 : V) : St:=tab 37 20 (fu (fu (fu (fu (fu (fu (fu (fu (fu (fu (fu dd 19 s19) 18 s18) 17 s17) 12 s12) 11 s11) 10 s10) 7 s7) 6 s6) 5 s5) 1 s1) 0 s0) dd
@[simp] def x54_3 : List Bool:=bits 37 [0,1,5,6,7,10,11,12,17,18,19]
@[simp] def X54_3 (s0 s1 s5 s6 s7 s10 s11 s12 s17 s18 s19 : V) : St:=tab 37 20 (fu (fu (fu (fu (fu (fu (fu (fu (fu (fu (fu dd 19 s19) 18 s18) 17 s17) 12 s12) 11 s11) 10 s10) 7 s7) 6 s6) 5 s5) 1 s1) 0 s0) dd
def b54_1 : MC:=.seq (.scr h54_1)
 (.seq (.ops [⟨none,.bin 20 .lss .num (.t 19) (.t 18)⟩])
 (.seq (.cnd (.t 20)
   .skip
   (.seq (.scr x54_2) (.ex 2)))
 (.seq (.seq (.blk 3 (.seq (.ops [⟨none,.mv 21 (.t 19)⟩,
     ⟨none,.ixs 22 7 (.t 17) (.t 19)⟩,
     ⟨none,.ldn 23 7 (.t 22)⟩,
     ⟨none,.alc 9 [(.v (.int .i64 0)),(.v (.int .i64 0)),(.v (.int .i64 0)),(.v (.int .i64 0)),(.v (.int .i64 0)),(.v (.int .i64 0)),(.v (.int .i64 0))]⟩,
     ⟨none,.asg 8 (.t 21)⟩,
     ⟨none,.stn none 7 (.t 9) (.t 23)⟩])
   (.seq (.ops [⟨none,.mv 24 (.t 1)⟩,
     ⟨none,.ldn 25 7 (.t 7)⟩,
     ⟨none,.ldn 26 7 (.t 9)⟩,
     ⟨none,.calv (some 27) (.t 24) [(.t 25),(.t 26)]⟩])
   (.cnd (.t 27)
    (.ops [⟨none,.mv 28 (.t 5)⟩,
     ⟨none,.mv 29 (.t 6)⟩,
     ⟨none,.mv 30 (.t 8)⟩,
     ⟨none,.bld 31 [(.v (.int .i64 0)),(.v (.int .i64 0))] [(0,1,(.t 29)),(1,1,(.t 30))]⟩,
     ⟨none,.bs 32 2 1 [(.v (.int .i64 0)),(.v (.int .i64 0))] [(0,2,(.t 31))]⟩,
     ⟨none,.app 33 2 (.t 28) (.t 32)⟩,
     ⟨none,.asg 5 (.t 33)⟩])
    .skip)))) (.scr x54_3))
 (.ops [⟨none,.bin 34 .add .num (.t 19) (.c (.v (.int .i64 1)))⟩,
  ⟨none,.mv 19 (.t 34)⟩]))))
def b54_0 : MC:=.seq (.scr h54_0)
 (.seq (.ops [⟨none,.bin 13 .lss .num (.t 12) (.t 11)⟩])
 (.seq (.cnd (.t 13)
   .skip
   (.seq (.scr x54_0) (.ex 0)))
 (.seq (.seq (.blk 1 (.seq (.ops [⟨none,.mv 14 (.t 12)⟩,
     ⟨none,.ixs 15 7 (.t 10) (.t 12)⟩,
     ⟨none,.ldn 16 7 (.t 15)⟩,
     ⟨none,.alc 7 [(.v (.int .i64 0)),(.v (.int .i64 0)),(.v (.int .i64 0)),(.v (.int .i64 0)),(.v (.int .i64 0)),(.v (.int .i64 0)),(.v (.int .i64 0))]⟩,
     ⟨none,.asg 6 (.t 14)⟩,
     ⟨none,.stn none 7 (.t 7) (.t 16)⟩])
   (.seq (.ops [⟨none,.mv 17 (.t 0)⟩,
     ⟨none,.len 18 false (.t 17)⟩,
     ⟨none,.mv 19 (.c (.v (.int .i64 0)))⟩])
   (.seq (.blk 2 (.lop b54_1)) (.scr x54_2))))) (.scr x54_1))
 (.ops [⟨none,.bin 35 .add .num (.t 12) (.c (.v (.int .i64 1)))⟩,
  ⟨none,.mv 12 (.t 35)⟩]))))
def c54 : MF:=⟨(.seq (.ops [⟨none,.asg 4 (.c (.nd (.sl true 2 0) []))⟩])
 (.seq (.ops [⟨none,.asg 5 (.c (.nd (.sl true 2 0) []))⟩])
 (.seq (.seq (.ops [⟨none,.mv 10 (.t 0)⟩,
    ⟨none,.len 11 false (.t 10)⟩,
    ⟨none,.mv 12 (.c (.v (.int .i64 0)))⟩])
  (.seq (.blk 0 (.lop b54_0)) (.scr x54_0)))
 (.seq (.ops [⟨none,.mv 36 (.t 5)⟩,
   ⟨none,.asg 4 (.t 36)⟩])
 (.seq (.scr r54) .ret))))),
  37,[4]⟩
abbrev K55 : Nat:=6
def hints55 : List (List Bool):=[bits 10 [5]]
@[simp] def r55 : List Bool:=bits 10 [5]
@[simp] def R55 (s5 : V) : St:=tab 10 6 (fu dd 5 s5) dd
def c55 : MF:=⟨(.seq (.ops [⟨none,.box 3 (.t 0)⟩,
   ⟨none,.box 4 (.t 1)⟩,
   ⟨none,.asg 5 (.c (.v (.bool false)))⟩])
 (.seq (.ops [⟨none,.ldn 6 7 (.t 3)⟩,
   ⟨none,.ldn 7 7 (.t 4)⟩,
   ⟨none,.ld1 8 (.t 2)⟩,
   ⟨none,.call (some 9) 56 [(.t 6),(.t 7),(.t 8)]⟩,
   ⟨none,.asg 5 (.t 9)⟩])
 (.seq (.scr r55) .ret))),
  10,[5]⟩
abbrev K56 : Nat:=18
def hints56 : List (List Bool):=[bits 31 [6]]
@[simp] def r56 : List Bool:=bits 31 [6]
@[simp] def R56 (s6 : V) : St:=tab 31 18 (fu dd 6 s6) dd
def c56 : MF:=⟨(.seq (.ops [⟨none,.box 3 (.t 0)⟩,
   ⟨none,.box 4 (.t 1)⟩,
   ⟨none,.asg 6 (.c (.v (.bool false)))⟩])
 (.seq (.ops [⟨none,.ldn 12 7 (.t 3)⟩,
   ⟨none,.mv 13 (.t 2)⟩,
   ⟨none,.call (some 14) 68 [(.t 12),(.t 13)]⟩,
   ⟨none,.mv 11 (.t 14)⟩,
   ⟨none,.ext 15 (.t 11) 0⟩,
   ⟨none,.ext 16 (.t 11) 1⟩,
   ⟨none,.asg 7 (.t 15)⟩,
   ⟨none,.asg 8 (.t 16)⟩])
 (.seq (.ops [⟨none,.ldn 18 7 (.t 4)⟩,
   ⟨none,.mv 19 (.t 2)⟩,
   ⟨none,.call (some 20) 68 [(.t 18),(.t 19)]⟩,
   ⟨none,.mv 17 (.t 20)⟩,
   ⟨none,.ext 21 (.t 17) 0⟩,
   ⟨none,.ext 22 (.t 17) 1⟩,
   ⟨none,.asg 9 (.t 21)⟩,
   ⟨none,.asg 10 (.t 22)⟩])
 (.seq (.ops [⟨none,.mv 23 (.t 7)⟩,
   ⟨none,.mv 24 (.t 9)⟩,
   ⟨none,.bin 25 .eql .num (.t 23) (.t 24)⟩,
   ⟨none,.mv 26 (.t 25)⟩,
   ⟨some (26,true),.mv 27 (.t 8)⟩,
   ⟨some (26,true),.mv 28 (.t 10)⟩,
   ⟨some (26,true),.bin 29 .lss .num (.t 27) (.t 28)⟩,
   ⟨none,.pick 30 (.t 26) (.t 29) (.c (.v (.bool false)))⟩,
   ⟨none,.asg 6 (.t 30)⟩])
 (.seq (.scr r56) .ret))))),
  31,[6]⟩
abbrev K57 : Nat:=9
def hints57 : List (List Bool):=[bits 19 [],bits 19 [0,1,7,8],bits 19 [],bits 19 [0,1,7,8],bits 19 [4],bits 19 [4]]
@[simp] def r57 : List Bool:=bits 19 [4]
@[simp] def R57 (s4 : V) : St:=tab 19 9 (fu dd 4 s4) dd
@[simp] def x57_0 : List Bool:=bits 19 []
@[simp] def X57_0 : St:=tab 19 9 dd dd
@[simp] def h57_0 : List Bool:=bits 19 [0,1,7,8]
@[simp] def L57_0 (s0 s1 s7 s8 : V) : St:=tab 19 9 (fu (fu (fu (fu dd 8 s8) 7 s7) 1 s1) 0 s0) dd
@[simp] def x57_1 : List Bool:=bits 19 [0,1,7,8]
@[simp] def X57_1 (s0 s1 s7 s8 : V) : St:=tab 19 9 (fu (fu (fu (fu dd 8 s8) 7 s7) 1 s1) 0 s0) dd
def b57_0 : MC:=.seq (.scr h57_0)
 (.seq (.ops [⟨none,.bin 9 .lss .num (.t 8) (.t 7)⟩])
 (.seq (.cnd (.t 9)
   .skip
   (.seq (.scr x57_0) (.ex 0)))
 (.seq (.seq (.blk 1 (.seq (.ops [⟨none,.mv 10 (.t 8)⟩,
     ⟨none,.asg 5 (.t 10)⟩])
   (.seq (.ops [⟨none,.mv 11 (.t 1)⟩,
     ⟨none,.mv 12 (.t 0)⟩,
     ⟨none,.mv 13 (.t 5)⟩,
     ⟨none,.ixs 14 7 (.t 12) (.t 13)⟩,
     ⟨none,.ldn 15 7 (.t 14)⟩,
     ⟨none,.calv (some 16) (.t 11) [(.t 15)]⟩])
   (.cnd (.t 16)
    (.seq (.ops [⟨none,.mv 17 (.t 5)⟩,
      ⟨none,.asg 4 (.t 17)⟩])
    (.seq (.scr r57) .ret))
    .skip)))) (.scr x57_1))
 (.ops [⟨none,.bin 18 .add .num (.t 8) (.c (.v (.int .i64 1)))⟩,
  ⟨none,.mv 8 (.t 18)⟩]))))
def c57 : MF:=⟨(.seq (.ops [⟨none,.asg 4 (.c (.v (.int .i64 0)))⟩])
 (.seq (.seq (.ops [⟨none,.mv 6 (.t 0)⟩,
    ⟨none,.len 7 false (.t 6)⟩,
    ⟨none,.mv 8 (.c (.v (.int .i64 0)))⟩])
  (.seq (.blk 0 (.lop b57_0)) (.scr x57_0)))
 (.seq (.ops [⟨none,.asg 4 (.c (.v (.int .i64 (-1))))⟩])
 (.seq (.scr r57) .ret)))),
  19,[4]⟩
abbrev K58 : Nat:=4
def hints58 : List (List Bool):=[bits 8 [3]]
@[simp] def r58 : List Bool:=bits 8 [3]
@[simp] def R58 (s3 : V) : St:=tab 8 4 (fu dd 3 s3) dd
def c58 : MF:=⟨(.seq (.ops [⟨none,.box 2 (.t 0)⟩,
   ⟨none,.asg 3 (.c (.v (.bool false)))⟩])
 (.seq (.ops [⟨none,.fa 4 0 (.t 2)⟩,
   ⟨none,.ld1 5 (.t 4)⟩,
   ⟨none,.ld1 6 (.t 1)⟩,
   ⟨none,.bin 7 .eql .num (.t 5) (.t 6)⟩,
   ⟨none,.asg 3 (.t 7)⟩])
 (.seq (.scr r58) .ret))),
  8,[3]⟩
abbrev K67 : Nat:=7
def hints67 : List (List Bool):=[bits 15 [6]]
@[simp] def r67 : List Bool:=bits 15 [6]
@[simp] def R67 (s6 : V) : St:=tab 15 7 (fu dd 6 s6) dd
def c67 : MF:=⟨(.seq (.ops [⟨none,.asg 6 (.c (.v (.bool false)))⟩])
 (.seq (.ops [⟨none,.mv 7 (.t 0)⟩,
   ⟨none,.mv 8 (.t 1)⟩,
   ⟨none,.bin 9 .geq .num (.t 7) (.t 8)⟩,
   ⟨none,.mv 10 (.t 9)⟩,
   ⟨some (10,true),.mv 11 (.t 0)⟩,
   ⟨some (10,true),.mv 12 (.t 2)⟩,
   ⟨some (10,true),.bin 13 .leq .num (.t 11) (.t 12)⟩,
   ⟨none,.pick 14 (.t 10) (.t 13) (.c (.v (.bool false)))⟩,
   ⟨none,.asg 6 (.t 14)⟩])
 (.seq (.scr r67) .ret))),
  15,[6]⟩
abbrev K68 : Nat:=6
def hints68 : List (List Bool):=[bits 16 [4,5],bits 16 [4,5]]
@[simp] def r68 : List Bool:=bits 16 [4,5]
@[simp] def R68 (s4 s5 : V) : St:=tab 16 6 (fu (fu dd 5 s5) 4 s4) dd
def c68 : MF:=⟨(.seq (.ops [⟨none,.box 2 (.t 0)⟩,
   ⟨none,.asg 4 (.c (.v (.int .i64 0)))⟩,
   ⟨none,.asg 5 (.c (.v (.int .i64 0)))⟩])
 (.seq (.seq (.ops [⟨none,.mv 6 (.t 1)⟩,
    ⟨none,.bin 7 .eql .num (.t 6) (.c (.v (.int .i64 0)))⟩])
  (.cnd (.t 7)
   (.seq (.drw [⟨none,.fa 8 1 (.t 2)⟩,
     ⟨none,.ld1 9 (.t 8)⟩,
     ⟨none,.fa 10 3 (.t 2)⟩,
     ⟨none,.ld1 11 (.t 10)⟩,
     ⟨none,.mv 4 (.t 9)⟩] [⟨none,.asg 5 (.t 11)⟩,
     ⟨none,.asg 4 (.t 4)⟩])
   (.seq (.scr r68) .ret))
   .skip))
 (.seq (.drw [⟨none,.fa 12 2 (.t 2)⟩,
   ⟨none,.ld1 13 (.t 12)⟩,
   ⟨none,.fa 14 4 (.t 2)⟩,
   ⟨none,.ld1 15 (.t 14)⟩,
   ⟨none,.mv 4 (.t 13)⟩] [⟨none,.asg 5 (.t 15)⟩,
   ⟨none,.asg 4 (.t 4)⟩])
 (.seq (.scr r68) .ret)))),
  16,[4,5]⟩
theorem comp31 : compF Go.Proofs.Try.prog hints31 31 = some c31:=by kernel_rfl
theorem comp32 : compF Go.Proofs.Try.prog hints32 32 = some c32:=by kernel_rfl
theorem comp53 : compF Go.Proofs.Try.prog hints53 53 = some c53:=by kernel_rfl
theorem comp54 : compF Go.Proofs.Try.prog hints54 54 = some c54:=by kernel_rfl
theorem comp55 : compF Go.Proofs.Try.prog hints55 55 = some c55:=by kernel_rfl
theorem comp56 : compF Go.Proofs.Try.prog hints56 56 = some c56:=by kernel_rfl
theorem comp57 : compF Go.Proofs.Try.prog hints57 57 = some c57:=by kernel_rfl
theorem comp58 : compF Go.Proofs.Try.prog hints58 58 = some c58:=by kernel_rfl
theorem comp67 : compF Go.Proofs.Try.prog hints67 67 = some c67:=by kernel_rfl
theorem comp68 : compF Go.Proofs.Try.prog hints68 68 = some c68:=by kernel_rfl
def tbl : FuncId→Option MF
  | 31 => some c31
  | 32 => some c32
  | 53 => some c53
  | 54 => some c54
  | 55 => some c55
  | 56 => some c56
  | 57 => some c57
  | 58 => some c58
  | 67 => some c67
  | 68 => some c68
  | _ => none
theorem tbl_ok (f : FuncId) (mf : MF) (h : tbl f = some mf) : ∃ hints,compF Go.Proofs.Try.prog hints f = some mf:=by
  unfold tbl at h
  split at h
  · cases h; exact ⟨_,comp31⟩
  · cases h; exact ⟨_,comp32⟩
  · cases h; exact ⟨_,comp53⟩
  · cases h; exact ⟨_,comp54⟩
  · cases h; exact ⟨_,comp55⟩
  · cases h; exact ⟨_,comp56⟩
  · cases h; exact ⟨_,comp57⟩
  · cases h; exact ⟨_,comp58⟩
  · cases h; exact ⟨_,comp67⟩
  · cases h; exact ⟨_,comp68⟩
  · cases h
end Go.Mx.B
