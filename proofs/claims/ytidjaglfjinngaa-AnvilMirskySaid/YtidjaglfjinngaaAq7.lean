/-
  Anvils: AnvilMirsky.
-/
import Derived.Test.YtidjaglfjinngaaMgR
namespace Go.Mx
set_option linter.unusedVariables false
set_option linter.unusedSimpArgs false
set_option linter.unusedSectionVars false
open Go

def hints7 : List (List Bool) := [bits 162 [4], bits 162 [4], bits 162 [4], bits 162 [4], bits 162 [0, 1, 9, 10], bits 162 [0, 1, 5, 9, 10, 11], bits 162 [0, 1, 9, 10], bits 162 [0, 1, 5, 9, 10, 11], bits 162 [4], bits 162 [0, 1, 5, 9, 10, 11], bits 162 [0, 1, 5, 9, 10, 11, 12], bits 162 [0, 1, 5, 9, 10, 11], bits 162 [0, 1, 5, 9, 10, 11, 12], bits 162 [0, 10], bits 162 [0, 1, 9, 10, 13], bits 162 [0, 10], bits 162 [0, 1, 9, 10, 13], bits 162 [0, 1, 9, 10, 13, 14], bits 162 [0, 1, 9, 10, 13, 14, 15], bits 162 [0, 1, 9, 10, 13, 14], bits 162 [0, 1, 9, 10, 13, 14, 15], bits 162 [4], bits 162 [4], bits 162 [4]]
@[simp] def r7 : List Bool := bits 162 [4]
@[simp] def R7 (s4 : V) : St := tab 162 31 (fu dd 4 s4) dd
@[simp] def x7_0 : List Bool := bits 162 [0, 1, 9, 10]
@[simp] def X7_0 (s0 s1 s9 s10 : V) : St := tab 162 31 (fu (fu (fu (fu dd 10 s10) 9 s9) 1 s1) 0 s0) dd
@[simp] def h7_0 : List Bool := bits 162 [0, 1, 5, 9, 10, 11]
@[simp] def L7_0 (s0 s1 s5 s9 s10 s11 : V) : St := tab 162 31 (fu (fu (fu (fu (fu (fu dd 11 s11) 10 s10) 9 s9) 5 s5) 1 s1) 0 s0) dd
@[simp] def x7_1 : List Bool := bits 162 [0, 1, 5, 9, 10, 11]
@[simp] def X7_1 (s0 s1 s5 s9 s10 s11 : V) : St := tab 162 31 (fu (fu (fu (fu (fu (fu dd 11 s11) 10 s10) 9 s9) 5 s5) 1 s1) 0 s0) dd
@[simp] def x7_2 : List Bool := bits 162 [0, 1, 5, 9, 10, 11]
@[simp] def X7_2 (s0 s1 s5 s9 s10 s11 : V) : St := tab 162 31 (fu (fu (fu (fu (fu (fu dd 11 s11) 10 s10) 9 s9) 5 s5) 1 s1) 0 s0) dd
@[simp] def h7_1 : List Bool := bits 162 [0, 1, 5, 9, 10, 11, 12]
@[simp] def L7_1 (s0 s1 s5 s9 s10 s11 s12 : V) : St := tab 162 31 (fu (fu (fu (fu (fu (fu (fu dd 12 s12) 11 s11) 10 s10) 9 s9) 5 s5) 1 s1) 0 s0) dd
@[simp] def x7_3 : List Bool := bits 162 [0, 1, 5, 9, 10, 11, 12]
@[simp] def X7_3 (s0 s1 s5 s9 s10 s11 s12 : V) : St := tab 162 31 (fu (fu (fu (fu (fu (fu (fu dd 12 s12) 11 s11) 10 s10) 9 s9) 5 s5) 1 s1) 0 s0) dd
def b7_1 : MC := .seq (.scr h7_1)
 (.seq (.seq (.ops [⟨none, .mv 76 (.t 12)⟩,
    ⟨none, .mv 77 (.t 5)⟩,
    ⟨none, .mv 78 (.t 11)⟩,
    ⟨none, .ixs 79 1 (.t 77) (.t 78)⟩,
    ⟨none, .ld1 80 (.t 79)⟩,
    ⟨none, .len 81 false (.t 80)⟩,
    ⟨none, .bin 82 .lss .num (.t 76) (.t 81)⟩])
  (.cnd (.t 82)
   .skip
   (.seq (.scr x7_2) (.ex 2))))
 (.seq (.seq (.blk 3 (.seq (.ops [⟨none, .mv 85 (.t 9)⟩,
     ⟨none, .mv 86 (.t 5)⟩,
     ⟨none, .mv 87 (.t 11)⟩,
     ⟨none, .ixs 88 1 (.t 86) (.t 87)⟩,
     ⟨none, .ld1 89 (.t 88)⟩,
     ⟨none, .mv 90 (.t 12)⟩,
     ⟨none, .ixs 91 1 (.t 89) (.t 90)⟩,
     ⟨none, .ld1 92 (.t 91)⟩,
     ⟨none, .mv 93 (.t 11)⟩,
     ⟨none, .bin 94 .add .num (.t 93) (.c (.v (.int .i64 1)))⟩,
     ⟨none, .ixs 95 1 (.t 85) (.t 92)⟩,
     ⟨none, .stn none 1 (.t 95) (.t 94)⟩])
   (.ops [⟨none, .mv 96 (.t 10)⟩,
    ⟨none, .bin 97 .add .num (.t 96) (.c (.v (.int .i64 1)))⟩,
    ⟨none, .asg 10 (.t 97)⟩]))) (.scr x7_3))
 (.ops [⟨none, .mv 83 (.t 12)⟩,
  ⟨none, .bin 84 .add .num (.t 83) (.c (.v (.int .i64 1)))⟩,
  ⟨none, .asg 12 (.t 84)⟩])))
def b7_0 : MC := .seq (.scr h7_0)
 (.seq (.seq (.ops [⟨none, .mv 53 (.t 11)⟩,
    ⟨none, .mv 54 (.t 5)⟩,
    ⟨none, .len 55 false (.t 54)⟩,
    ⟨none, .bin 56 .lss .num (.t 53) (.t 55)⟩])
  (.cnd (.t 56)
   .skip
   (.seq (.scr x7_0) (.ex 0))))
 (.seq (.seq (.blk 1 (.seq (.seq (.ops (⟨none, .mv 59 (.t 5)⟩ ::
      ⟨none, .mv 60 (.t 11)⟩ ::
      ⟨none, .ixs 61 1 (.t 59) (.t 60)⟩ ::
      ⟨none, .ld1 62 (.t 61)⟩ ::
      ⟨none, .len 63 false (.t 62)⟩ ::
      ⟨none, .bin 64 .eql .num (.t 63) (.c (.v (.int .i64 0)))⟩ ::
      ⟨none, .mv 65 (.t 64)⟩ ::
      ⟨some (65, false), .mv 66 (.t 5)⟩ ::
      ⟨some (65, false), .mv 67 (.t 11)⟩ ::
      ⟨some (65, false), .ixs 68 1 (.t 66) (.t 67)⟩ ::
      ⟨some (65, false), .ld1 69 (.t 68)⟩ ::
      ⟨some (65, false), .mv 70 (.t 0)⟩ ::
      ⟨some (65, false), .mm 71 false (.t 70) (.c (.v (.int .i64 12)))⟩ ::
      ⟨some (65, false), .bin 72 .sub .num (.t 71) (.c (.v (.int .i64 1)))⟩ ::
      ⟨some (65, false), .call (some 73) 22 [(.t 69), (.c (.v (.int .i64 0))), (.t 72)]⟩ ::
      ⟨some (65, false), .un 74 .not (.t 73)⟩ ::
      ⟨none, .pick 75 (.t 65) (.c (.v (.bool true))) (.t 74)⟩ :: []))
    (.cnd (.t 75)
     (.seq (.ops [⟨none, .asg 4 (.c (.v (.bool false)))⟩])
     (.seq (.scr r7) .ret))
     .skip))
   (.seq (.ops [⟨none, .asg 12 (.c (.v (.int .i64 0)))⟩])
   (.seq (.blk 2 (.lop b7_1)) (.scr x7_2))))) (.scr x7_1))
 (.ops [⟨none, .mv 57 (.t 11)⟩,
  ⟨none, .bin 58 .add .num (.t 57) (.c (.v (.int .i64 1)))⟩,
  ⟨none, .asg 11 (.t 58)⟩])))
@[simp] def x7_4 : List Bool := bits 162 [0, 10]
@[simp] def X7_4 (s0 s10 : V) : St := tab 162 31 (fu (fu dd 10 s10) 0 s0) dd
@[simp] def h7_2 : List Bool := bits 162 [0, 1, 9, 10, 13]
@[simp] def L7_2 (s0 s1 s9 s10 s13 : V) : St := tab 162 31 (fu (fu (fu (fu (fu dd 13 s13) 10 s10) 9 s9) 1 s1) 0 s0) dd
@[simp] def x7_5 : List Bool := bits 162 [0, 1, 9, 10, 13]
@[simp] def X7_5 (s0 s1 s9 s10 s13 : V) : St := tab 162 31 (fu (fu (fu (fu (fu dd 13 s13) 10 s10) 9 s9) 1 s1) 0 s0) dd
@[simp] def x7_6 : List Bool := bits 162 [0, 1, 9, 10, 13, 14]
@[simp] def X7_6 (s0 s1 s9 s10 s13 s14 : V) : St := tab 162 31 (fu (fu (fu (fu (fu (fu dd 14 s14) 13 s13) 10 s10) 9 s9) 1 s1) 0 s0) dd
@[simp] def h7_3 : List Bool := bits 162 [0, 1, 9, 10, 13, 14, 15]
@[simp] def L7_3 (s0 s1 s9 s10 s13 s14 s15 : V) : St := tab 162 31 (fu (fu (fu (fu (fu (fu (fu dd 15 s15) 14 s14) 13 s13) 10 s10) 9 s9) 1 s1) 0 s0) dd
@[simp] def x7_7 : List Bool := bits 162 [0, 1, 9, 10, 13, 14, 15]
@[simp] def X7_7 (s0 s1 s9 s10 s13 s14 s15 : V) : St := tab 162 31 (fu (fu (fu (fu (fu (fu (fu dd 15 s15) 14 s14) 13 s13) 10 s10) 9 s9) 1 s1) 0 s0) dd
def b7_3 : MC := .seq (.scr h7_3)
 (.seq (.seq (.ops [⟨none, .mv 107 (.t 15)⟩,
    ⟨none, .mv 108 (.t 0)⟩,
    ⟨none, .bin 109 .lss .num (.t 107) (.t 108)⟩,
    ⟨none, .mv 110 (.t 109)⟩,
    ⟨some (110, true), .mv 111 (.t 15)⟩,
    ⟨some (110, true), .bin 112 .lss .num (.t 111) (.c (.v (.int .i64 12)))⟩,
    ⟨none, .pick 113 (.t 110) (.t 112) (.c (.v (.bool false)))⟩])
  (.cnd (.t 113)
   .skip
   (.seq (.scr x7_6) (.ex 6))))
 (.seq (.seq (.blk 7 (.seq (.ops [⟨none, .mv 116 (.t 0)⟩,
     ⟨none, .mv 117 (.t 1)⟩,
     ⟨none, .mv 118 (.t 15)⟩,
     ⟨none, .mv 119 (.t 13)⟩,
     ⟨none, .call (some 120) 23 [(.t 116), (.t 117), (.t 118), (.t 119)]⟩])
   (.cnd (.t 120)
    (.seq (.seq (.drw [⟨none, .mv 121 (.t 9)⟩,
       ⟨none, .mv 122 (.t 15)⟩,
       ⟨none, .ixs 123 1 (.t 121) (.t 122)⟩,
       ⟨none, .ld1 124 (.t 123)⟩,
       ⟨none, .mv 125 (.t 9)⟩,
       ⟨none, .mv 126 (.t 13)⟩,
       ⟨none, .ixs 127 1 (.t 125) (.t 126)⟩,
       ⟨none, .ld1 128 (.t 127)⟩] [⟨none, .bin 129 .geq .num (.t 124) (.t 128)⟩])
     (.cnd (.t 129)
      (.seq (.ops [⟨none, .asg 4 (.c (.v (.bool false)))⟩])
      (.seq (.scr r7) .ret))
      .skip))
    (.drw [⟨none, .mv 130 (.t 14)⟩,
     ⟨none, .mv 131 (.t 130)⟩,
     ⟨some (131, false), .mv 132 (.t 9)⟩,
     ⟨some (131, false), .mv 133 (.t 15)⟩,
     ⟨some (131, false), .ixs 134 1 (.t 132) (.t 133)⟩,
     ⟨some (131, false), .ld1 135 (.t 134)⟩,
     ⟨some (131, false), .mv 136 (.t 9)⟩,
     ⟨some (131, false), .mv 137 (.t 13)⟩,
     ⟨some (131, false), .ixs 138 1 (.t 136) (.t 137)⟩,
     ⟨some (131, false), .ld1 139 (.t 138)⟩,
     ⟨some (131, false), .bin 140 .sub .num (.t 139) (.c (.v (.int .i64 1)))⟩] [⟨some (131, false), .bin 141 .eql .num (.t 135) (.t 140)⟩,
     ⟨none, .pick 142 (.t 131) (.c (.v (.bool true))) (.t 141)⟩,
     ⟨none, .asg 14 (.t 142)⟩]))
    .skip))) (.scr x7_7))
 (.ops [⟨none, .mv 114 (.t 15)⟩,
  ⟨none, .bin 115 .add .num (.t 114) (.c (.v (.int .i64 1)))⟩,
  ⟨none, .asg 15 (.t 115)⟩])))
def b7_2 : MC := .seq (.scr h7_2)
 (.seq (.seq (.ops [⟨none, .mv 98 (.t 13)⟩,
    ⟨none, .mv 99 (.t 0)⟩,
    ⟨none, .bin 100 .lss .num (.t 98) (.t 99)⟩,
    ⟨none, .mv 101 (.t 100)⟩,
    ⟨some (101, true), .mv 102 (.t 13)⟩,
    ⟨some (101, true), .bin 103 .lss .num (.t 102) (.c (.v (.int .i64 12)))⟩,
    ⟨none, .pick 104 (.t 101) (.t 103) (.c (.v (.bool false)))⟩])
  (.cnd (.t 104)
   .skip
   (.seq (.scr x7_4) (.ex 4))))
 (.seq (.seq (.blk 5 (.seq (.ops [⟨none, .asg 14 (.c (.v (.bool false)))⟩])
   (.seq (.seq (.ops [⟨none, .asg 15 (.c (.v (.int .i64 0)))⟩])
    (.seq (.blk 6 (.lop b7_3)) (.scr x7_6)))
   (.seq (.ops [⟨none, .mv 143 (.t 9)⟩,
     ⟨none, .mv 144 (.t 13)⟩,
     ⟨none, .ixs 145 1 (.t 143) (.t 144)⟩,
     ⟨none, .ld1 146 (.t 145)⟩,
     ⟨none, .bin 147 .eql .num (.t 146) (.c (.v (.int .i64 0)))⟩,
     ⟨none, .mv 148 (.t 147)⟩,
     ⟨some (148, false), .mv 149 (.t 9)⟩,
     ⟨some (148, false), .mv 150 (.t 13)⟩,
     ⟨some (148, false), .ixs 151 1 (.t 149) (.t 150)⟩,
     ⟨some (148, false), .ld1 152 (.t 151)⟩,
     ⟨some (148, false), .bin 153 .gtr .num (.t 152) (.c (.v (.int .i64 1)))⟩,
     ⟨some (148, false), .mv 154 (.t 153)⟩,
     ⟨some (154, true), .mv 155 (.t 14)⟩,
     ⟨some (154, true), .un 156 .not (.t 155)⟩,
     ⟨some (148, false), .pick 157 (.t 154) (.t 156) (.c (.v (.bool false)))⟩,
     ⟨none, .pick 158 (.t 148) (.c (.v (.bool true))) (.t 157)⟩])
   (.cnd (.t 158)
    (.seq (.ops [⟨none, .asg 4 (.c (.v (.bool false)))⟩])
    (.seq (.scr r7) .ret))
    .skip))))) (.scr x7_5))
 (.ops [⟨none, .mv 105 (.t 13)⟩,
  ⟨none, .bin 106 .add .num (.t 105) (.c (.v (.int .i64 1)))⟩,
  ⟨none, .asg 13 (.t 106)⟩])))
def c7 : MF := ⟨(.seq (.ops [⟨none, .asg 4 (.c (.v (.bool false)))⟩])
 (.seq (.seq (.ops [⟨none, .call (some 16) 11 []⟩,
    ⟨none, .un 17 .not (.t 16)⟩,
    ⟨none, .mv 18 (.t 17)⟩,
    ⟨some (18, false), .mv 19 (.t 1)⟩,
    ⟨some (18, false), .call (some 20) 12 [(.t 19)]⟩,
    ⟨some (18, false), .un 21 .not (.t 20)⟩,
    ⟨none, .pick 22 (.t 18) (.c (.v (.bool true))) (.t 21)⟩])
  (.cnd (.t 22)
   (.seq (.ops [⟨none, .call (some 23) 11 []⟩,
     ⟨none, .asg 4 (.t 23)⟩])
   (.seq (.scr r7) .ret))
   .skip))
 (.seq (.ops [⟨none, .mv 25 (.t 0)⟩,
   ⟨none, .mv 26 (.t 1)⟩,
   ⟨none, .call (some 27) 13 [(.t 25), (.t 26)]⟩,
   ⟨none, .mv 24 (.t 27)⟩,
   ⟨none, .ext 28 (.t 24) 0⟩,
   ⟨none, .ext 29 (.t 24) 1⟩,
   ⟨none, .asg 5 (.t 28)⟩,
   ⟨none, .asg 6 (.t 29)⟩])
 (.seq (.ops [⟨none, .mv 31 (.t 0)⟩,
   ⟨none, .mv 32 (.t 1)⟩,
   ⟨none, .call (some 33) 19 [(.t 31), (.t 32)]⟩,
   ⟨none, .mv 30 (.t 33)⟩,
   ⟨none, .ext 34 (.t 30) 0⟩,
   ⟨none, .ext 35 (.t 30) 1⟩,
   ⟨none, .asg 7 (.t 34)⟩,
   ⟨none, .asg 8 (.t 35)⟩])
 (.seq (.seq (.ops [⟨none, .mv 36 (.t 6)⟩,
    ⟨none, .mv 37 (.t 8)⟩,
    ⟨none, .bin 38 .neq .num (.t 36) (.t 37)⟩])
  (.cnd (.t 38)
   (.seq (.ops [⟨none, .asg 4 (.c (.v (.bool false)))⟩])
   (.seq (.scr r7) .ret))
   .skip))
 (.seq (.seq (.ops [⟨none, .mv 39 (.t 6)⟩,
    ⟨none, .bin 40 .neq .num (.t 39) (.c (.v (.int .i64 0)))⟩])
  (.cnd (.t 40)
   (.seq (.ops [⟨none, .mv 41 (.t 5)⟩,
     ⟨none, .len 42 false (.t 41)⟩,
     ⟨none, .bin 43 .eql .num (.t 42) (.c (.v (.int .i64 0)))⟩,
     ⟨none, .mv 44 (.t 43)⟩,
     ⟨some (44, true), .mv 45 (.t 7)⟩,
     ⟨some (44, true), .bin 46 .eql .num (.t 45) (.c (.v (.int .i64 0)))⟩,
     ⟨none, .pick 47 (.t 44) (.t 46) (.c (.v (.bool false)))⟩,
     ⟨none, .asg 4 (.t 47)⟩])
   (.seq (.scr r7) .ret))
   .skip))
 (.seq (.seq (.ops [⟨none, .mv 48 (.t 5)⟩,
    ⟨none, .len 49 false (.t 48)⟩,
    ⟨none, .mv 50 (.t 7)⟩,
    ⟨none, .bin 51 .neq .num (.t 49) (.t 50)⟩])
  (.cnd (.t 51)
   (.seq (.ops [⟨none, .asg 4 (.c (.v (.bool false)))⟩])
   (.seq (.scr r7) .ret))
   .skip))
 (.seq (.ops [⟨none, .mks 52 1 [(.v (.int .i64 0))] (.c (.v (.int .i64 12))) (.c (.v (.int .i64 12)))⟩,
   ⟨none, .asg 9 (.t 52)⟩])
 (.seq (.ops [⟨none, .asg 10 (.c (.v (.int .i64 0)))⟩])
 (.seq (.seq (.ops [⟨none, .asg 11 (.c (.v (.int .i64 0)))⟩])
  (.seq (.blk 0 (.lop b7_0)) (.scr x7_0)))
 (.seq (.seq (.ops [⟨none, .asg 13 (.c (.v (.int .i64 0)))⟩])
  (.seq (.blk 4 (.lop b7_2)) (.scr x7_4)))
 (.seq (.ops [⟨none, .mv 159 (.t 10)⟩,
   ⟨none, .mv 160 (.t 0)⟩,
   ⟨none, .bin 161 .eql .num (.t 159) (.t 160)⟩,
   ⟨none, .asg 4 (.t 161)⟩])
 (.seq (.scr r7) .ret))))))))))))),
  162, [4]⟩
theorem comp7 : compF Go.Proofs.Try.prog hints7 7 = some c7 := by kernel_rfl
/-- All levels below one that occurs occur. -/
theorem LvO.below {R : Nat → Nat → Bool} {n : Nat} {lv : Nat → Nat} (hR : PO R n) (h : LvO R n lv) : ∀ (k v : Nat), v < n → lv v ≤ k → ∀ i, i ≤ lv v → ∃ u, u < n ∧ lv u = i
  | 0, v, hv, hk, i, hi => ⟨v, hv, by omega⟩
  | k + 1, v, hv, hk, i, hi => by
    by_cases e : i = lv v
    · exact ⟨v, hv, e.symm⟩
    · rcases h.at' v with h0 | ⟨u, h1, h2⟩
      · omega
      · exact LvO.below hR h k u (hR.lt u v h1).1 (by omega) i (by omega)
theorem maxN_at (f : Nat → Nat) : ∀ n, 0 < maxN f n → ∃ v, v < n ∧ f v = maxN f n
  | 0, h => by simp [maxN] at h
  | n + 1, h => by
    rw [maxN_succ] at h ⊢
    by_cases hc : maxN f n ≤ f n
    · exact ⟨n, by omega, by omega⟩
    · obtain ⟨v, h1, h2⟩ := maxN_at f n (by omega)
      exact ⟨v, by omega, by omega⟩
theorem lvl_ne {R : Nat → Nat → Bool} {n : Nat} {lv : Nat → Nat} (hR : PO R n) (h : LvO R n lv) {i : Nat} (hi : i < maxN (fun v => lv v + 1) n) : lvl lv n i ≠ [] := by
  obtain ⟨v, h1, h2⟩ := maxN_at (fun v => lv v + 1) n (by omega)
  have h2 : lv v + 1 = maxN (fun v => lv v + 1) n := h2
  obtain ⟨u, u1, u2⟩ := h.below hR (lv v) v h1 (Nat.le_refl _) i (by omega)
  exact List.ne_nil_of_mem (lvl_mem.2 ⟨u1, u2⟩)
/-- In which round each vertex stands, as far as the rounds are read. -/
def atF (lv : Nat → Nat) (n i : Nat) (c : List Nat) : Nat → Nat := fun v => if v < n ∧ lv v < i then lv v + 1 else if v ∈ c then i + 1 else 0
theorem atF_put (lv : Nat → Nat) (n i : Nat) (c : List Nat) (v : Nat) (h : v < n ∧ lv v = i) : updF (atF lv n i c) v (i + 1) = atF lv n i (c ++ [v]) := by
  funext x
  unfold updF atF
  by_cases hx : x = v
  · subst hx
    rw [if_pos rfl, if_neg (by omega), if_pos (by simp)]
  · rw [if_neg hx]
    have : x ∈ c ++ [v] ↔ x ∈ c := by simp [hx]
    simp [this]
theorem atF_next (lv : Nat → Nat) (n i : Nat) : atF lv n i (lvl lv n i) = atF lv n (i + 1) [] := by
  funext v
  unfold atF
  by_cases h1 : v < n ∧ lv v < i
  · rw [if_pos h1, if_pos (by omega)]
  · rw [if_neg h1]
    by_cases h2 : v ∈ lvl lv n i
    · have := lvl_mem.1 h2
      rw [if_pos h2, if_pos (by omega)]
      omega
    · rw [if_neg h2]
      have : ¬ (v < n ∧ lv v < i + 1) := fun h => h2 (lvl_mem.2 (by omega))
      rw [if_neg this]
      simp
def cntM (lv : Nat → Nat) (n i : Nat) : Nat := ((List.range n).filter fun v => decide (lv v < i)).length
theorem cntM_succ (lv : Nat → Nat) (n i : Nat) : cntM lv n (i + 1) = cntM lv n i + (lvl lv n i).length := by
  unfold cntM lvl
  rw [← filter_or (fun v => decide (lv v < i)) (fun v => lv v == i) (fun x hx => by
    have h1 := of_decide_eq_true hx.1
    have h2 := eq_of_beq hx.2
    omega)]
  congr 1
  apply List.filter_congr
  intro v _
  rw [Bool.eq_iff_iff]
  simp only [decide_eq_true_eq, Bool.or_eq_true, beq_iff_eq]
  omega
theorem cntM_zero (lv : Nat → Nat) (n : Nat) : cntM lv n 0 = 0 := by
  unfold cntM
  rw [List.filter_eq_nil_iff.2 (by simp)]
  rfl
theorem cntM_all {lv : Nat → Nat} {n i : Nat} (h : ∀ v, v < n → lv v < i) : cntM lv n i = n := by
  unfold cntM
  rw [List.filter_eq_self.2 fun v hv => by simpa using h v (List.mem_range.1 hv), List.length_range]
theorem cntM_le (lv : Nat → Nat) (n i : Nat) : cntM lv n i ≤ n := by
  have := List.length_filter_le (fun v => decide (lv v < i)) (List.range n)
  simpa [cntM] using this
theorem loop7_1 (call : Oracle) (fuel : Nat) (b z : Bool) (a : List (Int × Int)) (n : Nat) (hn : n ≤ 12) (lv : Nat → Nat) (h i : Nat) (hi : i < h) (hh : h ≤ 100) (fu : Nat) (hf : 1000 < fu) (st : St)
    (h0 : drops st h7_1 = L7_1 (ii n) (.ro (sa b a)) (.own (gsl eII z (rdR lv h n))) (.own (lz 12 (atF lv n i []))) (ii (cntM lv n i : Nat)) (ii i) (ii 0)) :
    run.loopN (run call fuel b7_1) fu st = some (.ex 2, X7_2 (ii n) (.ro (sa b a)) (.own (gsl eII z (rdR lv h n))) (.own (lz 12 (atF lv n (i + 1) []))) (ii (cntM lv n (i + 1) : Nat)) (ii i)) := by
  have hrow := rdR_nth lv (i := n) hi (true, [])
  have hlen := rdR_len lv h n
  have hcl := lvl_len lv n i
  rw [cntM_succ, ← atF_next]
  have hcn := cntM_le lv n i
  have hnx : ∀ k, k < (lvl lv n i).length → updF (atF lv n i ((lvl lv n i).take k)) (nth (lvl lv n i) 0 k) (i + 1) = atF lv n i ((lvl lv n i).take (k + 1)) := fun k hk => by
    rw [take_succ_nth 0 hk]
    exact atF_put lv n i _ _ (lvl_mem.1 (nth_mem 0 hk))
  have hv : ∀ k, k < (lvl lv n i).length → nth (lvl lv n i) 0 k < 12 := fun k hk => by
    have := (lvl_mem.1 (nth_mem 0 hk)).1
    omega
  generalize rdR lv h n = R at *
  generalize lvl lv n i = c at *
  have hend : lz 12 (atF lv n i (c.take c.length)) = lz 12 (atF lv n i c) := by rw [List.take_length]
  refine loop_cnt call fuel h7_1 _ c.length (fun k => L7_1 (ii n) (.ro (sa b a)) (.own (gsl eII z R)) (.own (lz 12 (atF lv n i (c.take k)))) (ii (cntM lv n i + k : Nat)) (ii i) (ii k)) _ (by intro h; cases h) ?_ (by simp [hlen, hi, hrow]) fu st h0 (by omega)
  intro k hk
  have hw := wrap_succ (i := k) (by omega)
  have hw1 := wrap_succ (i := i) (by omega)
  have hw2 := wrap_succ (i := cntM lv n i + k) (by omega)
  have e1 := zl_nth c k
  have hvk := hv k hk
  have hz := zr_set 12 (atF lv n i (c.take k)) (nth c 0 k) (i + 1)
  rw [hnx k hk] at hz
  have hz' : gsl (eI .i64) false ((zr 12 (atF lv n i (c.take k))).set (nth c 0 k) ((i : Int) + 1)) = lz 12 (atF lv n i (c.take (k + 1))) := congrArg (gsl (eI .i64) false) hz
  have hw2' : IntKind.i64.wrap ((cntM lv n i : Int) + (k : Int) + 1) = ((cntM lv n i + (k + 1) : Nat) : Int) := by
    have := hw2
    push_cast at this ⊢
    omega
  generalize cntM lv n i = q at *
  generalize atF lv n i (c.take (k + 1)) = F' at *
  generalize atF lv n i (c.take k) = F at *
  generalize nth c 0 k = v at *
  simp [hlen, hi, hrow, hk, hw, hw1, hw2, hw2', e1, hvk, hz']
theorem loop7_0 (call : Oracle) (fuel : Nat) (hF : 1000 < fuel) (b z : Bool) (a : List (Int × Int)) (n : Nat) (hn : n ≤ 12) (lv : Nat → Nat) (h : Nat) (hh : h ≤ 100) (hne : ∀ i, i < h → lvl lv n i ≠ [])
    (h22 : ∀ i, i < h → call 22 [soE (lvl lv n i), nI 0, nI ((n : Int) - 1)] = some (bV true)) (st : St)
    (h0 : drops st h7_0 = L7_0 (ii n) (.ro (sa b a)) (.own (gsl eII z (rdR lv h n))) (.own (lz 12 (atF lv n 0 []))) (ii 0) (ii 0)) :
    run.loopN (run call fuel b7_0) fuel st = some (.ex 0, X7_0 (ii n) (.ro (sa b a)) (.own (lz 12 (atF lv n h []))) (ii (cntM lv n h : Nat))) := by
  have hlen := rdR_len lv h n
  refine loop_cnt call fuel h7_0 _ h (fun i => L7_0 (ii n) (.ro (sa b a)) (.own (gsl eII z (rdR lv h n))) (.own (lz 12 (atF lv n i []))) (ii (cntM lv n i : Nat)) (ii i)) _ (by intro h; cases h) ?_ (by simp [hlen]) fuel st (by rw [h0, cntM_zero]; rfl) (by omega)
  intro i hi
  have hw := wrap_succ (i := i) (by omega)
  have hrow := rdR_nth lv (i := n) hi (true, [])
  have e22 := h22 i hi
  have hL := loop7_1 call fuel b z a n hn lv h i hi hh fuel hF
  have hlz : ¬ (lvl lv n i).length = 0 := by simpa using hne i hi
  have hmin : min (n : Int) 12 = (n : Int) := by omega
  have hwn : IntKind.i64.wrap ((n : Int) - 1) = (n : Int) - 1 := wrap_eq (by unfold I64; omega)
  generalize rdR lv h n = R at *
  generalize lvl lv n i = c at *
  simp [hlen, hi, hrow, hlz, hmin, hwn, e22]
  rw [hL _ (by simp)]
  simp [hw]
/-- Has a vertex one right before it, among the first so many? -/
def befK (R : Nat → Nat → Bool) (F : Nat → Nat) (i k : Nat) : Bool := (List.range k).any fun k => R k i && decide (F k + 1 = F i)
theorem befK_succ (R : Nat → Nat → Bool) (F : Nat → Nat) (i k : Nat) : befK R F i (k + 1) = (befK R F i k || (R k i && decide (F k + 1 = F i))) := by
  unfold befK
  rw [List.range_succ, List.any_append]
  simp
theorem loop7_3 (call : Oracle) (fuel : Nat) (b : Bool) (a : List (Int × Int)) (n : Nat) (hn : n ≤ 12) (R : Nat → Nat → Bool) (F : Nat → Nat) (q : Int) (i : Nat) (hi : i < n) (hFb : ∀ v, F v ≤ 100) (hR : ∀ k, k < n → R k i = true → F k < F i)
    (h23 : ∀ k, k < n → call 23 [nI n, sa b a, nI k, nI i] = some (bV (R k i))) (fu : Nat) (hf : 1000 < fu) (st : St)
    (h0 : drops st h7_3 = L7_3 (ii n) (.ro (sa b a)) (.own (lz 12 F)) (ii q) (ii i) (bb false) (ii 0)) :
    run.loopN (run call fuel b7_3) fu st = some (.ex 6, X7_6 (ii n) (.ro (sa b a)) (.own (lz 12 F)) (ii q) (ii i) (bb (befK R F i n))) := by
  refine loop_cnt call fuel h7_3 _ n (fun k => L7_3 (ii n) (.ro (sa b a)) (.own (lz 12 F)) (ii q) (ii i) (bb (befK R F i k)) (ii k)) _ (by intro h; cases h) ?_ (by simp) fu st h0 (by omega)
  intro k hk
  have hw := wrap_succ (i := k) (by omega)
  have hk12 : k < 12 := by omega
  have hi12 : i < 12 := by omega
  have hk12' : (k : Int) < 12 := by omega
  have e1 := zr_nth 12 F hk12
  have e2 := zr_nth 12 F hi12
  have e23 := h23 k hk
  rw [befK_succ]
  generalize befK R F i k = t at *
  by_cases hr : R k i = true
  · rw [hr] at e23
    have hlt := hR k hk hr
    have hlt' : ¬ ((F i : Nat) : Int) ≤ ((F k : Nat) : Int) := by omega
    have hFi := hFb i
    have hwi : IntKind.i64.wrap (((F i : Nat) : Int) - 1) = ((F i : Nat) : Int) - 1 := wrap_eq (by unfold I64; omega)
    rw [hr]
    cases t
    · by_cases hq : F k + 1 = F i
      · have hq' : ((F k : Nat) : Int) = ((F i : Nat) : Int) - 1 := by omega
        have hwi' := hwi.trans hq'.symm
        simp [hk, hk12, hk12', hi12, hw, e1, e2, e23, hlt', hwi', hq]
      · have hq' : (((F k : Nat) : Int) == ((F i : Nat) : Int) - 1) = false := by
          have : ¬ ((F k : Nat) : Int) = ((F i : Nat) : Int) - 1 := by omega
          simpa using this
        simp [hk, hk12, hk12', hi12, hw, e1, e2, e23, hlt', hwi, hq, hq']
    · simp [hk, hk12, hk12', hi12, hw, e1, e2, e23, hlt']
  · have hr : R k i = false := by simpa using hr
    rw [hr] at e23
    rw [hr]
    simp [hk, hk12', hw, e23]
theorem loop7_2 (call : Oracle) (fuel : Nat) (hF : 1000 < fuel) (b : Bool) (a : List (Int × Int)) (n : Nat) (hn : n ≤ 12) (R : Nat → Nat → Bool) (F : Nat → Nat) (q : Int) (hFb : ∀ v, F v ≤ 100) (hR : ∀ k i, k < n → i < n → R k i = true → F k < F i)
    (h1 : ∀ i, i < n → F i ≠ 0) (h2 : ∀ i, i < n → 1 < F i → befK R F i n = true)
    (h23 : ∀ k i, k < n → i < n → call 23 [nI n, sa b a, nI k, nI i] = some (bV (R k i))) (st : St)
    (h0 : drops st h7_2 = L7_2 (ii n) (.ro (sa b a)) (.own (lz 12 F)) (ii q) (ii 0)) :
    run.loopN (run call fuel b7_2) fuel st = some (.ex 4, X7_4 (ii n) (ii q)) := by
  refine loop_cnt call fuel h7_2 _ n (fun i => L7_2 (ii n) (.ro (sa b a)) (.own (lz 12 F)) (ii q) (ii i)) _ (by intro h; cases h) ?_ (by simp) fuel st h0 (by omega)
  intro i hi
  have hw := wrap_succ (i := i) (by omega)
  have hi12 : i < 12 := by omega
  have hi12' : (i : Int) < 12 := by omega
  have e2 := zr_nth 12 F hi12
  have hL := loop7_3 call fuel b a n hn R F q i hi hFb (fun k hk => hR k i hk hi) (fun k hk => h23 k i hk hi) fuel hF
  have hz := h1 i hi
  have hb := h2 i hi
  have hz' : ¬ ((F i : Nat) : Int) = 0 := by omega
  simp [hi, hi12']
  rw [hL _ (by simp)]
  by_cases hg : 1 < F i
  · have hb := hb hg
    have hg' : (1 : Int) < ((F i : Nat) : Int) := by omega
    rw [hb]
    simp [hi12, e2, hz, hg, hg', hw]
  · have hg' : ¬ (1 : Int) < ((F i : Nat) : Int) := by omega
    generalize befK R F i n = t at *
    simp [hi12, e2, hz, hg, hg', hw]
theorem okL_asc {c : List Nat} {n : Nat} (h : c.Pairwise (· < ·)) (hlt : ∀ v ∈ c, v < n) : (List.range (zl c).length).any (fun i => !okL (zl c) 0 ((n : Int) - 1) i) = false := by
  rw [any_range]
  intro i hi
  rw [zl_len] at hi
  have h1 := hlt _ (nth_mem 0 hi)
  unfold okL
  rw [zl_nth, zl_nth]
  have c1 : ((nth c 0 i : Nat) : Int) ≤ (n : Int) - 1 := by omega
  by_cases h0 : i = 0
  · subst h0
    simp [c1]
  · have h2 := List.pairwise_iff_getElem.1 h (i - 1) i (by omega) hi (by omega)
    rw [← nth_get 0 (show i - 1 < c.length by omega), ← nth_get 0 hi] at h2
    simp [c1, h2]
theorem law7 (b : Bool) (n : Int) (a : List (Int × Int)) : callM (S 8) 6000 c7 [nI n, sa b a] = some (bV true) := by
  have h11 := s11 2
  have h12 := s12 7 b a
  rw [callM_eq (mf := c7) rfl, callF_tab _ _ c7 31 _ (by exact Nat.le_of_ble_eq_true rfl) (by exact Nat.le_of_ble_eq_true rfl)]
  by_cases hl : a.length ≤ 80
  · rw [decide_eq_true hl] at h12
    have h13 := s13 3 b n a (by omega)
    have h19 := s19 2 b n a (by omega)
    have h22 := fun b l lo hi hl => s22 7 b l lo hi hl
    have h23 := fun i j => s23 5 b n a (by omega) i j
    generalize S 8 = call at *
    by_cases he : ckE n a = 0
    · rw [if_pos he] at h13 h19
      have hLv := (lev_lvO he).1
      have hpo := dg_po he
      have hle := (lev_lvO he).2
      have hreo := rea_oR he
      obtain ⟨k, rfl, h12', hv, hac⟩ := ck_ok he
      simp only [Int.toNat_natCast] at hLv hpo h13 h23
      have hle : ∀ v, lvR k a v ≤ k := fun v => by simpa using hle v
      have hh : hgt k a = maxN (fun v => lvR k a v + 1) k := rfl
      rw [hh] at h19
      unfold rdG at h13
      have hH : maxN (fun v => lvR k a v + 1) k ≤ 13 := maxN_le _ fun v _ => by have := hle v; omega
      have hge : ∀ v, v < k → lvR k a v < maxN (fun v => lvR k a v + 1) k := fun v hv => maxN_ge (fun v => lvR k a v + 1) hv
      have hne := fun i hi => lvl_ne hpo hLv (i := i) hi
      generalize lvR k a = lv at *
      generalize maxN (fun v => lv v + 1) k = h at *
      have e22 : ∀ i, i < h → call 22 [soE (lvl lv k i), nI 0, nI ((k : Int) - 1)] = some (bV true) := fun i hi => by
        have := h22 ((lvl lv k i).length == 0) (zl (lvl lv k i)) 0 ((k : Int) - 1) (by rw [zl_len]; have := lvl_len lv k i; omega)
        rw [okL_asc (lvl_asc lv k i) fun v hv => (lvl_mem.1 hv).1] at this
        exact this
      have hF : ∀ v, v < k → atF lv k h [] v = lv v + 1 := fun v hv => by
        unfold atF
        rw [if_pos ⟨hv, hge v hv⟩]
      have hFb : ∀ v, atF lv k h [] v ≤ 100 := fun v => by
        unfold atF
        have := hle v
        split
        · omega
        · simp
      have e23 : ∀ i j, i < k → j < k → call 23 [nI k, sa b a, nI i, nI j] = some (bV (oR k a i j)) := fun i j hi hj => by
        rw [h23]
        have : (rea k a i).testBit j = oR k a i j := congrFun (congrFun hreo i) j
        simp [reachZ, hv, hi, hj, this]
      have l0 := loop7_0 call 6000 (by decide) b (k == 0) a k h12' lv h (by omega) hne e22
      have l2 := loop7_2 call 6000 (by decide) b a k h12' (oR k a) (atF lv k h []) (cntM lv k h : Nat) hFb (fun x y hx hy hxy => by rw [hF x hx, hF y hy]; have := hLv.up x y hxy; omega)
        (fun i hi => by rw [hF i hi]; omega) (fun i hi h1 => by
          rw [hF i hi] at h1
          rcases hLv.at' i with h0 | ⟨u, u1, u2⟩
          · omega
          · have hu := (hpo.lt u i u1).1
            unfold befK
            refine List.any_eq_true.2 ⟨u, List.mem_range.2 hu, ?_⟩
            rw [u1, hF u hu, hF i hi]
            simp [u2]) e23
      have hcnt : cntM lv k h = k := cntM_all hge
      rw [hcnt] at l0 l2
      have hz : lz 12 (atF lv k 0 []) = gsl (eI .i64) false (List.replicate 12 0) := by
        rw [row_rep]
        refine congrArg (gsl (eI .i64) false) (zr_ext fun v _ => ?_)
        simp [atF]
      have hrl : (rdR lv h k).length = h := rdR_len lv h k
      have h13' : call 13 [nI k, sa b a] = some (.nd .tu [gsl eII (k == 0) (rdR lv h k), nI 0]) := h13
      generalize (k == 0) = z at *
      have hm : 12 ≤ most := by decide
      have h12n : natOf 12 = some 12 := rfl
      simp [c7, h11, h12, h13', h19, hrl, hm, h12n]
      rw [l0 _ (by simp; rw [hz]; rfl)]
      simp
      rw [l2 _ (by simp)]
      simp
    · rw [if_neg he] at h13 h19
      generalize ckE n a = e at *
      simp [c7, h11, h12, h13, h19, he]
  · rw [decide_eq_false hl] at h12
    simp [c7, h11, h12]
end Go.Mx
