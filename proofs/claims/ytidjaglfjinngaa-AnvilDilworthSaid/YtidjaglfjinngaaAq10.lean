/-
  Anvils: AnvilDilworth.
-/
import Derived.Test.YtidjaglfjinngaaMgR
namespace Go.Mx
set_option linter.unusedVariables false
set_option linter.unusedSimpArgs false
set_option linter.unusedSectionVars false
open Go

def hints10 : List (List Bool) := [bits 162 [6], bits 162 [0, 1, 2], bits 162 [0, 1, 2, 7], bits 162 [0, 1, 2], bits 162 [0, 1, 2, 7], bits 162 [6], bits 162 [6], bits 162 [6], bits 162 [6], bits 162 [0, 1, 10], bits 162 [0, 1, 8, 10, 14], bits 162 [0, 1, 10], bits 162 [0, 1, 8, 10, 14], bits 162 [0, 1, 8, 10, 14, 15], bits 162 [0, 1, 8, 10, 14, 15, 16], bits 162 [0, 1, 8, 10, 14, 15], bits 162 [0, 1, 8, 10, 14, 15, 16], bits 162 [6], bits 162 [], bits 162 [0, 1, 10, 17], bits 162 [], bits 162 [0, 1, 10, 17], bits 162 [0, 1, 10, 17], bits 162 [0, 1, 10, 17, 18], bits 162 [0, 1, 10, 17], bits 162 [0, 1, 10, 17, 18], bits 162 [6], bits 162 [6]]
@[simp] def r10 : List Bool := bits 162 [6]
@[simp] def R10 (s6 : V) : St := tab 162 57 (fu dd 6 s6) dd
@[simp] def x10_0 : List Bool := bits 162 [0, 1, 2]
@[simp] def X10_0 (s0 s1 s2 : V) : St := tab 162 57 (fu (fu (fu dd 2 s2) 1 s1) 0 s0) dd
@[simp] def h10_0 : List Bool := bits 162 [0, 1, 2, 7]
@[simp] def L10_0 (s0 s1 s2 s7 : V) : St := tab 162 57 (fu (fu (fu (fu dd 7 s7) 2 s2) 1 s1) 0 s0) dd
@[simp] def x10_1 : List Bool := bits 162 [0, 1, 2, 7]
@[simp] def X10_1 (s0 s1 s2 s7 : V) : St := tab 162 57 (fu (fu (fu (fu dd 7 s7) 2 s2) 1 s1) 0 s0) dd
def b10_0 : MC := .seq (.scr h10_0)
 (.seq (.seq (.ops [⟨none, .mv 32 (.t 7)⟩,
    ⟨none, .mv 33 (.t 2)⟩,
    ⟨none, .len 34 false (.t 33)⟩,
    ⟨none, .bin 35 .lss .num (.t 32) (.t 34)⟩])
  (.cnd (.t 35)
   .skip
   (.seq (.scr x10_0) (.ex 0))))
 (.seq (.seq (.blk 1 (.seq (.ops [⟨none, .mv 38 (.t 2)⟩,
     ⟨none, .mv 39 (.t 7)⟩,
     ⟨none, .ixs 40 1 (.t 38) (.t 39)⟩,
     ⟨none, .ld1 41 (.t 40)⟩,
     ⟨none, .len 42 false (.t 41)⟩,
     ⟨none, .bin 43 .gtr .num (.t 42) (.c (.v (.int .i64 20)))⟩])
   (.cnd (.t 43)
    (.seq (.ops [⟨none, .asg 6 (.c (.v (.bool true)))⟩])
    (.seq (.scr r10) .ret))
    .skip))) (.scr x10_1))
 (.ops [⟨none, .mv 36 (.t 7)⟩,
  ⟨none, .bin 37 .add .num (.t 36) (.c (.v (.int .i64 1)))⟩,
  ⟨none, .asg 7 (.t 37)⟩])))
@[simp] def x10_2 : List Bool := bits 162 [0, 1, 10]
@[simp] def X10_2 (s0 s1 s10 : V) : St := tab 162 57 (fu (fu (fu dd 10 s10) 1 s1) 0 s0) dd
@[simp] def h10_1 : List Bool := bits 162 [0, 1, 8, 10, 14]
@[simp] def L10_1 (s0 s1 s8 s10 s14 : V) : St := tab 162 57 (fu (fu (fu (fu (fu dd 14 s14) 10 s10) 8 s8) 1 s1) 0 s0) dd
@[simp] def x10_3 : List Bool := bits 162 [0, 1, 8, 10, 14]
@[simp] def X10_3 (s0 s1 s8 s10 s14 : V) : St := tab 162 57 (fu (fu (fu (fu (fu dd 14 s14) 10 s10) 8 s8) 1 s1) 0 s0) dd
@[simp] def x10_4 : List Bool := bits 162 [0, 1, 8, 10, 14, 15]
@[simp] def X10_4 (s0 s1 s8 s10 s14 s15 : V) : St := tab 162 57 (fu (fu (fu (fu (fu (fu dd 15 s15) 14 s14) 10 s10) 8 s8) 1 s1) 0 s0) dd
@[simp] def h10_2 : List Bool := bits 162 [0, 1, 8, 10, 14, 15, 16]
@[simp] def L10_2 (s0 s1 s8 s10 s14 s15 s16 : V) : St := tab 162 57 (fu (fu (fu (fu (fu (fu (fu dd 16 s16) 15 s15) 14 s14) 10 s10) 8 s8) 1 s1) 0 s0) dd
@[simp] def x10_5 : List Bool := bits 162 [0, 1, 8, 10, 14, 15, 16]
@[simp] def X10_5 (s0 s1 s8 s10 s14 s15 s16 : V) : St := tab 162 57 (fu (fu (fu (fu (fu (fu (fu dd 16 s16) 15 s15) 14 s14) 10 s10) 8 s8) 1 s1) 0 s0) dd
def b10_2 : MC := .seq (.scr h10_2)
 (.seq (.seq (.ops [⟨none, .mv 112 (.t 16)⟩,
    ⟨none, .mv 113 (.t 8)⟩,
    ⟨none, .mv 114 (.t 14)⟩,
    ⟨none, .ixs 115 1 (.t 113) (.t 114)⟩,
    ⟨none, .ld1 116 (.t 115)⟩,
    ⟨none, .len 117 false (.t 116)⟩,
    ⟨none, .bin 118 .lss .num (.t 112) (.t 117)⟩])
  (.cnd (.t 118)
   .skip
   (.seq (.scr x10_4) (.ex 4))))
 (.seq (.seq (.blk 5 (.seq (.ops [⟨none, .mv 121 (.t 10)⟩,
     ⟨none, .mv 122 (.t 8)⟩,
     ⟨none, .mv 123 (.t 14)⟩,
     ⟨none, .ixs 124 1 (.t 122) (.t 123)⟩,
     ⟨none, .ld1 125 (.t 124)⟩,
     ⟨none, .mv 126 (.t 16)⟩,
     ⟨none, .ixs 127 1 (.t 125) (.t 126)⟩,
     ⟨none, .ld1 128 (.t 127)⟩,
     ⟨none, .call (some 129) 32 [(.t 121), (.t 128)]⟩])
   (.cnd (.t 129)
    (.ops [⟨none, .mv 130 (.t 15)⟩,
     ⟨none, .bin 131 .add .num (.t 130) (.c (.v (.int .i64 1)))⟩,
     ⟨none, .asg 15 (.t 131)⟩])
    .skip))) (.scr x10_5))
 (.ops [⟨none, .mv 119 (.t 16)⟩,
  ⟨none, .bin 120 .add .num (.t 119) (.c (.v (.int .i64 1)))⟩,
  ⟨none, .asg 16 (.t 120)⟩])))
def b10_1 : MC := .seq (.scr h10_1)
 (.seq (.seq (.ops [⟨none, .mv 106 (.t 14)⟩,
    ⟨none, .mv 107 (.t 8)⟩,
    ⟨none, .len 108 false (.t 107)⟩,
    ⟨none, .bin 109 .lss .num (.t 106) (.t 108)⟩])
  (.cnd (.t 109)
   .skip
   (.seq (.scr x10_2) (.ex 2))))
 (.seq (.seq (.blk 3 (.seq (.ops [⟨none, .asg 15 (.c (.v (.int .i64 0)))⟩])
   (.seq (.seq (.ops [⟨none, .asg 16 (.c (.v (.int .i64 0)))⟩])
    (.seq (.blk 4 (.lop b10_2)) (.scr x10_4)))
   (.seq (.ops [⟨none, .mv 132 (.t 15)⟩,
     ⟨none, .bin 133 .neq .num (.t 132) (.c (.v (.int .i64 1)))⟩])
   (.cnd (.t 133)
    (.seq (.ops [⟨none, .asg 6 (.c (.v (.bool false)))⟩])
    (.seq (.scr r10) .ret))
    .skip))))) (.scr x10_3))
 (.ops [⟨none, .mv 110 (.t 14)⟩,
  ⟨none, .bin 111 .add .num (.t 110) (.c (.v (.int .i64 1)))⟩,
  ⟨none, .asg 14 (.t 111)⟩])))
@[simp] def x10_6 : List Bool := bits 162 []
@[simp] def X10_6 : St := tab 162 57 dd dd
@[simp] def h10_3 : List Bool := bits 162 [0, 1, 10, 17]
@[simp] def L10_3 (s0 s1 s10 s17 : V) : St := tab 162 57 (fu (fu (fu (fu dd 17 s17) 10 s10) 1 s1) 0 s0) dd
@[simp] def x10_7 : List Bool := bits 162 [0, 1, 10, 17]
@[simp] def X10_7 (s0 s1 s10 s17 : V) : St := tab 162 57 (fu (fu (fu (fu dd 17 s17) 10 s10) 1 s1) 0 s0) dd
@[simp] def x10_8 : List Bool := bits 162 [0, 1, 10, 17]
@[simp] def X10_8 (s0 s1 s10 s17 : V) : St := tab 162 57 (fu (fu (fu (fu dd 17 s17) 10 s10) 1 s1) 0 s0) dd
@[simp] def h10_4 : List Bool := bits 162 [0, 1, 10, 17, 18]
@[simp] def L10_4 (s0 s1 s10 s17 s18 : V) : St := tab 162 57 (fu (fu (fu (fu (fu dd 18 s18) 17 s17) 10 s10) 1 s1) 0 s0) dd
@[simp] def x10_9 : List Bool := bits 162 [0, 1, 10, 17, 18]
@[simp] def X10_9 (s0 s1 s10 s17 s18 : V) : St := tab 162 57 (fu (fu (fu (fu (fu dd 18 s18) 17 s17) 10 s10) 1 s1) 0 s0) dd
def b10_4 : MC := .seq (.scr h10_4)
 (.seq (.seq (.ops [⟨none, .mv 140 (.t 18)⟩,
    ⟨none, .mv 141 (.t 10)⟩,
    ⟨none, .len 142 false (.t 141)⟩,
    ⟨none, .bin 143 .lss .num (.t 140) (.t 142)⟩])
  (.cnd (.t 143)
   .skip
   (.seq (.scr x10_8) (.ex 8))))
 (.seq (.seq (.blk 9 (.seq (.drw [⟨none, .mv 146 (.t 17)⟩,
     ⟨none, .mv 147 (.t 18)⟩,
     ⟨none, .bin 148 .neq .num (.t 146) (.t 147)⟩,
     ⟨none, .mv 149 (.t 148)⟩,
     ⟨some (149, true), .mv 150 (.t 0)⟩,
     ⟨some (149, true), .mv 151 (.t 1)⟩,
     ⟨some (149, true), .mv 152 (.t 10)⟩,
     ⟨some (149, true), .mv 153 (.t 17)⟩,
     ⟨some (149, true), .ixs 154 1 (.t 152) (.t 153)⟩,
     ⟨some (149, true), .ld1 155 (.t 154)⟩,
     ⟨some (149, true), .mv 156 (.t 10)⟩,
     ⟨some (149, true), .mv 157 (.t 18)⟩,
     ⟨some (149, true), .ixs 158 1 (.t 156) (.t 157)⟩,
     ⟨some (149, true), .ld1 159 (.t 158)⟩] [⟨some (149, true), .call (some 160) 23 [(.t 150), (.t 151), (.t 155), (.t 159)]⟩,
     ⟨none, .pick 161 (.t 149) (.t 160) (.c (.v (.bool false)))⟩])
   (.cnd (.t 161)
    (.seq (.ops [⟨none, .asg 6 (.c (.v (.bool false)))⟩])
    (.seq (.scr r10) .ret))
    .skip))) (.scr x10_9))
 (.ops [⟨none, .mv 144 (.t 18)⟩,
  ⟨none, .bin 145 .add .num (.t 144) (.c (.v (.int .i64 1)))⟩,
  ⟨none, .asg 18 (.t 145)⟩])))
def b10_3 : MC := .seq (.scr h10_3)
 (.seq (.seq (.ops [⟨none, .mv 134 (.t 17)⟩,
    ⟨none, .mv 135 (.t 10)⟩,
    ⟨none, .len 136 false (.t 135)⟩,
    ⟨none, .bin 137 .lss .num (.t 134) (.t 136)⟩])
  (.cnd (.t 137)
   .skip
   (.seq (.scr x10_6) (.ex 6))))
 (.seq (.seq (.blk 7 (.seq (.ops [⟨none, .asg 18 (.c (.v (.int .i64 0)))⟩])
   (.seq (.blk 8 (.lop b10_4)) (.scr x10_8)))) (.scr x10_7))
 (.ops [⟨none, .mv 138 (.t 17)⟩,
  ⟨none, .bin 139 .add .num (.t 138) (.c (.v (.int .i64 1)))⟩,
  ⟨none, .asg 17 (.t 139)⟩])))
def c10 : MF := ⟨(.seq (.ops [⟨none, .asg 6 (.c (.v (.bool false)))⟩])
 (.seq (.seq (.ops [⟨none, .call (some 19) 11 []⟩,
    ⟨none, .un 20 .not (.t 19)⟩,
    ⟨none, .mv 21 (.t 20)⟩,
    ⟨some (21, false), .mv 22 (.t 1)⟩,
    ⟨some (21, false), .call (some 23) 12 [(.t 22)]⟩,
    ⟨some (21, false), .un 24 .not (.t 23)⟩,
    ⟨none, .pick 25 (.t 21) (.c (.v (.bool true))) (.t 24)⟩,
    ⟨none, .mv 26 (.t 25)⟩,
    ⟨some (26, false), .mv 27 (.t 2)⟩,
    ⟨some (26, false), .len 28 false (.t 27)⟩,
    ⟨some (26, false), .bin 29 .gtr .num (.t 28) (.c (.v (.int .i64 20)))⟩,
    ⟨none, .pick 30 (.t 26) (.c (.v (.bool true))) (.t 29)⟩])
  (.cnd (.t 30)
   (.seq (.ops [⟨none, .call (some 31) 11 []⟩,
     ⟨none, .asg 6 (.t 31)⟩])
   (.seq (.scr r10) .ret))
   .skip))
 (.seq (.seq (.ops [⟨none, .asg 7 (.c (.v (.int .i64 0)))⟩])
  (.seq (.blk 0 (.lop b10_0)) (.scr x10_0)))
 (.seq (.ops [⟨none, .mv 45 (.t 0)⟩,
   ⟨none, .mv 46 (.t 1)⟩,
   ⟨none, .call (some 47) 29 [(.t 45), (.t 46)]⟩,
   ⟨none, .mv 44 (.t 47)⟩,
   ⟨none, .ext 48 (.t 44) 0⟩,
   ⟨none, .ext 49 (.t 44) 1⟩,
   ⟨none, .asg 8 (.t 48)⟩,
   ⟨none, .asg 9 (.t 49)⟩])
 (.seq (.ops [⟨none, .mv 51 (.t 0)⟩,
   ⟨none, .mv 52 (.t 1)⟩,
   ⟨none, .call (some 53) 25 [(.t 51), (.t 52)]⟩,
   ⟨none, .mv 50 (.t 53)⟩,
   ⟨none, .ext 54 (.t 50) 0⟩,
   ⟨none, .ext 55 (.t 50) 1⟩,
   ⟨none, .asg 10 (.t 54)⟩,
   ⟨none, .asg 11 (.t 55)⟩])
 (.seq (.ops [⟨none, .mv 57 (.t 0)⟩,
   ⟨none, .mv 58 (.t 1)⟩,
   ⟨none, .call (some 59) 20 [(.t 57), (.t 58)]⟩,
   ⟨none, .mv 56 (.t 59)⟩,
   ⟨none, .ext 60 (.t 56) 0⟩,
   ⟨none, .ext 61 (.t 56) 1⟩,
   ⟨none, .asg 12 (.t 60)⟩,
   ⟨none, .asg 13 (.t 61)⟩])
 (.seq (.seq (.ops [⟨none, .mv 62 (.t 9)⟩,
    ⟨none, .mv 63 (.t 11)⟩,
    ⟨none, .bin 64 .neq .num (.t 62) (.t 63)⟩,
    ⟨none, .mv 65 (.t 64)⟩,
    ⟨some (65, false), .mv 66 (.t 11)⟩,
    ⟨some (65, false), .mv 67 (.t 13)⟩,
    ⟨some (65, false), .bin 68 .neq .num (.t 66) (.t 67)⟩,
    ⟨none, .pick 69 (.t 65) (.c (.v (.bool true))) (.t 68)⟩])
  (.cnd (.t 69)
   (.seq (.ops [⟨none, .asg 6 (.c (.v (.bool false)))⟩])
   (.seq (.scr r10) .ret))
   .skip))
 (.seq (.seq (.ops [⟨none, .mv 70 (.t 9)⟩,
    ⟨none, .bin 71 .neq .num (.t 70) (.c (.v (.int .i64 0)))⟩])
  (.cnd (.t 71)
   (.seq (.ops [⟨none, .mv 72 (.t 0)⟩,
     ⟨none, .mv 73 (.t 1)⟩,
     ⟨none, .mv 74 (.t 2)⟩,
     ⟨none, .call (some 75) 30 [(.t 72), (.t 73), (.t 74)]⟩,
     ⟨none, .un 76 .not (.t 75)⟩,
     ⟨none, .asg 6 (.t 76)⟩])
   (.seq (.scr r10) .ret))
   .skip))
 (.seq (.seq (.ops (⟨none, .mv 77 (.t 0)⟩ ::
    ⟨none, .mv 78 (.t 1)⟩ ::
    ⟨none, .mv 79 (.t 8)⟩ ::
    ⟨none, .call (some 80) 30 [(.t 77), (.t 78), (.t 79)]⟩ ::
    ⟨none, .un 81 .not (.t 80)⟩ ::
    ⟨none, .mv 82 (.t 81)⟩ ::
    ⟨some (82, false), .mv 83 (.t 8)⟩ ::
    ⟨some (82, false), .len 84 false (.t 83)⟩ ::
    ⟨some (82, false), .mv 85 (.t 12)⟩ ::
    ⟨some (82, false), .bin 86 .neq .num (.t 84) (.t 85)⟩ ::
    ⟨none, .pick 87 (.t 82) (.c (.v (.bool true))) (.t 86)⟩ ::
    ⟨none, .mv 88 (.t 87)⟩ ::
    ⟨some (88, false), .mv 89 (.t 10)⟩ ::
    ⟨some (88, false), .len 90 false (.t 89)⟩ ::
    ⟨some (88, false), .mv 91 (.t 12)⟩ ::
    ⟨some (88, false), .bin 92 .neq .num (.t 90) (.t 91)⟩ ::
    ⟨none, .pick 93 (.t 88) (.c (.v (.bool true))) (.t 92)⟩ ::
    ⟨none, .mv 94 (.t 93)⟩ ::
    ⟨some (94, false), .mv 95 (.t 0)⟩ ::
    ⟨some (94, false), .mv 96 (.t 1)⟩ ::
    ⟨some (94, false), .mv 97 (.t 2)⟩ ::
    ⟨some (94, false), .call (some 98) 30 [(.t 95), (.t 96), (.t 97)]⟩ ::
    ⟨some (94, false), .mv 99 (.t 98)⟩ ::
    ⟨some (99, true), .mv 100 (.t 2)⟩ ::
    ⟨some (99, true), .len 101 false (.t 100)⟩ ::
    ⟨some (99, true), .mv 102 (.t 12)⟩ ::
    ⟨some (99, true), .bin 103 .lss .num (.t 101) (.t 102)⟩ ::
    ⟨some (94, false), .pick 104 (.t 99) (.t 103) (.c (.v (.bool false)))⟩ ::
    ⟨none, .pick 105 (.t 94) (.c (.v (.bool true))) (.t 104)⟩ :: []))
  (.cnd (.t 105)
   (.seq (.ops [⟨none, .asg 6 (.c (.v (.bool false)))⟩])
   (.seq (.scr r10) .ret))
   .skip))
 (.seq (.seq (.ops [⟨none, .asg 14 (.c (.v (.int .i64 0)))⟩])
  (.seq (.blk 2 (.lop b10_1)) (.scr x10_2)))
 (.seq (.seq (.ops [⟨none, .asg 17 (.c (.v (.int .i64 0)))⟩])
  (.seq (.blk 6 (.lop b10_3)) (.scr x10_6)))
 (.seq (.ops [⟨none, .asg 6 (.c (.v (.bool true)))⟩])
 (.seq (.scr r10) .ret))))))))))))),
  162, [6]⟩
theorem comp10 : compF Go.Proofs.Try.prog hints10 10 = some c10 := by kernel_rfl
theorem mem_flat_len {c : List Nat} : ∀ {L : List (List Nat)}, c ∈ L → c.length ≤ L.flatten.length
  | d :: L, h => by
    rw [List.flatten_cons, List.length_append]
    rcases List.mem_cons.1 h with rfl | h
    · omega
    · have := mem_flat_len h
      omega
theorem loop10_0 (call : Oracle) (fuel : Nat) (hF : 1000 < fuel) (n : Int) (b c : Bool) (a : List (Int × Int)) (cs : List (Bool × List Int)) (hc : cs.length ≤ 20) (st : St)
    (h0 : drops st h10_0 = L10_0 (ii n) (.ro (sa b a)) (.ro (gsl eII c cs)) (ii 0)) :
    run.loopN (run call fuel b10_0) fuel st = some (if (List.range cs.length).any (fun i => decide (20 < (nth cs (true, []) i).2.length)) = true then (.ret, R10 (bb true)) else (.ex 0, X10_0 (ii n) (.ro (sa b a)) (.ro (gsl eII c cs)))) := by
  refine loop_any call fuel h10_0 _ cs.length (fun i => decide (20 < (nth cs (true, []) i).2.length)) (fun i => L10_0 (ii n) (.ro (sa b a)) (.ro (gsl eII c cs)) (ii i)) (.ret, R10 (bb true)) _ (by intro h; cases h) (by intro h; cases h) ?_ (by simp) fuel st h0 (by omega)
  intro i hi _
  have hw := wrap_succ (i := i) (by omega)
  obtain ⟨z, l, hcl⟩ : ∃ z l, nth cs (true, []) i = (z, l) := ⟨_, _, rfl⟩
  rw [hcl]
  by_cases h : 20 < l.length
  · have h' : (20 : Int) < (l.length : Int) := by omega
    simp [hi, hcl, h, h']
  · have h' : ¬ (20 : Int) < (l.length : Int) := by omega
    simp [hi, hcl, h, h', hw]
/-- How many members of an antichain a chain has, of the first so many. -/
def cntA (A c : List Nat) (j : Nat) : Nat := ((c.take j).filter fun v => A.contains v).length
theorem cntA_succ (A : List Nat) {c : List Nat} {j : Nat} (h : j < c.length) : cntA A c (j + 1) = if A.contains (nth c 0 j) = true then cntA A c j + 1 else cntA A c j := by
  unfold cntA
  rw [take_succ_nth 0 h, List.filter_append, List.length_append, List.filter_cons]
  split <;> simp
theorem loop10_2 (call : Oracle) (fuel : Nat) (n : Int) (b z : Bool) (a : List (Int × Int)) (C : List (List Nat)) (A : List Nat) (i : Nat) (hi : i < C.length) (hc : (nth C [] i).length ≤ 900)
    (h32 : ∀ v : Nat, call 32 [soE A, nI v] = some (bV (A.contains v))) (fu : Nat) (hf : 1000 < fu) (st : St)
    (h0 : drops st h10_2 = L10_2 (ii n) (.ro (sa b a)) (.own (gsl eII z (C.map rowC))) (.own (soE A)) (ii i) (ii 0) (ii 0)) :
    run.loopN (run call fuel b10_2) fu st = some (.ex 4, X10_4 (ii n) (.ro (sa b a)) (.own (gsl eII z (C.map rowC))) (.own (soE A)) (ii i) (ii (cntA A (nth C [] i) (nth C [] i).length : Nat))) := by
  have hil : i < (C.map rowC).length := by simpa using hi
  have hrow : nth (C.map rowC) (true, []) i = ((nth C [] i).length == 0, zl (nth C [] i)) := by
    rw [nth_get (true, []) hil, nth_get [] hi]
    simp [rowC]
  generalize nth C [] i = c at *
  generalize C.map rowC = CC at *
  refine loop_cnt call fuel h10_2 _ c.length (fun j => L10_2 (ii n) (.ro (sa b a)) (.own (gsl eII z CC)) (.own (soE A)) (ii i) (ii (cntA A c j : Nat)) (ii j)) _ (by intro h; cases h) ?_ (by simp [hil, hrow]) fu st h0 (by omega)
  intro j hj
  have hw := wrap_succ (i := j) (by omega)
  have e1 := zl_nth c j
  have e2 := h32 (nth c 0 j)
  have hle : cntA A c j ≤ j := by
    unfold cntA
    refine Nat.le_trans (List.length_filter_le _ _) ?_
    simp
    omega
  have hw2 := wrap_succ (i := cntA A c j) (by omega)
  rw [cntA_succ A hj]
  generalize cntA A c j = k at *
  generalize nth c 0 j = v at *
  by_cases h : A.contains v = true
  · rw [h] at e2
    rw [if_pos h]
    simp [hj, hil, hrow, hw, hw2, e1, e2]
  · rw [if_neg h]
    have h : A.contains v = false := by simpa using h
    rw [h] at e2
    simp [hj, hil, hrow, hw, e1, e2]
theorem loop10_1 (call : Oracle) (fuel : Nat) (hF : 1000 < fuel) (n : Int) (b z : Bool) (a : List (Int × Int)) (C : List (List Nat)) (A : List Nat) (hC : C.length ≤ 900) (hc : ∀ c ∈ C, c.length ≤ 900) (hone : ∀ c ∈ C, (c.filter fun v => A.contains v).length = 1)
    (h32 : ∀ v : Nat, call 32 [soE A, nI v] = some (bV (A.contains v))) (st : St)
    (h0 : drops st h10_1 = L10_1 (ii n) (.ro (sa b a)) (.own (gsl eII z (C.map rowC))) (.own (soE A)) (ii 0)) :
    run.loopN (run call fuel b10_1) fuel st = some (.ex 2, X10_2 (ii n) (.ro (sa b a)) (.own (soE A))) := by
  have hlen : (C.map rowC).length = C.length := by simp
  refine loop_cnt call fuel h10_1 _ C.length (fun i => L10_1 (ii n) (.ro (sa b a)) (.own (gsl eII z (C.map rowC))) (.own (soE A)) (ii i)) _ (by intro h; cases h) ?_ (by simp) fuel st h0 (by omega)
  intro i hi
  have hw := wrap_succ (i := i) (by omega)
  have hm : nth C [] i ∈ C := nth_mem [] hi
  have hL := loop10_2 call fuel n b z a C A i hi (hc _ hm) h32 fuel hF
  have h1 : cntA A (nth C [] i) (nth C [] i).length = 1 := by
    unfold cntA
    rw [List.take_length]
    exact hone _ hm
  rw [h1] at hL
  generalize C.map rowC = CC at *
  simp [hi, hlen]
  rw [hL _ (by simp)]
  simp [hw]
theorem loop10_4 (call : Oracle) (fuel : Nat) (n : Int) (b : Bool) (a : List (Int × Int)) (A : List Nat) (hA : A.length ≤ 900) (i : Nat) (hi : i < A.length)
    (h23 : ∀ i j, i < A.length → j < A.length → i ≠ j → call 23 [nI n, sa b a, nI (nth A 0 i : Nat), nI (nth A 0 j : Nat)] = some (bV false)) (fu : Nat) (hf : 1000 < fu) (st : St)
    (h0 : drops st h10_4 = L10_4 (ii n) (.ro (sa b a)) (.own (soE A)) (ii i) (ii 0)) :
    run.loopN (run call fuel b10_4) fu st = some (.ex 8, X10_8 (ii n) (.ro (sa b a)) (.own (soE A)) (ii i)) := by
  refine loop_cnt call fuel h10_4 _ A.length (fun j => L10_4 (ii n) (.ro (sa b a)) (.own (soE A)) (ii i) (ii j)) _ (by intro h; cases h) ?_ (by simp) fu st h0 (by omega)
  intro j hj
  have hw := wrap_succ (i := j) (by omega)
  have e1 := zl_nth A i
  have e2 := zl_nth A j
  by_cases h : i = j
  · subst h
    simp [hj, hw]
  · have e3 := h23 i j hi hj h
    have h' : ¬ (i : Int) = (j : Int) := by omega
    generalize nth A 0 i = x at *
    generalize nth A 0 j = y at *
    simp [hi, hj, hw, h', e1, e2, e3]
theorem loop10_3 (call : Oracle) (fuel : Nat) (hF : 1000 < fuel) (n : Int) (b : Bool) (a : List (Int × Int)) (A : List Nat) (hA : A.length ≤ 900)
    (h23 : ∀ i j, i < A.length → j < A.length → i ≠ j → call 23 [nI n, sa b a, nI (nth A 0 i : Nat), nI (nth A 0 j : Nat)] = some (bV false)) (st : St)
    (h0 : drops st h10_3 = L10_3 (ii n) (.ro (sa b a)) (.own (soE A)) (ii 0)) :
    run.loopN (run call fuel b10_3) fuel st = some (.ex 6, X10_6) := by
  refine loop_cnt call fuel h10_3 _ A.length (fun i => L10_3 (ii n) (.ro (sa b a)) (.own (soE A)) (ii i)) _ (by intro h; cases h) ?_ (by simp) fuel st h0 (by omega)
  intro i hi
  have hw := wrap_succ (i := i) (by omega)
  have hL := loop10_4 call fuel n b a A hA i hi h23 fuel hF
  simp [hi]
  rw [hL _ (by simp)]
  simp [hw]
theorem anti_reach {n : Int} {a : List (Int × Int)} (he : ckE n a = 0) {A : List Nat} (hA : AcL (oR n a) n.toNat A) (i j : Nat) (hi : i < A.length) (hj : j < A.length) (hij : i ≠ j) : reachZ n a (nth A 0 i : Nat) (nth A 0 j : Nat) = false := by
  have key : oR n a (nth A 0 i) (nth A 0 j) = false := by
    have ha := List.pairwise_iff_getElem.1 hA.anti
    rw [nth_get 0 hi, nth_get 0 hj]
    rcases Nat.lt_or_gt_of_ne hij with h | h
    · exact (ha i j hi hj h).1
    · exact (ha j i hj hi h).2
  rw [← rea_oR he] at key
  unfold reachZ
  have key' : (rea n a (nth A 0 i)).testBit (nth A 0 j) = false := key
  simp [key']
theorem law10 (b c : Bool) (n : Int) (a : List (Int × Int)) (cs : List (Bool × List Int)) : callM (S 8) 6000 c10 [nI n, sa b a, gsl eII c cs] = some (bV true) := by
  have h11 := s11 2
  have h12 := s12 7 b a
  rw [callM_eq (mf := c10) rfl, callF_tab _ _ c10 57 _ (by exact Nat.le_of_ble_eq_true rfl) (by exact Nat.le_of_ble_eq_true rfl)]
  by_cases hl : a.length ≤ 80
  · rw [decide_eq_true hl] at h12
    by_cases hc : cs.length ≤ 20
    · have hc' : ¬ (20 : Int) < (cs.length : Int) := by omega
      have h29 := s29 7 b n a (by omega)
      have h25 := s25 3 b n a (by omega)
      have h20 := s20 3 b n a (by omega)
      have h30 := fun c cs hc hx => s30 3 b c n a (by omega) cs hc hx
      have h32 := fun b l hl n => s32 7 b l hl n
      have h23 := fun i j => s23 5 b n a (by omega) i j
      generalize S 8 = call at *
      have hL0 := loop10_0 call 6000 (by decide) n b c a cs hc
      have hx : (List.range cs.length).any (fun i => decide (20 < (nth cs (true, []) i).2.length)) = false → ∀ x ∈ cs, x.2.length ≤ 900 := fun h x hx => by
        obtain ⟨i, hi, rfl⟩ := List.getElem_of_mem hx
        have := (any_range _ _).1 h i hi
        rw [nth_get (true, []) hi] at this
        have := of_decide_eq_false this
        omega
      generalize (List.range cs.length).any (fun i => decide (20 < (nth cs (true, []) i).2.length)) = t at *
      cases t
      · have hx := hx rfl
        have g30 := h30 c cs (by omega) hx
        unfold chD at h29
        by_cases he : ckE n a = 0
        · rw [if_pos he] at h29 h25 h20 g30
          have h12' := (dg_12 he).1
          have hwn : (antL (ordG n a) n.toNat).length ≤ n.toNat := wid_n he
          have hgd := chs_good he
          have hpo := dg_po he
          have hbest := antL_best (ordG n a) n.toNat
          have hcl := chs_len he
          have hcb : ∀ y ∈ chs n a, y.length ≤ 900 := fun y hy => by
            have h1 := mem_flat_len hy
            rw [hgd.len] at h1
            omega
          have k30 := h30 ((chs n a).length == 0) ((chs n a).map rowC) (by rw [List.length_map]; omega) (fun x hx => by
            obtain ⟨y, hy, rfl⟩ := List.mem_map.1 hx
            show (zl y).length ≤ 900
            rw [zl_len]
            exact hcb y hy)
          rw [if_pos he] at k30
          have hgood : isC (oR n a) n.toNat ((chs n a).map rowC) = true := (isC_iff h12' _).2 ⟨chs n a, by rw [List.map_map]; rfl, hgd⟩
          rw [hgood] at k30
          have hlen : ((chs n a).map rowC).length = (antL (ordG n a) n.toNat).length := by rw [List.length_map, hcl]
          have h29' : call 29 [nI n, sa b a] = some (.nd .tu [gsl eII ((chs n a).length == 0) ((chs n a).map rowC), nI 0]) := h29
          have hone := hgd.each hpo hbest.1 hcl
          have hre := anti_reach he hbest.1
          have hcs : isC (oR n a) n.toNat cs = true → (antL (ordG n a) n.toNat).length ≤ cs.length := fun h => by
            obtain ⟨L, l1, l2⟩ := (isC_iff h12' cs).1 h
            have := l2.ge hpo hbest.1
            have hl := congrArg List.length l1
            simp only [List.length_map] at hl
            omega
          generalize antL (ordG n a) n.toNat = A at *
          have g32 : ∀ v : Nat, call 32 [soE A, nI v] = some (bV (A.contains v)) := fun v => by
            have := h32 (A.length == 0) (zl A) (by rw [zl_len]; omega) v
            rw [zl_any] at this
            exact this
          have g23 : ∀ i j, i < A.length → j < A.length → i ≠ j → call 23 [nI n, sa b a, nI (nth A 0 i : Nat), nI (nth A 0 j : Nat)] = some (bV false) := fun i j hi hj hij => by
            rw [h23, hre i j hi hj hij]
          have hL1 := loop10_1 call 6000 (by decide) n b ((chs n a).length == 0) a (chs n a) A (by omega) hcb hone g32
          have hL3 := loop10_3 call 6000 (by decide) n b a A (by omega) g23
          generalize (chs n a).map rowC = CC at *
          generalize ((chs n a).length == 0) = z at *
          have hq : ∃ q, isC (oR n a) n.toNat cs = q := ⟨_, rfl⟩
          obtain ⟨q, hq⟩ := hq
          rw [hq] at hcs g30
          simp [c10, h11, h12, hc']
          rw [hL0 _ (by simp)]
          cases q
          · simp [h29', h25, h20, g30, k30, hlen]
            rw [hL1 _ (by simp)]
            simp
            rw [hL3 _ (by simp)]
            simp
          · have hcs := hcs rfl
            have hcs' : ¬ (cs.length : Int) < (A.length : Int) := by omega
            simp [h29', h25, h20, g30, k30, hlen, hcs']
            rw [hL1 _ (by simp)]
            simp
            rw [hL3 _ (by simp)]
            simp
        · rw [if_neg he] at h29 h25 h20 g30
          generalize ckE n a = e at *
          simp [c10, h11, h12, hc']
          rw [hL0 _ (by simp)]
          simp [h29, h25, h20, g30, he]
      · simp [c10, h11, h12, hc']
        rw [hL0 _ (by simp)]
        simp
    · have hc' : (20 : Int) < (cs.length : Int) := by omega
      simp [c10, h11, h12, hc']
  · rw [decide_eq_false hl] at h12
    simp [c10, h11, h12]
end Go.Mx
