/-
  Anvils: AnvilArcs.
-/
import Derived.Test.YtidjaglfjinngaaMgR
namespace Go.Mx
set_option linter.unusedVariables false
set_option linter.unusedSimpArgs false
set_option linter.unusedSectionVars false
open Go

def hints5 : List (List Bool) := [bits 172 [6], bits 172 [0, 1, 5, 7, 8], bits 172 [0, 1, 5, 7, 8, 9], bits 172 [0, 1, 5, 7, 8], bits 172 [0, 1, 5, 7, 8, 9], bits 172 [6], bits 172 [6], bits 172 [6]]
@[simp] def r5 : List Bool := bits 172 [6]
@[simp] def R5 (s6 : V) : St := tab 172 134 (fu dd 6 s6) dd
@[simp] def x5_0 : List Bool := bits 172 [0, 1, 5, 7, 8]
@[simp] def X5_0 (s0 s1 s5 s7 s8 : V) : St := tab 172 134 (fu (fu (fu (fu (fu dd 8 s8) 7 s7) 5 s5) 1 s1) 0 s0) dd
@[simp] def h5_0 : List Bool := bits 172 [0, 1, 5, 7, 8, 9]
@[simp] def L5_0 (s0 s1 s5 s7 s8 s9 : V) : St := tab 172 134 (fu (fu (fu (fu (fu (fu dd 9 s9) 8 s8) 7 s7) 5 s5) 1 s1) 0 s0) dd
@[simp] def x5_1 : List Bool := bits 172 [0, 1, 5, 7, 8, 9]
@[simp] def X5_1 (s0 s1 s5 s7 s8 s9 : V) : St := tab 172 134 (fu (fu (fu (fu (fu (fu dd 9 s9) 8 s8) 7 s7) 5 s5) 1 s1) 0 s0) dd
def b5_0 : MC := .seq (.scr h5_0)
 (.seq (.seq (.ops [⟨none, .mv 30 (.t 9)⟩,
    ⟨none, .mv 31 (.t 1)⟩,
    ⟨none, .len 32 false (.t 31)⟩,
    ⟨none, .bin 33 .lss .num (.t 30) (.t 32)⟩])
  (.cnd (.t 33)
   .skip
   (.seq (.scr x5_0) (.ex 0))))
 (.seq (.seq (.blk 1 (.seq (.seq (.drw [⟨none, .mv 36 (.t 1)⟩,
      ⟨none, .mv 37 (.t 9)⟩,
      ⟨none, .ixs 38 2 (.t 36) (.t 37)⟩,
      ⟨none, .ldn 39 2 (.t 38)⟩,
      ⟨none, .ldn 40 2 (.t 5)⟩] [⟨none, .bin 41 .eql (.ag [0, 0]) (.t 39) (.t 40)⟩])
    (.cnd (.t 41)
     (.seq (.ops [⟨none, .asg 6 (.c (.v (.bool true)))⟩])
     (.seq (.scr r5) .ret))
     .skip))
   (.seq (.seq (.drw (⟨none, .mv 42 (.t 8)⟩ ::
      ⟨none, .un 43 .not (.t 42)⟩ ::
      ⟨none, .mv 44 (.t 43)⟩ ::
      ⟨some (44, true), .mv 45 (.t 1)⟩ ::
      ⟨some (44, true), .mv 46 (.t 9)⟩ ::
      ⟨some (44, true), .ixs 47 2 (.t 45) (.t 46)⟩ ::
      ⟨some (44, true), .fa 48 0 (.t 47)⟩ ::
      ⟨some (44, true), .ld1 49 (.t 48)⟩ ::
      ⟨some (44, true), .fa 50 0 (.t 5)⟩ ::
      ⟨some (44, true), .ld1 51 (.t 50)⟩ ::
      ⟨some (44, true), .bin 52 .gtr .num (.t 49) (.t 51)⟩ ::
      ⟨some (44, true), .mv 53 (.t 52)⟩ ::
      ⟨some (53, false), .mv 54 (.t 1)⟩ ::
      ⟨some (53, false), .mv 55 (.t 9)⟩ ::
      ⟨some (53, false), .ixs 56 2 (.t 54) (.t 55)⟩ ::
      ⟨some (53, false), .fa 57 0 (.t 56)⟩ ::
      ⟨some (53, false), .ld1 58 (.t 57)⟩ ::
      ⟨some (53, false), .fa 59 0 (.t 5)⟩ ::
      ⟨some (53, false), .ld1 60 (.t 59)⟩ ::
      ⟨some (53, false), .bin 61 .eql .num (.t 58) (.t 60)⟩ ::
      ⟨some (53, false), .mv 62 (.t 61)⟩ ::
      ⟨some (62, true), .mv 63 (.t 1)⟩ ::
      ⟨some (62, true), .mv 64 (.t 9)⟩ ::
      ⟨some (62, true), .ixs 65 2 (.t 63) (.t 64)⟩ ::
      ⟨some (62, true), .fa 66 1 (.t 65)⟩ ::
      ⟨some (62, true), .ld1 67 (.t 66)⟩ ::
      ⟨some (62, true), .fa 68 1 (.t 5)⟩ ::
      ⟨some (62, true), .ld1 69 (.t 68)⟩ :: []) [⟨some (62, true), .bin 70 .gtr .num (.t 67) (.t 69)⟩,
      ⟨some (53, false), .pick 71 (.t 62) (.t 70) (.c (.v (.bool false)))⟩,
      ⟨some (44, true), .pick 72 (.t 53) (.c (.v (.bool true))) (.t 71)⟩,
      ⟨none, .pick 73 (.t 44) (.t 72) (.c (.v (.bool false)))⟩])
    (.cnd (.t 73)
     (.seq (.ops [⟨none, .mv 74 (.t 7)⟩,
       ⟨none, .ldn 75 2 (.t 5)⟩,
       ⟨none, .bs 76 2 1 [(.v (.int .i64 0)), (.v (.int .i64 0))] [(0, 2, (.t 75))]⟩,
       ⟨none, .app 77 2 (.t 74) (.t 76)⟩,
       ⟨none, .asg 7 (.t 77)⟩])
     (.ops [⟨none, .asg 8 (.c (.v (.bool true)))⟩]))
     .skip))
   (.ops [⟨none, .mv 78 (.t 7)⟩,
    ⟨none, .mv 79 (.t 1)⟩,
    ⟨none, .mv 80 (.t 9)⟩,
    ⟨none, .ixs 81 2 (.t 79) (.t 80)⟩,
    ⟨none, .ldn 82 2 (.t 81)⟩,
    ⟨none, .bs 83 2 1 [(.v (.int .i64 0)), (.v (.int .i64 0))] [(0, 2, (.t 82))]⟩,
    ⟨none, .app 84 2 (.t 78) (.t 83)⟩,
    ⟨none, .asg 7 (.t 84)⟩])))) (.scr x5_1))
 (.ops [⟨none, .mv 34 (.t 9)⟩,
  ⟨none, .bin 35 .add .num (.t 34) (.c (.v (.int .i64 1)))⟩,
  ⟨none, .asg 9 (.t 35)⟩])))
def c5 : MF := ⟨(.seq (.ops [⟨none, .box 5 (.t 2)⟩,
   ⟨none, .asg 6 (.c (.v (.bool false)))⟩])
 (.seq (.seq (.ops [⟨none, .call (some 22) 11 []⟩,
    ⟨none, .un 23 .not (.t 22)⟩,
    ⟨none, .mv 24 (.t 23)⟩,
    ⟨some (24, false), .mv 25 (.t 1)⟩,
    ⟨some (24, false), .call (some 26) 12 [(.t 25)]⟩,
    ⟨some (24, false), .un 27 .not (.t 26)⟩,
    ⟨none, .pick 28 (.t 24) (.c (.v (.bool true))) (.t 27)⟩])
  (.cnd (.t 28)
   (.seq (.ops [⟨none, .call (some 29) 11 []⟩,
     ⟨none, .asg 6 (.t 29)⟩])
   (.seq (.scr r5) .ret))
   .skip))
 (.seq (.ops [⟨none, .asg 7 (.c (.nd (.sl true 2 0) []))⟩])
 (.seq (.ops [⟨none, .asg 8 (.c (.v (.bool false)))⟩])
 (.seq (.seq (.ops [⟨none, .asg 9 (.c (.v (.int .i64 0)))⟩])
  (.seq (.blk 0 (.lop b5_0)) (.scr x5_0)))
 (.seq (.seq (.ops [⟨none, .mv 85 (.t 8)⟩,
    ⟨none, .un 86 .not (.t 85)⟩])
  (.cnd (.t 86)
   (.ops [⟨none, .mv 87 (.t 7)⟩,
    ⟨none, .ldn 88 2 (.t 5)⟩,
    ⟨none, .bs 89 2 1 [(.v (.int .i64 0)), (.v (.int .i64 0))] [(0, 2, (.t 88))]⟩,
    ⟨none, .app 90 2 (.t 87) (.t 89)⟩,
    ⟨none, .asg 7 (.t 90)⟩])
   .skip))
 (.seq (.ops [⟨none, .mv 92 (.t 0)⟩,
   ⟨none, .mv 93 (.t 1)⟩,
   ⟨none, .call (some 94) 20 [(.t 92), (.t 93)]⟩,
   ⟨none, .mv 91 (.t 94)⟩,
   ⟨none, .ext 95 (.t 91) 0⟩,
   ⟨none, .ext 96 (.t 91) 1⟩,
   ⟨none, .asg 10 (.t 95)⟩,
   ⟨none, .asg 11 (.t 96)⟩])
 (.seq (.ops [⟨none, .mv 98 (.t 0)⟩,
   ⟨none, .mv 99 (.t 7)⟩,
   ⟨none, .call (some 100) 20 [(.t 98), (.t 99)]⟩,
   ⟨none, .mv 97 (.t 100)⟩,
   ⟨none, .ext 101 (.t 97) 0⟩,
   ⟨none, .ext 102 (.t 97) 1⟩,
   ⟨none, .asg 12 (.t 101)⟩,
   ⟨none, .asg 13 (.t 102)⟩])
 (.seq (.seq (.ops [⟨none, .mv 103 (.t 13)⟩,
    ⟨none, .bin 104 .neq .num (.t 103) (.c (.v (.int .i64 0)))⟩])
  (.cnd (.t 104)
   (.seq (.ops [⟨none, .mv 105 (.t 13)⟩,
     ⟨none, .bin 106 .eql .num (.t 105) (.c (.v (.int .i64 1)))⟩,
     ⟨none, .mv 107 (.t 106)⟩,
     ⟨some (107, false), .mv 108 (.t 13)⟩,
     ⟨some (107, false), .bin 109 .eql .num (.t 108) (.c (.v (.int .i64 6)))⟩,
     ⟨none, .pick 110 (.t 107) (.c (.v (.bool true))) (.t 109)⟩,
     ⟨none, .mv 111 (.t 110)⟩,
     ⟨some (111, false), .mv 112 (.t 13)⟩,
     ⟨some (111, false), .bin 113 .eql .num (.t 112) (.c (.v (.int .i64 11)))⟩,
     ⟨none, .pick 114 (.t 111) (.c (.v (.bool true))) (.t 113)⟩,
     ⟨none, .asg 6 (.t 114)⟩])
   (.seq (.scr r5) .ret))
   .skip))
 (.seq (.ops [⟨none, .mv 116 (.t 0)⟩,
   ⟨none, .mv 117 (.t 1)⟩,
   ⟨none, .call (some 118) 19 [(.t 116), (.t 117)]⟩,
   ⟨none, .mv 115 (.t 118)⟩,
   ⟨none, .ext 119 (.t 115) 0⟩,
   ⟨none, .ext 120 (.t 115) 1⟩,
   ⟨none, .asg 14 (.t 119)⟩,
   ⟨none, .asg 15 (.t 120)⟩])
 (.seq (.ops [⟨none, .mv 122 (.t 0)⟩,
   ⟨none, .mv 123 (.t 7)⟩,
   ⟨none, .call (some 124) 19 [(.t 122), (.t 123)]⟩,
   ⟨none, .mv 121 (.t 124)⟩,
   ⟨none, .ext 125 (.t 121) 0⟩,
   ⟨none, .ext 126 (.t 121) 1⟩,
   ⟨none, .asg 16 (.t 125)⟩,
   ⟨none, .asg 17 (.t 126)⟩])
 (.seq (.ops [⟨none, .mv 128 (.t 0)⟩,
   ⟨none, .mv 129 (.t 1)⟩,
   ⟨none, .call (some 130) 15 [(.t 128), (.t 129), (.c (.v (.int .i64 2)))]⟩,
   ⟨none, .mv 127 (.t 130)⟩,
   ⟨none, .ext 131 (.t 127) 0⟩,
   ⟨none, .ext 132 (.t 127) 1⟩,
   ⟨none, .asg 18 (.t 131)⟩,
   ⟨none, .asg 19 (.t 132)⟩])
 (.seq (.ops [⟨none, .mv 134 (.t 0)⟩,
   ⟨none, .mv 135 (.t 7)⟩,
   ⟨none, .call (some 136) 15 [(.t 134), (.t 135), (.c (.v (.int .i64 2)))]⟩,
   ⟨none, .mv 133 (.t 136)⟩,
   ⟨none, .ext 137 (.t 133) 0⟩,
   ⟨none, .ext 138 (.t 133) 1⟩,
   ⟨none, .asg 20 (.t 137)⟩,
   ⟨none, .asg 21 (.t 138)⟩])
 (.seq (.ops (⟨none, .mv 139 (.t 11)⟩ ::
   ⟨none, .bin 140 .eql .num (.t 139) (.c (.v (.int .i64 0)))⟩ ::
   ⟨none, .mv 141 (.t 140)⟩ ::
   ⟨some (141, true), .mv 142 (.t 15)⟩ ::
   ⟨some (141, true), .bin 143 .eql .num (.t 142) (.c (.v (.int .i64 0)))⟩ ::
   ⟨none, .pick 144 (.t 141) (.t 143) (.c (.v (.bool false)))⟩ ::
   ⟨none, .mv 145 (.t 144)⟩ ::
   ⟨some (145, true), .mv 146 (.t 17)⟩ ::
   ⟨some (145, true), .bin 147 .eql .num (.t 146) (.c (.v (.int .i64 0)))⟩ ::
   ⟨none, .pick 148 (.t 145) (.t 147) (.c (.v (.bool false)))⟩ ::
   ⟨none, .mv 149 (.t 148)⟩ ::
   ⟨some (149, true), .mv 150 (.t 19)⟩ ::
   ⟨some (149, true), .bin 151 .eql .num (.t 150) (.c (.v (.int .i64 0)))⟩ ::
   ⟨none, .pick 152 (.t 149) (.t 151) (.c (.v (.bool false)))⟩ ::
   ⟨none, .mv 153 (.t 152)⟩ ::
   ⟨some (153, true), .mv 154 (.t 21)⟩ ::
   ⟨some (153, true), .bin 155 .eql .num (.t 154) (.c (.v (.int .i64 0)))⟩ ::
   ⟨none, .pick 156 (.t 153) (.t 155) (.c (.v (.bool false)))⟩ ::
   ⟨none, .mv 157 (.t 156)⟩ ::
   ⟨some (157, true), .mv 158 (.t 12)⟩ ::
   ⟨some (157, true), .mv 159 (.t 10)⟩ ::
   ⟨some (157, true), .bin 160 .leq .num (.t 158) (.t 159)⟩ ::
   ⟨none, .pick 161 (.t 157) (.t 160) (.c (.v (.bool false)))⟩ ::
   ⟨none, .mv 162 (.t 161)⟩ ::
   ⟨some (162, true), .mv 163 (.t 16)⟩ ::
   ⟨some (162, true), .mv 164 (.t 14)⟩ ::
   ⟨some (162, true), .bin 165 .geq .num (.t 163) (.t 164)⟩ ::
   ⟨none, .pick 166 (.t 162) (.t 165) (.c (.v (.bool false)))⟩ ::
   ⟨none, .mv 167 (.t 166)⟩ ::
   ⟨some (167, true), .mv 168 (.t 20)⟩ ::
   ⟨some (167, true), .mv 169 (.t 18)⟩ ::
   ⟨some (167, true), .bin 170 .geq .num (.t 168) (.t 169)⟩ ::
   ⟨none, .pick 171 (.t 167) (.t 170) (.c (.v (.bool false)))⟩ ::
   ⟨none, .asg 6 (.t 171)⟩ :: []))
 (.seq (.scr r5) .ret))))))))))))))),
  172, [6]⟩
theorem comp5 : compF Go.Proofs.Try.prog hints5 5 = some c5 := by kernel_rfl
@[simp] theorem aggV_2 (r : Nat) (p : List Nat) (x y : Value) : aggV r p [.v x, .v y] 0 2 = some (.ro (.nd .ag [.v x, .v y])) := by
  rw [aggV_eq]; rfl
/-- Where an arc is laid in: ahead of the first that is greater. -/
def gtZ (p x : Int × Int) : Bool := decide (x.1 < p.1) || (p.1 == x.1 && decide (x.2 < p.2))
def cutG (a : List (Int × Int)) (x : Int × Int) : Nat := ((List.range a.length).find? fun i => gtZ (nth a (0, 0) i) x).getD a.length
theorem cutG_le (a : List (Int × Int)) (x : Int × Int) : cutG a x ≤ a.length := by
  unfold cutG
  cases h : (List.range a.length).find? fun i => gtZ (nth a (0, 0) i) x with
  | none => simp
  | some i =>
    have := List.mem_range.1 (List.mem_of_find?_eq_some h)
    simp
    omega
theorem cutG_below {a : List (Int × Int)} {x : Int × Int} {i : Nat} (h : i < cutG a x) : gtZ (nth a (0, 0) i) x = false := by
  have hl := cutG_le a x
  unfold cutG at h
  cases hf : (List.range a.length).find? fun i => gtZ (nth a (0, 0) i) x with
  | none =>
    have := List.find?_eq_none.1 hf i (List.mem_range.2 (by rw [hf] at h; simpa using h))
    simpa using this
  | some j =>
    rw [hf] at h
    simp only [Option.getD_some] at h
    have hj := List.find?_range_eq_some.1 hf
    have := hj.2.2 i h
    simpa using this
theorem cutG_at {a : List (Int × Int)} {x : Int × Int} (h : cutG a x < a.length) : gtZ (nth a (0, 0) (cutG a x)) x = true := by
  unfold cutG at h ⊢
  cases hf : (List.range a.length).find? fun i => gtZ (nth a (0, 0) i) x with
  | none => rw [hf] at h; simp at h
  | some j =>
    simp only [Option.getD_some]
    exact (List.find?_range_eq_some.1 hf).1
/-- With the arc, as far as the list is read. -/
def insG (a : List (Int × Int)) (x : Int × Int) (i : Nat) : List (Int × Int) := if cutG a x < i then a.take (cutG a x) ++ [x] ++ (a.take i).drop (cutG a x) else a.take i
abbrev moreL (a : List (Int × Int)) (x : Int × Int) : List (Int × Int) := a.take (cutG a x) ++ [x] ++ a.drop (cutG a x)
theorem insG_len (a : List (Int × Int)) (x : Int × Int) (i : Nat) : (insG a x i).length ≤ i + 1 := by
  unfold insG
  split
  · simp
    omega
  · simp
    omega
abbrev xD (x : Int × Int) : D := .nd .ag [nI x.1, nI x.2]
abbrev xB (x : Int × Int) : D := .nd (.bx false) [nI x.1, nI x.2]
theorem insG_step {a : List (Int × Int)} {i : Nat} (hi : i < a.length) (x y : Int × Int) (hy : nth a (0, 0) i = y) :
    (decide (cutG a x < i) = true ∧ insG a x (i + 1) = insG a x i ++ [y] ∧ decide (cutG a x < i + 1) = true) ∨
    (decide (cutG a x < i) = false ∧ gtZ y x = true ∧ insG a x (i + 1) = insG a x i ++ [x] ++ [y] ∧ decide (cutG a x < i + 1) = true) ∨
    (decide (cutG a x < i) = false ∧ gtZ y x = false ∧ insG a x (i + 1) = insG a x i ++ [y] ∧ decide (cutG a x < i + 1) = false) := by
  have htake : a.take (i + 1) = a.take i ++ [y] := by rw [take_succ_nth (0, 0) hi, hy]
  by_cases h1 : cutG a x < i
  · refine .inl ⟨decide_eq_true h1, ?_, decide_eq_true (by omega)⟩
    unfold insG
    rw [if_pos h1, if_pos (by omega), htake, List.drop_append_of_le_length (by simp; omega), List.append_assoc, List.append_assoc, List.append_assoc]
  · by_cases h2 : gtZ y x = true
    · have h3 : cutG a x = i := by
        apply Classical.byContradiction
        intro hne
        have := cutG_below (a := a) (x := x) (i := i) (by omega)
        rw [hy, h2] at this
        cases this
      refine .inr (.inl ⟨decide_eq_false h1, h2, ?_, decide_eq_true (by omega)⟩)
      unfold insG
      rw [if_neg h1, if_pos (by omega), htake, h3]
      have e : (a.take i ++ [y]).drop i = [y] := by
        rw [List.drop_append_of_le_length (by simp; omega), List.drop_eq_nil_of_le (by simp; omega)]
        rfl
      rw [e]
    · have h3 : cutG a x ≠ i := fun e => by
        have := cutG_at (a := a) (x := x) (by omega)
        rw [e, hy] at this
        exact h2 this
      refine .inr (.inr ⟨decide_eq_false h1, by simpa using h2, ?_, decide_eq_false (by omega)⟩)
      unfold insG
      rw [if_neg h1, if_neg (by omega), htake]
theorem loop5_0 (call : Oracle) (fuel : Nat) (hF : 1000 < fuel) (b : Bool) (n : Int) (a : List (Int × Int)) (hl : a.length ≤ 80) (x : Int × Int) (st : St)
    (h0 : drops st h5_0 = L5_0 (ii n) (.ro (sa b a)) (.own (xB x)) (.own (saE [])) (bb false) (ii 0)) :
    run.loopN (run call fuel b5_0) fuel st = some (if (List.range a.length).any (fun i => decide (nth a (0, 0) i = x)) = true then (.ret, R5 (bb true)) else (.ex 0, X5_0 (ii n) (.ro (sa b a)) (.own (xB x)) (.own (saE (insG a x a.length))) (bb (decide (cutG a x < a.length))))) := by
  have hz : insG a x 0 = [] := by simp [insG]
  refine loop_any call fuel h5_0 _ a.length (fun i => decide (nth a (0, 0) i = x)) (fun i => L5_0 (ii n) (.ro (sa b a)) (.own (xB x)) (.own (saE (insG a x i))) (bb (decide (cutG a x < i))) (ii i)) (.ret, R5 (bb true)) _ (by intro h; cases h) (by intro h; cases h) ?_ (by simp) fuel st (by rw [hz]; exact h0) (by omega)
  intro i hi _
  have hw := wrap_succ (i := i) (by omega)
  have hlen := insG_len a x i
  obtain ⟨y, hy⟩ : ∃ y, nth a (0, 0) i = y := ⟨_, rfl⟩
  have hstep := insG_step hi x y hy
  rw [hy]
  generalize insG a x (i + 1) = M' at *
  generalize insG a x i = M at *
  generalize decide (cutG a x < i + 1) = p' at *
  generalize decide (cutG a x < i) = p at *
  obtain ⟨x1, x2⟩ := x
  obtain ⟨y1, y2⟩ := y
  have hm1 : M.length + 1 ≤ most := by unfold most; omega
  have hm2 : M.length + 1 + 1 ≤ most := by unfold most; omega
  have hz2 : ((M ++ [(x1, x2)]).length == 0) = false := by simp
  by_cases he : (y1, y2) = (x1, x2)
  · obtain ⟨rfl, rfl⟩ := Prod.mk.inj he
    simp [hi, hy]
  · have hne : ¬ (y1 = x1 ∧ y2 = x2) := fun h => he (by rw [h.1, h.2])
    have hd : decide ((y1, y2) = (x1, x2)) = false := decide_eq_false he
    rw [hd]
    rcases hstep with ⟨q1, q2, q3⟩ | ⟨q1, q2, q3, q4⟩ | ⟨q1, q2, q3, q4⟩
    · subst q1 q2 q3
      simp [hi, hy, hw, hne, hm1, saE_snoc]
    · subst q1 q3 q4
      simp only [gtZ, Bool.or_eq_true, Bool.and_eq_true, decide_eq_true_eq, beq_iff_eq] at q2
      have hsn : saE (M ++ [(x1, x2), (y1, y2)]) = sa false (M ++ [(x1, x2), (y1, y2)]) := by
        have := saE_snoc (M ++ [(x1, x2)]) (y1, y2)
        rwa [List.append_assoc] at this
      by_cases c1 : x1 < y1
      · simp [hi, hy, hw, hne, hm1, hm2, hsn, c1]
      · obtain ⟨c4, c2⟩ : y1 = x1 ∧ x2 < y2 := q2.resolve_left c1
        subst c4
        have c3 : ¬ y2 = x2 := by omega
        simp [hi, hy, hw, hm1, hm2, hsn, c2, c3]
    · subst q1 q3 q4
      simp only [gtZ, Bool.or_eq_false_iff, Bool.and_eq_false_iff, decide_eq_false_iff_not, beq_eq_false_iff_ne] at q2
      obtain ⟨c1, c2⟩ := q2
      by_cases c3 : y1 = x1
      · have c4 : ¬ x2 < y2 := c2.resolve_left (fun h => h c3)
        have c5 : ¬ y2 = x2 := fun h => hne ⟨c3, h⟩
        subst c3
        simp [hi, hy, hw, hm1, saE_snoc, c4, c5]
      · simp [hi, hy, hw, hne, hm1, saE_snoc, c1, c3]
theorem moreL_len (a : List (Int × Int)) (x : Int × Int) : (moreL a x).length = a.length + 1 := by
  have := cutG_le a x
  simp
  omega
theorem moreL_sub (a : List (Int × Int)) (x : Int × Int) : a.Sublist (moreL a x) := by
  have h2 : (a.take (cutG a x) ++ a.drop (cutG a x)).Sublist (a.take (cutG a x) ++ [x] ++ a.drop (cutG a x)) :=
    List.Sublist.append (List.sublist_append_left _ _) (List.Sublist.refl _)
  rw [List.take_append_drop] at h2
  exact h2
theorem insG_end (a : List (Int × Int)) (x : Int × Int) : (decide (cutG a x < a.length) = true ∧ insG a x a.length = moreL a x) ∨ (decide (cutG a x < a.length) = false ∧ insG a x a.length = a ∧ moreL a x = a ++ [x]) := by
  have hle := cutG_le a x
  unfold insG
  by_cases h : cutG a x < a.length
  · refine .inl ⟨decide_eq_true h, ?_⟩
    rw [if_pos h, List.take_length]
  · refine .inr ⟨decide_eq_false h, ?_, ?_⟩
    · rw [if_neg h, List.take_length]
    · have : cutG a x = a.length := by omega
      unfold moreL
      rw [this, List.take_length, List.drop_length, List.append_nil]
theorem law5 (b : Bool) (n : Int) (a : List (Int × Int)) (x : Int × Int) : callM (S 8) 6000 c5 [nI n, sa b a, xD x] = some (bV true) := by
  have h11 := s11 2
  have h12 := s12 7 b a
  rw [callM_eq (mf := c5) rfl, callF_tab _ _ c5 134 _ (by exact Nat.le_of_ble_eq_true rfl) (by exact Nat.le_of_ble_eq_true rfl)]
  by_cases hl : a.length ≤ 80
  · rw [decide_eq_true hl] at h12
    have hml := moreL_len a x
    have hms := moreL_sub a x
    have hie := insG_end a x
    have hme : saE (moreL a x) = sa false (moreL a x) := by
      unfold saE
      rw [show ((moreL a x).length == 0) = false by rw [hml]; simp]
    have g20 := s20 3 b n a (by omega)
    have g19 := s19 2 b n a (by omega)
    have g15 := s15 7 b n a (by omega) 2
    have m20 := s20 3 false n (moreL a x) (by omega)
    have m19 := s19 2 false n (moreL a x) (by omega)
    have m15 := s15 7 false n (moreL a x) (by omega) 2
    generalize S 8 = call at *
    have hL := loop5_0 call 6000 (by decide) b n a hl x
    generalize (List.range a.length).any (fun i => decide (nth a (0, 0) i = x)) = t at *
    have hmost : a.length + 1 ≤ most := by unfold most; omega
    obtain ⟨x1, x2⟩ := x
    by_cases ht : t = true
    · subst ht
      simp [c5, h11, h12]
      rw [hL _ (by simp; rfl)]
      simp
    · have ht : t = false := by simpa using ht
      subst ht
      rcases hie with ⟨i1, i2⟩ | ⟨i1, i2, i3⟩
      · rw [i1, i2, hme] at hL
        generalize moreL a (x1, x2) = M at *
        by_cases hM : ckE n M = 0
        · obtain ⟨he, hR⟩ := ck_sub hms hM
          obtain ⟨r1, r2, r3⟩ := more_all he hM hR
          have r3 := r3 2 (by omega)
          unfold stD at g15 m15
          rw [if_pos he] at g20 g19
          rw [if_pos hM] at m20 m19
          rw [if_pos he, if_pos (by omega)] at g15
          rw [if_pos hM, if_pos (by omega)] at m15
          have g20' : call 20 [nI n, sa b a] = some (.nd .tu [nI (wid n a : Nat), nI 0]) := g20
          have m20' : call 20 [nI n, sa false M] = some (.nd .tu [nI (wid n M : Nat), nI 0]) := m20
          have g15' : call 15 [nI n, sa b a, nI 2] = some (.nd .tu [nI (str n a 2 : Nat), nI 0]) := g15
          have m15' : call 15 [nI n, sa false M, nI 2] = some (.nd .tu [nI (str n M 2 : Nat), nI 0]) := m15
          generalize str n a 2 = p1 at *
          generalize str n M 2 = p2 at *
          generalize hgt n a = p3 at *
          generalize hgt n M = p4 at *
          generalize wid n a = p5 at *
          generalize wid n M = p6 at *
          simp [c5, h11, h12]
          rw [hL _ (by simp; rfl)]
          simp [g20', m20', g19, m19, g15', m15', r1, r2, r3]
        · rw [if_neg hM] at m20
          have hw : ∃ x y, call 20 [nI n, sa b a] = some (.nd .tu [nI x, nI y]) := by
            rw [g20]
            split
            · exact ⟨_, _, rfl⟩
            · exact ⟨_, _, rfl⟩
          obtain ⟨y1, y2, hw⟩ := hw
          have hr := ck_range n M
          generalize ckE n M = e at *
          simp [c5, h11, h12]
          rw [hL _ (by simp; rfl)]
          rcases hr with rfl | rfl | rfl | rfl
          · exact absurd rfl hM
          · simp [hw, m20]
          · simp [hw, m20]
          · simp [hw, m20]
      · rw [i1, i2] at hL
        have ha : saE (a ++ [(x1, x2)]) = sa false (a ++ [(x1, x2)]) := saE_snoc _ _
        rw [i3] at m20 m19 m15 hms
        by_cases hM : ckE n (a ++ [(x1, x2)]) = 0
        · obtain ⟨he, hR⟩ := ck_sub hms hM
          obtain ⟨r1, r2, r3⟩ := more_all he hM hR
          have r3 := r3 2 (by omega)
          unfold stD at g15 m15
          rw [if_pos he] at g20 g19
          rw [if_pos hM] at m20 m19
          rw [if_pos he, if_pos (by omega)] at g15
          rw [if_pos hM, if_pos (by omega)] at m15
          have g20' : call 20 [nI n, sa b a] = some (.nd .tu [nI (wid n a : Nat), nI 0]) := g20
          have m20' : call 20 [nI n, sa false (a ++ [(x1, x2)])] = some (.nd .tu [nI (wid n (a ++ [(x1, x2)]) : Nat), nI 0]) := m20
          have g15' : call 15 [nI n, sa b a, nI 2] = some (.nd .tu [nI (str n a 2 : Nat), nI 0]) := g15
          have m15' : call 15 [nI n, sa false (a ++ [(x1, x2)]), nI 2] = some (.nd .tu [nI (str n (a ++ [(x1, x2)]) 2 : Nat), nI 0]) := m15
          generalize str n a 2 = p1 at *
          generalize str n (a ++ [(x1, x2)]) 2 = p2 at *
          generalize hgt n a = p3 at *
          generalize hgt n (a ++ [(x1, x2)]) = p4 at *
          generalize wid n a = p5 at *
          generalize wid n (a ++ [(x1, x2)]) = p6 at *
          simp [c5, h11, h12]
          rw [hL _ (by simp; rfl)]
          simp [hmost, g20', m20', g19, m19, g15', m15', r1, r2, r3]
        · rw [if_neg hM] at m20
          have hw : ∃ x y, call 20 [nI n, sa b a] = some (.nd .tu [nI x, nI y]) := by
            rw [g20]
            split
            · exact ⟨_, _, rfl⟩
            · exact ⟨_, _, rfl⟩
          obtain ⟨y1, y2, hw⟩ := hw
          have hr := ck_range n (a ++ [(x1, x2)])
          generalize ckE n (a ++ [(x1, x2)]) = e at *
          simp [c5, h11, h12]
          rw [hL _ (by simp; rfl)]
          rcases hr with rfl | rfl | rfl | rfl
          · exact absurd rfl hM
          · simp [hmost, hw, m20]
          · simp [hmost, hw, m20]
          · simp [hmost, hw, m20]
  · rw [decide_eq_false hl] at h12
    simp [c5, h11, h12]
end Go.Mx
