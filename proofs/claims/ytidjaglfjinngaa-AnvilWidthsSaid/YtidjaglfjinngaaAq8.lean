/-
  Anvils: AnvilWidths.
-/
import Derived.Test.YtidjaglfjinngaaMgR
namespace Go.Mx
set_option linter.unusedVariables false
set_option linter.unusedSimpArgs false
set_option linter.unusedSectionVars false
open Go

/-- coinage/coinagelaw31.AnvilWidths -/
abbrev K8 : Nat := 56
def hints8 : List (List Bool) := [bits 89 [4], bits 89 [4]]
@[simp] def r8 : List Bool := bits 89 [4]
@[simp] def R8 (s4 : V) : St := tab 89 56 (fu dd 4 s4) dd
def c8 : MF := ⟨(.seq (.ops [⟨none, .asg 4 (.c (.v (.bool false)))⟩])
 (.seq (.seq (.ops [⟨none, .call (some 17) 11 []⟩,
    ⟨none, .un 18 .not (.t 17)⟩,
    ⟨none, .mv 19 (.t 18)⟩,
    ⟨some (19, false), .mv 20 (.t 1)⟩,
    ⟨some (19, false), .call (some 21) 12 [(.t 20)]⟩,
    ⟨some (19, false), .un 22 .not (.t 21)⟩,
    ⟨none, .pick 23 (.t 19) (.c (.v (.bool true))) (.t 22)⟩])
  (.cnd (.t 23)
   (.seq (.ops [⟨none, .call (some 24) 11 []⟩,
     ⟨none, .asg 4 (.t 24)⟩])
   (.seq (.scr r8) .ret))
   .skip))
 (.seq (.ops [⟨none, .mv 26 (.t 0)⟩,
   ⟨none, .mv 27 (.t 1)⟩,
   ⟨none, .call (some 28) 20 [(.t 26), (.t 27)]⟩,
   ⟨none, .mv 25 (.t 28)⟩,
   ⟨none, .ext 29 (.t 25) 0⟩,
   ⟨none, .ext 30 (.t 25) 1⟩,
   ⟨none, .asg 5 (.t 29)⟩,
   ⟨none, .asg 6 (.t 30)⟩])
 (.seq (.ops [⟨none, .mv 32 (.t 0)⟩,
   ⟨none, .mv 33 (.t 1)⟩,
   ⟨none, .call (some 34) 24 [(.t 32), (.t 33)]⟩,
   ⟨none, .mv 31 (.t 34)⟩,
   ⟨none, .ext 35 (.t 31) 0⟩,
   ⟨none, .ext 36 (.t 31) 1⟩,
   ⟨none, .asg 7 (.t 35)⟩,
   ⟨none, .asg 8 (.t 36)⟩])
 (.seq (.ops [⟨none, .mv 38 (.t 0)⟩,
   ⟨none, .mv 39 (.t 1)⟩,
   ⟨none, .call (some 40) 25 [(.t 38), (.t 39)]⟩,
   ⟨none, .mv 37 (.t 40)⟩,
   ⟨none, .ext 41 (.t 37) 0⟩,
   ⟨none, .ext 42 (.t 37) 1⟩,
   ⟨none, .asg 9 (.t 41)⟩,
   ⟨none, .asg 10 (.t 42)⟩])
 (.seq (.ops [⟨none, .mv 44 (.t 0)⟩,
   ⟨none, .mv 45 (.t 1)⟩,
   ⟨none, .call (some 46) 26 [(.t 44), (.t 45)]⟩,
   ⟨none, .mv 43 (.t 46)⟩,
   ⟨none, .ext 47 (.t 43) 0⟩,
   ⟨none, .ext 48 (.t 43) 1⟩,
   ⟨none, .asg 11 (.t 47)⟩,
   ⟨none, .asg 12 (.t 48)⟩])
 (.seq (.ops [⟨none, .mv 50 (.t 0)⟩,
   ⟨none, .mv 51 (.t 1)⟩,
   ⟨none, .call (some 52) 19 [(.t 50), (.t 51)]⟩,
   ⟨none, .mv 49 (.t 52)⟩,
   ⟨none, .ext 53 (.t 49) 0⟩,
   ⟨none, .ext 54 (.t 49) 1⟩,
   ⟨none, .asg 13 (.t 53)⟩,
   ⟨none, .asg 14 (.t 54)⟩])
 (.seq (.ops [⟨none, .mv 56 (.t 0)⟩,
   ⟨none, .mv 57 (.t 1)⟩,
   ⟨none, .call (some 58) 27 [(.t 56), (.t 57)]⟩,
   ⟨none, .mv 55 (.t 58)⟩,
   ⟨none, .ext 59 (.t 55) 0⟩,
   ⟨none, .ext 60 (.t 55) 1⟩,
   ⟨none, .asg 15 (.t 59)⟩,
   ⟨none, .asg 16 (.t 60)⟩])
 (.seq (.ops (⟨none, .mv 61 (.t 5)⟩ ::
   ⟨none, .mv 62 (.t 7)⟩ ::
   ⟨none, .bin 63 .eql .num (.t 61) (.t 62)⟩ ::
   ⟨none, .mv 64 (.t 63)⟩ ::
   ⟨some (64, true), .mv 65 (.t 6)⟩ ::
   ⟨some (64, true), .mv 66 (.t 8)⟩ ::
   ⟨some (64, true), .bin 67 .eql .num (.t 65) (.t 66)⟩ ::
   ⟨none, .pick 68 (.t 64) (.t 67) (.c (.v (.bool false)))⟩ ::
   ⟨none, .mv 69 (.t 68)⟩ ::
   ⟨some (69, true), .mv 70 (.t 9)⟩ ::
   ⟨some (69, true), .mv 71 (.t 11)⟩ ::
   ⟨some (69, true), .call (some 72) 28 [(.t 70), (.t 71)]⟩ ::
   ⟨none, .pick 73 (.t 69) (.t 72) (.c (.v (.bool false)))⟩ ::
   ⟨none, .mv 74 (.t 73)⟩ ::
   ⟨some (74, true), .mv 75 (.t 10)⟩ ::
   ⟨some (74, true), .mv 76 (.t 12)⟩ ::
   ⟨some (74, true), .bin 77 .eql .num (.t 75) (.t 76)⟩ ::
   ⟨none, .pick 78 (.t 74) (.t 77) (.c (.v (.bool false)))⟩ ::
   ⟨none, .mv 79 (.t 78)⟩ ::
   ⟨some (79, true), .mv 80 (.t 13)⟩ ::
   ⟨some (79, true), .mv 81 (.t 15)⟩ ::
   ⟨some (79, true), .bin 82 .eql .num (.t 80) (.t 81)⟩ ::
   ⟨none, .pick 83 (.t 79) (.t 82) (.c (.v (.bool false)))⟩ ::
   ⟨none, .mv 84 (.t 83)⟩ ::
   ⟨some (84, true), .mv 85 (.t 14)⟩ ::
   ⟨some (84, true), .mv 86 (.t 16)⟩ ::
   ⟨some (84, true), .bin 87 .eql .num (.t 85) (.t 86)⟩ ::
   ⟨none, .pick 88 (.t 84) (.t 87) (.c (.v (.bool false)))⟩ ::
   ⟨none, .asg 4 (.t 88)⟩ :: []))
 (.seq (.scr r8) .ret)))))))))),
  89, [4]⟩
theorem comp8 : compF Go.Proofs.Try.prog hints8 8 = some c8 := by kernel_rfl
theorem law8 (b : Bool) (n : Int) (a : List (Int × Int)) : callM (S 8) 6000 c8 [nI n, sa b a] = some (bV true) := by
  have h11 := s11 2
  have h12 := s12 7 b a
  rw [callM_eq (mf := c8) rfl, callF_tab _ _ c8 56 _ (by exact Nat.le_of_ble_eq_true rfl) (by exact Nat.le_of_ble_eq_true rfl)]
  by_cases hl : a.length ≤ 80
  · rw [decide_eq_true hl] at h12
    have h20 := s20 3 b n a (by omega)
    have h24 := s24 4 b n a (by omega)
    have h25 := s25 3 b n a (by omega)
    have h26 := s26 5 b n a (by omega)
    have h19 := s19 2 b n a (by omega)
    have h27 := s27 5 b n a (by omega)
    have h28 := fun b c l m hl => s28 7 b c l m hl
    generalize S 8 = call at *
    by_cases he : ckE n a = 0
    · rw [if_pos he] at h20 h24 h25 h26 h19 h27
      rw [refA_ant he] at h24 h26
      have hw : (antL (ordG n a) n.toNat).length ≤ 12 := Nat.le_trans (wid_n he) (dg_12 he).1
      generalize antL (ordG n a) n.toNat = L at *
      have h28 := h28 (L.length == 0) (L.length == 0) (zl L) (zl L) (by rw [zl_len]; omega)
      simp at h28
      simp [c8, h11, h12, h20, h24, h25, h26, h19, h27, h28]
    · rw [if_neg he] at h20 h24 h25 h26 h19 h27
      generalize ckE n a = e at *
      have h28 := h28 true true [] [] (by decide)
      have h28' : call 28 [gsl (eI .i64) true [], gsl (eI .i64) true []] = some (bV true) := h28
      simp [c8, h11, h12, h20, h24, h25, h26, h19, h27, h28']
  · rw [decide_eq_false hl] at h12
    simp [c8, h11, h12]
end Go.Mx
