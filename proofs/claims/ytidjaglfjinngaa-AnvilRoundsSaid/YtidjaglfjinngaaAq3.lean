/-
  Anvils: AnvilRounds.
-/
import Derived.Test.YtidjaglfjinngaaMgR
namespace Go.Mx
set_option linter.unusedVariables false
set_option linter.unusedSimpArgs false
set_option linter.unusedSectionVars false
open Go

def hints3 : List (List Bool) := [bits 67 [6], bits 67 [6]]
@[simp] def r3 : List Bool := bits 67 [6]
@[simp] def R3 (s6 : V) : St := tab 67 43 (fu dd 6 s6) dd
def c3 : MF := ⟨(.seq (.ops [⟨none, .asg 6 (.c (.v (.bool false)))⟩])
 (.seq (.seq (.ops [⟨none, .call (some 15) 11 []⟩,
    ⟨none, .un 16 .not (.t 15)⟩,
    ⟨none, .mv 17 (.t 16)⟩,
    ⟨some (17, false), .mv 18 (.t 1)⟩,
    ⟨some (17, false), .call (some 19) 12 [(.t 18)]⟩,
    ⟨some (17, false), .un 20 .not (.t 19)⟩,
    ⟨none, .pick 21 (.t 17) (.c (.v (.bool true))) (.t 20)⟩])
  (.cnd (.t 21)
   (.seq (.ops [⟨none, .call (some 22) 11 []⟩,
     ⟨none, .asg 6 (.t 22)⟩])
   (.seq (.scr r3) .ret))
   .skip))
 (.seq (.ops [⟨none, .mv 24 (.t 0)⟩,
   ⟨none, .mv 25 (.t 1)⟩,
   ⟨none, .call (some 26) 13 [(.t 24), (.t 25)]⟩,
   ⟨none, .mv 23 (.t 26)⟩,
   ⟨none, .ext 27 (.t 23) 0⟩,
   ⟨none, .ext 28 (.t 23) 1⟩,
   ⟨none, .asg 7 (.t 27)⟩,
   ⟨none, .asg 8 (.t 28)⟩])
 (.seq (.ops [⟨none, .mv 30 (.t 0)⟩,
   ⟨none, .mv 31 (.t 1)⟩,
   ⟨none, .call (some 32) 14 [(.t 30), (.t 31)]⟩,
   ⟨none, .mv 29 (.t 32)⟩,
   ⟨none, .ext 33 (.t 29) 0⟩,
   ⟨none, .ext 34 (.t 29) 1⟩,
   ⟨none, .asg 9 (.t 33)⟩,
   ⟨none, .asg 10 (.t 34)⟩])
 (.seq (.ops [⟨none, .mv 36 (.t 0)⟩,
   ⟨none, .mv 37 (.t 1)⟩,
   ⟨none, .mv 38 (.t 2)⟩,
   ⟨none, .call (some 39) 15 [(.t 36), (.t 37), (.t 38)]⟩,
   ⟨none, .mv 35 (.t 39)⟩,
   ⟨none, .ext 40 (.t 35) 0⟩,
   ⟨none, .ext 41 (.t 35) 1⟩,
   ⟨none, .asg 11 (.t 40)⟩,
   ⟨none, .asg 12 (.t 41)⟩])
 (.seq (.ops [⟨none, .mv 43 (.t 0)⟩,
   ⟨none, .mv 44 (.t 1)⟩,
   ⟨none, .mv 45 (.t 2)⟩,
   ⟨none, .call (some 46) 16 [(.t 43), (.t 44), (.t 45)]⟩,
   ⟨none, .mv 42 (.t 46)⟩,
   ⟨none, .ext 47 (.t 42) 0⟩,
   ⟨none, .ext 48 (.t 42) 1⟩,
   ⟨none, .asg 13 (.t 47)⟩,
   ⟨none, .asg 14 (.t 48)⟩])
 (.seq (.ops (⟨none, .mv 49 (.t 7)⟩ ::
   ⟨none, .mv 50 (.t 9)⟩ ::
   ⟨none, .call (some 51) 17 [(.t 49), (.t 50)]⟩ ::
   ⟨none, .mv 52 (.t 51)⟩ ::
   ⟨some (52, true), .mv 53 (.t 8)⟩ ::
   ⟨some (52, true), .mv 54 (.t 10)⟩ ::
   ⟨some (52, true), .bin 55 .eql .num (.t 53) (.t 54)⟩ ::
   ⟨none, .pick 56 (.t 52) (.t 55) (.c (.v (.bool false)))⟩ ::
   ⟨none, .mv 57 (.t 56)⟩ ::
   ⟨some (57, true), .mv 58 (.t 11)⟩ ::
   ⟨some (57, true), .mv 59 (.t 13)⟩ ::
   ⟨some (57, true), .bin 60 .eql .num (.t 58) (.t 59)⟩ ::
   ⟨none, .pick 61 (.t 57) (.t 60) (.c (.v (.bool false)))⟩ ::
   ⟨none, .mv 62 (.t 61)⟩ ::
   ⟨some (62, true), .mv 63 (.t 12)⟩ ::
   ⟨some (62, true), .mv 64 (.t 14)⟩ ::
   ⟨some (62, true), .bin 65 .eql .num (.t 63) (.t 64)⟩ ::
   ⟨none, .pick 66 (.t 62) (.t 65) (.c (.v (.bool false)))⟩ ::
   ⟨none, .asg 6 (.t 66)⟩ :: []))
 (.seq (.scr r3) .ret)))))))),
  67, [6]⟩
theorem comp3 : compF Go.Proofs.Try.prog hints3 3 = some c3 := by kernel_rfl
theorem law3 (b : Bool) (n : Int) (a : List (Int × Int)) (m : Int) : callM (S 8) 6000 c3 [nI n, sa b a, nI m] = some (bV true) := by
  have h11 := s11 2
  have h12 := s12 7 b a
  rw [callM_eq (mf := c3) rfl, callF_tab _ _ c3 43 _ (by exact Nat.le_of_ble_eq_true rfl) (by exact Nat.le_of_ble_eq_true rfl)]
  by_cases hl : a.length ≤ 80
  · rw [decide_eq_true hl] at h12
    have h13 := s13 3 b n a (by omega)
    have h14 := s14 4 b n a (by omega)
    have h15 := s15 7 b n a (by omega) m
    have h16 := s16 5 b n a (by omega) m
    have h17 := fun b c l m hl hx => s17 6 b c l m hl hx
    generalize S 8 = call at *
    have hst : ∃ x y, stD n a m = .nd .tu [nI x, nI y] := by
      unfold stD
      split
      · split
        · exact ⟨_, _, rfl⟩
        · exact ⟨_, _, rfl⟩
      · exact ⟨_, _, rfl⟩
    obtain ⟨x, y, hxy⟩ := hst
    rw [hxy] at h15 h16
    by_cases he : ckE n a = 0
    · rw [if_pos he] at h13 h14
      have hm : maxN (fun v => lvR n a v + 1) n.toNat ≤ 13 := maxN_le _ fun v _ => by have := (lev_lvO he).2 v; have := (dg_12 he).1; omega
      have h14' : call 14 [nI n, sa b a] = some (.nd .tu [gsl eII false (rdR (lvR n a) (maxN (fun v => lvR n a v + 1) n.toNat) n.toNat), nI 0]) := h14
      have hR : ∀ x ∈ rdR (lvR n a) (maxN (fun v => lvR n a v + 1) n.toNat) n.toNat, x.2.length ≤ 1000 := fun x hx => by
        obtain ⟨i, hi, rfl⟩ := List.getElem_of_mem hx
        have := rdR_nth (lvR n a) (h := maxN (fun v => lvR n a v + 1) n.toNat) (i := n.toNat) (k := i) (by simpa using hi) (true, [])
        rw [nth_get (true, []) hi] at this
        rw [this]
        have := lvl_len (lvR n a) n.toNat i
        have := (dg_12 he).1
        show (zl _).length ≤ 1000
        rw [zl_len]
        omega
      have hRl : (rdR (lvR n a) (maxN (fun v => lvR n a v + 1) n.toNat) n.toNat).length ≤ 1000 := by rw [rdR_len]; omega
      unfold rdG at h13
      generalize rdR (lvR n a) (maxN (fun v => lvR n a v + 1) n.toNat) n.toNat = R at *
      have h17 := h17 (n.toNat == 0) false R R hRl hR
      rw [listsB_refl] at h17
      generalize (n.toNat == 0) = z at *
      simp [c3, h11, h12, h13, h14', h15, h16, h17]
    · rw [if_neg he] at h13 h14
      generalize ckE n a = e at *
      have h17 := h17 true true [] [] (by decide) (by simp)
      have h17' : call 17 [gsl eII true [], gsl eII true []] = some (bV true) := h17
      simp [c3, h11, h12, h13, h14, h15, h16, h17']
  · rw [decide_eq_false hl] at h12
    simp [c3, h11, h12]
end Go.Mx
