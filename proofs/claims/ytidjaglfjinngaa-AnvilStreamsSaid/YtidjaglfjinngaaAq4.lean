/-
  Anvils: AnvilStreams.
-/
import Derived.Test.YtidjaglfjinngaaMgR
namespace Go.Mx
set_option linter.unusedVariables false
set_option linter.unusedSimpArgs false
set_option linter.unusedSectionVars false
open Go

def hints4 : List (List Bool) := [bits 117 [6], bits 117 [6], bits 117 [6], bits 117 [6]]
@[simp] def r4 : List Bool := bits 117 [6]
@[simp] def R4 (s6 : V) : St := tab 117 56 (fu dd 6 s6) dd
def c4 : MF := ⟨(.seq (.ops [⟨none, .asg 6 (.c (.v (.bool false)))⟩])
 (.seq (.seq (.ops [⟨none, .call (some 17) 11 []⟩,
    ⟨none, .un 18 .not (.t 17)⟩,
    ⟨none, .mv 19 (.t 18)⟩,
    ⟨some (19, false), .mv 20 (.t 1)⟩,
    ⟨some (19, false), .call (some 21) 12 [(.t 20)]⟩,
    ⟨some (19, false), .un 22 .not (.t 21)⟩,
    ⟨none, .pick 23 (.t 19) (.c (.v (.bool true))) (.t 22)⟩])
  (.cnd (.t 23)
   (.seq (.ops [⟨none, .call (some 24) 11 []⟩,
     ⟨none, .asg 6 (.t 24)⟩])
   (.seq (.scr r4) .ret))
   .skip))
 (.seq (.ops [⟨none, .mv 25 (.t 2)⟩,
   ⟨none, .call (some 26) 18 [(.t 25), (.c (.v (.int .i64 11)))]⟩,
   ⟨none, .bin 27 .add .num (.c (.v (.int .i64 1))) (.t 26)⟩,
   ⟨none, .asg 2 (.t 27)⟩])
 (.seq (.ops [⟨none, .mv 29 (.t 0)⟩,
   ⟨none, .mv 30 (.t 1)⟩,
   ⟨none, .mv 31 (.t 2)⟩,
   ⟨none, .call (some 32) 15 [(.t 29), (.t 30), (.t 31)]⟩,
   ⟨none, .mv 28 (.t 32)⟩,
   ⟨none, .ext 33 (.t 28) 0⟩,
   ⟨none, .ext 34 (.t 28) 1⟩,
   ⟨none, .asg 7 (.t 33)⟩,
   ⟨none, .asg 8 (.t 34)⟩])
 (.seq (.ops [⟨none, .mv 36 (.t 0)⟩,
   ⟨none, .mv 37 (.t 1)⟩,
   ⟨none, .mv 38 (.t 2)⟩,
   ⟨none, .bin 39 .add .num (.t 38) (.c (.v (.int .i64 1)))⟩,
   ⟨none, .call (some 40) 15 [(.t 36), (.t 37), (.t 39)]⟩,
   ⟨none, .mv 35 (.t 40)⟩,
   ⟨none, .ext 41 (.t 35) 0⟩,
   ⟨none, .ext 42 (.t 35) 1⟩,
   ⟨none, .asg 9 (.t 41)⟩,
   ⟨none, .asg 10 (.t 42)⟩])
 (.seq (.ops [⟨none, .mv 44 (.t 0)⟩,
   ⟨none, .mv 45 (.t 1)⟩,
   ⟨none, .call (some 46) 15 [(.t 44), (.t 45), (.c (.v (.int .i64 1)))]⟩,
   ⟨none, .mv 43 (.t 46)⟩,
   ⟨none, .ext 47 (.t 43) 0⟩,
   ⟨none, .ext 48 (.t 43) 1⟩,
   ⟨none, .asg 11 (.t 47)⟩,
   ⟨none, .asg 12 (.t 48)⟩])
 (.seq (.ops [⟨none, .mv 50 (.t 0)⟩,
   ⟨none, .mv 51 (.t 1)⟩,
   ⟨none, .call (some 52) 19 [(.t 50), (.t 51)]⟩,
   ⟨none, .mv 49 (.t 52)⟩,
   ⟨none, .ext 53 (.t 49) 0⟩,
   ⟨none, .ext 54 (.t 49) 1⟩,
   ⟨none, .asg 13 (.t 53)⟩,
   ⟨none, .asg 14 (.t 54)⟩])
 (.seq (.ops [⟨none, .mv 56 (.t 0)⟩,
   ⟨none, .mv 57 (.t 1)⟩,
   ⟨none, .call (some 58) 20 [(.t 56), (.t 57)]⟩,
   ⟨none, .mv 55 (.t 58)⟩,
   ⟨none, .ext 59 (.t 55) 0⟩,
   ⟨none, .ext 60 (.t 55) 1⟩,
   ⟨none, .asg 15 (.t 59)⟩,
   ⟨none, .asg 16 (.t 60)⟩])
 (.seq (.seq (.ops (⟨none, .mv 61 (.t 8)⟩ ::
    ⟨none, .mv 62 (.t 10)⟩ ::
    ⟨none, .bin 63 .neq .num (.t 61) (.t 62)⟩ ::
    ⟨none, .mv 64 (.t 63)⟩ ::
    ⟨some (64, false), .mv 65 (.t 10)⟩ ::
    ⟨some (64, false), .mv 66 (.t 12)⟩ ::
    ⟨some (64, false), .bin 67 .neq .num (.t 65) (.t 66)⟩ ::
    ⟨none, .pick 68 (.t 64) (.c (.v (.bool true))) (.t 67)⟩ ::
    ⟨none, .mv 69 (.t 68)⟩ ::
    ⟨some (69, false), .mv 70 (.t 12)⟩ ::
    ⟨some (69, false), .mv 71 (.t 14)⟩ ::
    ⟨some (69, false), .bin 72 .neq .num (.t 70) (.t 71)⟩ ::
    ⟨none, .pick 73 (.t 69) (.c (.v (.bool true))) (.t 72)⟩ ::
    ⟨none, .mv 74 (.t 73)⟩ ::
    ⟨some (74, false), .mv 75 (.t 14)⟩ ::
    ⟨some (74, false), .mv 76 (.t 16)⟩ ::
    ⟨some (74, false), .bin 77 .neq .num (.t 75) (.t 76)⟩ ::
    ⟨none, .pick 78 (.t 74) (.c (.v (.bool true))) (.t 77)⟩ :: []))
  (.cnd (.t 78)
   (.seq (.ops [⟨none, .asg 6 (.c (.v (.bool false)))⟩])
   (.seq (.scr r4) .ret))
   .skip))
 (.seq (.seq (.ops [⟨none, .mv 79 (.t 8)⟩,
    ⟨none, .bin 80 .neq .num (.t 79) (.c (.v (.int .i64 0)))⟩])
  (.cnd (.t 80)
   (.seq (.ops [⟨none, .mv 81 (.t 7)⟩,
     ⟨none, .bin 82 .eql .num (.t 81) (.c (.v (.int .i64 0)))⟩,
     ⟨none, .mv 83 (.t 82)⟩,
     ⟨some (83, true), .mv 84 (.t 9)⟩,
     ⟨some (83, true), .bin 85 .eql .num (.t 84) (.c (.v (.int .i64 0)))⟩,
     ⟨none, .pick 86 (.t 83) (.t 85) (.c (.v (.bool false)))⟩,
     ⟨none, .asg 6 (.t 86)⟩])
   (.seq (.scr r4) .ret))
   .skip))
 (.seq (.ops (⟨none, .mv 87 (.t 7)⟩ ::
   ⟨none, .mv 88 (.t 13)⟩ ::
   ⟨none, .bin 89 .geq .num (.t 87) (.t 88)⟩ ::
   ⟨none, .mv 90 (.t 89)⟩ ::
   ⟨some (90, true), .mv 91 (.t 7)⟩ ::
   ⟨some (90, true), .mv 92 (.t 2)⟩ ::
   ⟨some (90, true), .bin 93 .mul .num (.t 91) (.t 92)⟩ ::
   ⟨some (90, true), .mv 94 (.t 0)⟩ ::
   ⟨some (90, true), .bin 95 .geq .num (.t 93) (.t 94)⟩ ::
   ⟨none, .pick 96 (.t 90) (.t 95) (.c (.v (.bool false)))⟩ ::
   ⟨none, .mv 97 (.t 96)⟩ ::
   ⟨some (97, true), .mv 98 (.t 9)⟩ ::
   ⟨some (97, true), .mv 99 (.t 7)⟩ ::
   ⟨some (97, true), .bin 100 .leq .num (.t 98) (.t 99)⟩ ::
   ⟨none, .pick 101 (.t 97) (.t 100) (.c (.v (.bool false)))⟩ ::
   ⟨none, .mv 102 (.t 101)⟩ ::
   ⟨some (102, true), .mv 103 (.t 11)⟩ ::
   ⟨some (102, true), .mv 104 (.t 0)⟩ ::
   ⟨some (102, true), .bin 105 .eql .num (.t 103) (.t 104)⟩ ::
   ⟨none, .pick 106 (.t 102) (.t 105) (.c (.v (.bool false)))⟩ ::
   ⟨none, .mv 107 (.t 106)⟩ ::
   ⟨some (107, true), .mv 108 (.t 2)⟩ ::
   ⟨some (107, true), .mv 109 (.t 15)⟩ ::
   ⟨some (107, true), .bin 110 .lss .num (.t 108) (.t 109)⟩ ::
   ⟨some (107, true), .mv 111 (.t 110)⟩ ::
   ⟨some (111, false), .mv 112 (.t 7)⟩ ::
   ⟨some (111, false), .mv 113 (.t 13)⟩ ::
   ⟨some (111, false), .bin 114 .eql .num (.t 112) (.t 113)⟩ ::
   ⟨some (107, true), .pick 115 (.t 111) (.c (.v (.bool true))) (.t 114)⟩ ::
   ⟨none, .pick 116 (.t 107) (.t 115) (.c (.v (.bool false)))⟩ ::
   ⟨none, .asg 6 (.t 116)⟩ :: []))
 (.seq (.scr r4) .ret)))))))))))),
  117, [6]⟩
theorem comp4 : compF Go.Proofs.Try.prog hints4 4 = some c4 := by kernel_rfl
theorem law4 (b : Bool) (n : Int) (a : List (Int × Int)) (m : Int) : callM (S 8) 6000 c4 [nI n, sa b a, nI m] = some (bV true) := by
  have h11 := s11 2
  have h12 := s12 7 b a
  rw [callM_eq (mf := c4) rfl, callF_tab _ _ c4 56 _ (by exact Nat.le_of_ble_eq_true rfl) (by exact Nat.le_of_ble_eq_true rfl)]
  by_cases hl : a.length ≤ 80
  · rw [decide_eq_true hl] at h12
    have h18 := s18 7 m 11 (by decide)
    have hmb := modZ_bnd m (m := 11) (by decide)
    have h15 := fun k => s15 7 b n a (by omega) k
    have h19 := s19 2 b n a (by omega)
    have h20 := s20 3 b n a (by omega)
    generalize S 8 = call at *
    obtain ⟨kn, hkn⟩ : ∃ kn : Nat, modZ m 11 = (kn : Int) := ⟨(modZ m 11).toNat, by omega⟩
    rw [hkn] at h18 hmb
    have w1 : IntKind.i64.wrap (1 + (kn : Int)) = ((kn + 1 : Nat) : Int) := by
      rw [wrap_eq (by unfold I64; omega)]
      omega
    have w2 : IntKind.i64.wrap (((kn + 1 : Nat) : Int) + 1) = ((kn + 2 : Nat) : Int) := by
      rw [wrap_eq (by unfold I64; omega)]
      omega
    have g1 := h15 ((kn + 1 : Nat) : Int)
    have g2 := h15 ((kn + 2 : Nat) : Int)
    have g3 := h15 1
    generalize hk1 : kn + 1 = k1 at *
    generalize hk2 : kn + 2 = k2 at *
    by_cases he : ckE n a = 0
    · rw [if_pos he] at h19 h20
      have e1 : stD n a k1 = .nd .tu [nI (str n a k1 : Nat), nI 0] := by
        unfold stD
        rw [if_pos he, if_pos (by omega)]
        rfl
      have e2 : stD n a k2 = .nd .tu [nI (str n a k2 : Nat), nI 0] := by
        unfold stD
        rw [if_pos he, if_pos (by omega)]
        rfl
      have e3 : stD n a 1 = .nd .tu [nI n, nI 0] := by
        unfold stD
        rw [if_pos he, if_pos (by omega)]
        show T.nd K.tu [nI (str n a 1 : Nat), nI 0] = _
        rw [str_one he, Int.toNat_of_nonneg (dg_12 he).2]
      rw [e1] at g1
      rw [e2] at g2
      rw [e3] at g3
      have f1 : hgt n a ≤ str n a k1 := str_ge_h he (by omega)
      have f2 : n.toNat ≤ str n a k1 * k1 := str_n he (by omega)
      have f3 : str n a k2 ≤ str n a k1 := str_mono he (by omega) (by omega)
      have f4 : wid n a ≤ k1 → str n a k1 = hgt n a := fun h => str_wide he (by omega) h
      have f5 : str n a k1 ≤ n.toNat := str_le he (by omega)
      have h12' := (dg_12 he).1
      have hn0 := (dg_12 he).2
      have h20' : call 20 [nI n, sa b a] = some (.nd .tu [nI (wid n a : Nat), nI 0]) := h20
      generalize str n a k1 = s at *
      generalize str n a k2 = s2 at *
      generalize hgt n a = h at *
      generalize wid n a = w at *
      have hsk : s * k1 ≤ 12 * 12 := Nat.mul_le_mul (by omega) (by omega)
      have w3 : IntKind.i64.wrap ((s : Int) * (k1 : Int)) = ((s * k1 : Nat) : Int) := by
        rw [← Int.natCast_mul]
        exact wrap_eq (by unfold I64; omega)
      have c1 : (h : Int) ≤ (s : Int) := by omega
      have c2 : n ≤ ((s * k1 : Nat) : Int) := by omega
      have c3 : (s2 : Int) ≤ (s : Int) := by omega
      generalize s * k1 = sk at *
      by_cases hw : w ≤ k1
      · have f4 := f4 hw
        subst f4
        have c4' : ¬ (k1 : Int) < (w : Int) := by omega
        have c3' : s2 ≤ s := f3
        simp [c4, h11, h12, h18, w1, w2, g1, g2, g3, h19, h20', w3, c1, c2, c3, c3', c4']
      · have c4' : (k1 : Int) < (w : Int) := by omega
        simp [c4, h11, h12, h18, w1, w2, g1, g2, g3, h19, h20', w3, c1, c2, c3, c4']
    · rw [if_neg he] at h19 h20
      have e0 : ∀ k, stD n a k = .nd .tu [nI 0, nI (ckE n a)] := fun k => by
        unfold stD
        rw [if_neg he]
      rw [e0] at g1 g2 g3
      generalize ckE n a = e at *
      simp [c4, h11, h12, h18, w1, w2, g1, g2, g3, h19, h20, he]
  · rw [decide_eq_false hl] at h12
    simp [c4, h11, h12]
end Go.Mx
