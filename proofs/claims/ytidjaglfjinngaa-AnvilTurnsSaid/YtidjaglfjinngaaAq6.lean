/-
  Anvils: AnvilTurns.
-/
import Derived.Test.YtidjaglfjinngaaMgR
namespace Go.Mx
set_option linter.unusedVariables false
set_option linter.unusedSimpArgs false
set_option linter.unusedSectionVars false
open Go

def hints6 : List (List Bool) := [bits 133 [6], bits 133 [0, 1, 2, 7], bits 133 [0, 1, 2, 7, 8], bits 133 [0, 1, 2, 7], bits 133 [0, 1, 2, 7, 8], bits 133 [0, 1, 2, 7, 8], bits 133 [0, 1, 2, 7, 8, 9], bits 133 [0, 1, 2, 7, 8], bits 133 [0, 1, 2, 7, 8, 9], bits 133 [6]]
@[simp] def r6 : List Bool := bits 133 [6]
@[simp] def R6 (s6 : V) : St := tab 133 99 (fu dd 6 s6) dd
@[simp] def x6_0 : List Bool := bits 133 [0, 1, 2, 7]
@[simp] def X6_0 (s0 s1 s2 s7 : V) : St := tab 133 99 (fu (fu (fu (fu dd 7 s7) 2 s2) 1 s1) 0 s0) dd
@[simp] def h6_0 : List Bool := bits 133 [0, 1, 2, 7, 8]
@[simp] def L6_0 (s0 s1 s2 s7 s8 : V) : St := tab 133 99 (fu (fu (fu (fu (fu dd 8 s8) 7 s7) 2 s2) 1 s1) 0 s0) dd
@[simp] def x6_1 : List Bool := bits 133 [0, 1, 2, 7, 8]
@[simp] def X6_1 (s0 s1 s2 s7 s8 : V) : St := tab 133 99 (fu (fu (fu (fu (fu dd 8 s8) 7 s7) 2 s2) 1 s1) 0 s0) dd
@[simp] def x6_2 : List Bool := bits 133 [0, 1, 2, 7, 8]
@[simp] def X6_2 (s0 s1 s2 s7 s8 : V) : St := tab 133 99 (fu (fu (fu (fu (fu dd 8 s8) 7 s7) 2 s2) 1 s1) 0 s0) dd
@[simp] def h6_1 : List Bool := bits 133 [0, 1, 2, 7, 8, 9]
@[simp] def L6_1 (s0 s1 s2 s7 s8 s9 : V) : St := tab 133 99 (fu (fu (fu (fu (fu (fu dd 9 s9) 8 s8) 7 s7) 2 s2) 1 s1) 0 s0) dd
@[simp] def x6_3 : List Bool := bits 133 [0, 1, 2, 7, 8, 9]
@[simp] def X6_3 (s0 s1 s2 s7 s8 s9 : V) : St := tab 133 99 (fu (fu (fu (fu (fu (fu dd 9 s9) 8 s8) 7 s7) 2 s2) 1 s1) 0 s0) dd
def b6_1 : MC := .seq (.scr h6_1)
 (.seq (.seq (.ops [⟨none, .mv 44 (.t 9)⟩,
    ⟨none, .mv 45 (.t 1)⟩,
    ⟨none, .len 46 false (.t 45)⟩,
    ⟨none, .bin 47 .lss .num (.t 44) (.t 46)⟩])
  (.cnd (.t 47)
   .skip
   (.seq (.scr x6_2) (.ex 2))))
 (.seq (.seq (.blk 3 (.seq (.ops [⟨none, .mv 50 (.t 1)⟩,
     ⟨none, .mv 51 (.t 9)⟩,
     ⟨none, .ixs 52 2 (.t 50) (.t 51)⟩,
     ⟨none, .fa 53 1 (.t 52)⟩,
     ⟨none, .ld1 54 (.t 53)⟩,
     ⟨none, .mv 55 (.t 8)⟩,
     ⟨none, .bin 56 .eql .num (.t 54) (.t 55)⟩])
   (.cnd (.t 56)
    (.ops [⟨none, .mv 57 (.t 7)⟩,
     ⟨none, .mv 58 (.t 8)⟩,
     ⟨none, .mv 59 (.t 1)⟩,
     ⟨none, .mv 60 (.t 9)⟩,
     ⟨none, .ixs 61 2 (.t 59) (.t 60)⟩,
     ⟨none, .fa 62 0 (.t 61)⟩,
     ⟨none, .ld1 63 (.t 62)⟩,
     ⟨none, .bld 64 [(.v (.int .i64 0)), (.v (.int .i64 0))] [(0, 1, (.t 58)), (1, 1, (.t 63))]⟩,
     ⟨none, .bs 65 2 1 [(.v (.int .i64 0)), (.v (.int .i64 0))] [(0, 2, (.t 64))]⟩,
     ⟨none, .app 66 2 (.t 57) (.t 65)⟩,
     ⟨none, .asg 7 (.t 66)⟩])
    .skip))) (.scr x6_3))
 (.ops [⟨none, .mv 48 (.t 9)⟩,
  ⟨none, .bin 49 .add .num (.t 48) (.c (.v (.int .i64 1)))⟩,
  ⟨none, .asg 9 (.t 49)⟩])))
def b6_0 : MC := .seq (.scr h6_0)
 (.seq (.seq (.ops [⟨none, .mv 39 (.t 8)⟩,
    ⟨none, .mv 40 (.t 0)⟩,
    ⟨none, .bin 41 .lss .num (.t 39) (.t 40)⟩])
  (.cnd (.t 41)
   .skip
   (.seq (.scr x6_0) (.ex 0))))
 (.seq (.seq (.blk 1 (.seq (.ops [⟨none, .asg 9 (.c (.v (.int .i64 0)))⟩])
   (.seq (.blk 2 (.lop b6_1)) (.scr x6_2)))) (.scr x6_1))
 (.ops [⟨none, .mv 42 (.t 8)⟩,
  ⟨none, .bin 43 .add .num (.t 42) (.c (.v (.int .i64 1)))⟩,
  ⟨none, .asg 8 (.t 43)⟩])))
def c6 : MF := ⟨(.seq (.ops [⟨none, .asg 6 (.c (.v (.bool false)))⟩])
 (.seq (.seq (.ops [⟨none, .call (some 22) 11 []⟩,
    ⟨none, .un 23 .not (.t 22)⟩,
    ⟨none, .mv 24 (.t 23)⟩,
    ⟨some (24, false), .mv 25 (.t 1)⟩,
    ⟨some (24, false), .call (some 26) 12 [(.t 25)]⟩,
    ⟨some (24, false), .un 27 .not (.t 26)⟩,
    ⟨none, .pick 28 (.t 24) (.c (.v (.bool true))) (.t 27)⟩,
    ⟨none, .mv 29 (.t 28)⟩,
    ⟨some (29, false), .mv 30 (.t 0)⟩,
    ⟨some (29, false), .mv 31 (.t 1)⟩,
    ⟨some (29, false), .call (some 32) 21 [(.t 30), (.t 31)]⟩,
    ⟨some (29, false), .un 33 .not (.t 32)⟩,
    ⟨none, .pick 34 (.t 29) (.c (.v (.bool true))) (.t 33)⟩])
  (.cnd (.t 34)
   (.seq (.ops [⟨none, .call (some 35) 11 []⟩,
     ⟨none, .asg 6 (.t 35)⟩])
   (.seq (.scr r6) .ret))
   .skip))
 (.seq (.ops [⟨none, .mv 36 (.t 2)⟩,
   ⟨none, .call (some 37) 18 [(.t 36), (.c (.v (.int .i64 12)))]⟩,
   ⟨none, .bin 38 .add .num (.c (.v (.int .i64 1))) (.t 37)⟩,
   ⟨none, .asg 2 (.t 38)⟩])
 (.seq (.ops [⟨none, .asg 7 (.c (.nd (.sl true 2 0) []))⟩])
 (.seq (.seq (.ops [⟨none, .asg 8 (.c (.v (.int .i64 0)))⟩])
  (.seq (.blk 0 (.lop b6_0)) (.scr x6_0)))
 (.seq (.ops [⟨none, .mv 68 (.t 0)⟩,
   ⟨none, .mv 69 (.t 1)⟩,
   ⟨none, .call (some 70) 20 [(.t 68), (.t 69)]⟩,
   ⟨none, .mv 67 (.t 70)⟩,
   ⟨none, .ext 71 (.t 67) 0⟩,
   ⟨none, .ext 72 (.t 67) 1⟩,
   ⟨none, .asg 10 (.t 71)⟩,
   ⟨none, .asg 11 (.t 72)⟩])
 (.seq (.ops [⟨none, .mv 74 (.t 0)⟩,
   ⟨none, .mv 75 (.t 7)⟩,
   ⟨none, .call (some 76) 20 [(.t 74), (.t 75)]⟩,
   ⟨none, .mv 73 (.t 76)⟩,
   ⟨none, .ext 77 (.t 73) 0⟩,
   ⟨none, .ext 78 (.t 73) 1⟩,
   ⟨none, .asg 12 (.t 77)⟩,
   ⟨none, .asg 13 (.t 78)⟩])
 (.seq (.ops [⟨none, .mv 80 (.t 0)⟩,
   ⟨none, .mv 81 (.t 1)⟩,
   ⟨none, .call (some 82) 19 [(.t 80), (.t 81)]⟩,
   ⟨none, .mv 79 (.t 82)⟩,
   ⟨none, .ext 83 (.t 79) 0⟩,
   ⟨none, .ext 84 (.t 79) 1⟩,
   ⟨none, .asg 14 (.t 83)⟩,
   ⟨none, .asg 15 (.t 84)⟩])
 (.seq (.ops [⟨none, .mv 86 (.t 0)⟩,
   ⟨none, .mv 87 (.t 7)⟩,
   ⟨none, .call (some 88) 19 [(.t 86), (.t 87)]⟩,
   ⟨none, .mv 85 (.t 88)⟩,
   ⟨none, .ext 89 (.t 85) 0⟩,
   ⟨none, .ext 90 (.t 85) 1⟩,
   ⟨none, .asg 16 (.t 89)⟩,
   ⟨none, .asg 17 (.t 90)⟩])
 (.seq (.ops [⟨none, .mv 92 (.t 0)⟩,
   ⟨none, .mv 93 (.t 1)⟩,
   ⟨none, .mv 94 (.t 2)⟩,
   ⟨none, .call (some 95) 15 [(.t 92), (.t 93), (.t 94)]⟩,
   ⟨none, .mv 91 (.t 95)⟩,
   ⟨none, .ext 96 (.t 91) 0⟩,
   ⟨none, .ext 97 (.t 91) 1⟩,
   ⟨none, .asg 18 (.t 96)⟩,
   ⟨none, .asg 19 (.t 97)⟩])
 (.seq (.ops [⟨none, .mv 99 (.t 0)⟩,
   ⟨none, .mv 100 (.t 7)⟩,
   ⟨none, .mv 101 (.t 2)⟩,
   ⟨none, .call (some 102) 15 [(.t 99), (.t 100), (.t 101)]⟩,
   ⟨none, .mv 98 (.t 102)⟩,
   ⟨none, .ext 103 (.t 98) 0⟩,
   ⟨none, .ext 104 (.t 98) 1⟩,
   ⟨none, .asg 20 (.t 103)⟩,
   ⟨none, .asg 21 (.t 104)⟩])
 (.seq (.ops (⟨none, .mv 105 (.t 10)⟩ ::
   ⟨none, .mv 106 (.t 12)⟩ ::
   ⟨none, .bin 107 .eql .num (.t 105) (.t 106)⟩ ::
   ⟨none, .mv 108 (.t 107)⟩ ::
   ⟨some (108, true), .mv 109 (.t 11)⟩ ::
   ⟨some (108, true), .mv 110 (.t 13)⟩ ::
   ⟨some (108, true), .bin 111 .eql .num (.t 109) (.t 110)⟩ ::
   ⟨none, .pick 112 (.t 108) (.t 111) (.c (.v (.bool false)))⟩ ::
   ⟨none, .mv 113 (.t 112)⟩ ::
   ⟨some (113, true), .mv 114 (.t 14)⟩ ::
   ⟨some (113, true), .mv 115 (.t 16)⟩ ::
   ⟨some (113, true), .bin 116 .eql .num (.t 114) (.t 115)⟩ ::
   ⟨none, .pick 117 (.t 113) (.t 116) (.c (.v (.bool false)))⟩ ::
   ⟨none, .mv 118 (.t 117)⟩ ::
   ⟨some (118, true), .mv 119 (.t 15)⟩ ::
   ⟨some (118, true), .mv 120 (.t 17)⟩ ::
   ⟨some (118, true), .bin 121 .eql .num (.t 119) (.t 120)⟩ ::
   ⟨none, .pick 122 (.t 118) (.t 121) (.c (.v (.bool false)))⟩ ::
   ⟨none, .mv 123 (.t 122)⟩ ::
   ⟨some (123, true), .mv 124 (.t 18)⟩ ::
   ⟨some (123, true), .mv 125 (.t 20)⟩ ::
   ⟨some (123, true), .bin 126 .eql .num (.t 124) (.t 125)⟩ ::
   ⟨none, .pick 127 (.t 123) (.t 126) (.c (.v (.bool false)))⟩ ::
   ⟨none, .mv 128 (.t 127)⟩ ::
   ⟨some (128, true), .mv 129 (.t 19)⟩ ::
   ⟨some (128, true), .mv 130 (.t 21)⟩ ::
   ⟨some (128, true), .bin 131 .eql .num (.t 129) (.t 130)⟩ ::
   ⟨none, .pick 132 (.t 128) (.t 131) (.c (.v (.bool false)))⟩ ::
   ⟨none, .asg 6 (.t 132)⟩ :: []))
 (.seq (.scr r6) .ret))))))))))))),
  133, [6]⟩
theorem comp6 : compF Go.Proofs.Try.prog hints6 6 = some c6 := by kernel_rfl
theorem bkR_len (a : List (Int × Int)) (i k : Nat) : (bkR a i k).length ≤ a.length := by
  unfold bkR
  rw [List.length_map]
  refine Nat.le_trans (List.length_filter_le _ _) ?_
  simp
  omega
theorem bkL_len (a : List (Int × Int)) : ∀ i, (bkL a i).length ≤ i * a.length
  | 0 => by simp [bkL]
  | i + 1 => by
    rw [bkL_succ, List.length_append, Nat.succ_mul]
    have h1 := bkL_len a i
    have h2 := bkR_len a i a.length
    omega
theorem loop6_1 (call : Oracle) (fuel : Nat) (b : Bool) (n m : Int) (a : List (Int × Int)) (hl : a.length ≤ 80) (i : Nat) (hi : i < 24) (hF : 1000 < fuel) (st : St)
    (h0 : drops st h6_1 = L6_1 (ii n) (.ro (sa b a)) (ii m) (.own (saE (bkL a i))) (ii i) (ii 0)) :
    run.loopN (run call fuel b6_1) fuel st = some (.ex 2, X6_2 (ii n) (.ro (sa b a)) (ii m) (.own (saE (bkL a (i + 1)))) (ii i)) := by
  have hz : bkR a i 0 = [] := by simp [bkR]
  rw [bkL_succ]
  have hq : (bkL a i).length ≤ 24 * 80 := Nat.le_trans (bkL_len a i) (Nat.mul_le_mul (by omega) hl)
  have hR := bkR_len a i
  have hs := fun k => bkR_succ a i (k := k)
  generalize bkL a i = Q at *
  refine loop_cnt call fuel h6_1 _ a.length (fun k => L6_1 (ii n) (.ro (sa b a)) (ii m) (.own (saE (Q ++ bkR a i k))) (ii i) (ii k)) _ (by intro h; cases h) ?_ (by simp) fuel st (by rw [hz, List.append_nil]; exact h0) (by omega)
  intro k hk
  have hw := wrap_succ (i := k) (by omega)
  have hs := hs k hk
  have hR := hR k
  generalize bkR a i (k + 1) = M' at *
  generalize bkR a i k = M at *
  obtain ⟨⟨y1, y2⟩, hy⟩ : ∃ y, nth a (0, 0) k = y := ⟨_, rfl⟩
  rw [hy] at hs
  have hm : Q.length + M.length + 1 ≤ most := by unfold most; omega
  by_cases hc : y2 = (i : Int)
  · rw [if_pos hc] at hs
    subst hs hc
    have e := saE_snoc (Q ++ M) ((i : Int), y1)
    rw [List.append_assoc] at e
    simp [hk, hy, hw, hm, e]
  · rw [if_neg hc] at hs
    subst hs
    simp [hk, hy, hw, hc]
theorem loop6_0 (call : Oracle) (fuel : Nat) (b : Bool) (n : Nat) (m : Int) (a : List (Int × Int)) (hl : a.length ≤ 80) (hn : n ≤ 24) (hF : 1000 < fuel) (st : St)
    (h0 : drops st h6_0 = L6_0 (ii n) (.ro (sa b a)) (ii m) (.own (saE [])) (ii 0)) :
    run.loopN (run call fuel b6_0) fuel st = some (.ex 0, X6_0 (ii n) (.ro (sa b a)) (ii m) (.own (saE (bkL a n)))) := by
  have hz : bkL a 0 = [] := by simp [bkL]
  refine loop_cnt call fuel h6_0 _ n (fun i => L6_0 (ii n) (.ro (sa b a)) (ii m) (.own (saE (bkL a i))) (ii i)) _ (by intro h; cases h) ?_ (by simp) fuel st (by rw [hz]; exact h0) (by omega)
  intro i hi
  have hw := wrap_succ (i := i) (by omega)
  have hL := loop6_1 call fuel b n m a hl i (by omega) hF
  generalize bkL a (i + 1) = M' at *
  generalize bkL a i = M at *
  simp [hi]
  rw [hL _ (by simp)]
  simp [hw]
theorem law6 (b : Bool) (n : Int) (a : List (Int × Int)) (m : Int) : callM (S 8) 6000 c6 [nI n, sa b a, nI m] = some (bV true) := by
  have h11 := s11 2
  have h12 := s12 7 b a
  rw [callM_eq (mf := c6) rfl, callF_tab _ _ c6 99 _ (by exact Nat.le_of_ble_eq_true rfl) (by exact Nat.le_of_ble_eq_true rfl)]
  by_cases hl : a.length ≤ 80
  · rw [decide_eq_true hl] at h12
    have h21 := s21 7 b n a (by omega)
    have h18 := s18 7 m 12 (by decide)
    have hmb := modZ_bnd m (m := 12) (by decide)
    by_cases hv : validB n a = true
    · rw [hv] at h21
      have hbv := bk_valid hv
      have hbk := bk_ck hv
      have hbl := valid_len hbv
      obtain ⟨nn, rfl, h24, _⟩ := valid_nat hv
      simp only [Int.toNat_natCast] at hbv hbk hbl
      have hbo := fun he => bk_oR (n := (nn : Int)) (a := a) he
      simp only [Int.toNat_natCast] at hbo
      have hll : (bkL a nn).length ≤ 1000 := by
        have h2 : nn * nn ≤ 24 * 24 := Nat.mul_le_mul h24 h24
        have h3 : ((bkL a nn).length : Int) ≤ ((nn * nn : Nat) : Int) := by
          rw [Int.natCast_mul]
          exact hbl
        omega
      have hL := loop6_0 (S 8) 6000 b nn
      obtain ⟨kn, hkn⟩ : ∃ kn : Nat, modZ m 12 = (kn : Int) := ⟨(modZ m 12).toNat, by omega⟩
      rw [hkn] at h18 hmb
      have w1 : IntKind.i64.wrap (1 + (kn : Int)) = ((kn + 1 : Nat) : Int) := by
        rw [wrap_eq (by unfold I64; omega)]
        omega
      have hL := hL ((kn + 1 : Nat) : Int) a hl h24 (by decide)
      have g20 := s20 3 b nn a (by omega)
      have g19 := s19 2 b nn a (by omega)
      have g15 := s15 7 b nn a (by omega) ((kn + 1 : Nat) : Int)
      have m20 := s20 3 ((bkL a nn).length == 0) nn (bkL a nn) hll
      have m19 := s19 2 ((bkL a nn).length == 0) nn (bkL a nn) hll
      have m15 := s15 7 ((bkL a nn).length == 0) nn (bkL a nn) hll ((kn + 1 : Nat) : Int)
      generalize S 8 = call at *
      by_cases he : ckE nn a = 0
      · rw [he] at hbk
        obtain ⟨r1, r2, r3⟩ := turn_all he hbk (hbo he)
        have r3 := r3 (kn + 1) (by omega)
        have e1 : stD nn a ((kn + 1 : Nat) : Int) = .nd .tu [nI (str nn a (kn + 1) : Nat), nI 0] := by
          unfold stD
          rw [if_pos he, if_pos (by omega)]
          rfl
        have e2 : stD nn (bkL a nn) ((kn + 1 : Nat) : Int) = .nd .tu [nI (str nn (bkL a nn) (kn + 1) : Nat), nI 0] := by
          unfold stD
          rw [if_pos hbk, if_pos (by omega)]
          rfl
        rw [e1] at g15
        rw [e2] at m15
        rw [if_pos he] at g20 g19
        rw [if_pos hbk] at m20 m19
        have g20' : call 20 [nI nn, sa b a] = some (.nd .tu [nI (wid nn a : Nat), nI 0]) := g20
        have m20' : call 20 [nI nn, saE (bkL a nn)] = some (.nd .tu [nI (wid nn (bkL a nn) : Nat), nI 0]) := m20
        rw [← r1] at m20'
        have m19' : call 19 [nI nn, saE (bkL a nn)] = some (.nd .tu [nI (hgt nn (bkL a nn) : Nat), nI 0]) := m19
        rw [← r2] at m19'
        have m15' : call 15 [nI nn, saE (bkL a nn), nI ((kn + 1 : Nat) : Int)] = some (.nd .tu [nI (str nn (bkL a nn) (kn + 1) : Nat), nI 0]) := m15
        rw [← r3] at m15'
        generalize kn + 1 = k1 at *
        generalize bkL a nn = B at *
        generalize str nn a k1 = p1 at *
        generalize hgt nn a = p3 at *
        generalize wid nn a = p5 at *
        simp [c6, h11, h12, h21, h18, w1]
        rw [hL _ (by simp; rfl)]
        simp [g20', m20', g19, m19', g15, m15']
      · have hbn : ¬ ckE nn (bkL a nn) = 0 := by rw [hbk]; exact he
        rw [if_neg he] at g20 g19
        rw [if_neg hbn, hbk] at m20 m19
        have e1 : stD nn a ((kn + 1 : Nat) : Int) = .nd .tu [nI 0, nI (ckE nn a)] := by
          unfold stD
          rw [if_neg he]
        have e2 : stD nn (bkL a nn) ((kn + 1 : Nat) : Int) = .nd .tu [nI 0, nI (ckE nn a)] := by
          unfold stD
          rw [if_neg hbn, hbk]
        rw [e1] at g15
        rw [e2] at m15
        have m20' : call 20 [nI nn, saE (bkL a nn)] = some (.nd .tu [nI 0, nI (ckE nn a)]) := m20
        have m19' : call 19 [nI nn, saE (bkL a nn)] = some (.nd .tu [nI 0, nI (ckE nn a)]) := m19
        have m15' : call 15 [nI nn, saE (bkL a nn), nI ((kn + 1 : Nat) : Int)] = some (.nd .tu [nI 0, nI (ckE nn a)]) := m15
        generalize kn + 1 = k1 at *
        generalize bkL a nn = B at *
        generalize ckE nn a = e at *
        simp [c6, h11, h12, h21, h18, w1]
        rw [hL _ (by simp; rfl)]
        simp [g20, m20', g19, m19', g15, m15']
    · have hv : validB n a = false := by simpa using hv
      rw [hv] at h21
      simp [c6, h11, h12, h21]
  · rw [decide_eq_false hl] at h12
    simp [c6, h11, h12]
end Go.Mx
