/-
  Anvils: AnvilChains.
-/
import Derived.Test.YtidjaglfjinngaaMgR
namespace Go.Mx
set_option linter.unusedVariables false
set_option linter.unusedSimpArgs false
set_option linter.unusedSectionVars false
open Go

def hints9 : List (List Bool) := [bits 78 [6], bits 78 [0, 1, 2], bits 78 [0, 1, 2, 7], bits 78 [0, 1, 2], bits 78 [0, 1, 2, 7], bits 78 [6], bits 78 [6], bits 78 [6], bits 78 [6]]
@[simp] def r9 : List Bool := bits 78 [6]
@[simp] def R9 (s6 : V) : St := tab 78 44 (fu dd 6 s6) dd
@[simp] def x9_0 : List Bool := bits 78 [0, 1, 2]
@[simp] def X9_0 (s0 s1 s2 : V) : St := tab 78 44 (fu (fu (fu dd 2 s2) 1 s1) 0 s0) dd
@[simp] def h9_0 : List Bool := bits 78 [0, 1, 2, 7]
@[simp] def L9_0 (s0 s1 s2 s7 : V) : St := tab 78 44 (fu (fu (fu (fu dd 7 s7) 2 s2) 1 s1) 0 s0) dd
@[simp] def x9_1 : List Bool := bits 78 [0, 1, 2, 7]
@[simp] def X9_1 (s0 s1 s2 s7 : V) : St := tab 78 44 (fu (fu (fu (fu dd 7 s7) 2 s2) 1 s1) 0 s0) dd
def b9_0 : MC := .seq (.scr h9_0)
 (.seq (.seq (.ops [⟨none, .mv 25 (.t 7)⟩,
    ⟨none, .mv 26 (.t 2)⟩,
    ⟨none, .len 27 false (.t 26)⟩,
    ⟨none, .bin 28 .lss .num (.t 25) (.t 27)⟩])
  (.cnd (.t 28)
   .skip
   (.seq (.scr x9_0) (.ex 0))))
 (.seq (.seq (.blk 1 (.seq (.ops [⟨none, .mv 31 (.t 2)⟩,
     ⟨none, .mv 32 (.t 7)⟩,
     ⟨none, .ixs 33 1 (.t 31) (.t 32)⟩,
     ⟨none, .ld1 34 (.t 33)⟩,
     ⟨none, .len 35 false (.t 34)⟩,
     ⟨none, .bin 36 .gtr .num (.t 35) (.c (.v (.int .i64 20)))⟩])
   (.cnd (.t 36)
    (.seq (.ops [⟨none, .asg 6 (.c (.v (.bool true)))⟩])
    (.seq (.scr r9) .ret))
    .skip))) (.scr x9_1))
 (.ops [⟨none, .mv 29 (.t 7)⟩,
  ⟨none, .bin 30 .add .num (.t 29) (.c (.v (.int .i64 1)))⟩,
  ⟨none, .asg 7 (.t 30)⟩])))
def c9 : MF := ⟨(.seq (.ops [⟨none, .asg 6 (.c (.v (.bool false)))⟩])
 (.seq (.seq (.ops [⟨none, .call (some 12) 11 []⟩,
    ⟨none, .un 13 .not (.t 12)⟩,
    ⟨none, .mv 14 (.t 13)⟩,
    ⟨some (14, false), .mv 15 (.t 1)⟩,
    ⟨some (14, false), .call (some 16) 12 [(.t 15)]⟩,
    ⟨some (14, false), .un 17 .not (.t 16)⟩,
    ⟨none, .pick 18 (.t 14) (.c (.v (.bool true))) (.t 17)⟩,
    ⟨none, .mv 19 (.t 18)⟩,
    ⟨some (19, false), .mv 20 (.t 2)⟩,
    ⟨some (19, false), .len 21 false (.t 20)⟩,
    ⟨some (19, false), .bin 22 .gtr .num (.t 21) (.c (.v (.int .i64 20)))⟩,
    ⟨none, .pick 23 (.t 19) (.c (.v (.bool true))) (.t 22)⟩])
  (.cnd (.t 23)
   (.seq (.ops [⟨none, .call (some 24) 11 []⟩,
     ⟨none, .asg 6 (.t 24)⟩])
   (.seq (.scr r9) .ret))
   .skip))
 (.seq (.seq (.ops [⟨none, .asg 7 (.c (.v (.int .i64 0)))⟩])
  (.seq (.blk 0 (.lop b9_0)) (.scr x9_0)))
 (.seq (.ops [⟨none, .mv 38 (.t 0)⟩,
   ⟨none, .mv 39 (.t 1)⟩,
   ⟨none, .call (some 40) 29 [(.t 38), (.t 39)]⟩,
   ⟨none, .mv 37 (.t 40)⟩,
   ⟨none, .ext 41 (.t 37) 0⟩,
   ⟨none, .ext 42 (.t 37) 1⟩,
   ⟨none, .asg 8 (.t 41)⟩,
   ⟨none, .asg 9 (.t 42)⟩])
 (.seq (.ops [⟨none, .mv 44 (.t 0)⟩,
   ⟨none, .mv 45 (.t 1)⟩,
   ⟨none, .call (some 46) 24 [(.t 44), (.t 45)]⟩,
   ⟨none, .mv 43 (.t 46)⟩,
   ⟨none, .ext 47 (.t 43) 0⟩,
   ⟨none, .ext 48 (.t 43) 1⟩,
   ⟨none, .asg 10 (.t 47)⟩,
   ⟨none, .asg 11 (.t 48)⟩])
 (.seq (.seq (.ops [⟨none, .mv 49 (.t 0)⟩,
    ⟨none, .mv 50 (.t 1)⟩,
    ⟨none, .mv 51 (.t 2)⟩,
    ⟨none, .call (some 52) 30 [(.t 49), (.t 50), (.t 51)]⟩,
    ⟨none, .mv 53 (.t 0)⟩,
    ⟨none, .mv 54 (.t 1)⟩,
    ⟨none, .mv 55 (.t 2)⟩,
    ⟨none, .call (some 56) 31 [(.t 53), (.t 54), (.t 55)]⟩,
    ⟨none, .bin 57 .neq .bool (.t 52) (.t 56)⟩,
    ⟨none, .mv 58 (.t 57)⟩,
    ⟨some (58, false), .mv 59 (.t 9)⟩,
    ⟨some (58, false), .mv 60 (.t 11)⟩,
    ⟨some (58, false), .bin 61 .neq .num (.t 59) (.t 60)⟩,
    ⟨none, .pick 62 (.t 58) (.c (.v (.bool true))) (.t 61)⟩])
  (.cnd (.t 62)
   (.seq (.ops [⟨none, .asg 6 (.c (.v (.bool false)))⟩])
   (.seq (.scr r9) .ret))
   .skip))
 (.seq (.seq (.ops [⟨none, .mv 63 (.t 11)⟩,
    ⟨none, .bin 64 .neq .num (.t 63) (.c (.v (.int .i64 0)))⟩])
  (.cnd (.t 64)
   (.seq (.ops [⟨none, .mv 65 (.t 8)⟩,
     ⟨none, .len 66 false (.t 65)⟩,
     ⟨none, .bin 67 .eql .num (.t 66) (.c (.v (.int .i64 0)))⟩,
     ⟨none, .asg 6 (.t 67)⟩])
   (.seq (.scr r9) .ret))
   .skip))
 (.seq (.ops [⟨none, .mv 68 (.t 0)⟩,
   ⟨none, .mv 69 (.t 1)⟩,
   ⟨none, .mv 70 (.t 8)⟩,
   ⟨none, .call (some 71) 31 [(.t 68), (.t 69), (.t 70)]⟩,
   ⟨none, .mv 72 (.t 71)⟩,
   ⟨some (72, true), .mv 73 (.t 8)⟩,
   ⟨some (72, true), .len 74 false (.t 73)⟩,
   ⟨some (72, true), .mv 75 (.t 10)⟩,
   ⟨some (72, true), .bin 76 .eql .num (.t 74) (.t 75)⟩,
   ⟨none, .pick 77 (.t 72) (.t 76) (.c (.v (.bool false)))⟩,
   ⟨none, .asg 6 (.t 77)⟩])
 (.seq (.scr r9) .ret))))))))),
  78, [6]⟩
theorem comp9 : compF Go.Proofs.Try.prog hints9 9 = some c9 := by kernel_rfl
theorem mem_flat_len {c : List Nat} : ∀ {L : List (List Nat)}, c ∈ L → c.length ≤ L.flatten.length
  | d :: L, h => by
    rw [List.flatten_cons, List.length_append]
    rcases List.mem_cons.1 h with rfl | h
    · omega
    · have := mem_flat_len h
      omega
theorem loop9_0 (call : Oracle) (fuel : Nat) (hF : 1000 < fuel) (n : Int) (b c : Bool) (a : List (Int × Int)) (cs : List (Bool × List Int)) (hc : cs.length ≤ 20) (st : St)
    (h0 : drops st h9_0 = L9_0 (ii n) (.ro (sa b a)) (.ro (gsl eII c cs)) (ii 0)) :
    run.loopN (run call fuel b9_0) fuel st = some (if (List.range cs.length).any (fun i => decide (20 < (nth cs (true, []) i).2.length)) = true then (.ret, R9 (bb true)) else (.ex 0, X9_0 (ii n) (.ro (sa b a)) (.ro (gsl eII c cs)))) := by
  refine loop_any call fuel h9_0 _ cs.length (fun i => decide (20 < (nth cs (true, []) i).2.length)) (fun i => L9_0 (ii n) (.ro (sa b a)) (.ro (gsl eII c cs)) (ii i)) (.ret, R9 (bb true)) _ (by intro h; cases h) (by intro h; cases h) ?_ (by simp) fuel st h0 (by omega)
  intro i hi _
  have hw := wrap_succ (i := i) (by omega)
  obtain ⟨z, l, hcl⟩ : ∃ z l, nth cs (true, []) i = (z, l) := ⟨_, _, rfl⟩
  rw [hcl]
  by_cases h : 20 < l.length
  · have h' : (20 : Int) < (l.length : Int) := by omega
    simp [hi, hcl, h, h']
  · have h' : ¬ (20 : Int) < (l.length : Int) := by omega
    simp [hi, hcl, h, h', hw]
theorem law9 (b c : Bool) (n : Int) (a : List (Int × Int)) (cs : List (Bool × List Int)) : callM (S 8) 6000 c9 [nI n, sa b a, gsl eII c cs] = some (bV true) := by
  have h11 := s11 2
  have h12 := s12 7 b a
  rw [callM_eq (mf := c9) rfl, callF_tab _ _ c9 44 _ (by exact Nat.le_of_ble_eq_true rfl) (by exact Nat.le_of_ble_eq_true rfl)]
  by_cases hl : a.length ≤ 80
  · rw [decide_eq_true hl] at h12
    by_cases hc : cs.length ≤ 20
    · have hc' : ¬ (20 : Int) < (cs.length : Int) := by omega
      have h29 := s29 7 b n a (by omega)
      have h24 := s24 4 b n a (by omega)
      have h30 := fun c cs hc hx => s30 3 b c n a (by omega) cs hc hx
      have h31 := fun c cs hc hx => s31 5 b c n a (by omega) cs hc hx
      generalize S 8 = call at *
      have hL := loop9_0 call 6000 (by decide) n b c a cs hc
      have hx : (List.range cs.length).any (fun i => decide (20 < (nth cs (true, []) i).2.length)) = false → ∀ x ∈ cs, x.2.length ≤ 900 := fun h x hx => by
        obtain ⟨i, hi, rfl⟩ := List.getElem_of_mem hx
        have := (any_range _ _).1 h i hi
        rw [nth_get (true, []) hi] at this
        have := of_decide_eq_false this
        omega
      generalize (List.range cs.length).any (fun i => decide (20 < (nth cs (true, []) i).2.length)) = t at *
      cases t
      · have hx := hx rfl
        have g30 := h30 c cs (by omega) hx
        have g31 := h31 c cs (by omega) hx
        unfold chD at h29
        by_cases he : ckE n a = 0
        · rw [if_pos he] at h29 h24 g30 g31
          have k31 := h31 ((chs n a).length == 0) ((chs n a).map rowC) (by
            rw [List.length_map, chs_len he]
            have h1 : (antL (ordG n a) n.toNat).length ≤ n.toNat := wid_n he
            have := (dg_12 he).1
            omega) (fun x hx => by
            obtain ⟨y, hy, rfl⟩ := List.mem_map.1 hx
            have h1 := mem_flat_len hy
            rw [(chs_good he).len] at h1
            have := (dg_12 he).1
            show (zl y).length ≤ 900
            rw [zl_len]
            omega)
          rw [if_pos he] at k31
          have hgood : isC (oR n a) n.toNat ((chs n a).map rowC) = true := (isC_iff (dg_12 he).1 _).2 ⟨chs n a, by rw [List.map_map]; rfl, chs_good he⟩
          rw [hgood] at k31
          have hlen : ((chs n a).map rowC).length = (refA n a).length := by rw [List.length_map, chs_len he, refA_ant he]
          have h29' : call 29 [nI n, sa b a] = some (.nd .tu [gsl eII ((chs n a).length == 0) ((chs n a).map rowC), nI 0]) := h29
          generalize (chs n a).map rowC = C at *
          generalize ((chs n a).length == 0) = z at *
          generalize refA n a = W at *
          generalize isC (oR n a) n.toNat cs = q at *
          simp [c9, h11, h12, hc']
          rw [hL _ (by simp)]
          simp [h29', h24, g30, g31, k31, hlen]
        · rw [if_neg he] at h29 h24 g30 g31
          generalize ckE n a = e at *
          simp [c9, h11, h12, hc']
          rw [hL _ (by simp)]
          simp [h29, h24, g30, g31, he]
      · simp [c9, h11, h12, hc']
        rw [hL _ (by simp)]
        simp
    · have hc' : (20 : Int) < (cs.length : Int) := by omega
      simp [c9, h11, h12, hc']
  · rw [decide_eq_false hl] at h12
    simp [c9, h11, h12]
end Go.Mx
