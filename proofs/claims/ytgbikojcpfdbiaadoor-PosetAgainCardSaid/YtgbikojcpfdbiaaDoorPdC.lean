import Derived.Test.YtgbikojcpfdbiaaDoorPdB
import Derived.Test.YtgbikojcpfdbiaaDoorPdQ
/-
  Posets: lists of arcs; closures.
-/
namespace Go.Mx
set_option linter.unusedVariables false
set_option linter.unusedSimpArgs false
set_option linter.unusedSectionVars false
open Go

abbrev saE (l : List (Int × Int)) : D := sa (l.length == 0) l
def pL (g : Nat → Nat) (i j : Nat) : Bool := decide (i ≠ j) && (g i).testBit j
theorem app_nz {α : Type} (l : List α) (x : α) : ((l ++ [x]).length == 0) = false := by simp
theorem saE_snoc (l : List (Int × Int)) (x : Int × Int) : saE (l ++ [x]) = sa false (l ++ [x]) := by unfold saE; rw [app_nz]
theorem loop17_1 (call : Oracle) (fuel : Nat) (n : Nat) (hn : n ≤ 24) (g : Nat → Nat) (hg : ∀ i, g i < 2 ^ 32) (h24 : Bit24 call) (i : Nat) (hi : i < n) (fu : Nat) (hf : 1000 < fu) (st : St)
    (h0 : drops st h17_1 = L17_1 (.ro (su n g)) (.own (saE (arcP n (pL g) i))) (ii i) (.sc (.int .u32 (g i : Int))) (.ro (su n g)) (ii n) (ii i) (ii n) (ii 0)) :
    run.loopN (run call fuel b17_1) fu st = some (.ex 2, X17_2 (.ro (su n g)) (.own (saE (arcP n (pL g) (i + 1)))) (.ro (su n g)) (ii n) (ii i)) := by
  have e0 : arcP n (pL g) i ++ rowT (pL g) i 0 = arcP n (pL g) i := by simp [rowT]
  rw [← e0] at h0
  rw [arcP_succ]
  refine loop_cnt call fuel h17_1 _ n (fun j => L17_1 (.ro (su n g)) (.own (saE (arcP n (pL g) i ++ rowT (pL g) i j))) (ii i) (.sc (.int .u32 (g i : Int))) (.ro (su n g)) (ii n) (ii i) (ii n) (ii j)) _ (by simp) ?_ ?_ fu st h0 (by omega)
  · intro j hj
    have hw := wrap_succ (i := j) (by omega)
    have k24 := h24 (g i) j (hg i) (by omega)
    have hlen : (arcP n (pL g) i ++ rowT (pL g) i j).length + 1 ≤ most := by
      have h1 := arcP_len n (pL g) i
      have h2 := rowT_len (pL g) i j
      have h3 : i * n ≤ 24 * 24 := Nat.mul_le_mul (by omega) (by omega)
      rw [List.length_append]
      unfold most
      omega
    rw [rowT_succ]
    by_cases hij : i = j
    · have hp : ¬ pL g i j = true := by simp [pL, hij]
      rw [if_neg hp]
      generalize arcP n (pL g) i ++ rowT (pL g) i j = A at *
      simp [hj, hw, hij]
    · have hij' : ¬ (i : Int) = (j : Int) := by omega
      by_cases hb : (g i).testBit j = true
      · have hp : pL g i j = true := by simp [pL, hij, hb]
        rw [if_pos hp, ← List.append_assoc]
        rw [hb] at k24
        generalize arcP n (pL g) i ++ rowT (pL g) i j = A at *
        rw [saE_snoc]
        simp [hj, hw, hij, hij', k24, hlen]
      · have hb : (g i).testBit j = false := by simpa using hb
        have hp : ¬ pL g i j = true := by simp [pL, hb]
        rw [if_neg hp]
        rw [hb] at k24
        generalize arcP n (pL g) i ++ rowT (pL g) i j = A at *
        simp [hj, hw, hij, hij', k24]
  · generalize arcP n (pL g) i ++ rowT (pL g) i n = A at *
    simp
theorem loop17_0 (call : Oracle) (fuel : Nat) (n : Nat) (hn : n ≤ 24) (g : Nat → Nat) (hg : ∀ i, g i < 2 ^ 32) (h24 : Bit24 call) (hF : 1000 < fuel) (st : St)
    (h0 : drops st h17_0 = L17_0 (.ro (su n g)) (.own (saE [])) (.ro (su n g)) (ii n) (ii 0)) :
    run.loopN (run call fuel b17_0) fuel st = some (.ex 0, X17_0 (.own (saE (arcL n (pL g))))) := by
  refine loop_cnt call fuel h17_0 _ n (fun i => L17_0 (.ro (su n g)) (.own (saE (arcP n (pL g) i))) (.ro (su n g)) (ii n) (ii i)) _ (by simp) ?_ ?_ fuel st (by rw [h0]; rfl) (by omega)
  · intro i hi
    have hw := wrap_succ (i := i) (by omega)
    have hz := zr_nth n g hi
    have L := loop17_1 call fuel n hn g hg h24 i hi fuel hF
    generalize arcP n (pL g) (i + 1) = B at *
    generalize arcP n (pL g) i = A at *
    simp [hi, hw, hz]
    rw [L _ (by simp)]
    simp [hw]
  · unfold arcL
    generalize arcP n (pL g) n = A at *
    simp
theorem f17 (call : Oracle) (fuel : Nat) (hF : 1000 < fuel) (n : Nat) (hn : n ≤ 24) (g : Nat → Nat) (hg : ∀ i, g i < 2 ^ 32) (h24 : Bit24 call) : callF call fuel c17 [su n g] = some (saE (arcL n (pL g))) := by
  have L := loop17_0 call fuel n hn g hg h24 hF
  rw [callF_tab call fuel c17 17 _ (by exact Nat.le_of_ble_eq_true rfl) (by exact Nat.le_of_ble_eq_true rfl)]
  generalize arcL n (pL g) = A at *
  simp [c17]
  rw [L _ (by simp; rfl)]
  simp

/-- What Closure returns. -/
def clD (n : Int) (a : List (Int × Int)) : D := if validB n a = true then .nd .tu [saE (arcL n.toNat (pL (rea n a))), .v (.int .i64 0)] else .nd .tu [sa true [], .v (.int .i64 1)]
def List17 (call : Oracle) : Prop := ∀ (n : Nat) (g : Nat → Nat), n ≤ 24 → (∀ i, g i < 2 ^ 32) → call 17 [su n g] = some (saE (arcL n (pL g)))
theorem f7 (call : Oracle) (fuel : Nat) (b : Bool) (n : Int) (a : List (Int × Int)) (hl : a.length ≤ 1000) (h12 : call 12 [.v (.int .i64 n), sa b a] = some (.v (.bool (validB n a)))) (h18 : Reach18 call) (h17 : List17 call) :
    callF call fuel c7 [.v (.int .i64 n), sa b a] = some (clD n a) := by
  rw [callF_tab call fuel c7 6 _ (by exact Nat.le_of_ble_eq_true rfl) (by exact Nat.le_of_ble_eq_true rfl)]
  unfold clD
  by_cases hv : validB n a = true
  · rw [if_pos hv]
    rw [hv] at h12
    obtain ⟨k, hk, hk2, _⟩ := valid_nat hv
    have k18 := h18 b n a hv hl
    have k17 := h17 n.toNat (rea n a) (by omega) (rea_lt hv)
    generalize arcL n.toNat (pL (rea n a)) = A at *
    generalize zr n.toNat (rea n a) = Z at *
    simp [c7, h12, k18, k17]
  · rw [if_neg hv]
    have hv : validB n a = false := by simpa using hv
    rw [hv] at h12
    simp [c7, h12]
    rfl
end Go.Mx
