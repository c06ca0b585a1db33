import Derived.Test.YtidjaglfjinngaaMgI
import Derived.Test.YtidjaglfjinngaaMgK
/-
  Posets: the functions (from the texts of chapter 6, with the numbers of this program).
-/
namespace Go.Mx
set_option linter.unusedVariables false
set_option linter.unusedSimpArgs false
set_option linter.unusedSectionVars false
open Go


theorem loop21 (call : Oracle) (fuel : Nat) (b : Bool) (n : Int) (a : List (Int × Int)) (hl : a.length ≤ 1000) (fu : Nat) (hf : 1000 < fu) (st : St) (h0 : drops st h21_0 = L21_0 (ii n) (.ro (sa b a)) (ii 0)) :
    run.loopN (run call fuel b21_0) fu st = some (if (List.range a.length).any (fun i => !okA n a i) = true then (.ret, R21 (bb false)) else (.ex 0, X21_0)) := by
  refine loop_any call fuel h21_0 _ a.length (fun i => !okA n a i) (fun i => L21_0 (ii n) (.ro (sa b a)) (ii i)) (.ret, R21 (bb false)) (.ex 0, X21_0) (by simp) (by simp) ?_ (by simp) fu st h0 (by omega)
  intro i hi _
  have hw := wrap_succ (i := i) (by omega)
  have hp := wrap_pred (i := i) (by omega)
  have hi' : i - 1 < a.length := by omega
  simp [hi, hw, hp, hi']
  unfold okA
  generalize nth a (0, 0) i = p
  generalize nth a (0, 0) (i - 1) = q
  grind

theorem f21 (call : Oracle) (fuel : Nat) (hf : 1000 < fuel) (b : Bool) (n : Int) (a : List (Int × Int)) (hl : a.length ≤ 1000) : callF call fuel c21 [.v (.int .i64 n), sa b a] = some (.v (.bool (validB n a))) := by
  have e := loop21 call fuel b n a hl fuel hf
  have hlen := @valid_len n a
  rw [callF_tab call fuel c21 6 _ (by exact Nat.le_of_ble_eq_true rfl) (by exact Nat.le_of_ble_eq_true rfl)]
  by_cases c1 : n < 0
  · have : validB n a = false := by
      simp only [validB, Bool.and_eq_false_iff, decide_eq_false_iff_not]; omega
    simp [c21, c1, this]
  by_cases c2 : 24 < n
  · have : validB n a = false := by
      simp only [validB, Bool.and_eq_false_iff, decide_eq_false_iff_not]; omega
    simp [c21, c1, c2, this]
  have hsq : n * n ≤ 576 := by
    have : n * n ≤ 24 * 24 := Int.mul_le_mul (by omega) (by omega) (by omega) (by omega)
    omega
  have hsq0 : 0 ≤ n * n := Int.mul_nonneg (by omega) (by omega)
  have hw : IntKind.i64.wrap (n * n) = n * n := wrap_eq (by unfold I64; omega)
  by_cases c3 : n * n < (a.length : Int)
  · have : validB n a = false := by
      rw [Bool.eq_false_iff]
      intro hv
      have := hlen hv
      omega
    simp [c21, c1, c2, c3, hw, this]
  · simp [c21, c1, c2, c3, hw]
    rw [e _ (by simp)]
    unfold validB
    have d1 : 0 ≤ n := by omega
    have d2 : n ≤ 24 := by omega
    cases (List.range a.length).any (fun i => !okA n a i) <;> simp [d1, d2]

theorem loop44 (call : Oracle) (fuel : Nat) (b : Bool) (n : Int) (a : List (Int × Int)) (hl : a.length ≤ 1000) (fu : Nat) (hf : 1000 < fu) (st : St) (h0 : drops st h44_0 = L44_0 (ii n) (.ro (sa b a)) (.ro (sa b a)) (ii a.length) (ii 0)) :
    run.loopN (run call fuel b44_0) fu st = some (if (List.range a.length).any (fun i => !okA n a i) = true then (.ret, R44 (bb false)) else (.ex 0, X44_0)) := by
  refine loop_any call fuel h44_0 _ a.length (fun i => !okA n a i) (fun i => L44_0 (ii n) (.ro (sa b a)) (.ro (sa b a)) (ii a.length) (ii i)) (.ret, R44 (bb false)) (.ex 0, X44_0) (by simp) (by simp) ?_ (by simp) fu st h0 (by omega)
  intro i hi _
  have hw := wrap_succ (i := i) (by omega)
  have hp := wrap_pred (i := i) (by omega)
  have hi' : i - 1 < a.length := by omega
  simp [hi, hw, hp, hi']
  unfold okA
  generalize nth a (0, 0) i = p
  generalize nth a (0, 0) (i - 1) = q
  grind

theorem f44 (call : Oracle) (fuel : Nat) (hf : 1000 < fuel) (b : Bool) (n : Int) (a : List (Int × Int)) (hl : a.length ≤ 1000) : callF call fuel c44 [.v (.int .i64 n), sa b a] = some (.v (.bool (validB n a))) := by
  have e := loop44 call fuel b n a hl fuel hf
  rw [callF_tab call fuel c44 16 _ (by exact Nat.le_of_ble_eq_true rfl) (by exact Nat.le_of_ble_eq_true rfl)]
  simp [c44]
  rw [e _ (by simp)]
  unfold validB
  cases (List.range a.length).any (fun i => !okA n a i) <;> simp <;> grind

theorem f46 (call : Oracle) (fuel : Nat) (s t : Nat) (hs : s < 2 ^ 32) (ht : t < 32) : callF call fuel c46 [.v (.int .u32 (s : Int)), .v (.int .i64 (t : Int))] = some (.v (.bool (s.testBit t))) := by
  rw [callF_tab call fuel c46 5 _ (by exact Nat.le_of_ble_eq_true rfl) (by exact Nat.le_of_ble_eq_true rfl)]
  have h1 := bits_shr .u32 s t (by simpa [IntKind.bits] using Nat.le_of_lt ht)
  have h2 := bits_bit .u32 hs t
  simp [c46, h1, h2]
  cases s.testBit t <;> rfl

theorem loop54 (call : Oracle) (fuel : Nat) (b : Bool) (n : Nat) (hn : n ≤ 24) (a : NA) (hv : ∀ p ∈ a, p.1 < n ∧ p.2 < n) (hl : a.length ≤ 1000) (fu : Nat) (hf : 1000 < fu) (st : St)
    (h0 : drops st h54_0 = L54_0 (.ro (sa b (arcsZ a))) (.own (su n fun _ => 0)) (.ro (sa b (arcsZ a))) (ii a.length) (ii 0)) :
    run.loopN (run call fuel b54_0) fu st = some (.ex 0, X54_0 (.own (su n (nextG a)))) := by
  refine loop_cnt call fuel h54_0 _ a.length (fun i => L54_0 (.ro (sa b (arcsZ a))) (.own (su n (nextG (a.take i)))) (.ro (sa b (arcsZ a))) (ii a.length) (ii i)) (.ex 0, X54_0 (.own (su n (nextG a)))) (by simp) ?_ (by simp) fu st h0 (by omega)
  intro i hi
  have hw := wrap_succ (i := i) (by omega)
  obtain ⟨h1, h2⟩ := hv _ (nth_mem (0, 0) hi)
  have hs : nextG (a.take (i + 1)) = _ := foldl_take addArc _ (0, 0) hi
  have hb : ∀ j, nextG (a.take i) j < 2 ^ 32 := nextG_lt (by omega) fun p hp => hv p (List.mem_of_mem_take hp)
  rw [hs]
  change _ = some (Ex.norm, L54_0 _ (.own (su n (addArc (nextG (a.take i)) (nth a (0, 0) i)))) _ _ _)
  generalize nextG (a.take i) = g at *
  generalize hp : nth a (0, 0) i = p at *
  obtain ⟨f, t⟩ := p
  simp only at h1 h2
  have e1 := zr_nth n g h1
  have e2 := bits_shl1 .u32 (t := t) (Nat.lt_of_lt_of_le h2 (Nat.le_trans hn (by decide)))
  have e3 := bits_or .u32 (hb f) (b := pw t) (pw_lt (m := 32) (by omega))
  simp [hi, hw, hp, h1, h2, e1, e2, e3, addArc]

theorem f54 (call : Oracle) (fuel : Nat) (hf : 1000 < fuel) (b : Bool) (n : Nat) (hn : n ≤ 24) (a : NA) (hv : ∀ p ∈ a, p.1 < n ∧ p.2 < n) (hl : a.length ≤ 1000) :
    callF call fuel c54 [.v (.int .i64 (n : Int)), sa b (arcsZ a)] = some (su n (nextG a)) := by
  have e := loop54 call fuel b n hn a hv hl fuel hf
  have h0 : (List.replicate n (0 : Int)) = zr n fun _ => 0 := row_rep n 0
  have hm : n ≤ most := by unfold most; omega
  rw [callF_tab call fuel c54 13 _ (by exact Nat.le_of_ble_eq_true rfl) (by exact Nat.le_of_ble_eq_true rfl)]
  simp [c54, h0, hm]
  rw [e _ (by simp)]
  simp

/-- What 'has' returns. -/
def Bit46 (call : Oracle) : Prop := ∀ s t : Nat, s < 2 ^ 32 → t < 32 → call 46 [.v (.int .u32 (s : Int)), .v (.int .i64 (t : Int))] = some (.v (.bool (s.testBit t)))

theorem loop45_1 (call : Oracle) (fuel : Nat) (n : Nat) (hn : n ≤ 24) (g : Nat → Nat) (hg : ∀ i, g i < 2 ^ 32) (m : Nat) (hm : m < n) (h46 : Bit46 call) (fu : Nat) (hf : 1000 < fu) (st : St)
    (h0 : drops st h45_1 = L45_1 (ii n) (.own (su n g)) (ii m) (ii n) (ii m) (ii n) (ii 0)) :
    run.loopN (run call fuel b45_1) fu st = some (.ex 2, X45_2 (ii n) (.own (su n (stp g m))) (ii n) (ii m)) := by
  have he : su n (prt g m n) = su n (stp g m) := congrArg (gsl (eI .u32) false) (zr_ext fun j hj => by simp [prt, hj])
  have hz : prt g m 0 = g := by funext j; simp [prt]
  refine loop_cnt call fuel h45_1 _ n (fun i => L45_1 (ii n) (.own (su n (prt g m i))) (ii m) (ii n) (ii m) (ii n) (ii i)) _ (by simp) ?_ (by simp [he]) fu st (by rw [hz]; exact h0) (by omega)
  intro i hi
  have hw := wrap_succ (i := i) (by omega)
  have e1 := zr_nth n (prt g m i) hi
  have e2 := zr_nth n (prt g m i) hm
  have e3 := bits_or .u32 (hg i) (hg m)
  have e4 := h46 (g i) m (hg i) (by omega)
  have hs := prt_succ g m i
  rw [prt_i] at e1
  rw [prt_m] at e2
  rw [hs]
  generalize prt g m i = p at *
  cases hb : (g i).testBit m <;> rw [hb] at e4 <;> simp [hi, hm, hw, e1, e2, e3, e4]

theorem loop45_0 (call : Oracle) (fuel : Nat) (hf : 1000 < fuel) (n : Nat) (hn : n ≤ 24) (g : Nat → Nat) (hg : ∀ i, g i < 2 ^ 32) (h46 : Bit46 call) (st : St)
    (h0 : drops st h45_0 = L45_0 (ii n) (.own (su n g)) (ii n) (ii 0)) :
    run.loopN (run call fuel b45_0) fuel st = some (.ex 0, X45_0 (.own (su n (warr g n)))) := by
  refine loop_cnt call fuel h45_0 _ n (fun i => L45_0 (ii n) (.own (su n (warr g i))) (ii n) (ii i)) _ (by simp) ?_ (by simp) fuel st h0 (by omega)
  intro i hi
  have hw := wrap_succ (i := i) (by omega)
  have e := loop45_1 call fuel n hn (warr g i) (warr_lt hg i) i hi h46 fuel hf
  simp [hi]
  rw [e _ (by simp)]
  simp [hw, warr]

theorem f45 (call : Oracle) (fuel : Nat) (hf : 1000 < fuel) (b : Bool) (n : Nat) (hn : n ≤ 24) (a : NA) (hv : ∀ p ∈ a, p.1 < n ∧ p.2 < n) (h46 : Bit46 call)
    (h54 : call 54 [.v (.int .i64 (n : Int)), sa b (arcsZ a)] = some (su n (nextG a))) :
    callF call fuel c45 [.v (.int .i64 (n : Int)), sa b (arcsZ a)] = some (su n (warr (nextG a) n)) := by
  have e := loop45_0 call fuel hf n hn (nextG a) (nextG_lt (by omega) hv) h46
  rw [callF_tab call fuel c45 17 _ (by exact Nat.le_of_ble_eq_true rfl) (by exact Nat.le_of_ble_eq_true rfl)]
  simp [c45, h54]
  rw [e _ (by simp)]
  simp

theorem loop62 (call : Oracle) (fuel : Nat) (n : Nat) (hn : n ≤ 24) (g : Nat → Nat) (hg : ∀ i, g i < 2 ^ 32) (h46 : Bit46 call) (fu : Nat) (hf : 1000 < fu) (st : St)
    (h0 : drops st h62_0 = L62_0 (.ro (su n g)) (.ro (su n g)) (ii n) (ii 0)) :
    run.loopN (run call fuel b62_0) fu st = some (if (List.range n).any (fun i => (g i).testBit i) = true then (.ret, R62 (bb false)) else (.ex 0, X62_0)) := by
  refine loop_any call fuel h62_0 _ n (fun i => (g i).testBit i) (fun i => L62_0 (.ro (su n g)) (.ro (su n g)) (ii n) (ii i)) _ _ (by simp) (by simp) ?_ (by simp) fu st h0 (by omega)
  intro i hi _
  have hw := wrap_succ (i := i) (by omega)
  have e1 := zr_nth n g hi
  have e4 := h46 (g i) i (hg i) (by omega)
  cases hb : (g i).testBit i <;> rw [hb] at e4 <;> simp [hi, hw, e1, e4]

theorem f62 (call : Oracle) (fuel : Nat) (hf : 1000 < fuel) (n : Nat) (hn : n ≤ 24) (g : Nat → Nat) (hg : ∀ i, g i < 2 ^ 32) (h46 : Bit46 call) :
    callF call fuel c62 [su n g] = some (.v (.bool (!(List.range n).any (fun i => (g i).testBit i)))) := by
  have e := loop62 call fuel n hn g hg h46 fuel hf
  rw [callF_tab call fuel c62 8 _ (by exact Nat.le_of_ble_eq_true rfl) (by exact Nat.le_of_ble_eq_true rfl)]
  simp [c62]
  rw [e _ (by simp)]
  cases (List.range n).any (fun i => (g i).testBit i) <;> simp


/-- What 'reach' returns for valid digraphs. -/
def Reach45 (call : Oracle) : Prop := ∀ (b : Bool) (n : Int) (a : List (Int × Int)), validB n a = true → a.length ≤ 1000 → call 45 [.v (.int .i64 n), sa b a] = some (su n.toNat (rea n a))

theorem f51 (call : Oracle) (fuel : Nat) (b : Bool) (n : Int) (a : List (Int × Int)) (hl : a.length ≤ 1000)
    (h44 : call 44 [.v (.int .i64 n), sa b a] = some (.v (.bool (validB n a)))) (h45 : Reach45 call)
    (h62 : ∀ (k : Nat) (g : Nat → Nat), k ≤ 24 → (∀ i, g i < 2 ^ 32) → call 62 [su k g] = some (.v (.bool (!(List.range k).any (fun i => (g i).testBit i))))) :
    callF call fuel c51 [.v (.int .i64 n), sa b a] = some (.v (.bool (acyB n a))) := by
  rw [callF_tab call fuel c51 5 _ (by exact Nat.le_of_ble_eq_true rfl) (by exact Nat.le_of_ble_eq_true rfl)]
  by_cases hv : validB n a = true
  · have e := h45 b n a hv hl
    obtain ⟨k, hk, hk2, _⟩ := valid_nat hv
    have e2 := h62 n.toNat (rea n a) (by omega) (rea_lt hv)
    rw [hv] at h44
    simp [c51, h44, e, e2, acyB, hv]
  · have hv' : validB n a = false := by simpa using hv
    rw [hv'] at h44
    simp [c51, h44, acyB, hv']


abbrev saE (l : List (Int × Int)) : D := sa (l.length == 0) l
def pL (g : Nat → Nat) (i j : Nat) : Bool := decide (i ≠ j) && (g i).testBit j
theorem app_nz {α : Type} (l : List α) (x : α) : ((l ++ [x]).length == 0) = false := by simp
theorem saE_snoc (l : List (Int × Int)) (x : Int × Int) : saE (l ++ [x]) = sa false (l ++ [x]) := by unfold saE; rw [app_nz]
theorem loop63_1 (call : Oracle) (fuel : Nat) (n : Nat) (hn : n ≤ 24) (g : Nat → Nat) (hg : ∀ i, g i < 2 ^ 32) (h46 : Bit46 call) (i : Nat) (hi : i < n) (fu : Nat) (hf : 1000 < fu) (st : St)
    (h0 : drops st h63_1 = L63_1 (.ro (su n g)) (.own (saE (arcP n (pL g) i))) (ii i) (.sc (.int .u32 (g i : Int))) (.ro (su n g)) (ii n) (ii i) (ii n) (ii 0)) :
    run.loopN (run call fuel b63_1) fu st = some (.ex 2, X63_2 (.ro (su n g)) (.own (saE (arcP n (pL g) (i + 1)))) (.ro (su n g)) (ii n) (ii i)) := by
  have e0 : arcP n (pL g) i ++ rowT (pL g) i 0 = arcP n (pL g) i := by simp [rowT]
  rw [← e0] at h0
  rw [arcP_succ]
  refine loop_cnt call fuel h63_1 _ n (fun j => L63_1 (.ro (su n g)) (.own (saE (arcP n (pL g) i ++ rowT (pL g) i j))) (ii i) (.sc (.int .u32 (g i : Int))) (.ro (su n g)) (ii n) (ii i) (ii n) (ii j)) _ (by simp) ?_ ?_ fu st h0 (by omega)
  · intro j hj
    have hw := wrap_succ (i := j) (by omega)
    have k24 := h46 (g i) j (hg i) (by omega)
    have hlen : (arcP n (pL g) i ++ rowT (pL g) i j).length + 1 ≤ most := by
      have h1 := arcP_len n (pL g) i
      have h2 := rowT_len (pL g) i j
      have h3 : i * n ≤ 24 * 24 := Nat.mul_le_mul (by omega) (by omega)
      rw [List.length_append]
      unfold most
      omega
    rw [rowT_succ]
    by_cases hij : i = j
    · have hp : ¬ pL g i j = true := by simp [pL, hij]
      rw [if_neg hp]
      generalize arcP n (pL g) i ++ rowT (pL g) i j = A at *
      simp [hj, hw, hij]
    · have hij' : ¬ (i : Int) = (j : Int) := by omega
      by_cases hb : (g i).testBit j = true
      · have hp : pL g i j = true := by simp [pL, hij, hb]
        rw [if_pos hp, ← List.append_assoc]
        rw [hb] at k24
        generalize arcP n (pL g) i ++ rowT (pL g) i j = A at *
        rw [saE_snoc]
        simp [hj, hw, hij, hij', k24, hlen]
      · have hb : (g i).testBit j = false := by simpa using hb
        have hp : ¬ pL g i j = true := by simp [pL, hb]
        rw [if_neg hp]
        rw [hb] at k24
        generalize arcP n (pL g) i ++ rowT (pL g) i j = A at *
        simp [hj, hw, hij, hij', k24]
  · generalize arcP n (pL g) i ++ rowT (pL g) i n = A at *
    simp
theorem loop63_0 (call : Oracle) (fuel : Nat) (n : Nat) (hn : n ≤ 24) (g : Nat → Nat) (hg : ∀ i, g i < 2 ^ 32) (h46 : Bit46 call) (hF : 1000 < fuel) (st : St)
    (h0 : drops st h63_0 = L63_0 (.ro (su n g)) (.own (saE [])) (.ro (su n g)) (ii n) (ii 0)) :
    run.loopN (run call fuel b63_0) fuel st = some (.ex 0, X63_0 (.own (saE (arcL n (pL g))))) := by
  refine loop_cnt call fuel h63_0 _ n (fun i => L63_0 (.ro (su n g)) (.own (saE (arcP n (pL g) i))) (.ro (su n g)) (ii n) (ii i)) _ (by simp) ?_ ?_ fuel st (by rw [h0]; rfl) (by omega)
  · intro i hi
    have hw := wrap_succ (i := i) (by omega)
    have hz := zr_nth n g hi
    have L := loop63_1 call fuel n hn g hg h46 i hi fuel hF
    generalize arcP n (pL g) (i + 1) = B at *
    generalize arcP n (pL g) i = A at *
    simp [hi, hw, hz]
    rw [L _ (by simp)]
    simp [hw]
  · unfold arcL
    generalize arcP n (pL g) n = A at *
    simp
theorem f63 (call : Oracle) (fuel : Nat) (hF : 1000 < fuel) (n : Nat) (hn : n ≤ 24) (g : Nat → Nat) (hg : ∀ i, g i < 2 ^ 32) (h46 : Bit46 call) : callF call fuel c63 [su n g] = some (saE (arcL n (pL g))) := by
  have L := loop63_0 call fuel n hn g hg h46 hF
  rw [callF_tab call fuel c63 17 _ (by exact Nat.le_of_ble_eq_true rfl) (by exact Nat.le_of_ble_eq_true rfl)]
  generalize arcL n (pL g) = A at *
  simp [c63]
  rw [L _ (by simp; rfl)]
  simp

/-- What Closure returns. -/
def clD (n : Int) (a : List (Int × Int)) : D := if validB n a = true then .nd .tu [saE (arcL n.toNat (pL (rea n a))), .v (.int .i64 0)] else .nd .tu [sa true [], .v (.int .i64 1)]
def List63 (call : Oracle) : Prop := ∀ (n : Nat) (g : Nat → Nat), n ≤ 24 → (∀ i, g i < 2 ^ 32) → call 63 [su n g] = some (saE (arcL n (pL g)))
theorem f52 (call : Oracle) (fuel : Nat) (b : Bool) (n : Int) (a : List (Int × Int)) (hl : a.length ≤ 1000) (h44 : call 44 [.v (.int .i64 n), sa b a] = some (.v (.bool (validB n a)))) (h45 : Reach45 call) (h63 : List63 call) :
    callF call fuel c52 [.v (.int .i64 n), sa b a] = some (clD n a) := by
  rw [callF_tab call fuel c52 6 _ (by exact Nat.le_of_ble_eq_true rfl) (by exact Nat.le_of_ble_eq_true rfl)]
  unfold clD
  by_cases hv : validB n a = true
  · rw [if_pos hv]
    rw [hv] at h44
    obtain ⟨k, hk, hk2, _⟩ := valid_nat hv
    have k18 := h45 b n a hv hl
    have k17 := h63 n.toNat (rea n a) (by omega) (rea_lt hv)
    generalize arcL n.toNat (pL (rea n a)) = A at *
    generalize zr n.toNat (rea n a) = Z at *
    simp [c52, h44, k18, k17]
  · rw [if_neg hv]
    have hv : validB n a = false := by simpa using hv
    rw [hv] at h44
    simp [c52, h44]
    rfl

end Go.Mx
namespace Go.Mx
set_option linter.unusedVariables false
set_option linter.unusedSimpArgs false
set_option linter.unusedSectionVars false
open Go

section
variable {n : Int} {a : List (Int × Int)} (hv : validB n a = true)
include hv
theorem va_bnd : ∀ i j, (nextG (natA a) i).testBit j = true → i < n.toNat ∧ j < n.toNat := by
  obtain ⟨k, rfl, h1, h2, h3⟩ := valid_nat hv
  intro i j h
  rw [next_bit, List.contains_iff_mem] at h
  rw [Int.toNat_natCast]
  exact ⟨(h3 _ h).1, (h3 _ h).2.1⟩
theorem va_24 : n.toNat ≤ 24 := by
  obtain ⟨k, rfl, h1, _⟩ := valid_nat hv
  simpa using h1
theorem va_cast : ((n.toNat : Nat) : Int) = n := by
  obtain ⟨k, rfl, h1, _⟩ := valid_nat hv
  simp
/-- The closure. -/
abbrev cloL (n : Int) (a : List (Int × Int)) : List (Int × Int) := arcL n.toNat (pL (rea n a))
omit hv in
theorem cl_len (n : Int) (hn : n.toNat ≤ 24) (p : Nat → Nat → Bool) : (arcL n.toNat p).length ≤ 600 := by
  have h1 := arcP_len n.toNat p n.toNat
  have h2 : n.toNat * n.toNat ≤ 24 * 24 := Nat.mul_le_mul hn hn
  unfold arcL
  omega
omit hv in
theorem pL_irr (g : Nat → Nat) (i : Nat) : pL g i i = false := by simp [pL]
theorem cl_valid : validB n (cloL n a) = true := by
  have := arcL_valid (va_24 hv) (p := pL (rea n a)) fun i _ => pL_irr _ i
  rwa [va_cast hv] at this
end

abbrev su6 (n : Nat) (g : Nat → Nat) : D := gsl (eI .u64) false (zr n g)
theorem loop33 (call : Oracle) (fuel : Nat) (n : Nat) (hn : n ≤ 12) (a : NA) (hv : ∀ p ∈ a, p.1 < n ∧ p.2 < n) (hl : a.length ≤ 1000) (b : Bool) (fu : Nat) (hf : 1000 < fu) (st : St)
    (h0 : drops st h33_0 = L33_0 (.own (su6 n fun _ => 0)) (.own (sa b (arcsZ a))) (.ref 7 []) (ii a.length) (ii 0)) :
    run.loopN (run call fuel b33_0) fu st = some (.ex 1, X33_1 (.own (su6 n (nextG a)))) := by
  refine loop_cnt call fuel h33_0 _ a.length (fun i => L33_0 (.own (su6 n (nextG (a.take i)))) (.own (sa b (arcsZ a))) (.ref 7 []) (ii a.length) (ii i)) (.ex 1, X33_1 (.own (su6 n (nextG a)))) (by simp) ?_ (by simp) fu st h0 (by omega)
  intro i hi
  have hw := wrap_succ (i := i) (by omega)
  obtain ⟨h1, h2⟩ := hv _ (nth_mem (0, 0) hi)
  have hs : nextG (a.take (i + 1)) = _ := foldl_take addArc _ (0, 0) hi
  have hb : ∀ j, nextG (a.take i) j < 2 ^ 64 := fun j => Nat.lt_of_lt_of_le (nextG_lt (n := n) (by omega) (fun p hp => hv p (List.mem_of_mem_take hp)) j) (by decide)
  rw [hs]
  change _ = some (Ex.norm, L33_0 (.own (su6 n (addArc (nextG (a.take i)) (nth a (0, 0) i)))) _ _ _ _)
  generalize nextG (a.take i) = g at *
  generalize hp : nth a (0, 0) i = p at *
  obtain ⟨f, t⟩ := p
  simp only at h1 h2
  have e1 := zr_nth n g h1
  have e2 := bits_shl1 .u64 (t := t) (Nat.lt_of_lt_of_le h2 (Nat.le_trans hn (by decide)))
  have e3 := bits_or .u64 (hb f) (b := pw t) (pw_lt (m := 64) (by omega))
  simp [hi, hw, hp, h1, h2, e1, e2, e3, addArc]
/-- The order of a digraph, in bits. -/
def ordG (n : Int) (a : List (Int × Int)) : Nat → Nat := nextG (natA (cloL n a))
def ckE (n : Int) (a : List (Int × Int)) : Int := if validB n a = true then (if 12 < n then 6 else if acyB n a = true then 0 else 11) else 1
def ckD (n : Int) (a : List (Int × Int)) : D := if ckE n a = 0 then .nd .tu [su6 n.toNat (ordG n a), .v (.int .i64 0)] else .nd .tu [gsl (eI .u64) true [], .v (.int .i64 (ckE n a))]
theorem f33 (call : Oracle) (fuel : Nat) (hF : 1000 < fuel) (b : Bool) (n : Int) (a : List (Int × Int)) (h44 : call 44 [.v (.int .i64 n), sa b a] = some (.v (.bool (validB n a)))) (h51 : call 51 [.v (.int .i64 n), sa b a] = some (.v (.bool (acyB n a))))
    (h52 : call 52 [.v (.int .i64 n), sa b a] = some (clD n a)) : callF call fuel c33 [.v (.int .i64 n), sa b a] = some (ckD n a) := by
  rw [callF_tab call fuel c33 35 _ (by exact Nat.le_of_ble_eq_true rfl) (by exact Nat.le_of_ble_eq_true rfl)]
  unfold ckD ckE
  by_cases hv : validB n a = true
  · rw [if_pos hv]
    rw [hv] at h44
    by_cases h12 : 12 < n
    · rw [if_pos h12, if_neg (by decide)]
      simp [c33, h44, h12]
      rfl
    · rw [if_neg h12]
      by_cases hac : acyB n a = true
      · rw [if_pos hac, if_pos rfl]
        rw [hac] at h51
        unfold clD at h52
        rw [if_pos hv] at h52
        have hcv := cl_valid hv
        obtain ⟨k, rfl, hk2, _⟩ := valid_nat hv
        rw [Int.toNat_natCast] at *
        have hk : k ≤ 12 := by omega
        obtain ⟨k', hk', _, hC, hp⟩ := valid_nat hcv
        obtain rfl : k = k' := by omega
        have hlen : (natA (cloL k a)).length ≤ 1000 := by
          have := cl_len (k : Int) (by simpa using hk2) (pL (rea k a))
          unfold natA cloL
          rw [List.length_map]
          omega
        have L := loop33 call fuel k hk (natA (cloL k a)) (fun p hp' => ⟨(hp p hp').1, (hp p hp').2.1⟩) hlen ((cloL k a).length == 0) fuel hF
        rw [← hC] at L
        have hll : (natA (cloL k a)).length = (cloL k a).length := by simp [natA]
        rw [hll] at L
        have h0 : (List.replicate k (0 : Int)) = zr k fun _ => 0 := row_rep k 0
        have hm : k ≤ most := by unfold most; omega
        have h52' : call 52 [.v (.int .i64 (k : Int)), sa b a] = some (.nd .tu [saE (cloL k a), .v (.int .i64 0)]) := h52
        unfold ordG
        generalize nextG (natA (cloL k a)) = gg at *
        clear hC hp hcv h52
        generalize cloL k a = C at *
        simp [c33, h44, h12, h51, h52', h0, hm]
        rw [L _ (by simp)]
        simp
      · rw [if_neg hac, if_neg (by decide)]
        have hac : acyB n a = false := by simpa using hac
        rw [hac] at h51
        simp [c33, h44, h12, h51]
        rfl
  · rw [if_neg hv, if_neg (by decide)]
    have hv : validB n a = false := by simpa using hv
    rw [hv] at h44
    simp [c33, h44]
    rfl
end Go.Mx
namespace Go.Mx
set_option linter.unusedVariables false
set_option linter.unusedSimpArgs false
set_option linter.unusedSectionVars false
open Go

theorem f36 (call : Oracle) (fuel : Nat) (n : Nat) (g : Nat → Nat) (hg : ∀ i, g i < 2 ^ 64) (i k : Nat) (hi : i < n) (hk : k < 64) : callF call fuel c36 [su6 n g, .v (.int .i64 (i : Int)), .v (.int .i64 (k : Int))] = some (.v (.bool ((g i).testBit k))) := by
  rw [callF_tab call fuel c36 7 _ (by exact Nat.le_of_ble_eq_true rfl) (by exact Nat.le_of_ble_eq_true rfl)]
  have hz := zr_nth n g hi
  have h1 := bits_shr .u64 (g i) k (by simpa [IntKind.bits] using Nat.le_of_lt hk)
  have h2 := bits_bit .u64 (hg i) k
  simp [c36, hi, hz, h1, h2]
  cases (g i).testBit k <;> rfl
/-- What Antichain and Width return when antichain returns L. -/
theorem f20 (call : Oracle) (fuel : Nat) (b c : Bool) (n : Int) (a : List (Int × Int)) (L : List Int) (h33 : call 33 [.v (.int .i64 n), sa b a] = some (ckD n a)) (h43 : ckE n a = 0 → call 43 [su6 n.toNat (ordG n a)] = some (gsl (eI .i64) c L)) :
    callF call fuel c20 [.v (.int .i64 n), sa b a] = some (if ckE n a = 0 then .nd .tu [.v (.int .i64 (L.length : Int)), .v (.int .i64 0)] else .nd .tu [.v (.int .i64 0), .v (.int .i64 (ckE n a))]) := by
  rw [callF_tab call fuel c20 9 _ (by exact Nat.le_of_ble_eq_true rfl) (by exact Nat.le_of_ble_eq_true rfl)]
  unfold ckD at h33
  by_cases he : ckE n a = 0
  · rw [if_pos he] at h33
    rw [if_pos he]
    have h43 := h43 he
    generalize zr n.toNat (ordG n a) = Z at *
    simp [c20, h33, h43]
  · rw [if_neg he] at h33
    rw [if_neg he]
    generalize ckE n a = e at *
    simp [c20, h33, he]
theorem f25 (call : Oracle) (fuel : Nat) (b c : Bool) (n : Int) (a : List (Int × Int)) (L : List Int) (h33 : call 33 [.v (.int .i64 n), sa b a] = some (ckD n a)) (h43 : ckE n a = 0 → call 43 [su6 n.toNat (ordG n a)] = some (gsl (eI .i64) c L)) :
    callF call fuel c25 [.v (.int .i64 n), sa b a] = some (if ckE n a = 0 then .nd .tu [gsl (eI .i64) c L, .v (.int .i64 0)] else .nd .tu [gsl (eI .i64) true [], .v (.int .i64 (ckE n a))]) := by
  rw [callF_tab call fuel c25 9 _ (by exact Nat.le_of_ble_eq_true rfl) (by exact Nat.le_of_ble_eq_true rfl)]
  unfold ckD at h33
  by_cases he : ckE n a = 0
  · rw [if_pos he] at h33
    rw [if_pos he]
    have h43 := h43 he
    generalize zr n.toNat (ordG n a) = Z at *
    simp [c25, h33, h43]
  · rw [if_neg he] at h33
    rw [if_neg he]
    generalize ckE n a = e at *
    simp [c25, h33, he]
    rfl
end Go.Mx
namespace Go.Mx
set_option linter.unusedVariables false
set_option linter.unusedSimpArgs false
set_option linter.unusedSectionVars false
open Go

def q1 (x : Nat) : Nat := (srn x 1 &&& 6148914691236517205) + (x &&& 6148914691236517205)
def q2 (x : Nat) : Nat := (srn x 2 &&& 3689348814741910323) + (x &&& 3689348814741910323)
def q3 (x : Nat) : Nat := (srn x 4 + x) &&& 1085102592571150095
def q4 (k x : Nat) : Nat := x + srn x k
def oc (x : Nat) : Nat := q4 32 (q4 16 (q4 8 (q3 (q2 (q1 x))))) &&& 127
theorem srn_le (x k : Nat) : srn x k ≤ x := by
  unfold srn
  rw [Nat.shiftRight_eq_div_pow]
  exact Nat.div_le_self _ _
theorem q1_le (x : Nat) : q1 x ≤ 2 * x := by
  have h1 : srn x 1 &&& 6148914691236517205 ≤ srn x 1 := Nat.and_le_left
  have h2 : x &&& 6148914691236517205 ≤ x := Nat.and_le_left
  have := srn_le x 1
  unfold q1; omega
theorem q2_le (x : Nat) : q2 x ≤ 2 * x := by
  have h1 : srn x 2 &&& 3689348814741910323 ≤ srn x 2 := Nat.and_le_left
  have h2 : x &&& 3689348814741910323 ≤ x := Nat.and_le_left
  have := srn_le x 2
  unfold q2; omega
theorem q3_le (x : Nat) : q3 x ≤ 2 * x := by
  have h1 : (srn x 4 + x) &&& 1085102592571150095 ≤ srn x 4 + x := Nat.and_le_left
  have := srn_le x 4
  unfold q3; omega
theorem q4_le (k x : Nat) : q4 k x ≤ 2 * x := by
  have := srn_le x k
  unfold q4; omega
theorem oc_pop2 : ∀ a, a < 64 → ∀ b, b < 64 → oc (64 * a + b) = ((List.range 12).filter fun i => (64 * a + b).testBit i).length := by decide +kernel
theorem oc_pop (x : Nat) (h : x < 4096) : oc x = ((List.range 12).filter fun i => x.testBit i).length := by
  have := oc_pop2 (x / 64) (by omega) (x % 64) (by omega)
  rwa [Nat.div_add_mod] at this
theorem wrap64 {n : Nat} (h : n < 18446744073709551616) : IntKind.u64.wrap (n : Int) = (n : Int) := by
  simp [IntKind.wrap, IntKind.bits, IntKind.signed]; omega
theorem f56 (call : Oracle) (fuel : Nat) (x : Nat) (hx : x < 4096) : callF call fuel c56 [.v (.int .u64 (x : Int))] = some (.v (.int .i64 ((oc x : Nat) : Int))) := by
  rw [callF_tab call fuel c56 3 _ (by exact Nat.le_of_ble_eq_true rfl) (by exact Nat.le_of_ble_eq_true rfl)]
  have sh : ∀ (y k : Nat), k ≤ 63 → shiftBin .shr .u64 (y : Int) (k : Int) = some (.int .u64 ((srn y k : Nat) : Int)) := fun y k h => bits_shr .u64 y k (by simp [IntKind.bits]; omega)
  have an : ∀ (y m : Nat), y < 2 ^ 64 → m < 2 ^ 64 → intBin .and .u64 (y : Int) (m : Int) = some (.int .u64 ((y &&& m : Nat) : Int)) := fun y m h1 h2 => bits_and (k := .u64) h1 h2
  have l1 := q1_le x
  have l2 := q2_le (q1 x)
  have l3 := q3_le (q2 (q1 x))
  have l4 := q4_le 8 (q3 (q2 (q1 x)))
  have l5 := q4_le 16 (q4 8 (q3 (q2 (q1 x))))
  have l6 := q4_le 32 (q4 16 (q4 8 (q3 (q2 (q1 x)))))
  have a1 : shiftBin .shr .u64 (x : Int) 1 = some (.int .u64 ((srn x 1 : Nat) : Int)) := sh x 1 (by omega)
  have a2 : intBin .and .u64 ((srn x 1 : Nat) : Int) 6148914691236517205 = some (.int .u64 ((srn x 1 &&& 6148914691236517205 : Nat) : Int)) := an _ 6148914691236517205 (by have := srn_le x 1; omega) (by decide)
  have a3 : intBin .and .u64 (x : Int) 6148914691236517205 = some (.int .u64 ((x &&& 6148914691236517205 : Nat) : Int)) := an _ 6148914691236517205 (by omega) (by decide)
  have a4 : IntKind.u64.wrap (((srn x 1 &&& 6148914691236517205 : Nat) : Int) + ((x &&& 6148914691236517205 : Nat) : Int)) = ((q1 x : Nat) : Int) := by
    rw [← Int.natCast_add]; exact wrap64 (by have : q1 x < 18446744073709551616 := by omega
                                             exact this)
  generalize hy1 : q1 x = y1 at *
  have b1 : shiftBin .shr .u64 (y1 : Int) 2 = some (.int .u64 ((srn y1 2 : Nat) : Int)) := sh y1 2 (by omega)
  have b2 : intBin .and .u64 ((srn y1 2 : Nat) : Int) 3689348814741910323 = some (.int .u64 ((srn y1 2 &&& 3689348814741910323 : Nat) : Int)) := an _ 3689348814741910323 (by have := srn_le y1 2; omega) (by decide)
  have b3 : intBin .and .u64 (y1 : Int) 3689348814741910323 = some (.int .u64 ((y1 &&& 3689348814741910323 : Nat) : Int)) := an _ 3689348814741910323 (by omega) (by decide)
  have b4 : IntKind.u64.wrap (((srn y1 2 &&& 3689348814741910323 : Nat) : Int) + ((y1 &&& 3689348814741910323 : Nat) : Int)) = ((q2 y1 : Nat) : Int) := by
    rw [← Int.natCast_add]; exact wrap64 (by have : q2 y1 < 18446744073709551616 := by omega
                                             exact this)
  generalize hy2 : q2 y1 = y2 at *
  have c1 : shiftBin .shr .u64 (y2 : Int) 4 = some (.int .u64 ((srn y2 4 : Nat) : Int)) := sh y2 4 (by omega)
  have c2 : IntKind.u64.wrap (((srn y2 4 : Nat) : Int) + (y2 : Int)) = ((srn y2 4 + y2 : Nat) : Int) := by
    rw [← Int.natCast_add]; exact wrap64 (by have := srn_le y2 4; omega)
  have c3 : intBin .and .u64 (((srn y2 4 : Nat) : Int) + (y2 : Int)) 1085102592571150095 = some (.int .u64 ((q3 y2 : Nat) : Int)) := by
    rw [← Int.natCast_add]
    exact an _ 1085102592571150095 (by have := srn_le y2 4; omega) (by decide)
  generalize hy3 : q3 y2 = y3 at *
  have d (k y : Nat) (hk : k ≤ 63) (hy : 2 * y < 18446744073709551616) : IntKind.u64.wrap ((y : Int) + ((srn y k : Nat) : Int)) = ((q4 k y : Nat) : Int) := by
    rw [← Int.natCast_add]; exact wrap64 (by have := srn_le y k; omega)
  have d1 : shiftBin .shr .u64 (y3 : Int) 8 = some (.int .u64 ((srn y3 8 : Nat) : Int)) := sh y3 8 (by omega)
  have d2 := d 8 y3 (by omega) (by omega)
  generalize hy4 : q4 8 y3 = y4 at *
  have e1 : shiftBin .shr .u64 (y4 : Int) 16 = some (.int .u64 ((srn y4 16 : Nat) : Int)) := sh y4 16 (by omega)
  have e2 := d 16 y4 (by omega) (by omega)
  generalize hy5 : q4 16 y4 = y5 at *
  have f1 : shiftBin .shr .u64 (y5 : Int) 32 = some (.int .u64 ((srn y5 32 : Nat) : Int)) := sh y5 32 (by omega)
  have f2 := d 32 y5 (by omega) (by omega)
  have ho : oc x = q4 32 y5 &&& 127 := by unfold oc; rw [hy1, hy2, hy3, hy4, hy5]
  generalize hy6 : q4 32 y5 = y6 at *
  have g1 : IntKind.i64.wrap (y6 : Int) = (y6 : Int) := wrap_eq (by unfold I64; omega)
  have g2 : intBin .and .i64 (y6 : Int) 127 = some (.int .i64 ((y6 &&& 127 : Nat) : Int)) := bits_and (k := .i64) (a := y6) (b := 127) (show y6 < 2 ^ 63 by omega) (by decide)
  rw [ho]
  simp [c56, a1, a2, a3, a4, b1, b2, b3, b4, c1, c2, c3, d1, d2, e1, e2, f1, f2, g1, g2]
theorem f38 (call : Oracle) (fuel : Nat) (x c : Nat) (h56 : call 56 [.v (.int .u64 (x : Int))] = some (.v (.int .i64 (c : Int)))) : callF call fuel c38 [.v (.int .u64 (x : Int))] = some (.v (.int .i64 (c : Int))) := by
  rw [callF_tab call fuel c38 3 _ (by exact Nat.le_of_ble_eq_true rfl) (by exact Nat.le_of_ble_eq_true rfl)]
  simp [c38, h56]
end Go.Mx
namespace Go.Mx
set_option linter.unusedVariables false
set_option linter.unusedSimpArgs false
set_option linter.unusedSectionVars false
open Go

def zl (l : List Nat) : List Int := l.map fun (v : Nat) => (v : Int)
@[simp] theorem zl_len (l : List Nat) : (zl l).length = l.length := by simp [zl]
theorem zl_nth (l : List Nat) (i : Nat) : nth (zl l) 0 i = ((nth l 0 i : Nat) : Int) := nth_map (fun (v : Nat) => (v : Int)) l 0 i
/-- Comparable. -/
def cmpB (g : Nat → Nat) (u v : Nat) : Bool := (g u).testBit v || (g v).testBit u
abbrev boO (n : Nat) (g : Nat → Nat) : D := .nd (.bx false) [su6 n g]
abbrev boI (v : Nat) : D := .nd (.bx false) [.v (.int .i64 (v : Int))]
abbrev clo60 (n : Nat) (g : Nat → Nat) (v : Nat) : D := .nd (.fn (.func 60) 0) [boO n g, boI v]
theorem f60 (call : Oracle) (fuel : Nat) (n : Nat) (g : Nat → Nat) (u v : Nat)
    (h1 : call 36 [su6 n g, .v (.int .i64 (u : Int)), .v (.int .i64 (v : Int))] = some (.v (.bool ((g u).testBit v))))
    (h2 : call 36 [su6 n g, .v (.int .i64 (v : Int)), .v (.int .i64 (u : Int))] = some (.v (.bool ((g v).testBit u)))) :
    callF call fuel c60 [.v (.int .i64 (u : Int)), boO n g, boI v] = some (.v (.bool (cmpB g u v))) := by
  rw [callF_tab call fuel c60 5 _ (by exact Nat.le_of_ble_eq_true rfl) (by exact Nat.le_of_ble_eq_true rfl)]
  unfold cmpB
  generalize zr n g = Z at *
  cases hb : (g u).testBit v <;> rw [hb] at h1 <;> simp [c60, h1, h2]
theorem f64 (call : Oracle) (fuel : Nat) (hf : 1000 < fuel) (b : Bool) (n : Nat) (g : Nat → Nat) (S : List Nat) (hl : S.length ≤ 900) (v : Nat)
    (h : ∀ u ∈ S, call 60 [.v (.int .i64 (u : Int)), boO n g, boI v] = some (.v (.bool (cmpB g u v)))) :
    callF call fuel c64 [si b (zl S), clo60 n g v] = some (.v (.int .i64 (((List.range S.length).find? fun i => cmpB g (nth S 0 i) v).elim (-1) fun i => (i : Int)))) := by
  have e : ∀ st : St, drops st h64_0 = L64_0 (.ro (si b (zl S))) (.ro (clo60 n g v)) (ii S.length) (ii 0) → run.loopN (run call fuel b64_0) fuel st = some (((List.range S.length).find? (fun i => cmpB g (nth S 0 i) v)).elim (.ex 0, X64_0) (fun i => (.ret, R64 (ii i)))) := by
    intro st h0
    refine loop_find call fuel h64_0 _ S.length _ (fun i => L64_0 (.ro (si b (zl S))) (.ro (clo60 n g v)) (ii S.length) (ii i)) _ _ (by simp) (by simp) ?_ (by simp) fuel st h0 (by omega)
    intro i hi _
    have hw := wrap_succ (i := i) (by omega)
    have e1 := zl_nth S i
    have e2 := h _ (nth_mem 0 hi)
    generalize nth S 0 i = x at *
    generalize zr n g = Z at *
    have io : 60 < ioB := by decide
    cases hb : cmpB g x v <;> rw [hb] at e2 <;> simp [hi, hw, e1, e2, hb, io]
  rw [callF_tab call fuel c64 9 _ (by exact Nat.le_of_ble_eq_true rfl) (by exact Nat.le_of_ble_eq_true rfl)]
  generalize zr n g = Z at *
  simp [c64]
  rw [e _ (by simp)]
  cases (List.range S.length).find? fun i => cmpB g (nth S 0 i) v <;> simp
theorem f59 (call : Oracle) (fuel : Nat) (b : Bool) (n : Nat) (g : Nat → Nat) (S : List Nat) (v : Nat)
    (h : call 64 [si b (zl S), clo60 n g v] = some (.v (.int .i64 (((List.range S.length).find? fun i => cmpB g (nth S 0 i) v).elim (-1) fun i => (i : Int))))) :
    callF call fuel c59 [si b (zl S), clo60 n g v] = some (.v (.bool (S.any fun u => cmpB g u v))) := by
  have hq : S.any (fun u => cmpB g u v) = ((List.range S.length).find? fun i => cmpB g (nth S 0 i) v).isSome := by
    rw [Bool.eq_iff_iff, List.any_eq_true, List.find?_isSome]
    constructor
    · rintro ⟨u, h1, h2⟩
      obtain ⟨i, h3, rfl⟩ := List.getElem_of_mem h1
      exact ⟨i, List.mem_range.2 h3, by rw [nth_get 0 h3]; exact h2⟩
    · rintro ⟨i, h1, h2⟩
      exact ⟨_, nth_mem 0 (List.mem_range.1 h1), h2⟩
  rw [callF_tab call fuel c59 5 _ (by exact Nat.le_of_ble_eq_true rfl) (by exact Nat.le_of_ble_eq_true rfl), hq]
  generalize zr n g = Z at *
  cases hr : (List.range S.length).find? fun i => cmpB g (nth S 0 i) v with
  | none =>
    rw [hr] at h
    simp only [Option.elim] at h
    simp [c59, h]
  | some i =>
    rw [hr] at h
    simp only [Option.elim] at h
    simp [c59, h]
theorem f58 (call : Oracle) (fuel : Nat) (l : List Int) (hl : l.length ≤ 900) : callF call fuel c58 [si false l] = some (si false l) := by
  have hm : l.length ≤ most := by unfold most; omega
  rw [callF_tab call fuel c58 3 _ (by exact Nat.le_of_ble_eq_true rfl) (by exact Nat.le_of_ble_eq_true rfl)]
  simp [c58, hm]
end Go.Mx
