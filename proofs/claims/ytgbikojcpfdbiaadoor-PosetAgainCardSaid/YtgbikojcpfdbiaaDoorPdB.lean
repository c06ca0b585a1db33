import Derived.Test.YtgbikojcpfdbiaaDoorPdA
import Derived.Test.YtgbikojcpfdbiaaDoorPdO
/-
  Posets: the functions (from the texts of chapter 6, with the numbers of this program).
-/
namespace Go.Mx
set_option linter.unusedVariables false
set_option linter.unusedSimpArgs false
set_option linter.unusedSectionVars false
open Go

theorem loop26 (call : Oracle) (fuel : Nat) (b : Bool) (n : Int) (a : List (Int × Int)) (hl : a.length ≤ 1000) (fu : Nat) (hf : 1000 < fu) (st : St) (h0 : drops st h26_0 = L26_0 (ii n) (.ro (sa b a)) (ii 0)) :
    run.loopN (run call fuel b26_0) fu st = some (if (List.range a.length).any (fun i => !okA n a i) = true then (.ret, R26 (bb false)) else (.ex 0, X26_0)) := by
  refine loop_any call fuel h26_0 _ a.length (fun i => !okA n a i) (fun i => L26_0 (ii n) (.ro (sa b a)) (ii i)) (.ret, R26 (bb false)) (.ex 0, X26_0) (by simp) (by simp) ?_ (by simp) fu st h0 (by omega)
  intro i hi _
  have hw := wrap_succ (i := i) (by omega)
  have hp := wrap_pred (i := i) (by omega)
  have hi' : i - 1 < a.length := by omega
  simp [hi, hw, hp, hi']
  unfold okA
  generalize nth a (0, 0) i = p
  generalize nth a (0, 0) (i - 1) = q
  grind

theorem f26 (call : Oracle) (fuel : Nat) (hf : 1000 < fuel) (b : Bool) (n : Int) (a : List (Int × Int)) (hl : a.length ≤ 1000) : callF call fuel c26 [.v (.int .i64 n), sa b a] = some (.v (.bool (validB n a))) := by
  have e := loop26 call fuel b n a hl fuel hf
  have hlen := @valid_len n a
  rw [callF_tab call fuel c26 6 _ (by exact Nat.le_of_ble_eq_true rfl) (by exact Nat.le_of_ble_eq_true rfl)]
  by_cases c1 : n < 0
  · have : validB n a = false := by
      simp only [validB, Bool.and_eq_false_iff, decide_eq_false_iff_not]; omega
    simp [c26, c1, this]
  by_cases c2 : 24 < n
  · have : validB n a = false := by
      simp only [validB, Bool.and_eq_false_iff, decide_eq_false_iff_not]; omega
    simp [c26, c1, c2, this]
  have hsq : n * n ≤ 576 := by
    have : n * n ≤ 24 * 24 := Int.mul_le_mul (by omega) (by omega) (by omega) (by omega)
    omega
  have hsq0 : 0 ≤ n * n := Int.mul_nonneg (by omega) (by omega)
  have hw : IntKind.i64.wrap (n * n) = n * n := wrap_eq (by unfold I64; omega)
  by_cases c3 : n * n < (a.length : Int)
  · have : validB n a = false := by
      rw [Bool.eq_false_iff]
      intro hv
      have := hlen hv
      omega
    simp [c26, c1, c2, c3, hw, this]
  · simp [c26, c1, c2, c3, hw]
    rw [e _ (by simp)]
    unfold validB
    have d1 : 0 ≤ n := by omega
    have d2 : n ≤ 24 := by omega
    cases (List.range a.length).any (fun i => !okA n a i) <;> simp [d1, d2]

theorem loop12 (call : Oracle) (fuel : Nat) (b : Bool) (n : Int) (a : List (Int × Int)) (hl : a.length ≤ 1000) (fu : Nat) (hf : 1000 < fu) (st : St) (h0 : drops st h12_0 = L12_0 (ii n) (.ro (sa b a)) (.ro (sa b a)) (ii a.length) (ii 0)) :
    run.loopN (run call fuel b12_0) fu st = some (if (List.range a.length).any (fun i => !okA n a i) = true then (.ret, R12 (bb false)) else (.ex 0, X12_0)) := by
  refine loop_any call fuel h12_0 _ a.length (fun i => !okA n a i) (fun i => L12_0 (ii n) (.ro (sa b a)) (.ro (sa b a)) (ii a.length) (ii i)) (.ret, R12 (bb false)) (.ex 0, X12_0) (by simp) (by simp) ?_ (by simp) fu st h0 (by omega)
  intro i hi _
  have hw := wrap_succ (i := i) (by omega)
  have hp := wrap_pred (i := i) (by omega)
  have hi' : i - 1 < a.length := by omega
  simp [hi, hw, hp, hi']
  unfold okA
  generalize nth a (0, 0) i = p
  generalize nth a (0, 0) (i - 1) = q
  grind

theorem f12 (call : Oracle) (fuel : Nat) (hf : 1000 < fuel) (b : Bool) (n : Int) (a : List (Int × Int)) (hl : a.length ≤ 1000) : callF call fuel c12 [.v (.int .i64 n), sa b a] = some (.v (.bool (validB n a))) := by
  have e := loop12 call fuel b n a hl fuel hf
  rw [callF_tab call fuel c12 16 _ (by exact Nat.le_of_ble_eq_true rfl) (by exact Nat.le_of_ble_eq_true rfl)]
  simp [c12]
  rw [e _ (by simp)]
  unfold validB
  cases (List.range a.length).any (fun i => !okA n a i) <;> simp <;> grind

theorem f21 (call : Oracle) (fuel : Nat) (b : Bool) (n : Int) (a : List (Int × Int)) (h : call 26 [.v (.int .i64 n), sa b a] = some (.v (.bool (validB n a)))) : callF call fuel c21 [.v (.int .i64 n), sa b a] = some (.v (.bool (validB n a))) := by
  rw [callF_tab call fuel c21 5 _ (by exact Nat.le_of_ble_eq_true rfl) (by exact Nat.le_of_ble_eq_true rfl)]
  simp [c21, h]

theorem loop11 (call : Oracle) (fuel : Nat) (b c : Bool) (l m : List (Int × Int)) (hl : l.length ≤ 1000) (hm : m.length = l.length) (fu : Nat) (hf : 1000 < fu) (st : St) (h0 : drops st h11_0 = L11_0 (.ro (sa b l)) (.ro (sa c m)) (ii 0)) :
    run.loopN (run call fuel b11_0) fu st = some (if (List.range l.length).any (fun i => nth l (0, 0) i != nth m (0, 0) i) = true then (.ret, R11 (bb false)) else (.ex 0, X11_0)) := by
  refine loop_any call fuel h11_0 _ l.length (fun i => nth l (0, 0) i != nth m (0, 0) i) (fun i => L11_0 (.ro (sa b l)) (.ro (sa c m)) (ii i)) (.ret, R11 (bb false)) (.ex 0, X11_0) (by simp) (by simp) ?_ (by simp) fu st h0 (by omega)
  intro i hi _
  have hw := wrap_succ (i := i) (by omega)
  simp [hi, hw, hm]
  generalize nth l (0, 0) i = p
  generalize nth m (0, 0) i = q
  obtain ⟨p1, p2⟩ := p
  obtain ⟨q1, q2⟩ := q
  grind

/-- Arcs. -/
theorem f11 (call : Oracle) (fuel : Nat) (hf : 1000 < fuel) (b c : Bool) (l m : List (Int × Int)) (hl : l.length ≤ 1000) : callF call fuel c11 [sa b l, sa c m] = some (.v (.bool (l == m))) := by
  rw [callF_tab call fuel c11 6 _ (by exact Nat.le_of_ble_eq_true rfl) (by exact Nat.le_of_ble_eq_true rfl)]
  by_cases hm : m.length = l.length
  · have e := loop11 call fuel b c l m hl hm fuel hf
    rw [any_ne l m (0, 0) hm.symm] at e
    simp [c11, hm]
    rw [e _ (by simp)]
    cases (l == m) <;> simp
  · have h1 : (l == m) = false := by
      rw [beq_eq_false_iff_ne]; rintro rfl; exact hm rfl
    have h2 : ¬ (l.length : Int) = (m.length : Int) := by omega
    simp [c11, h1, h2]

theorem f6 (call : Oracle) (fuel : Nat) (b : Bool) (a : List (Int × Int)) : callF call fuel c6 [sa b a] = some (.v (.bool (decide (a.length ≤ 150)))) := by
  rw [callF_tab call fuel c6 3 _ (by exact Nat.le_of_ble_eq_true rfl) (by exact Nat.le_of_ble_eq_true rfl)]
  have : ((a.length : Int) ≤ 150) ↔ a.length ≤ 150 := by omega
  simp [c6, this]

theorem f24 (call : Oracle) (fuel : Nat) (s t : Nat) (hs : s < 2 ^ 32) (ht : t < 32) : callF call fuel c24 [.v (.int .u32 (s : Int)), .v (.int .i64 (t : Int))] = some (.v (.bool (s.testBit t))) := by
  rw [callF_tab call fuel c24 5 _ (by exact Nat.le_of_ble_eq_true rfl) (by exact Nat.le_of_ble_eq_true rfl)]
  have h1 := bits_shr .u32 s t (by simpa [IntKind.bits] using Nat.le_of_lt ht)
  have h2 := bits_bit .u32 hs t
  simp [c24, h1, h2]
  cases s.testBit t <;> rfl

theorem loop25 (call : Oracle) (fuel : Nat) (b : Bool) (n : Nat) (hn : n ≤ 24) (a : NA) (hv : ∀ p ∈ a, p.1 < n ∧ p.2 < n) (hl : a.length ≤ 1000) (fu : Nat) (hf : 1000 < fu) (st : St)
    (h0 : drops st h25_0 = L25_0 (.ro (sa b (arcsZ a))) (.own (su n fun _ => 0)) (.ro (sa b (arcsZ a))) (ii a.length) (ii 0)) :
    run.loopN (run call fuel b25_0) fu st = some (.ex 0, X25_0 (.own (su n (nextG a)))) := by
  refine loop_cnt call fuel h25_0 _ a.length (fun i => L25_0 (.ro (sa b (arcsZ a))) (.own (su n (nextG (a.take i)))) (.ro (sa b (arcsZ a))) (ii a.length) (ii i)) (.ex 0, X25_0 (.own (su n (nextG a)))) (by simp) ?_ (by simp) fu st h0 (by omega)
  intro i hi
  have hw := wrap_succ (i := i) (by omega)
  obtain ⟨h1, h2⟩ := hv _ (nth_mem (0, 0) hi)
  have hs : nextG (a.take (i + 1)) = _ := foldl_take addArc _ (0, 0) hi
  have hb : ∀ j, nextG (a.take i) j < 2 ^ 32 := nextG_lt (by omega) fun p hp => hv p (List.mem_of_mem_take hp)
  rw [hs]
  change _ = some (Ex.norm, L25_0 _ (.own (su n (addArc (nextG (a.take i)) (nth a (0, 0) i)))) _ _ _)
  generalize nextG (a.take i) = g at *
  generalize hp : nth a (0, 0) i = p at *
  obtain ⟨f, t⟩ := p
  simp only at h1 h2
  have e1 := zr_nth n g h1
  have e2 := bits_shl1 .u32 (t := t) (Nat.lt_of_lt_of_le h2 (Nat.le_trans hn (by decide)))
  have e3 := bits_or .u32 (hb f) (b := pw t) (pw_lt (m := 32) (by omega))
  simp [hi, hw, hp, h1, h2, e1, e2, e3, addArc]

theorem f25 (call : Oracle) (fuel : Nat) (hf : 1000 < fuel) (b : Bool) (n : Nat) (hn : n ≤ 24) (a : NA) (hv : ∀ p ∈ a, p.1 < n ∧ p.2 < n) (hl : a.length ≤ 1000) :
    callF call fuel c25 [.v (.int .i64 (n : Int)), sa b (arcsZ a)] = some (su n (nextG a)) := by
  have e := loop25 call fuel b n hn a hv hl fuel hf
  have h0 : (List.replicate n (0 : Int)) = zr n fun _ => 0 := row_rep n 0
  have hm : n ≤ most := by unfold most; omega
  rw [callF_tab call fuel c25 13 _ (by exact Nat.le_of_ble_eq_true rfl) (by exact Nat.le_of_ble_eq_true rfl)]
  simp [c25, h0, hm]
  rw [e _ (by simp)]
  simp

/-- What 'has' returns. -/
def Bit24 (call : Oracle) : Prop := ∀ s t : Nat, s < 2 ^ 32 → t < 32 → call 24 [.v (.int .u32 (s : Int)), .v (.int .i64 (t : Int))] = some (.v (.bool (s.testBit t)))

theorem loop18_1 (call : Oracle) (fuel : Nat) (n : Nat) (hn : n ≤ 24) (g : Nat → Nat) (hg : ∀ i, g i < 2 ^ 32) (m : Nat) (hm : m < n) (h24 : Bit24 call) (fu : Nat) (hf : 1000 < fu) (st : St)
    (h0 : drops st h18_1 = L18_1 (ii n) (.own (su n g)) (ii m) (ii n) (ii m) (ii n) (ii 0)) :
    run.loopN (run call fuel b18_1) fu st = some (.ex 2, X18_2 (ii n) (.own (su n (stp g m))) (ii n) (ii m)) := by
  have he : su n (prt g m n) = su n (stp g m) := congrArg (gsl (eI .u32) false) (zr_ext fun j hj => by simp [prt, hj])
  have hz : prt g m 0 = g := by funext j; simp [prt]
  refine loop_cnt call fuel h18_1 _ n (fun i => L18_1 (ii n) (.own (su n (prt g m i))) (ii m) (ii n) (ii m) (ii n) (ii i)) _ (by simp) ?_ (by simp [he]) fu st (by rw [hz]; exact h0) (by omega)
  intro i hi
  have hw := wrap_succ (i := i) (by omega)
  have e1 := zr_nth n (prt g m i) hi
  have e2 := zr_nth n (prt g m i) hm
  have e3 := bits_or .u32 (hg i) (hg m)
  have e4 := h24 (g i) m (hg i) (by omega)
  have hs := prt_succ g m i
  rw [prt_i] at e1
  rw [prt_m] at e2
  rw [hs]
  generalize prt g m i = p at *
  cases hb : (g i).testBit m <;> rw [hb] at e4 <;> simp [hi, hm, hw, e1, e2, e3, e4]

theorem loop18_0 (call : Oracle) (fuel : Nat) (hf : 1000 < fuel) (n : Nat) (hn : n ≤ 24) (g : Nat → Nat) (hg : ∀ i, g i < 2 ^ 32) (h24 : Bit24 call) (st : St)
    (h0 : drops st h18_0 = L18_0 (ii n) (.own (su n g)) (ii n) (ii 0)) :
    run.loopN (run call fuel b18_0) fuel st = some (.ex 0, X18_0 (.own (su n (warr g n)))) := by
  refine loop_cnt call fuel h18_0 _ n (fun i => L18_0 (ii n) (.own (su n (warr g i))) (ii n) (ii i)) _ (by simp) ?_ (by simp) fuel st h0 (by omega)
  intro i hi
  have hw := wrap_succ (i := i) (by omega)
  have e := loop18_1 call fuel n hn (warr g i) (warr_lt hg i) i hi h24 fuel hf
  simp [hi]
  rw [e _ (by simp)]
  simp [hw, warr]

theorem f18 (call : Oracle) (fuel : Nat) (hf : 1000 < fuel) (b : Bool) (n : Nat) (hn : n ≤ 24) (a : NA) (hv : ∀ p ∈ a, p.1 < n ∧ p.2 < n) (h24 : Bit24 call)
    (h25 : call 25 [.v (.int .i64 (n : Int)), sa b (arcsZ a)] = some (su n (nextG a))) :
    callF call fuel c18 [.v (.int .i64 (n : Int)), sa b (arcsZ a)] = some (su n (warr (nextG a) n)) := by
  have e := loop18_0 call fuel hf n hn (nextG a) (nextG_lt (by omega) hv) h24
  rw [callF_tab call fuel c18 17 _ (by exact Nat.le_of_ble_eq_true rfl) (by exact Nat.le_of_ble_eq_true rfl)]
  simp [c18, h25]
  rw [e _ (by simp)]
  simp

theorem loop19 (call : Oracle) (fuel : Nat) (n : Nat) (hn : n ≤ 24) (g : Nat → Nat) (hg : ∀ i, g i < 2 ^ 32) (h24 : Bit24 call) (fu : Nat) (hf : 1000 < fu) (st : St)
    (h0 : drops st h19_0 = L19_0 (.ro (su n g)) (.ro (su n g)) (ii n) (ii 0)) :
    run.loopN (run call fuel b19_0) fu st = some (if (List.range n).any (fun i => (g i).testBit i) = true then (.ret, R19 (bb false)) else (.ex 0, X19_0)) := by
  refine loop_any call fuel h19_0 _ n (fun i => (g i).testBit i) (fun i => L19_0 (.ro (su n g)) (.ro (su n g)) (ii n) (ii i)) _ _ (by simp) (by simp) ?_ (by simp) fu st h0 (by omega)
  intro i hi _
  have hw := wrap_succ (i := i) (by omega)
  have e1 := zr_nth n g hi
  have e4 := h24 (g i) i (hg i) (by omega)
  cases hb : (g i).testBit i <;> rw [hb] at e4 <;> simp [hi, hw, e1, e4]

theorem f19 (call : Oracle) (fuel : Nat) (hf : 1000 < fuel) (n : Nat) (hn : n ≤ 24) (g : Nat → Nat) (hg : ∀ i, g i < 2 ^ 32) (h24 : Bit24 call) :
    callF call fuel c19 [su n g] = some (.v (.bool (!(List.range n).any (fun i => (g i).testBit i)))) := by
  have e := loop19 call fuel n hn g hg h24 fuel hf
  rw [callF_tab call fuel c19 8 _ (by exact Nat.le_of_ble_eq_true rfl) (by exact Nat.le_of_ble_eq_true rfl)]
  simp [c19]
  rw [e _ (by simp)]
  cases (List.range n).any (fun i => (g i).testBit i) <;> simp


/-- What 'reach' returns for valid digraphs. -/
def Reach18 (call : Oracle) : Prop := ∀ (b : Bool) (n : Int) (a : List (Int × Int)), validB n a = true → a.length ≤ 1000 → call 18 [.v (.int .i64 n), sa b a] = some (su n.toNat (rea n a))

theorem f13 (call : Oracle) (fuel : Nat) (b : Bool) (n : Int) (a : List (Int × Int)) (hl : a.length ≤ 1000)
    (h12 : call 12 [.v (.int .i64 n), sa b a] = some (.v (.bool (validB n a)))) (h18 : Reach18 call)
    (h19 : ∀ (k : Nat) (g : Nat → Nat), k ≤ 24 → (∀ i, g i < 2 ^ 32) → call 19 [su k g] = some (.v (.bool (!(List.range k).any (fun i => (g i).testBit i))))) :
    callF call fuel c13 [.v (.int .i64 n), sa b a] = some (.v (.bool (acyB n a))) := by
  rw [callF_tab call fuel c13 5 _ (by exact Nat.le_of_ble_eq_true rfl) (by exact Nat.le_of_ble_eq_true rfl)]
  by_cases hv : validB n a = true
  · have e := h18 b n a hv hl
    obtain ⟨k, hk, hk2, _⟩ := valid_nat hv
    have e2 := h19 n.toNat (rea n a) (by omega) (rea_lt hv)
    rw [hv] at h12
    simp [c13, h12, e, e2, acyB, hv]
  · have hv' : validB n a = false := by simpa using hv
    rw [hv'] at h12
    simp [c13, h12, acyB, hv']

theorem loop22_3 (call : Oracle) (fuel : Nat) (n : Nat) (hn : n ≤ 24) (g : Nat → Nat) (k i : Nat) (hk : k < n) (hi : i < n) (z : V) (hz : ∃ l, z = .own (gbx eB l)) (fu : Nat) (hf : 1000 < fu) (st : St)
    (h0 : drops st h22_3 = L22_3 (ii n) z (.own (gbx eB (mat 24 (tpr g k i 0)))) (ii k) (ii i) (ii 0)) :
    run.loopN (run call fuel b22_3) fu st = some (.ex 6, X22_6 (ii n) z (.own (gbx eB (mat 24 (tpr g k i n)))) (ii k) (ii i)) := by
  obtain ⟨zl, rfl⟩ := hz
  refine loop_cnt call fuel h22_3 _ n (fun j => L22_3 (ii n) (.own (gbx eB zl)) (.own (gbx eB (mat 24 (tpr g k i j)))) (ii k) (ii i) (ii j)) _ (by simp) ?_ (by simp) fu st h0 (by omega)
  intro j hj
  have hw := wrap_succ (i := j) (by omega)
  have l1 : i * 24 + k < 576 := mat_lt (m := 24) (by omega) (by omega)
  have l2 : k * 24 + j < 576 := mat_lt (m := 24) (by omega) (by omega)
  have l3 : i * 24 + j < 576 := mat_lt (m := 24) (by omega) (by omega)
  have b1 : i < 24 := by omega
  have b2 : j < 24 := by omega
  have b3 : k < 24 := by omega
  have hm := mat_len 24 (tpr g k i j)
  have e1 := mat_nth (m := 24) (tpr g k i j) b1 b3
  have e2 := mat_nth (m := 24) (tpr g k i j) b3 b2
  have e3 := mat_set (m := 24) (tpr g k i j) true b1 b2
  rw [tpr_col] at e1
  rw [tpr_row] at e2
  have hs := tpr_succ g k i j
  rw [hs]
  cases c1 : (g i).testBit k <;> cases c2 : (g k).testBit j <;> rw [c1] at e1 <;> rw [c2] at e2 <;> simp [hj, hw, l1, l2, l3, b1, b2, b3, hm, e1, e2, e3]

theorem loop22_2 (call : Oracle) (fuel : Nat) (n : Nat) (hn : n ≤ 24) (g : Nat → Nat) (hg : Lows n g) (k : Nat) (hk : k < n) (z : V) (hz : ∃ l, z = .own (gbx eB l)) (fu : Nat) (hf : 1000 < fu) (hf2 : 1000 < fuel) (st : St)
    (h0 : drops st h22_2 = L22_2 (ii n) z (.own (gbx eB (mat 24 (tbl35 g)))) (ii k) (ii 0)) :
    run.loopN (run call fuel b22_2) fu st = some (.ex 4, X22_4 (ii n) z (.own (gbx eB (mat 24 (tbl35 (stp g k))))) (ii k)) := by
  have e0 : mat 24 (tbl35 g) = mat 24 (tpr g k 0 0) := mat_ext fun a b _ _ => by simp [tbl35, tpr]
  have e1 : mat 24 (tpr g k n 0) = mat 24 (tbl35 (stp g k)) := mat_ext fun a b _ _ => by
    simp only [tbl35, tpr]
    split
    · rfl
    · rename_i h
      rw [hg.2 a (by omega), (low_stp hg k).2 a (by omega)]
  rw [e0] at h0
  have hz' := hz
  obtain ⟨zl, rfl⟩ := hz
  rw [← e1]
  refine loop_cnt call fuel h22_2 _ n (fun i => L22_2 (ii n) (.own (gbx eB zl)) (.own (gbx eB (mat 24 (tpr g k i 0)))) (ii k) (ii i)) _ (by simp) ?_ (by simp) fu st h0 (by omega)
  intro i hi
  have hw := wrap_succ (i := i) (by omega)
  have e := loop22_3 call fuel n hn g k i hk hi (.own (gbx eB zl)) hz' fuel hf2
  have e2 : mat 24 (tpr g k i n) = mat 24 (tpr g k (i + 1) 0) := mat_ext fun a b _ _ => by
    simp only [tpr]
    split <;> rename_i c1 <;> split <;> rename_i c2
    · rfl
    · omega
    · have : n ≤ b := by omega
      rw [stp_bit, hg.1 _ b this, hg.1 _ b this]; simp
    · rfl
  simp [hi]
  rw [e _ (by simp)]
  simp [hw, e2]

theorem loop22_1 (call : Oracle) (fuel : Nat) (n : Nat) (hn : n ≤ 24) (g : Nat → Nat) (hg : Lows n g) (z : V) (hz : ∃ l, z = .own (gbx eB l)) (hf2 : 1000 < fuel) (st : St)
    (h0 : drops st h22_1 = L22_1 (ii n) z (.own (gbx eB (mat 24 (tbl35 g)))) (ii 0)) :
    run.loopN (run call fuel b22_1) fuel st = some (.ex 2, X22_2 z (.own (gbx eB (mat 24 (tbl35 (warr g n)))))) := by
  have hz' := hz
  obtain ⟨zl, rfl⟩ := hz
  refine loop_cnt call fuel h22_1 _ n (fun i => L22_1 (ii n) (.own (gbx eB zl)) (.own (gbx eB (mat 24 (tbl35 (warr g i))))) (ii i)) _ (by simp) ?_ (by simp) fuel st h0 (by omega)
  intro i hi
  have hw := wrap_succ (i := i) (by omega)
  have e := loop22_2 call fuel n hn (warr g i) (low_warr hg i) i hi (.own (gbx eB zl)) hz' fuel hf2 hf2
  simp [hi]
  rw [e _ (by simp)]
  simp [hw, warr]

theorem loop22_0 (call : Oracle) (fuel : Nat) (b : Bool) (n : Nat) (hn : n ≤ 24) (a : NA) (hv : ∀ p ∈ a, p.1 < n ∧ p.2 < n) (hl : a.length ≤ 1000) (z : V) (hz : ∃ l, z = .own (gbx eB l)) (hf2 : 1000 < fuel) (st : St)
    (h0 : drops st h22_0 = L22_0 (ii n) (.ro (sa b (arcsZ a))) z (.own (gbx eB (mat 24 (tbl35 fun _ => 0)))) (ii 0)) :
    run.loopN (run call fuel b22_0) fuel st = some (.ex 0, X22_0 (ii n) z (.own (gbx eB (mat 24 (tbl35 (nextG a)))))) := by
  obtain ⟨zl, rfl⟩ := hz
  refine loop_cnt call fuel h22_0 _ a.length (fun i => L22_0 (ii n) (.ro (sa b (arcsZ a))) (.own (gbx eB zl)) (.own (gbx eB (mat 24 (tbl35 (nextG (a.take i)))))) (ii i)) _ (by simp) ?_ (by simp) fuel st h0 (by omega)
  intro i hi
  have hw := wrap_succ (i := i) (by omega)
  obtain ⟨h1, h2⟩ := hv _ (nth_mem (0, 0) hi)
  have hs : nextG (a.take (i + 1)) = _ := foldl_take addArc _ (0, 0) hi
  rw [hs]
  change _ = some (Ex.norm, L22_0 _ _ _ (.own (gbx eB (mat 24 (tbl35 (addArc (nextG (a.take i)) (nth a (0, 0) i)))))) _)
  generalize nextG (a.take i) = g at *
  generalize hp : nth a (0, 0) i = p at *
  obtain ⟨f, t⟩ := p
  simp only at h1 h2
  have b1 : f < 24 := by omega
  have b2 : t < 24 := by omega
  have l1 : f * 24 + t < 576 := mat_lt (m := 24) b1 b2
  have hm := mat_len 24 (tbl35 g)
  have e3 := mat_set (m := 24) (tbl35 g) true b1 b2
  rw [tbl35_add]
  simp [hi, hw, hp, b1, b2, l1, hm, e3]

theorem f22 (call : Oracle) (fuel : Nat) (hf : 1000 < fuel) (b : Bool) (n : Nat) (hn : n ≤ 24) (a : NA) (hv : ∀ p ∈ a, p.1 < n ∧ p.2 < n) (hl : a.length ≤ 1000) :
    callF call fuel c22 [.v (.int .i64 (n : Int)), sa b (arcsZ a)] = some (tabD (warr (nextG a) n)) := by
  have e := loop22_0 call fuel b n hn a hv hl (.own (gbx eB (zB 576))) ⟨_, rfl⟩ hf
  have e2 := loop22_1 call fuel n hn (nextG a) (low_next hv) (.own (gbx eB (zB 576))) ⟨_, rfl⟩ hf
  have e0 : zB 576 = mat 24 (tbl35 fun _ => 0) := by
    unfold zB
    rw [row_rep]
    apply row_ext
    intro i _; simp [tbl35]
  have hm := mat_len 24 (tbl35 (warr (nextG a) n))
  have hm0 := mat_len 24 (tbl35 fun _ => 0)
  have ht : (mat 24 (tbl35 (warr (nextG a) n))).take 576 = mat 24 (tbl35 (warr (nextG a) n)) := List.take_of_length_le (by rw [hm]; decide)
  rw [e0] at e e2
  rw [callF_tab call fuel c22 60 _ (by exact Nat.le_of_ble_eq_true rfl) (by exact Nat.le_of_ble_eq_true rfl)]
  simp [c22, e0]
  rw [e _ (by simp)]
  simp
  rw [e2 _ (by simp)]
  simp [hm, hm0, ht, tabD]


theorem f23 (call : Oracle) (fuel : Nat) (hf : 1000 < fuel) (b : Bool) (n : Int) (a : List (Int × Int)) (hl : a.length ≤ 1000)
    (h21 : call 21 [.v (.int .i64 n), sa b a] = some (.v (.bool (validB n a)))) (h22 : validB n a = true → call 22 [.v (.int .i64 n), sa b a] = some (tabD (rea n a))) :
    callF call fuel c23 [.v (.int .i64 n), sa b a] = some (.v (.bool (acyB n a))) := by
  rw [callF_tab call fuel c23 7 _ (by exact Nat.le_of_ble_eq_true rfl) (by exact Nat.le_of_ble_eq_true rfl)]
  by_cases hv : validB n a = true
  · obtain ⟨k, hk, hk2, _⟩ := valid_nat hv
    have e := h22 hv
    rw [hv] at h21
    have hm := mat_len 24 (tbl35 (rea n a))
    have el : ∀ st : St, drops st h23_0 = L23_0 (ii n) (.own (gbx eB (mat 24 (tbl35 (rea n a))))) (ii 0) → run.loopN (run call fuel b23_0) fuel st = some (if (List.range n.toNat).any (fun i => (rea n a i).testBit i) = true then (.ret, R23 (bb false)) else (.ex 0, X23_0)) := by
      intro st h0
      refine loop_any call fuel h23_0 _ n.toNat (fun i => (rea n a i).testBit i) (fun i => L23_0 (ii n) (.own (gbx eB (mat 24 (tbl35 (rea n a))))) (ii i)) _ _ (by simp) (by simp) ?_ (by simp; omega) fuel st h0 (by omega)
      intro i hi _
      have hw := wrap_succ (i := i) (by omega)
      have b1 : i < 24 := by omega
      have l1 : i * 24 + i < 576 := mat_lt (m := 24) b1 b1
      have e1 := mat_nth (m := 24) (tbl35 (rea n a)) b1 b1
      have hn : (i : Int) < n := by omega
      change _ = (rea n a i).testBit i at e1
      cases c : (rea n a i).testBit i <;> rw [c] at e1 <;> simp [hn, hw, b1, l1, hm, e1]
    unfold tabD at e
    simp [c23, h21, e, hm]
    rw [el _ (by simp)]
    simp only [acyB, hv, Bool.true_and]
    cases (List.range n.toNat).any (fun i => (rea n a i).testBit i) <;> simp
  · have hv' : validB n a = false := by simpa using hv
    rw [hv'] at h21
    simp [c23, h21, acyB, hv']

end Go.Mx
