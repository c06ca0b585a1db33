import Derived.Test.YtgbikojcpfdbiaaPoC
/-
  Table and the functions on it; Acyclic, Reaches.
-/
namespace Go.Mx
set_option linter.unusedVariables false
set_option linter.unusedSimpArgs false
set_option linter.unusedSectionVars false
open Go

def natA (a : List (Int × Int)) : NA := a.map fun p => (p.1.toNat, p.2.toNat)

theorem valid_nat {n : Int} {a : List (Int × Int)} (h : validB n a = true) : ∃ k : Nat, n = (k : Int) ∧ k ≤ 24 ∧ a = arcsZ (natA a) ∧ (∀ p ∈ natA a, p.1 < k ∧ p.2 < k ∧ p.1 ≠ p.2) := by
  have hall : ∀ p ∈ a, 0 ≤ p.1 ∧ p.1 < n ∧ 0 ≤ p.2 ∧ p.2 < n ∧ p.1 ≠ p.2 := by
    intro p hp
    obtain ⟨i, hi, rfl⟩ := List.mem_iff_getElem.1 hp
    have := valid_all h hi
    simp only [okA, nth_get (0, 0) hi, Bool.and_eq_true, decide_eq_true_eq, Bool.not_eq_true', beq_eq_false_iff_ne] at this
    exact ⟨this.1.1.1.1.1, this.1.1.1.1.2, this.1.1.1.2, this.1.1.2, this.1.2⟩
  have h' := h
  simp only [validB, Bool.and_eq_true, decide_eq_true_eq] at h'
  obtain ⟨⟨h1, h2⟩, _⟩ := h'
  refine ⟨n.toNat, by omega, by omega, ?_, ?_⟩
  · unfold arcsZ natA
    rw [List.map_map]
    conv => lhs; rw [← List.map_id a]
    apply List.map_congr_left
    intro p hp
    obtain ⟨g1, _, g2, _, _⟩ := hall p hp
    simp only [Function.comp, id, arcZ]
    ext <;> simp <;> omega
  · intro p hp
    unfold natA at hp
    obtain ⟨q, hq, rfl⟩ := List.mem_map.1 hp
    obtain ⟨g1, g2, g3, g4, g5⟩ := hall q hq
    simp only
    omega

/-- What is reached, for a valid digraph. -/
def rea (n : Int) (a : List (Int × Int)) : Nat → Nat := warr (nextG (natA a)) n.toNat

/-- What 'reach' returns for valid digraphs. -/
def Reach31 (call : Oracle) : Prop := ∀ (b : Bool) (n : Int) (a : List (Int × Int)), validB n a = true → a.length ≤ 1000 → call 31 [.v (.int .i64 n), sa b a] = some (su n.toNat (rea n a))

theorem rea_lt {n : Int} {a : List (Int × Int)} (h : validB n a = true) (i : Nat) : rea n a i < 2 ^ 32 := by
  obtain ⟨k, rfl, h1, h2, h3⟩ := valid_nat h
  exact warr_lt (nextG_lt (n := k) (by omega) fun p hp => ⟨(h3 p hp).1, (h3 p hp).2.1⟩) _ _

/-- What Reaches says. -/
def reachZ (n : Int) (a : List (Int × Int)) (i j : Int) : Bool :=
  validB n a && decide (0 ≤ i) && decide (i < n) && decide (0 ≤ j) && decide (j < n) && (rea n a i.toNat).testBit j.toNat

theorem f16 (call : Oracle) (fuel : Nat) (b : Bool) (n : Int) (a : List (Int × Int)) (hl : a.length ≤ 1000) (i j : Int)
    (h20 : call 20 [.v (.int .i64 n), sa b a] = some (.v (.bool (validB n a)))) (h28 : Bit28 call) (h31 : Reach31 call) :
    callF call fuel c16 [.v (.int .i64 n), sa b a, .v (.int .i64 i), .v (.int .i64 j)] = some (.v (.bool (reachZ n a i j))) := by
  rw [callF_tab call fuel c16 9 _ (by exact Nat.le_of_ble_eq_true rfl) (by exact Nat.le_of_ble_eq_true rfl)]
  by_cases hv : validB n a = true
  · have e := h31 b n a hv hl
    obtain ⟨k, hk, hk2, _⟩ := valid_nat hv
    rw [hv] at h20
    by_cases hc : (0 ≤ i ∧ i < n) ∧ 0 ≤ j ∧ j < n
    · obtain ⟨⟨c1, c2⟩, c3, c4⟩ := hc
      obtain ⟨u, rfl⟩ := Int.eq_ofNat_of_zero_le c1
      obtain ⟨v, rfl⟩ := Int.eq_ofNat_of_zero_le c3
      have e1 := zr_nth n.toNat (rea n a) (i := u) (by omega)
      have e2 := h28 _ v (rea_lt hv u) (by omega)
      have e3 : u < n.toNat := by omega
      simp [c16, h20, c2, c4, e, e1, e2, e3, reachZ, hv]
    · have hr : reachZ n a i j = false := by
        simp only [reachZ, Bool.and_eq_false_iff, decide_eq_false_iff_not]
        omega
      rw [hr]
      simp [c16, h20]
      grind
  · have hv' : validB n a = false := by simpa using hv
    rw [hv'] at h20
    simp [c16, h20, reachZ, hv']

/-- Is it acyclic? -/
def acyB (n : Int) (a : List (Int × Int)) : Bool := validB n a && !(List.range n.toNat).any (fun i => (rea n a i).testBit i)

theorem f22 (call : Oracle) (fuel : Nat) (b : Bool) (n : Int) (a : List (Int × Int)) (hl : a.length ≤ 1000)
    (h20 : call 20 [.v (.int .i64 n), sa b a] = some (.v (.bool (validB n a)))) (h31 : Reach31 call)
    (h34 : ∀ (k : Nat) (g : Nat → Nat), k ≤ 24 → (∀ i, g i < 2 ^ 32) → call 34 [su k g] = some (.v (.bool (!(List.range k).any (fun i => (g i).testBit i))))) :
    callF call fuel c22 [.v (.int .i64 n), sa b a] = some (.v (.bool (acyB n a))) := by
  rw [callF_tab call fuel c22 5 _ (by exact Nat.le_of_ble_eq_true rfl) (by exact Nat.le_of_ble_eq_true rfl)]
  by_cases hv : validB n a = true
  · have e := h31 b n a hv hl
    obtain ⟨k, hk, hk2, _⟩ := valid_nat hv
    have e2 := h34 n.toNat (rea n a) (by omega) (rea_lt hv)
    rw [hv] at h20
    simp [c22, h20, e, e2, acyB, hv]
  · have hv' : validB n a = false := by simpa using hv
    rw [hv'] at h20
    simp [c22, h20, acyB, hv']

/-! ### the reference's table -/
/-- The table, as far as it is made. -/
def tpr (g : Nat → Nat) (k i j : Nat) : Nat → Nat → Bool := fun a b => if a < i ∨ (a = i ∧ b < j) then (stp g k a).testBit b else (g a).testBit b
def tbl35 (g : Nat → Nat) : Nat → Nat → Bool := fun a b => (g a).testBit b

theorem stp_bit (g : Nat → Nat) (k i j : Nat) : (stp g k i).testBit j = ((g i).testBit j || (g i).testBit k && (g k).testBit j) := by
  unfold stp
  by_cases h : (g i).testBit k = true
  · simp [h, Nat.testBit_or]
  · simp [h]

theorem tpr_col (g : Nat → Nat) (k i j a : Nat) : tpr g k i j a k = (g a).testBit k := by
  unfold tpr
  split
  · rw [stp_bit]; cases (g a).testBit k <;> simp
  · rfl
theorem tpr_row (g : Nat → Nat) (k i j b : Nat) : tpr g k i j k b = (g k).testBit b := by
  unfold tpr
  split
  · rw [stp_bit]; cases (g k).testBit b <;> simp
  · rfl
theorem tpr_succ (g : Nat → Nat) (k i j : Nat) : tpr g k i (j + 1) = if ((g i).testBit k && (g k).testBit j) = true then updM (tpr g k i j) i j true else tpr g k i j := by
  funext a b
  have hs := stp_bit g k i j
  by_cases hab : a = i ∧ b = j
  · obtain ⟨rfl, rfl⟩ := hab
    have h1 : a < a ∨ (a = a ∧ b < b + 1) := by omega
    have h2 : ¬ (a < a ∨ (a = a ∧ b < b)) := by omega
    by_cases hc : ((g a).testBit k && (g k).testBit b) = true
    · rw [if_pos hc]
      simp only [tpr, if_pos h1, updM, hs, hc]
      simp
    · rw [if_neg hc]
      have hc' : ((g a).testBit k && (g k).testBit b) = false := by simpa using hc
      simp only [tpr, hs, hc', Bool.or_false]
      split <;> split <;> rfl
  · have h1 : (a < i ∨ (a = i ∧ b < j + 1)) ↔ (a < i ∨ (a = i ∧ b < j)) := by omega
    split
    · simp only [updM, if_neg hab, tpr, h1]
    · simp only [tpr, h1]

theorem loop35_3 (call : Oracle) (fuel : Nat) (n : Nat) (hn : n ≤ 24) (g : Nat → Nat) (k i : Nat) (hk : k < n) (hi : i < n) (z : V) (hz : ∃ l, z = .own (gbx eB l)) (fu : Nat) (hf : 1000 < fu) (st : St)
    (h0 : drops st h35_3 = L35_3 (ii n) z (.own (gbx eB (mat 24 (tpr g k i 0)))) (ii k) (ii i) (ii 0)) :
    run.loopN (run call fuel b35_3) fu st = some (.ex 6, X35_6 (ii n) z (.own (gbx eB (mat 24 (tpr g k i n)))) (ii k) (ii i)) := by
  obtain ⟨zl, rfl⟩ := hz
  refine loop_cnt call fuel h35_3 _ n (fun j => L35_3 (ii n) (.own (gbx eB zl)) (.own (gbx eB (mat 24 (tpr g k i j)))) (ii k) (ii i) (ii j)) _ (by simp) ?_ (by simp) fu st h0 (by omega)
  intro j hj
  have hw := wrap_succ (i := j) (by omega)
  have l1 : i * 24 + k < 576 := mat_lt (m := 24) (by omega) (by omega)
  have l2 : k * 24 + j < 576 := mat_lt (m := 24) (by omega) (by omega)
  have l3 : i * 24 + j < 576 := mat_lt (m := 24) (by omega) (by omega)
  have b1 : i < 24 := by omega
  have b2 : j < 24 := by omega
  have b3 : k < 24 := by omega
  have hm := mat_len 24 (tpr g k i j)
  have e1 := mat_nth (m := 24) (tpr g k i j) b1 b3
  have e2 := mat_nth (m := 24) (tpr g k i j) b3 b2
  have e3 := mat_set (m := 24) (tpr g k i j) true b1 b2
  rw [tpr_col] at e1
  rw [tpr_row] at e2
  have hs := tpr_succ g k i j
  rw [hs]
  cases c1 : (g i).testBit k <;> cases c2 : (g k).testBit j <;> rw [c1] at e1 <;> rw [c2] at e2 <;> simp [hj, hw, l1, l2, l3, b1, b2, b3, hm, e1, e2, e3]

theorem tpr_ext {g : Nat → Nat} {k i j i' j' : Nat} (h : ∀ a b, a < 24 → b < 24 → tpr g k i j a b = tpr g k i' j' a b) : mat 24 (tpr g k i j) = mat 24 (tpr g k i' j') := mat_ext h

/-- Bits beyond n are not set. -/
def Low (n : Nat) (g : Nat → Nat) : Prop := ∀ i j, n ≤ j → (g i).testBit j = false
def Lows (n : Nat) (g : Nat → Nat) : Prop := Low n g ∧ ∀ i, n ≤ i → g i = 0

theorem low_stp {n : Nat} {g : Nat → Nat} (h : Lows n g) (k : Nat) : Lows n (stp g k) := by
  refine ⟨fun i j hj => ?_, fun i hi => ?_⟩
  · rw [stp_bit, h.1 i j hj, h.1 k j hj]; simp
  · unfold stp; rw [h.2 i hi]; simp

theorem low_warr {n : Nat} {g : Nat → Nat} (h : Lows n g) (k : Nat) : Lows n (warr g k) := by
  induction k with
  | zero => exact h
  | succ k ih => exact low_stp ih k

theorem low_next {n : Nat} {a : NA} (hv : ∀ p ∈ a, p.1 < n ∧ p.2 < n) : Lows n (nextG a) := by
  suffices ∀ (a : NA) (g : Nat → Nat), (∀ p ∈ a, p.1 < n ∧ p.2 < n) → Lows n g → Lows n (a.foldl addArc g) from this a _ hv ⟨fun i j _ => by simp, fun i _ => rfl⟩
  intro a
  induction a with
  | nil => intro g _ h; exact h
  | cons p a ih =>
    intro g hv h
    obtain ⟨h1, h2⟩ := hv p (List.mem_cons_self ..)
    refine ih _ (fun q hq => hv q (List.mem_cons_of_mem _ hq)) ⟨fun i j hj => ?_, fun i hi => ?_⟩
    · unfold addArc updF
      split
      · rw [Nat.testBit_or, h.1 _ j hj, pw_bit]
        simp; omega
      · exact h.1 i j hj
    · unfold addArc updF
      rw [if_neg (by omega)]
      exact h.2 i hi

theorem loop35_2 (call : Oracle) (fuel : Nat) (n : Nat) (hn : n ≤ 24) (g : Nat → Nat) (hg : Lows n g) (k : Nat) (hk : k < n) (z : V) (hz : ∃ l, z = .own (gbx eB l)) (fu : Nat) (hf : 1000 < fu) (hf2 : 1000 < fuel) (st : St)
    (h0 : drops st h35_2 = L35_2 (ii n) z (.own (gbx eB (mat 24 (tbl35 g)))) (ii k) (ii 0)) :
    run.loopN (run call fuel b35_2) fu st = some (.ex 4, X35_4 (ii n) z (.own (gbx eB (mat 24 (tbl35 (stp g k))))) (ii k)) := by
  have e0 : mat 24 (tbl35 g) = mat 24 (tpr g k 0 0) := mat_ext fun a b _ _ => by simp [tbl35, tpr]
  have e1 : mat 24 (tpr g k n 0) = mat 24 (tbl35 (stp g k)) := mat_ext fun a b _ _ => by
    simp only [tbl35, tpr]
    split
    · rfl
    · rename_i h
      rw [hg.2 a (by omega), (low_stp hg k).2 a (by omega)]
  rw [e0] at h0
  have hz' := hz
  obtain ⟨zl, rfl⟩ := hz
  rw [← e1]
  refine loop_cnt call fuel h35_2 _ n (fun i => L35_2 (ii n) (.own (gbx eB zl)) (.own (gbx eB (mat 24 (tpr g k i 0)))) (ii k) (ii i)) _ (by simp) ?_ (by simp) fu st h0 (by omega)
  intro i hi
  have hw := wrap_succ (i := i) (by omega)
  have e := loop35_3 call fuel n hn g k i hk hi (.own (gbx eB zl)) hz' fuel hf2
  have e2 : mat 24 (tpr g k i n) = mat 24 (tpr g k (i + 1) 0) := mat_ext fun a b _ _ => by
    simp only [tpr]
    split <;> rename_i c1 <;> split <;> rename_i c2
    · rfl
    · omega
    · have : n ≤ b := by omega
      rw [stp_bit, hg.1 _ b this, hg.1 _ b this]; simp
    · rfl
  simp [hi]
  rw [e _ (by simp)]
  simp [hw, e2]

theorem loop35_1 (call : Oracle) (fuel : Nat) (n : Nat) (hn : n ≤ 24) (g : Nat → Nat) (hg : Lows n g) (z : V) (hz : ∃ l, z = .own (gbx eB l)) (hf2 : 1000 < fuel) (st : St)
    (h0 : drops st h35_1 = L35_1 (ii n) z (.own (gbx eB (mat 24 (tbl35 g)))) (ii 0)) :
    run.loopN (run call fuel b35_1) fuel st = some (.ex 2, X35_2 z (.own (gbx eB (mat 24 (tbl35 (warr g n)))))) := by
  have hz' := hz
  obtain ⟨zl, rfl⟩ := hz
  refine loop_cnt call fuel h35_1 _ n (fun i => L35_1 (ii n) (.own (gbx eB zl)) (.own (gbx eB (mat 24 (tbl35 (warr g i))))) (ii i)) _ (by simp) ?_ (by simp) fuel st h0 (by omega)
  intro i hi
  have hw := wrap_succ (i := i) (by omega)
  have e := loop35_2 call fuel n hn (warr g i) (low_warr hg i) i hi (.own (gbx eB zl)) hz' fuel hf2 hf2
  simp [hi]
  rw [e _ (by simp)]
  simp [hw, warr]

theorem tbl35_add (g : Nat → Nat) (f t : Nat) : tbl35 (addArc g (f, t)) = updM (tbl35 g) f t true := by
  funext a b
  simp only [tbl35, addArc, updM, updF]
  by_cases h : a = f
  · subst h
    simp only [if_true, Nat.testBit_or, pw_bit, true_and]
    by_cases h2 : b = t
    · subst h2; simp
    · have : ¬ t = b := fun e => h2 e.symm
      simp [h2, this]
  · simp [h]

theorem loop35_0 (call : Oracle) (fuel : Nat) (b : Bool) (n : Nat) (hn : n ≤ 24) (a : NA) (hv : ∀ p ∈ a, p.1 < n ∧ p.2 < n) (hl : a.length ≤ 1000) (z : V) (hz : ∃ l, z = .own (gbx eB l)) (hf2 : 1000 < fuel) (st : St)
    (h0 : drops st h35_0 = L35_0 (ii n) (.ro (sa b (arcsZ a))) z (.own (gbx eB (mat 24 (tbl35 fun _ => 0)))) (ii 0)) :
    run.loopN (run call fuel b35_0) fuel st = some (.ex 0, X35_0 (ii n) z (.own (gbx eB (mat 24 (tbl35 (nextG a)))))) := by
  obtain ⟨zl, rfl⟩ := hz
  refine loop_cnt call fuel h35_0 _ a.length (fun i => L35_0 (ii n) (.ro (sa b (arcsZ a))) (.own (gbx eB zl)) (.own (gbx eB (mat 24 (tbl35 (nextG (a.take i)))))) (ii i)) _ (by simp) ?_ (by simp) fuel st h0 (by omega)
  intro i hi
  have hw := wrap_succ (i := i) (by omega)
  obtain ⟨h1, h2⟩ := hv _ (nth_mem (0, 0) hi)
  have hs : nextG (a.take (i + 1)) = _ := foldl_take addArc _ (0, 0) hi
  rw [hs]
  change _ = some (Ex.norm, L35_0 _ _ _ (.own (gbx eB (mat 24 (tbl35 (addArc (nextG (a.take i)) (nth a (0, 0) i)))))) _)
  generalize nextG (a.take i) = g at *
  generalize hp : nth a (0, 0) i = p at *
  obtain ⟨f, t⟩ := p
  simp only at h1 h2
  have b1 : f < 24 := by omega
  have b2 : t < 24 := by omega
  have l1 : f * 24 + t < 576 := mat_lt (m := 24) b1 b2
  have hm := mat_len 24 (tbl35 g)
  have e3 := mat_set (m := 24) (tbl35 g) true b1 b2
  rw [tbl35_add]
  simp [hi, hw, hp, b1, b2, l1, hm, e3]

/-- What Table returns. -/
def tabD (g : Nat → Nat) : D := .nd .ag (gk eB (mat 24 (tbl35 g)))

theorem f35 (call : Oracle) (fuel : Nat) (hf : 1000 < fuel) (b : Bool) (n : Nat) (hn : n ≤ 24) (a : NA) (hv : ∀ p ∈ a, p.1 < n ∧ p.2 < n) (hl : a.length ≤ 1000) :
    callF call fuel c35 [.v (.int .i64 (n : Int)), sa b (arcsZ a)] = some (tabD (warr (nextG a) n)) := by
  have e := loop35_0 call fuel b n hn a hv hl (.own (gbx eB (zB 576))) ⟨_, rfl⟩ hf
  have e2 := loop35_1 call fuel n hn (nextG a) (low_next hv) (.own (gbx eB (zB 576))) ⟨_, rfl⟩ hf
  have e0 : zB 576 = mat 24 (tbl35 fun _ => 0) := by
    unfold zB
    rw [row_rep]
    apply row_ext
    intro i _; simp [tbl35]
  have hm := mat_len 24 (tbl35 (warr (nextG a) n))
  have hm0 := mat_len 24 (tbl35 fun _ => 0)
  have ht : (mat 24 (tbl35 (warr (nextG a) n))).take 576 = mat 24 (tbl35 (warr (nextG a) n)) := List.take_of_length_le (by rw [hm]; decide)
  rw [e0] at e e2
  rw [callF_tab call fuel c35 60 _ (by exact Nat.le_of_ble_eq_true rfl) (by exact Nat.le_of_ble_eq_true rfl)]
  simp [c35, e0]
  rw [e _ (by simp)]
  simp
  rw [e2 _ (by simp)]
  simp [hm, hm0, ht, tabD]

end Go.Mx
