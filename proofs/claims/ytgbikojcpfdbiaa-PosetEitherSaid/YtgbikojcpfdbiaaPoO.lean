import Derived.Test.YtgbikojcpfdbiaaPoN
/-
  Cycle: the program's and the reference's functions return the same.
-/
namespace Go.Mx
set_option linter.unusedVariables false
set_option linter.unusedSimpArgs false
set_option linter.unusedSectionVars false
open Go

section
variable (n : Nat) (succ : Nat → Nat)
/-- The number of vertices of the best cycle so far. -/
def szB (o : Option Nat) : Nat := o.elim (n + 1) (fun b => homeG n succ b b)
/-- The best start among the first vertices. -/
def selB : Nat → Option Nat
  | 0 => none
  | v + 1 => if 0 < homeG n succ v v ∧ homeG n succ v v < szB n succ (selB v) then some v else selB v
theorem sel_some (i b : Nat) (h : selB n succ i = some b) : b < i ∧ 0 < homeG n succ b b := by
  induction i with
  | zero => simp [selB] at h
  | succ i ih =>
    simp only [selB] at h
    split at h
    · rename_i hc
      cases h
      exact ⟨by omega, hc.1⟩
    · have := ih h; exact ⟨by omega, this.2⟩
end

/-- What Cycle returns. -/
def cycD (n : Int) (a : List (Int × Int)) : D :=
  if validB n a then
    match selB n.toNat (nextG (natA a)) n.toNat with
    | some b => .nd .tu [so (row (homeG n.toNat (nextG (natA a)) b b) (atC n.toNat (nextG (natA a)) b (homeG n.toNat (nextG (natA a)) b b))), .v (.int .i64 0)]
    | none => .nd .tu [si true [], .v (.int .i64 7)]
  else .nd .tu [si true [], .v (.int .i64 1)]

theorem loop25_0 (call : Oracle) (fuel : Nat) (n : Nat) (hn : n ≤ 24) (g : Nat → Nat) (h36 : ∀ v, v < n → call 36 [su n g, .v (.int .i64 (v : Int))] = some (lz n (homeG n g v))) (hf : 1000 < fuel) (st : St)
    (h0 : drops st h25_0 = L25_0 (ii n) (.own (su n g)) (ii (-1)) (ii ((n + 1 : Nat) : Int)) (ii n) (ii 0)) :
    run.loopN (run call fuel b25_0) fuel st = some (.ex 0, X25_0 (ii n) (.own (su n g)) (ii (optZ (selB n g n))) (ii (szB n g (selB n g n) : Nat))) := by
  refine loop_cnt call fuel h25_0 _ n (fun i => L25_0 (ii n) (.own (su n g)) (ii (optZ (selB n g i))) (ii (szB n g (selB n g i) : Nat)) (ii n) (ii i)) _ (by simp) ?_ (by simp) fuel st h0 (by omega)
  intro i hi
  have hw := wrap_succ (i := i) (by omega)
  have e := h36 i hi
  have e1 := zr_nth n (homeG n g i) hi
  have hs : selB n g (i + 1) = if 0 < homeG n g i i ∧ homeG n g i i < szB n g (selB n g i) then some i else selB n g i := rfl
  rw [hs]
  generalize selB n g i = o
  have hsz : szB n g (some i) = homeG n g i i := rfl
  generalize homeG n g i i = d at *
  have hd : (d : Int) < (szB n g o : Int) ↔ d < szB n g o := by omega
  by_cases c1 : 0 < d
  · by_cases c2 : d < szB n g o
    · rw [if_pos ⟨c1, c2⟩, hsz]
      simp [hi, hw, e, e1, c1, c2, optZ]
    · rw [if_neg (by omega)]
      simp [hi, hw, e, e1, c1, c2]
  · rw [if_neg (by omega)]
    simp [hi, hw, e, e1, c1]

theorem loop25_2 (call : Oracle) (fuel : Nat) (n : Nat) (hn : n ≤ 24) (g : Nat → Nat) (hg : ∀ i, g i < 2 ^ 32) (h28 : Bit28 call) (b size : Nat) (hb : b < n) (o : List Nat) (ho : o.length < size) (hsz : size ≤ 100) (at' : Nat) (hat : at' < n) (fu : Nat) (hf : 1000 < fu) (st : St)
    (h0 : drops st h25_2 = L25_2 (ii n) (.own (su n g)) (ii b) (ii size) (.own (lz n (homeG n g b))) (.own (so o)) (ii at') (ii ((b + 1 : Nat) : Int))) :
    run.loopN (run call fuel b25_2) fu st = some (.ex 4, X25_4 (ii n) (.own (su n g)) (ii b) (ii size) (.own (lz n (homeG n g b))) (.own (so ((nextC n g b at' (size - o.length)).elim o (fun u => o ++ [u]))))) := by
  have key : run.loopN (run call fuel b25_2) fu st = some (((List.range (n - (b + 1))).find? (fun j => (g at').testBit (b + 1 + j) && homeG n g b (b + 1 + j) == size - o.length)).elim (.ex 4, X25_4 (ii n) (.own (su n g)) (ii b) (ii size) (.own (lz n (homeG n g b))) (.own (so o))) (fun j => (.ex 4, X25_4 (ii n) (.own (su n g)) (ii b) (ii size) (.own (lz n (homeG n g b))) (.own (so (o ++ [b + 1 + j])))))) := by
    refine loop_find call fuel h25_2 _ (n - (b + 1)) _ (fun j => L25_2 (ii n) (.own (su n g)) (ii b) (ii size) (.own (lz n (homeG n g b))) (.own (so o)) (ii at') (ii ((b + 1 + j : Nat) : Int))) _ _ (by simp) (by simp) ?_ ?_ fu st h0 (by omega)
    · intro j hj _
      obtain ⟨u, hu⟩ : ∃ u, u = b + 1 + j := ⟨_, rfl⟩
      have hun : u < n := by omega
      have hw := wrap_succ (i := u) (by omega)
      have hw' : IntKind.i64.wrap ((size : Int) - (o.length : Int)) = ((size - o.length : Nat) : Int) := by rw [wrap_eq (by unfold I64; omega)]; omega
      have e1 := zr_nth n g hat
      have e2 := h28 (g at') u (hg at') (by omega)
      have e3 := zr_nth n (homeG n g b) hun
      have hm : o.length + 1 ≤ most := by unfold most; omega
      rw [← Nat.add_assoc (b + 1), ← hu]
      generalize homeG n g b u = d at *
      generalize size - o.length = l at *
      have hdl : (d : Int) = (l : Int) ↔ d = l := by omega
      cases c1 : (g at').testBit u <;> rw [c1] at e2
      · simp [hun, hat, hw, e1, e2]
      · by_cases c2 : d = l
        · simp [hun, hat, hw, hw', e1, e2, e3, c2, hm, so_snoc]
        · simp [hun, hat, hw, hw', e1, e2, e3, c2, hdl, hm]
    · intro _
      have : b + 1 + (n - (b + 1)) = n := by omega
      rw [this]
      simp
  rw [key]
  unfold nextC
  cases (List.range (n - (b + 1))).find? (fun j => (g at').testBit (b + 1 + j) && homeG n g b (b + 1 + j) == size - o.length) <;> rfl

theorem loop25_1 (call : Oracle) (fuel : Nat) (n : Nat) (hn : n ≤ 24) (g : Nat → Nat) (hg : ∀ i, g i < 2 ^ 32) (h28 : Bit28 call) (b : Nat) (hb : b < n) (size : Nat) (hs : homeG n g b b = size) (hp : 0 < size) (hf : 1000 < fuel) (st : St)
    (h0 : drops st h25_1 = L25_1 (ii n) (.own (su n g)) (ii b) (ii size) (.own (lz n (homeG n g b))) (.own (so [b]))) :
    run.loopN (run call fuel b25_1) fuel st = some (.ex 2, X25_2 (.own (so (row size (atC n g b size))))) := by
  have hle := home_le n g b hb b
  have e1 : row 1 (atC n g b size) = [b] := rfl
  have hsz : size - 1 + 1 = size := by omega
  refine loop_cnt call fuel h25_1 _ (size - 1) (fun j => L25_1 (ii n) (.own (su n g)) (ii b) (ii size) (.own (lz n (homeG n g b))) (.own (so (row (j + 1) (atC n g b size))))) _ (by simp) ?_ (by rw [hsz]; simp) fuel st (by rw [← e1] at h0; exact h0) (by omega)
  intro j hj
  obtain ⟨h1, h2, h3, h4, h5⟩ := atC_ok n g b hb hs hp j (by omega)
  obtain ⟨h6, h7⟩ := h5 (by omega)
  have hlt : ((j : Int) + 1 < (size : Int)) := by omega
  have hw1 : natOf (IntKind.i64.wrap (((j : Int) + 1) - 1)) = some j := by
    rw [show ((j : Int) + 1) - 1 = (j : Int) by omega, wrap_eq (by unfold I64; omega)]; simp
  have hw2 := wrap_succ (i := b) (by omega)
  have hlast : nth (zl (row (j + 1) (atC n g b size))) 0 j = ((atC n g b size j : Nat) : Int) := by
    have := nth_map (fun (v : Nat) => (v : Int)) (row (j + 1) (atC n g b size)) 0 j
    rw [nth_row _ _ _ (by omega)] at this
    exact this
  have e := loop25_2 call fuel n hn g hg h28 b size hb (row (j + 1) (atC n g b size)) (by rw [row_len]; omega) (by omega) (atC n g b size j) h2 fuel hf
  rw [row_len, h6] at e
  rw [row_succ (j + 1)]
  have hw3 : natOf (IntKind.i64.wrap (j : Int)) = some j := by rw [wrap_eq (by unfold I64; omega)]; simp
  simp [hlt, hw1, hw3, hlast, hw2]
  rw [e _ (by simp)]
  simp

theorem f25 (call : Oracle) (fuel : Nat) (hf : 1000 < fuel) (b : Bool) (n : Int) (a : List (Int × Int)) (hl : a.length ≤ 1000) (h28 : Bit28 call)
    (h20 : call 20 [.v (.int .i64 n), sa b a] = some (.v (.bool (validB n a))))
    (h29 : validB n a = true → call 29 [.v (.int .i64 n), sa b a] = some (su n.toNat (nextG (natA a))))
    (h36 : ∀ (k : Nat) (g : Nat → Nat), k ≤ 24 → (∀ i, g i < 2 ^ 32) → ∀ v, v < k → call 36 [su k g, .v (.int .i64 (v : Int))] = some (lz k (homeG k g v))) :
    callF call fuel c25 [.v (.int .i64 n), sa b a] = some (cycD n a) := by
  rw [callF_tab call fuel c25 26 _ (by exact Nat.le_of_ble_eq_true rfl) (by exact Nat.le_of_ble_eq_true rfl)]
  by_cases hv : validB n a = true
  · obtain ⟨k, rfl, hk, ha, hp⟩ := valid_nat hv
    have hp' : ∀ p ∈ natA a, p.1 < k ∧ p.2 < k := fun p h => ⟨(hp p h).1, (hp p h).2.1⟩
    have h2 := h29 hv
    rw [hv] at h20
    have hg := nextG_lt (n := k) (by omega) hp'
    simp only [Int.toNat_natCast] at h2
    unfold cycD
    rw [if_pos hv]
    simp only [Int.toNat_natCast]
    generalize nextG (natA a) = g at *
    have e0 := loop25_0 call fuel k hk g (h36 k g hk hg) hf
    have hw := wrap_succ (i := k) (by omega)
    simp [c25, h20, h2, hw]
    rw [e0 _ (by simp)]
    cases ho : selB k g k with
    | none =>
      simp [optZ]
      rfl
    | some v =>
      obtain ⟨hvk, hpos⟩ := sel_some k g k v ho
      have e1 := loop25_1 call fuel k hk g hg h28 v hvk _ rfl hpos hf
      have e2 := h36 k g hk hg v hvk
      simp [optZ, e2, szB]
      rw [e1 _ (by simp; rfl)]
      simp
  · have hv' : validB n a = false := by simpa using hv
    rw [hv'] at h20
    unfold cycD
    rw [if_neg hv]
    simp [c25, h20]
    rfl

/-! ### the reference -/
def satL (F : Nat → Int) (v : Nat) (p : Nat × Nat) : Prop := p.1 = v ∧ v < p.2 ∧ 0 < F p.2
instance (F : Nat → Int) (v : Nat) (p : Nat × Nat) : Decidable (satL F v p) := by unfold satL; exact inferInstance
def stL (F : Nat → Int) (v : Nat) (l : Int) (p : Nat × Nat) : Int := if satL F v p ∧ (l < 0 ∨ F p.2 + 1 < l) then F p.2 + 1 else l
def leastL (F : Nat → Int) (v : Nat) (a : NA) : Int := a.foldl (stL F v) (-1)

theorem least_inv (F : Nat → Int) (v : Nat) (a : NA) : (leastL F v a = -1 ∨ ∃ p, p ∈ a ∧ satL F v p ∧ leastL F v a = F p.2 + 1) ∧ ∀ p, p ∈ a → satL F v p → 0 ≤ leastL F v a ∧ leastL F v a ≤ F p.2 + 1 := by
  suffices ∀ (a : NA) (S : NA) (l : Int), ((l = -1 ∨ ∃ p, p ∈ S ∧ satL F v p ∧ l = F p.2 + 1) ∧ ∀ p, p ∈ S → satL F v p → 0 ≤ l ∧ l ≤ F p.2 + 1) → ((a.foldl (stL F v) l = -1 ∨ ∃ p, p ∈ S ++ a ∧ satL F v p ∧ a.foldl (stL F v) l = F p.2 + 1) ∧ ∀ p, p ∈ S ++ a → satL F v p → 0 ≤ a.foldl (stL F v) l ∧ a.foldl (stL F v) l ≤ F p.2 + 1) by
    have := this a [] (-1) ⟨.inl rfl, by simp⟩
    simpa [leastL] using this
  intro a
  induction a with
  | nil => intro S l h; simpa using h
  | cons q a ih =>
    intro S l h
    have := ih (S ++ [q]) (stL F v l q) ?_
    · rw [List.append_assoc] at this; exact this
    · obtain ⟨h1, h2⟩ := h
      unfold stL
      split
      · rename_i hc
        obtain ⟨hq, hlt⟩ := hc
        refine ⟨.inr ⟨q, by simp, hq, rfl⟩, fun p hp hs => ?_⟩
        have hpos := hq.2.2
        rcases List.mem_append.1 hp with hp | hp
        · have := h2 p hp hs; omega
        · simp at hp; subst hp; omega
      · rename_i hc
        refine ⟨?_, fun p hp hs => ?_⟩
        · rcases h1 with h1 | ⟨p, hp, hs, e⟩
          · exact .inl h1
          · exact .inr ⟨p, by simp [hp], hs, e⟩
        · rcases List.mem_append.1 hp with hp | hp
          · exact h2 p hp hs
          · simp at hp
            subst hp
            have : ¬ (l < 0 ∨ F p.2 + 1 < l) := fun h => hc ⟨hs, h⟩
            omega

theorem home_one (n : Nat) (succ : Nat → Nat) (v u : Nat) (h : homeG n succ v u = 1) : (succ u).testBit v = true := by
  have key : ∀ m, (layG n succ v m).1 u = 1 → (succ u).testBit v = true := by
    intro m
    induction m with
    | zero => intro h; simp [layG] at h
    | succ m ih =>
      intro h
      simp only [layG] at h
      split at h
      · rename_i hc
        have hm : m = 0 := by omega
        subst hm
        simp only [Bool.and_eq_true] at hc
        obtain ⟨_, w, h1, h2⟩ := (new_iff succ _ _ u).1 hc.2
        simp only [layG, pw_bit, decide_eq_true_eq] at h2
        subst h2
        exact h1
      · exact ih h
  exact key _ h

theorem least_home {n : Nat} {a : NA} (hv : ∀ p ∈ a, p.1 < n ∧ p.2 < n) (hne : ∀ p ∈ a, p.1 ≠ p.2) (v : Nat) (hvn : v < n) : leastL (farF a v v n) v a = if homeG n (nextG a) v v = 0 then -1 else (homeG n (nextG a) v v : Int) := by
  obtain ⟨h1, h2⟩ := least_inv (farF a v v n) v a
  have sat : ∀ p, p ∈ a → satL (farF a v v n) v p → 0 < homeG n (nextG a) v p.2 ∧ farF a v v n p.2 = (homeG n (nextG a) v p.2 : Int) ∧ 0 < homeG n (nextG a) v v ∧ homeG n (nextG a) v v ≤ homeG n (nextG a) v p.2 + 1 := by
    rintro p hp ⟨g1, g2, g3⟩
    have e := far_home hv v hvn p.2 (by omega)
    rw [e] at g3
    split at g3
    · omega
    · rename_i h0
      rw [if_neg h0] at e
      have hb : (nextG a v).testBit p.2 = true := by rw [next_bit, ← g1]; simpa using hp
      have := home_prev n (nextG a) v v p.2 (Nat.le_refl _) hvn hb (by omega) (by omega)
      exact ⟨by omega, e, this.1, this.2⟩
  by_cases h0 : homeG n (nextG a) v v = 0
  · rw [if_pos h0]
    rcases h1 with h1 | ⟨p, hp, hs, e⟩
    · exact h1
    · have := (sat p hp hs).2.2.1; omega
  · rw [if_neg h0]
    have hn1 : homeG n (nextG a) v v ≠ 1 := by
      intro h
      have := home_one n (nextG a) v v h
      rw [next_bit] at this
      exact hne (v, v) (by simpa using this) rfl
    obtain ⟨w, g1, g2, g3, g4⟩ := home_next n (nextG a) v (homeG n (nextG a) v v - 2) v (by omega)
    rw [next_bit] at g3
    have hp : (v, w) ∈ a := by simpa using g3
    have ew := far_home hv v hvn w (by omega)
    rw [if_neg (by omega)] at ew
    have hs : satL (farF a v v n) v (v, w) := ⟨rfl, g1, by rw [ew]; omega⟩
    have hle := h2 _ hp hs
    simp only at hle
    rw [ew] at hle
    rcases h1 with h1 | ⟨p, hp2, hs2, e⟩
    · omega
    · have := sat p hp2 hs2
      rw [this.2.1] at e
      omega

theorem far_le {n : Nat} {a : NA} (hv : ∀ p ∈ a, p.1 < n ∧ p.2 < n) (v : Nat) (hvn : v < n) (u : Nat) : farF a v v n u ≤ (n : Int) ∧ -1 ≤ farF a v v n u := by
  rw [far_lay hv v hvn]
  have := lay_le n (nextG a) v n u
  split
  · omega
  · split <;> omega

theorem loop26_1 (call : Oracle) (fuel : Nat) (n : Nat) (hn : n ≤ 24) (b : Bool) (a : NA) (hv : ∀ p ∈ a, p.1 < n ∧ p.2 < n) (hl : a.length ≤ 1000) (F : Nat → Int) (hF : ∀ u, F u ≤ 1000 ∧ -1 ≤ F u) (o : List Nat) (v : Nat) (fu : Nat) (hf : 1000 < fu) (st : St)
    (h0 : drops st h26_1 = L26_1 (ii n) (.ro (sa b (arcsZ a))) (.own (so o)) (ii v) (.own (ri n F)) (ii (-1)) (ii 0)) :
    run.loopN (run call fuel b26_1) fu st = some (.ex 2, X26_2 (ii n) (.ro (sa b (arcsZ a))) (.own (so o)) (ii v) (.own (ri n F)) (ii (leastL F v a))) := by
  refine loop_cnt call fuel h26_1 _ a.length (fun i => L26_1 (ii n) (.ro (sa b (arcsZ a))) (.own (so o)) (ii v) (.own (ri n F)) (ii (leastL F v (a.take i))) (ii i)) _ (by simp) ?_ (by simp) fu st h0 (by omega)
  intro i hi
  have hw := wrap_succ (i := i) (by omega)
  obtain ⟨h1, h2⟩ := hv _ (nth_mem (0, 0) hi)
  have hs : leastL F v (a.take (i + 1)) = stL F v (leastL F v (a.take i)) (nth a (0, 0) i) := foldl_take _ _ (0, 0) hi
  rw [hs]
  generalize leastL F v (a.take i) = l
  generalize hp : nth a (0, 0) i = p at *
  obtain ⟨f, t⟩ := p
  simp only at h1 h2
  have e1 := nth_row n F 0 h2
  have hw2 : IntKind.i64.wrap (F t + 1) = F t + 1 := wrap_eq (by have := hF t; unfold I64; omega)
  have hft : (f : Int) = (v : Int) ↔ f = v := by omega
  unfold stL satL
  simp only
  generalize F t = x at *
  by_cases c1 : f = v
  · subst c1
    by_cases c2 : f < t
    · by_cases c3 : 0 < x
      · by_cases c4 : l < 0
        · simp [hi, hw, hp, h1, h2, e1, hw2, c2, c3, c4]
        · by_cases c5 : x + 1 < l
          · simp [hi, hw, hp, h1, h2, e1, hw2, c2, c3, c4, c5]
          · simp [hi, hw, hp, h1, h2, e1, hw2, c2, c3, c4, c5]
      · simp [hi, hw, hp, h1, h2, e1, hw2, c2, c3]
    · simp [hi, hw, hp, h1, h2, e1, hw2, c2]
  · simp [hi, hw, hp, h1, h2, e1, hw2, c1, hft]

end Go.Mx
