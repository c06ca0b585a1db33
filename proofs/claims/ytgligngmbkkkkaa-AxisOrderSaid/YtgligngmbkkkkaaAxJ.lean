import Derived.Test.YtgligngmbkkkkaaAxI
/-
  The axis: the fullest arc; the law on the shortest arc.
-/
namespace Go.Mx
set_option linter.unusedVariables false
set_option linter.unusedSimpArgs false
set_option linter.unusedSectionVars false
open Go

def denFrom (c : Nat → Nat) : Nat → Nat → Nat → Nat → Nat × Nat
  | _, 0, b, m => (b, m)
  | f, k + 1, b, m => if m < c f then denFrom c (f + 1) k f (c f) else denFrom c (f + 1) k b m

theorem loop23_0 (call : Oracle) (fuel : Nat) (hf : 100 < fuel) (b : Bool) (l : List Int) (k : Int) (c : Nat → Nat) (h34 : ∀ f : Nat, call 34 [sl b l, .v (.int .i64 (f : Nat)), .v (.int .i64 k)] = some (.v (.int .i64 (c f : Nat)))) (st : St)
    (h0 : drops st h23_0 = L23_0 (.ro (sl b l)) (ii k) (ii 0) (ii 0) (ii 0)) :
    run.loopN (run call fuel b23_0) fuel st = some (.ex 0, X23_0 (ii ((denFrom c 0 12 0 0).1 : Nat)) (ii ((denFrom c 0 12 0 0).2 : Nat))) := by
  generalize hT : denFrom c 0 12 0 0 = T
  refine loop_rule (fun m st => ∃ (i b0 m0 : Nat), i ≤ 12 ∧ m = 12 - i ∧ denFrom c i (12 - i) b0 m0 = T ∧ drops st h23_0 = L23_0 (.ro (sl b l)) (ii k) (ii (b0 : Nat)) (ii (m0 : Nat)) (ii (i : Nat)))
    (fun r => r = some (.ex 0, X23_0 (ii (T.1 : Nat)) (ii (T.2 : Nat)))) ?_ 12 fuel st ⟨0, 0, 0, by omega, by omega, hT, by simpa using h0⟩ (by omega)
  rintro m st ⟨i, b0, m0, hi, hm, hq, hst⟩
  have e := h34 i
  unfold sl at e
  by_cases hlt : i < 12
  · left
    have hw := wrap_succ (i := i) (by omega)
    obtain ⟨q, hk⟩ : ∃ q, 12 - i = q + 1 := ⟨11 - i, by omega⟩
    rw [hk, denFrom] at hq
    have h1 : (i : Int) < 12 := by omega
    by_cases hc : m0 < c i
    · rw [if_pos hc] at hq
      refine ⟨_, by rw [b23_0, run_scr, hst]; simp [sl, h1, e, hc, hw]; rfl, m - 1, by omega, i + 1, i, c i, by omega, by omega, ?_, ?_⟩
      · rw [show 12 - (i + 1) = q by omega]; exact hq
      · simp [sl]
    · rw [if_neg hc] at hq
      refine ⟨_, by rw [b23_0, run_scr, hst]; simp [sl, h1, e, hc, hw]; rfl, m - 1, by omega, i + 1, b0, m0, by omega, by omega, ?_, ?_⟩
      · rw [show 12 - (i + 1) = q by omega]; exact hq
      · simp [sl]
  · right
    have : i = 12 := by omega
    subst this
    simp only [Nat.sub_self, denFrom] at hq
    refine ⟨.ex 0, _, by rw [b23_0, run_scr, hst]; simp [sl]; rfl, by simp, ?_⟩
    rw [← hq]
    simp

def denD (l : List Int) (k : Int) (c : Nat → Nat) : D :=
  if checkZ l = 0 then (if 1 ≤ k ∧ k ≤ 12 then tri ((denFrom c 0 12 0 0).1 : Nat) ((denFrom c 0 12 0 0).2 : Nat) 0 else tri 0 0 2) else tri 0 0 (checkZ l)

theorem f23 (call : Oracle) (fuel : Nat) (hf : 100 < fuel) (b : Bool) (l : List Int) (k : Int) (c : Nat → Nat) (h39 : call 39 [sl b l] = some (.v (.int .i64 (checkZ l)))) (h34 : ∀ f : Nat, call 34 [sl b l, .v (.int .i64 (f : Nat)), .v (.int .i64 k)] = some (.v (.int .i64 (c f : Nat)))) :
    callF call fuel c23 [sl b l, .v (.int .i64 k)] = some (denD l k c) := by
  have e := loop23_0 call fuel hf b l k c h34
  by_cases h : checkZ l = 0
  · unfold sl at h39
    rw [h] at h39
    unfold denD
    rw [if_pos h]
    by_cases h1 : k < 1
    · rw [if_neg (by omega)]
      simp [c23, sl, h39, h1, tri]
    · by_cases h2 : 12 < k
      · rw [if_neg (by omega)]
        simp [c23, sl, h39, h1, h2, tri]
      · rw [if_pos (by omega)]
        simp [c23, sl, h39, h1, h2]
        rw [e]
        · simp [tri]
        · simp [sl]
  · have h' : (checkZ l != 0) = true := by simpa using h
    unfold sl at h39
    simp [c23, sl, h39, h', denD, h, tri]

structure DenOK (c : Nat → Nat) (b m : Nat) : Prop where
  lt : b < 12
  le : ∀ j, j < 12 → c j ≤ m
  val : m = 0 ∨ ∃ j, j < 12 ∧ m = c j

theorem den_from (c : Nat → Nat) : ∀ (k f b m : Nat), f + k = 12 → b < 12 → (∀ j, j < f → c j ≤ m) → (m = 0 ∨ ∃ j, j < 12 ∧ m = c j) → DenOK c (denFrom c f k b m).1 (denFrom c f k b m).2
  | 0, f, b, m, hk, hb, hle, hv => ⟨hb, fun j hj => hle j (by omega), hv⟩
  | k + 1, f, b, m, hk, hb, hle, hv => by
    rw [denFrom]
    by_cases hc : m < c f
    · rw [if_pos hc]
      refine den_from c k (f + 1) f (c f) (by omega) (by omega) ?_ (.inr ⟨f, by omega, rfl⟩)
      intro j hj
      rcases Nat.lt_or_ge j f with h1 | h1
      · have := hle j h1; omega
      · have : j = f := by omega
        subst this; omega
    · rw [if_neg hc]
      refine den_from c k (f + 1) b m (by omega) hb ?_ hv
      intro j hj
      rcases Nat.lt_or_ge j f with h1 | h1
      · exact hle j h1
      · have : j = f := by omega
        subst this; omega

theorem den_ok (c : Nat → Nat) : DenOK c (denFrom c 0 12 0 0).1 (denFrom c 0 12 0 0).2 := den_from c 12 0 0 0 (by omega) (by omega) (fun j hj => by omega) (.inl rfl)

theorem findFrom_some {p : Nat → Bool} : ∀ {k s f : Nat}, findFrom p s k = some f → s ≤ f ∧ f < s + k ∧ p f = true
  | 0, s, f, h => by simp [findFrom] at h
  | k + 1, s, f, h => by
    simp only [findFrom] at h
    split at h
    · rename_i hp
      simp only [Option.some.injEq] at h
      subst h
      exact ⟨by omega, by omega, hp⟩
    · obtain ⟨h1, h2, h3⟩ := findFrom_some h
      exact ⟨by omega, by omega, h3⟩

theorem findFrom_none {p : Nat → Bool} : ∀ {k s : Nat}, findFrom p s k = none → ∀ f, s ≤ f → f < s + k → p f = false
  | 0, s, _, f, h1, h2 => by omega
  | k + 1, s, h, f, h1, h2 => by
    simp only [findFrom] at h
    split at h
    · cases h
    · rename_i hp
      rcases Nat.eq_or_lt_of_le h1 with h3 | h3
      · subst h3; simpa using hp
      · exact findFrom_none h f (by omega) (by omega)

theorem arcFrom_some {p : Nat → Nat → Bool} : ∀ {k n f m : Nat}, arcFrom p n k = some (f, m) → n ≤ m ∧ m < n + k ∧ f < 12 ∧ p m f = true ∧ ∀ m', n ≤ m' → m' < m → ∀ f', f' < 12 → p m' f' = false
  | 0, n, f, m, h => by simp [arcFrom] at h
  | k + 1, n, f, m, h => by
    simp only [arcFrom] at h
    cases hf : findFrom (p n) 0 12 with
    | some f0 =>
      simp only [hf, Option.some.injEq, Prod.mk.injEq] at h
      obtain ⟨rfl, rfl⟩ := h
      obtain ⟨h1, h2, h3⟩ := findFrom_some hf
      exact ⟨by omega, by omega, by omega, h3, fun m' h4 h5 => by omega⟩
    | none =>
      simp only [hf] at h
      obtain ⟨h1, h2, h3, h4, h5⟩ := arcFrom_some h
      refine ⟨by omega, by omega, h3, h4, fun m' h6 h7 f' h8 => ?_⟩
      rcases Nat.eq_or_lt_of_le h6 with h9 | h9
      · subst h9; exact findFrom_none hf f' (by omega) (by omega)
      · exact h5 m' (by omega) h7 f' h8

theorem arcFrom_none {p : Nat → Nat → Bool} : ∀ {k n : Nat}, arcFrom p n k = none → ∀ m', n ≤ m' → m' < n + k → ∀ f', f' < 12 → p m' f' = false
  | 0, n, _, m', h1, h2, _, _ => by omega
  | k + 1, n, h, m', h1, h2, f', h8 => by
    simp only [arcFrom] at h
    cases hf : findFrom (p n) 0 12 with
    | some f0 => simp [hf] at h
    | none =>
      simp only [hf] at h
      rcases Nat.eq_or_lt_of_le h1 with h9 | h9
      · subst h9; exact findFrom_none hf f' (by omega) (by omega)
      · exact arcFrom_none h m' (by omega) (by omega) f' h8

theorem fin_small : ∀ x f : Fin 12, turnZ x.val (IntKind.i64.wrap (-(f.val : Int))) < 12 := by decide +kernel

/-- What the arc is: the first hour F, the number of hours K. -/
structure ArcOK (l : List Int) (F K : Nat) : Prop where
  f : F < 12
  k1 : 1 ≤ K
  k2 : K ≤ 12
  all : l.countP (withinP (F : Nat) (K : Nat)) = l.length
  less : ∀ m, 1 ≤ m → m < K → ∀ f, f < 12 → l.countP (withinP (f : Nat) (m : Nat)) ≠ l.length
  zero : K = 12 → F = 0

theorem arc_ok {l : List Int} (hh : ∀ x ∈ l, hourB x = true) (h : filledZ l = 0) : ∃ F K, arcD (filledZ l) (fun n f => decide (l.countP (withinP (f : Nat) (n : Nat)) = l.length)) = tri (F : Nat) (K : Nat) 0 ∧ ArcOK l F K := by
  unfold arcD
  rw [if_pos h]
  cases ha : arcFrom (fun n f => decide (l.countP (withinP (f : Nat) (n : Nat)) = l.length)) 1 11 with
  | some q =>
    obtain ⟨f, n⟩ := q
    obtain ⟨h1, h2, h3, h4, h5⟩ := arcFrom_some ha
    exact ⟨f, n, rfl, h3, h1, by omega, by simpa using h4, fun m hm1 hm2 f' hf' => by simpa using h5 m hm1 hm2 f' hf', fun h => by omega⟩
  | none =>
    refine ⟨0, 12, rfl, by omega, by omega, by omega, ?_, fun m hm1 hm2 f' hf' => by simpa using arcFrom_none ha m hm1 (by omega) f' hf', fun _ => rfl⟩
    rw [List.countP_eq_length]
    intro x hx
    obtain ⟨i, rfl⟩ := hour_fin (hh x hx)
    have := fin_small i ⟨0, by omega⟩
    simpa [withinP] using this

theorem loop7_0 (call : Oracle) (fuel : Nat) (hf : 100 < fuel) (b : Bool) (l : List Int) (hl : l.length ≤ 80) (F K : Int) (a9 : V) (h9 : isOwn a9 = false) (h15 : ∀ a b : Int, b ≠ 0 → call 15 [.v (.int .i64 a), .v (.int .i64 b)] = some (.v (.int .i64 (modZ a b))))
    (hall : ∀ x ∈ l, modZ (IntKind.i64.wrap (x - F)) 12 < K) (n9 : Int) (ha9 : a9 = ii n9) (st : St)
    (h0 : drops st h7_0 = L7_0 (.ro (sl b l)) (ii F) (ii K) a9 (ii 0)) :
    run.loopN (run call fuel b7_0) fuel st = some (.ex 0, X7_0 a9) := by
  subst ha9
  refine loop_rule (fun m st => ∃ i : Nat, i ≤ l.length ∧ m = l.length - i ∧ drops st h7_0 = L7_0 (.ro (sl b l)) (ii F) (ii K) (ii n9) (ii (i : Nat)))
    (fun r => r = some (.ex 0, X7_0 (ii n9))) ?_ l.length fuel st ⟨0, by omega, by omega, by simpa using h0⟩ (by omega)
  rintro m st ⟨i, hi, hm, hst⟩
  by_cases hlt : i < l.length
  · left
    have hw1 := wrap_succ (i := i) (by omega)
    have e := hall l[i] (List.getElem_mem hlt)
    have e' : ¬ (K ≤ modZ (IntKind.i64.wrap (l[i] - F)) 12) := by omega
    refine ⟨_, by rw [b7_0, run_scr, hst]; simp [sl, hlt, h15, e', hw1]; rfl, m - 1, by omega, i + 1, by omega, by omega, ?_⟩
    simp [sl]
  · right
    have : i = l.length := by omega
    subst this
    refine ⟨.ex 0, _, by rw [b7_0, run_scr, hst]; simp [sl]; rfl, by simp, ?_⟩
    simp

theorem checkZ_of_filled {l : List Int} (h : filledZ l = 0) : checkZ l = 0 := by
  unfold filledZ at h
  split at h
  · omega
  · exact h

set_option maxHeartbeats 4000000 in
set_option maxRecDepth 100000 in
theorem f7 (call : Oracle) (fuel : Nat) (hf : 100 < fuel) (b : Bool) (l : List Int) (h12 : call 12 [] = some (.v (.bool true))) (h16 : call 16 [sl b l] = some (.v (.bool (decide (l.length ≤ 80)))))
    (h15 : ∀ a b : Int, b ≠ 0 → call 15 [.v (.int .i64 a), .v (.int .i64 b)] = some (.v (.int .i64 (modZ a b))))
    (h21 : ∀ n lo hi : Int, call 21 [.v (.int .i64 n), .v (.int .i64 lo), .v (.int .i64 hi)] = some (.v (.bool (inB n lo hi))))
    (h17 : l.length ≤ 80 → call 17 [sl b l] = some (arcD (filledZ l) (fun n f => decide (l.countP (withinP (f : Nat) (n : Nat)) = l.length))))
    (h23 : l.length ≤ 80 → ∀ k : Int, call 23 [sl b l, .v (.int .i64 k)] = some (denD l k (fun f => l.countP (withinP (f : Nat) k)))) :
    callF call fuel c7 [sl b l] = some (.v (.bool true)) := by
  by_cases hl : l.length ≤ 80
  · have h17 := h17 hl
    have h23 := h23 hl
    simp only [hl, decide_true] at h16
    by_cases h : filledZ l = 0
    · have hh := hours_of_filled h
      obtain ⟨F, K, ha, ok⟩ := arc_ok hh h
      rw [ha] at h17
      have hlen : l.length ≠ 0 := by
        intro h0
        unfold filledZ at h
        rw [if_pos ⟨by have := checkZ_of_filled (l := l) (by unfold filledZ; exact h); exact this, h0⟩] at h
        omega
      have hc := checkZ_of_filled h
      have den : ∀ k : Nat, 1 ≤ k → k ≤ 12 → ∃ B M : Nat, call 23 [sl b l, .v (.int .i64 (k : Nat))] = some (tri (B : Nat) (M : Nat) 0) ∧ DenOK (fun f => l.countP (withinP (f : Nat) (k : Nat))) B M := by
        intro k h1 h2
        refine ⟨_, _, ?_, den_ok _⟩
        rw [h23, denD, if_pos hc, if_pos (by omega)]
      obtain ⟨B, M, hd1, dk1⟩ := den K ok.k1 ok.k2
      have hM : M = l.length := by
        have e1 := dk1.le F ok.f
        simp only [ok.all] at e1
        rcases dk1.val with h0 | ⟨j, _, hj⟩
        · omega
        · have : l.countP (withinP (j : Nat) (K : Nat)) ≤ l.length := List.countP_le_length
          omega
      subst hM
      have hall : ∀ x ∈ l, modZ (IntKind.i64.wrap (x - (F : Int))) 12 < (K : Int) := by
        intro x hx
        have := List.countP_eq_length.1 ok.all x hx
        rw [← turn_mod (hh x hx) ok.f]
        simpa [withinP] using this
      have i1 : inB (F : Nat) 0 11 = true := by rw [hour_in]; exact hour_nat ok.f
      have i2 : inB (K : Nat) 1 12 = true := by have := ok.k1; have := ok.k2; simp [inB]; omega
      have fin : ∀ k : Nat, (∃ B' M' : Nat, call 23 [sl b l, .v (.int .i64 (k : Nat))] = some (tri (B' : Nat) (M' : Nat) 0) ∧ B' < 12) → True := fun _ _ => trivial
      have hz : ¬ ((K : Int) = 12) ∨ (F : Int) = 0 := by
        by_cases hk : K = 12
        · right; have := ok.zero hk; omega
        · left; omega
      by_cases hK1 : K = 1
      · subst hK1
        have e := fun st => loop7_0 call fuel hf b l hl (F : Nat) ((1 : Nat) : Int) (ii (B : Nat)) rfl h15 hall (B : Nat) rfl st
        have i3 : inB (B : Nat) 0 11 = true := by rw [hour_in]; exact hour_nat dk1.lt
        have w1 : IntKind.i64.wrap 0 = 0 := by decide
        simp only [Int.natCast_one] at *
        unfold sl tri at *
        simp [c7, h12, h16, h17, h21, i1, i2, hd1, w1]
        rw [e]
        · simp [h21, i3]
        · simp
      · obtain ⟨n, rfl⟩ : ∃ n, K = n + 2 := ⟨K - 2, by have := ok.k1; omega⟩
        obtain ⟨B', M', hd2, dk2⟩ := den (n + 1) (by omega) (by have := ok.k2; omega)
        have hM' : M' ≠ l.length := by
          rcases dk2.val with h0 | ⟨j, hj1, hj⟩
          · omega
          · rw [hj]; exact ok.less (n + 1) (by omega) (by omega) j hj1
        have e := fun st => loop7_0 call fuel hf b l hl (F : Nat) ((n + 2 : Nat) : Int) (ii (B' : Nat)) rfl h15 hall (B' : Nat) rfl st
        have i3 : inB (B' : Nat) 0 11 = true := by rw [hour_in]; exact hour_nat dk2.lt
        have w1 : IntKind.i64.wrap (((n + 2 : Nat) : Int) - 1) = ((n + 1 : Nat) : Int) := by rw [wrap_eq (by unfold I64; have := ok.k2; omega)]; omega
        have w2 : ¬ ((1 : Int) > ((n + 1 : Nat) : Int)) := by omega
        have w3 : ((n + 2 : Nat) : Int) > 1 := by omega
        have w4 : ((M' : Int) == (l.length : Int)) = false := by simpa using (by omega : ¬ ((M' : Int) = (l.length : Int)))
        generalize ((n + 2 : Nat) : Int) = KK at *
        generalize ((n + 1 : Nat) : Int) = K1 at *
        have w2' : ¬ (K1 < 1) := by omega
        have w3' : 1 < KK := w3
        unfold sl tri at *
        rcases hz with hz | hz
        · have hz' : (KK == 12) = false := by simpa using hz
          simp [c7, h12, h16, h17, h21, i1, i2, hd1, w1, w2', w3', hz, hz', hd2, w4]
          rw [e]
          · simp [h21, i3]
          · simp
        · have hF : F = 0 := by omega
          by_cases hz2 : KK = 12
          · have hz' : (KK == 12) = true := by simpa using hz2
            simp [c7, h12, h16, h17, h21, i1, i2, hd1, w1, w2', w3', hz', hd2, w4]
            rw [if_pos hF]
            simp [h21, i1, i2, hd1, w1, w2', w3', hz', hd2, w4]
            rw [e]
            · simp [h21, i3]
            · simp
          · have hz' : (KK == 12) = false := by simpa using hz2
            simp [c7, h12, h16, h17, h21, i1, i2, hd1, w1, w2', w3', hz', hd2, w4]
            rw [e]
            · simp [h21, i3]
            · simp
    · have h' : (filledZ l != 0) = true := by simpa using h
      unfold arcD at h17
      rw [if_neg h] at h17
      unfold sl tri at *
      simp [c7, h12, h16, h17, h']
  · simp only [hl, decide_false] at h16
    unfold sl at *
    simp [c7, h12, h16]

end Go.Mx
