import Derived.Test.YtgligngmbkkkkaaAxF
/-
  The axis: the median.
-/
namespace Go.Mx
set_option linter.unusedVariables false
set_option linter.unusedSimpArgs false
set_option linter.unusedSectionVars false
open Go

def sumD (d : Int → Int) (l : List Int) : Int := (l.map d).sum

theorem sumD_succ (d : Int → Int) {l : List Int} {i : Nat} (h : i < l.length) : sumD d (l.take (i + 1)) = sumD d (l.take i) + d l[i] := by
  rw [take_succ (List.getElem?_eq_getElem h)]
  unfold sumD
  rw [List.map_append, List.sum_append]
  simp

theorem sumD_range (d : Int → Int) : ∀ (l : List Int), (∀ x ∈ l, 0 ≤ d x ∧ d x ≤ 6) → 0 ≤ sumD d l ∧ sumD d l ≤ 6 * l.length
  | [], _ => by simp [sumD]
  | x :: xs, h => by
    have h1 := sumD_range d xs fun y hy => h y (by simp [hy])
    have h2 := h x (by simp)
    simp only [sumD, List.map_cons, List.sum_cons, List.length_cons] at *
    omega

theorem sumD_take (d : Int → Int) (l : List Int) (h : ∀ x ∈ l, 0 ≤ d x ∧ d x ≤ 6) (i : Nat) (hi : i < l.length) (hl : l.length ≤ 80) :
    IntKind.i64.wrap (sumD d (l.take i) + d l[i]) = sumD d (l.take (i + 1)) := by
  rw [sumD_succ d hi]
  have h1 := sumD_range d (l.take i) fun x hx => h x (List.mem_of_mem_take hx)
  have h2 := h l[i] (List.getElem_mem hi)
  have h3 : (l.take i).length = i := by rw [List.length_take]; omega
  rw [h3] at h1
  exact wrap_eq (by unfold I64; omega)

theorem loop19_1 (call : Oracle) (fuel : Nat) (b : Bool) (l : List Int) (hl : l.length ≤ 80) (hf : 100 < fuel) (h : Int) (d : Int → Int) (h32 : ∀ x ∈ l, call 32 [.v (.int .i64 h), .v (.int .i64 x)] = some (.v (.int .i64 (d x)))) (hd : ∀ x ∈ l, 0 ≤ d x ∧ d x ≤ 6)
    (b0 m0 : Int) (st : St)
    (h0 : drops st h19_1 = L19_1 (.ro (sl b l)) (ii b0) (ii m0) (ii h) (ii 0) (ii h) (.ro (sl b l)) (ii l.length) (ii 0)) :
    run.loopN (run call fuel b19_1) fuel st = some (.ex 2, X19_2 (.ro (sl b l)) (ii b0) (ii m0) (ii h) (ii (sumD d l)) (ii h)) := by
  refine loop_rule (fun m st => ∃ i : Nat, i ≤ l.length ∧ m = l.length - i ∧ drops st h19_1 = L19_1 (.ro (sl b l)) (ii b0) (ii m0) (ii h) (ii (sumD d (l.take i))) (ii h) (.ro (sl b l)) (ii l.length) (ii (i : Nat)))
    (fun r => r = some (.ex 2, X19_2 (.ro (sl b l)) (ii b0) (ii m0) (ii h) (ii (sumD d l)) (ii h))) ?_ l.length fuel st ⟨0, by omega, by omega, by simpa [sumD] using h0⟩ (by omega)
  rintro m st ⟨i, hi, hm, hst⟩
  by_cases hlt : i < l.length
  · left
    have hw1 := wrap_succ (i := i) (by omega)
    have hw2 := sumD_take d l hd i hlt hl
    have e := h32 l[i] (List.getElem_mem hlt)
    refine ⟨_, by rw [b19_1, run_scr, hst]; simp [sl, hlt, e, hw1, hw2]; rfl, m - 1, by omega, i + 1, by omega, by omega, ?_⟩
    simp [sl]
  · right
    have : i = l.length := by omega
    subst this
    refine ⟨.ex 2, _, by rw [b19_1, run_scr, hst]; simp [sl]; rfl, by simp, ?_⟩
    simp [sl]

theorem loop20_1 (call : Oracle) (fuel : Nat) (b : Bool) (l : List Int) (hl : l.length ≤ 80) (hf : 100 < fuel) (h : Int) (d : Int → Int) (h14 : ∀ x ∈ l, call 14 [.v (.int .i64 h), .v (.int .i64 x)] = some (.v (.int .i64 (d x)))) (hd : ∀ x ∈ l, 0 ≤ d x ∧ d x ≤ 6)
    (b0 m0 : Int) (st : St)
    (h0 : drops st h20_1 = L20_1 (.ro (sl b l)) (ii b0) (ii m0) (ii h) (ii 0) (ii 0)) :
    run.loopN (run call fuel b20_1) fuel st = some (.ex 2, X20_2 (.ro (sl b l)) (ii b0) (ii m0) (ii h) (ii (sumD d l))) := by
  refine loop_rule (fun m st => ∃ i : Nat, i ≤ l.length ∧ m = l.length - i ∧ drops st h20_1 = L20_1 (.ro (sl b l)) (ii b0) (ii m0) (ii h) (ii (sumD d (l.take i))) (ii (i : Nat)))
    (fun r => r = some (.ex 2, X20_2 (.ro (sl b l)) (ii b0) (ii m0) (ii h) (ii (sumD d l)))) ?_ l.length fuel st ⟨0, by omega, by omega, by simpa [sumD] using h0⟩ (by omega)
  rintro m st ⟨i, hi, hm, hst⟩
  by_cases hlt : i < l.length
  · left
    have hw1 := wrap_succ (i := i) (by omega)
    have hw2 := sumD_take d l hd i hlt hl
    have e := h14 l[i] (List.getElem_mem hlt)
    refine ⟨_, by rw [b20_1, run_scr, hst]; simp [sl, hlt, e, hw1, hw2]; rfl, m - 1, by omega, i + 1, by omega, by omega, ?_⟩
    simp [sl]
  · right
    have : i = l.length := by omega
    subst this
    refine ⟨.ex 2, _, by rw [b20_1, run_scr, hst]; simp [sl]; rfl, by simp, ?_⟩
    simp [sl]

def medFrom (s : Nat → Int) : Nat → Nat → Int → Int → Int × Int
  | _, 0, b, m => (b, m)
  | h, k + 1, b, m => if m < 0 ∨ s h < m then medFrom s (h + 1) k h (s h) else medFrom s (h + 1) k b m

theorem loop19_0 (call : Oracle) (fuel : Nat) (b : Bool) (l : List Int) (hl : l.length ≤ 80) (hf : 100 < fuel) (d : Nat → Int → Int) (h32 : ∀ h : Nat, h < 12 → ∀ x ∈ l, call 32 [.v (.int .i64 (h : Nat)), .v (.int .i64 x)] = some (.v (.int .i64 (d h x))))
    (hd : ∀ h : Nat, h < 12 → ∀ x ∈ l, 0 ≤ d h x ∧ d h x ≤ 6) (st : St) (h0 : drops st h19_0 = L19_0 (.ro (sl b l)) (ii 0) (ii (-1)) (ii 0)) :
    run.loopN (run call fuel b19_0) fuel st = some (.ex 0, X19_0 (ii (medFrom (fun h => sumD (d h) l) 0 12 0 (-1)).1) (ii (medFrom (fun h => sumD (d h) l) 0 12 0 (-1)).2)) := by
  generalize hT : medFrom (fun h => sumD (d h) l) 0 12 0 (-1) = T
  refine loop_rule (fun m st => ∃ (i : Nat) (b0 m0 : Int), i ≤ 12 ∧ m = 12 - i ∧ medFrom (fun h => sumD (d h) l) i (12 - i) b0 m0 = T ∧ drops st h19_0 = L19_0 (.ro (sl b l)) (ii b0) (ii m0) (ii (i : Nat)))
    (fun r => r = some (.ex 0, X19_0 (ii T.1) (ii T.2))) ?_ 12 fuel st ⟨0, 0, -1, by omega, by omega, hT, by simpa using h0⟩ (by omega)
  rintro m st ⟨i, b0, m0, hi, hm, hq, hst⟩
  by_cases hlt : i < 12
  · left
    have e := loop19_1 call fuel b l hl hf (i : Nat) (d i) (h32 i hlt) (hd i hlt) b0 m0
    have hw := wrap_succ (i := i) (by omega)
    obtain ⟨k, hk⟩ : ∃ k, 12 - i = k + 1 := ⟨11 - i, by omega⟩
    rw [hk, medFrom] at hq
    have h1 : (i : Int) < 12 := by omega
    by_cases hc : m0 < 0 ∨ sumD (d i) l < m0
    · rw [if_pos hc] at hq
      refine ⟨_, by
        rw [b19_0, run_scr, hst]
        simp [sl, h1]
        rw [e _ (by simp [sl])]
        rcases Decidable.em (m0 < 0) with hc1 | hc1
        · simp [hc1, hw]
          rfl
        · simp [hc1, hc.resolve_left hc1, hw], m - 1, by omega, i + 1, (i : Nat), sumD (d i) l, by omega, by omega, ?_, ?_⟩
      · rw [show 12 - (i + 1) = k by omega]; exact hq
      · simp [sl]
    · rw [if_neg hc] at hq
      have hc1 : ¬ m0 < 0 := fun h => hc (.inl h)
      have hc2 : ¬ sumD (d i) l < m0 := fun h => hc (.inr h)
      refine ⟨_, by rw [b19_0, run_scr, hst]; simp [sl, h1]; rw [e _ (by simp [sl])]; simp [hc1, hc2, hw]; rfl, m - 1, by omega, i + 1, b0, m0, by omega, by omega, ?_, ?_⟩
      · rw [show 12 - (i + 1) = k by omega]; exact hq
      · simp [sl]
  · right
    have : i = 12 := by omega
    subst this
    simp only [Nat.sub_self, medFrom] at hq
    refine ⟨.ex 0, _, by rw [b19_0, run_scr, hst]; simp [sl]; rfl, by simp, ?_⟩
    rw [← hq]
    simp

theorem loop20_0 (call : Oracle) (fuel : Nat) (b : Bool) (l : List Int) (hl : l.length ≤ 80) (hf : 100 < fuel) (d : Nat → Int → Int) (h14 : ∀ h : Nat, h < 12 → ∀ x ∈ l, call 14 [.v (.int .i64 (h : Nat)), .v (.int .i64 x)] = some (.v (.int .i64 (d h x))))
    (hd : ∀ h : Nat, h < 12 → ∀ x ∈ l, 0 ≤ d h x ∧ d h x ≤ 6) (st : St) (h0 : drops st h20_0 = L20_0 (.ro (sl b l)) (ii 0) (ii 1000) (ii 0)) :
    run.loopN (run call fuel b20_0) fuel st = some (.ex 0, X20_0 (ii (medFrom (fun h => sumD (d h) l) 0 12 0 1000).1) (ii (medFrom (fun h => sumD (d h) l) 0 12 0 1000).2)) := by
  generalize hT : medFrom (fun h => sumD (d h) l) 0 12 0 1000 = T
  refine loop_rule (fun m st => ∃ (i : Nat) (b0 m0 : Int), i ≤ 12 ∧ 0 ≤ m0 ∧ m = 12 - i ∧ medFrom (fun h => sumD (d h) l) i (12 - i) b0 m0 = T ∧ drops st h20_0 = L20_0 (.ro (sl b l)) (ii b0) (ii m0) (ii (i : Nat)))
    (fun r => r = some (.ex 0, X20_0 (ii T.1) (ii T.2))) ?_ 12 fuel st ⟨0, 0, 1000, by omega, by omega, by omega, hT, by simpa using h0⟩ (by omega)
  rintro m st ⟨i, b0, m0, hi, hm0, hm, hq, hst⟩
  by_cases hlt : i < 12
  · left
    have e := loop20_1 call fuel b l hl hf (i : Nat) (d i) (h14 i hlt) (hd i hlt) b0 m0
    have hs := sumD_range (d i) l (hd i hlt)
    have hw := wrap_succ (i := i) (by omega)
    obtain ⟨k, hk⟩ : ∃ k, 12 - i = k + 1 := ⟨11 - i, by omega⟩
    rw [hk, medFrom] at hq
    have h1 : (i : Int) < 12 := by omega
    by_cases hc : sumD (d i) l < m0
    · rw [if_pos (.inr hc)] at hq
      refine ⟨_, by rw [b20_0, run_scr, hst]; simp [sl, h1]; rw [e _ (by simp [sl])]; simp [hc, hw]; rfl, m - 1, by omega, i + 1, (i : Nat), sumD (d i) l, by omega, hs.1, by omega, ?_, ?_⟩
      · rw [show 12 - (i + 1) = k by omega]; exact hq
      · simp [sl]
    · rw [if_neg (by omega)] at hq
      refine ⟨_, by rw [b20_0, run_scr, hst]; simp [sl, h1]; rw [e _ (by simp [sl])]; simp [hc, hw]; rfl, m - 1, by omega, i + 1, b0, m0, by omega, hm0, by omega, ?_, ?_⟩
      · rw [show 12 - (i + 1) = k by omega]; exact hq
      · simp [sl]
  · right
    have : i = 12 := by omega
    subst this
    simp only [Nat.sub_self, medFrom] at hq
    refine ⟨.ex 0, _, by rw [b20_0, run_scr, hst]; simp [sl]; rfl, by simp, ?_⟩
    rw [← hq]
    simp

theorem med_same (s : Nat → Int) (h0 : 0 ≤ s 0) (h1 : s 0 < 1000) : medFrom s 0 12 0 1000 = medFrom s 0 12 0 (-1) := by
  have e1 : medFrom s 0 12 0 1000 = medFrom s 1 11 (0 : Nat) (s 0) := by rw [medFrom, if_pos (.inr h1)]
  have e2 : medFrom s 0 12 0 (-1) = medFrom s 1 11 (0 : Nat) (s 0) := by rw [medFrom, if_pos (.inl (by decide))]
  rw [e1, e2]

def medD (e : Int) (s : Nat → Int) : D := if e = 0 then tri (medFrom s 0 12 0 (-1)).1 (medFrom s 0 12 0 (-1)).2 0 else tri 0 0 e

theorem hours_of_filled {l : List Int} (h : filledZ l = 0) : ∀ x ∈ l, hourB x = true := by
  have hc : checkZ l = 0 := by
    unfold filledZ at h
    split at h
    · omega
    · exact h
  unfold checkZ at hc
  split at hc
  · omega
  · split at hc
    · rename_i hall; exact List.all_eq_true.1 hall
    · omega

theorem dist_range {a b : Int} (ha : hourB a = true) (hb : hourB b = true) : 0 ≤ distZ a b ∧ distZ a b ≤ 6 := by
  have e : distZ a b = DistZ a b := by simp [DistZ, ha, hb]
  rw [e]
  obtain ⟨i, rfl⟩ := hour_fin ha
  obtain ⟨j, rfl⟩ := hour_fin hb
  exact (fin_dist i j).2.2.2

theorem hour_nat {h : Nat} (hh : h < 12) : hourB (h : Nat) = true := by
  simp [hourB]; omega

theorem f19 (call : Oracle) (fuel : Nat) (b : Bool) (l : List Int) (hl : l.length ≤ 80) (hf : 100 < fuel) (h33 : call 33 [sl b l] = some (.v (.int .i64 (filledZ l))))
    (h32 : ∀ a b : Int, call 32 [.v (.int .i64 a), .v (.int .i64 b)] = some (.v (.int .i64 (distZ a b)))) :
    callF call fuel c19 [sl b l] = some (medD (filledZ l) (fun h => sumD (distZ (h : Nat)) l)) := by
  by_cases h : filledZ l = 0
  · have hh := hours_of_filled h
    have e := loop19_0 call fuel b l hl hf (fun h => distZ (h : Nat)) (fun h _ x _ => h32 _ _) (fun h hlt x hx => dist_range (hour_nat hlt) (hh x hx))
    unfold sl at h33
    rw [h] at h33
    simp [c19, sl, h33]
    rw [e]
    · unfold medD
      rw [if_pos h]
      simp [tri]
    · simp [sl]
  · have h' : (filledZ l != 0) = true := by simpa using h
    unfold sl at h33
    simp [c19, sl, h33, h', medD, h, tri]

theorem f20 (call : Oracle) (fuel : Nat) (b : Bool) (l : List Int) (hl : l.length ≤ 80) (hf : 100 < fuel) (h35 : call 35 [sl b l] = some (.v (.int .i64 (checkZ l))))
    (h14 : ∀ a b : Int, call 14 [.v (.int .i64 a), .v (.int .i64 b)] = some (.v (.int .i64 (rdistZ a b)))) :
    callF call fuel c20 [sl b l] = some (medD (filledZ l) (fun h => sumD (distZ (h : Nat)) l)) := by
  by_cases h : checkZ l = 0
  · rw [h] at h35
    cases l with
    | nil =>
      simp [sl] at h35
      simp [c20, sl, h35, filledZ, h, medD, tri]
    | cons x xs =>
      have hf0 : filledZ (x :: xs) = 0 := by simp [filledZ, h]
      have hh := hours_of_filled hf0
      have e0 : ¬ ((xs.length : Int) + 1 = 0) := by omega
      have hr : ∀ h : Nat, h < 12 → ∀ y ∈ x :: xs, 0 ≤ distZ (h : Nat) y ∧ distZ (h : Nat) y ≤ 6 := fun h hlt y hy => dist_range (hour_nat hlt) (hh y hy)
      have e := loop20_0 call fuel b (x :: xs) hl hf (fun h => distZ (h : Nat)) (fun h hlt y hy => by
        rw [h14, ← dist_ref]
        simp [DistZ, hour_nat hlt, hh y hy]) hr
      have hs := sumD_range (distZ ((0 : Nat) : Int)) (x :: xs) (hr 0 (by omega))
      rw [med_same _ hs.1 (by simp only [List.length_cons] at hl hs; omega)] at e
      unfold sl at h35
      simp at h35
      simp [c20, sl, h35, e0]
      rw [e]
      · unfold medD
        rw [if_pos hf0]
        simp [tri]
      · simp [sl]
  · have h' : (checkZ l != 0) = true := by simpa using h
    have hf0 : filledZ l = checkZ l := by simp [filledZ, h]
    unfold sl at h35
    simp [c20, sl, h35, h', medD, hf0, h, tri]

end Go.Mx
