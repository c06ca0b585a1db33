import Derived.Test.YtgligngmbkkkkaaAxK
/-
  The axis: the reference's answers on being near one hour and on the fullest arc.
-/
namespace Go.Mx
set_option linter.unusedVariables false
set_option linter.unusedSimpArgs false
set_option linter.unusedSectionVars false
open Go

abbrev bb (t : Bool) : V := .sc (.bool t)

theorem all_succ {l : List Int} {i : Nat} (h : i < l.length) (p : Int → Bool) : (l.take (i + 1)).all p = ((l.take i).all p && p l[i]) := by
  rw [take_succ (List.getElem?_eq_getElem h), List.all_append]
  simp

theorem loop25_1 (call : Oracle) (fuel : Nat) (b : Bool) (l : List Int) (hl : l.length ≤ 80) (hf : 100 < fuel) (tol h : Int) (d : Int → Int) (h14 : ∀ x ∈ l, call 14 [.v (.int .i64 h), .v (.int .i64 x)] = some (.v (.int .i64 (d x)))) (st : St)
    (h0 : drops st h25_1 = L25_1 (.ro (sl b l)) (ii tol) (ii h) (bb true) (ii 0)) :
    run.loopN (run call fuel b25_1) fuel st = some (.ex 2, X25_2 (.ro (sl b l)) (ii tol) (ii h) (bb (l.all fun x => decide (d x ≤ tol)))) := by
  refine loop_rule (fun m st => ∃ i : Nat, i ≤ l.length ∧ m = l.length - i ∧ drops st h25_1 = L25_1 (.ro (sl b l)) (ii tol) (ii h) (bb ((l.take i).all fun x => decide (d x ≤ tol))) (ii (i : Nat)))
    (fun r => r = some (.ex 2, X25_2 (.ro (sl b l)) (ii tol) (ii h) (bb (l.all fun x => decide (d x ≤ tol))))) ?_ l.length fuel st ⟨0, by omega, by omega, by simpa using h0⟩ (by omega)
  rintro m st ⟨i, hi, hm, hst⟩
  by_cases hlt : i < l.length
  · left
    have hw1 := wrap_succ (i := i) (by omega)
    have e := h14 l[i] (List.getElem_mem hlt)
    have hs := all_succ hlt fun x => decide (d x ≤ tol)
    cases hq : (l.take i).all fun x => decide (d x ≤ tol)
    · rw [hq] at hst hs
      refine ⟨_, by rw [b25_1, run_scr, hst]; simp [sl, hlt, hw1]; rfl, m - 1, by omega, i + 1, by omega, by omega, ?_⟩
      rw [hs]
      simp [sl]
    · rw [hq] at hst hs
      refine ⟨_, by rw [b25_1, run_scr, hst]; simp [sl, hlt, e, hw1]; rfl, m - 1, by omega, i + 1, by omega, by omega, ?_⟩
      rw [hs]
      simp [sl]
  · right
    have : i = l.length := by omega
    subst this
    rw [List.take_length] at hst
    refine ⟨.ex 2, _, by rw [b25_1, run_scr, hst]; simp [sl]; rfl, by simp, ?_⟩
    simp [sl]

def res25 : Option Nat → Option (Ex × St)
  | some _ => some (.ret, R25 (bb true))
  | none => some (.ex 0, X25_0)

theorem loop25_0 (call : Oracle) (fuel : Nat) (b : Bool) (l : List Int) (hl : l.length ≤ 80) (tol : Int) (hf : 100 < fuel) (hh : ∀ x ∈ l, hourB x = true)
    (h14 : ∀ a b : Int, call 14 [.v (.int .i64 a), .v (.int .i64 b)] = some (.v (.int .i64 (rdistZ a b)))) (st : St)
    (h0 : drops st h25_0 = L25_0 (.ro (sl b l)) (ii tol) (ii 0)) :
    run.loopN (run call fuel b25_0) fuel st = res25 (findFrom (nearB l tol) 0 12) := by
  generalize hT : findFrom (nearB l tol) 0 12 = T
  refine loop_rule (fun m st => ∃ i : Nat, i ≤ 12 ∧ m = 12 - i ∧ findFrom (nearB l tol) i (12 - i) = T ∧ drops st h25_0 = L25_0 (.ro (sl b l)) (ii tol) (ii (i : Nat)))
    (fun r => r = res25 T) ?_ 12 fuel st ⟨0, by omega, by omega, hT, by simpa using h0⟩ (by omega)
  rintro m st ⟨i, hi, hm, hq, hst⟩
  by_cases hlt : i < 12
  · have hw := wrap_succ (i := i) (by omega)
    obtain ⟨k, hk⟩ : ∃ k, 12 - i = k + 1 := ⟨11 - i, by omega⟩
    rw [hk, findFrom] at hq
    have h1 : (i : Int) < 12 := by omega
    have e := loop25_1 call fuel b l hl hf tol (i : Nat) (distZ (i : Nat)) (fun x hx => by
      rw [h14, ← dist_ref]
      simp [DistZ, hour_nat hlt, hh x hx])
    have en : (l.all fun x => decide (distZ (i : Nat) x ≤ tol)) = nearB l tol i := rfl
    rw [en] at e
    cases hp : nearB l tol i with
    | true =>
      right
      simp only [hp, if_true] at hq
      rw [hp] at e
      refine ⟨.ret, _, by rw [b25_0, run_scr, hst]; simp [sl, h1]; rw [e _ (by simp [sl])]; simp; rfl, by simp, ?_⟩
      rw [← hq]
      simp [res25]
    | false =>
      left
      simp only [hp, Bool.false_eq_true, if_false] at hq
      rw [hp] at e
      refine ⟨_, by rw [b25_0, run_scr, hst]; simp [sl, h1]; rw [e _ (by simp [sl])]; simp [hw]; rfl, m - 1, by omega, i + 1, by omega, by omega, ?_, ?_⟩
      · rw [show 12 - (i + 1) = k by omega]; exact hq
      · simp [sl]
  · right
    have : i = 12 := by omega
    subst this
    simp only [Nat.sub_self, findFrom] at hq
    refine ⟨.ex 0, _, by rw [b25_0, run_scr, hst]; simp [sl]; rfl, by simp, ?_⟩
    rw [← hq]
    simp [res25]

theorem in6 (t : Int) : inB t 0 6 = (decide (0 ≤ t) && decide (t ≤ 6)) := rfl

theorem f25 (call : Oracle) (fuel : Nat) (b : Bool) (l : List Int) (hl : l.length ≤ 80) (tol : Int) (hf : 100 < fuel) (h35 : call 35 [sl b l] = some (.v (.int .i64 (checkZ l))))
    (h14 : ∀ a b : Int, call 14 [.v (.int .i64 a), .v (.int .i64 b)] = some (.v (.int .i64 (rdistZ a b))))
    (h21 : ∀ n lo hi : Int, call 21 [.v (.int .i64 n), .v (.int .i64 lo), .v (.int .i64 hi)] = some (.v (.bool (inB n lo hi)))) :
    callF call fuel c25 [sl b l, .v (.int .i64 tol)] = some (.v (.bool (fixB l tol))) := by
  by_cases h : checkZ l = 0
  · rw [h] at h35
    cases l with
    | nil =>
      simp [sl] at h35
      simp [c25, sl, h35, filledZ, h, fixB]
    | cons x xs =>
      have hf0 : filledZ (x :: xs) = 0 := by simp [filledZ, h]
      have e0 : ¬ ((xs.length : Int) + 1 = 0) := by omega
      have e0' : ((xs.length : Int) + 1 == 0) = false := by simpa using e0
      have e := loop25_0 call fuel b (x :: xs) hl tol hf (hours_of_filled hf0) h14
      unfold sl at h35
      simp at h35
      cases hi : inB tol 0 6
      · have hi' := hi
        rw [in6] at hi'
        simp [c25, sl, h35, e0', h21, hi, fixB, hi']
      · have hi' := hi
        rw [in6] at hi'
        simp [c25, sl, h35, e0', h21, hi]
        rw [e]
        · cases hq : findFrom (nearB (x :: xs) tol) 0 12 <;> simp [res25, fixB, hf0, hi', hq]
        · simp [sl]
  · have h' : (checkZ l != 0) = true := by simpa using h
    have hf0 : filledZ l = checkZ l := by simp [filledZ, h]
    unfold sl at h35
    simp [c25, sl, h35, h', fixB, hf0, h]

theorem denFrom_congr {c c' : Nat → Nat} : ∀ (k f b m : Nat), f + k = 12 → (∀ j, j < 12 → c j = c' j) → denFrom c f k b m = denFrom c' f k b m
  | 0, _, _, _, _, _ => rfl
  | k + 1, f, b, m, h, hc => by
    simp only [denFrom]
    rw [hc f (by omega), denFrom_congr k (f + 1) _ _ (by omega) hc, denFrom_congr k (f + 1) _ _ (by omega) hc]

theorem den_same (l : List Int) (k : Int) : denD l k (fun f => l.countP (withinP (f : Nat) k)) = denD l k (fun f => l.countP (inP (f : Nat) k)) := by
  unfold denD
  split
  · rename_i h
    have hh : ∀ x ∈ l, hourB x = true := by
      unfold checkZ at h
      split at h
      · omega
      · split at h
        · rename_i hall; exact List.all_eq_true.1 hall
        · omega
    split
    · rw [denFrom_congr 12 0 0 0 (by omega) fun j hj => within_in hh hj k]
    · rfl
  · rfl

theorem loop24_0 (call : Oracle) (fuel : Nat) (hf : 100 < fuel) (b : Bool) (l : List Int) (k : Int) (c : Nat → Nat) (h36 : ∀ f : Nat, call 36 [sl b l, .v (.int .i64 (f : Nat)), .v (.int .i64 k)] = some (.v (.int .i64 (c f : Nat)))) (st : St)
    (h0 : drops st h24_0 = L24_0 (.ro (sl b l)) (ii k) (ii 0) (ii 0) (ii 0)) :
    run.loopN (run call fuel b24_0) fuel st = some (.ex 0, X24_0 (ii ((denFrom c 0 12 0 0).1 : Nat)) (ii ((denFrom c 0 12 0 0).2 : Nat))) := by
  generalize hT : denFrom c 0 12 0 0 = T
  refine loop_rule (fun m st => ∃ (i b0 m0 : Nat), i ≤ 12 ∧ m = 12 - i ∧ denFrom c i (12 - i) b0 m0 = T ∧ drops st h24_0 = L24_0 (.ro (sl b l)) (ii k) (ii (b0 : Nat)) (ii (m0 : Nat)) (ii (i : Nat)))
    (fun r => r = some (.ex 0, X24_0 (ii (T.1 : Nat)) (ii (T.2 : Nat)))) ?_ 12 fuel st ⟨0, 0, 0, by omega, by omega, hT, by simpa using h0⟩ (by omega)
  rintro m st ⟨i, b0, m0, hi, hm, hq, hst⟩
  have e := h36 i
  unfold sl at e
  by_cases hlt : i < 12
  · left
    have hw := wrap_succ (i := i) (by omega)
    obtain ⟨q, hk⟩ : ∃ q, 12 - i = q + 1 := ⟨11 - i, by omega⟩
    rw [hk, denFrom] at hq
    have h1 : (i : Int) < 12 := by omega
    by_cases hc : m0 < c i
    · rw [if_pos hc] at hq
      refine ⟨_, by rw [b24_0, run_scr, hst]; simp [sl, h1, e, hc, hw]; rfl, m - 1, by omega, i + 1, i, c i, by omega, by omega, ?_, ?_⟩
      · rw [show 12 - (i + 1) = q by omega]; exact hq
      · simp [sl]
    · rw [if_neg hc] at hq
      refine ⟨_, by rw [b24_0, run_scr, hst]; simp [sl, h1, e, hc, hw]; rfl, m - 1, by omega, i + 1, b0, m0, by omega, by omega, ?_, ?_⟩
      · rw [show 12 - (i + 1) = q by omega]; exact hq
      · simp [sl]
  · right
    have : i = 12 := by omega
    subst this
    simp only [Nat.sub_self, denFrom] at hq
    refine ⟨.ex 0, _, by rw [b24_0, run_scr, hst]; simp [sl]; rfl, by simp, ?_⟩
    rw [← hq]
    simp

theorem f24 (call : Oracle) (fuel : Nat) (hf : 100 < fuel) (b : Bool) (l : List Int) (k : Int) (c : Nat → Nat) (h35 : call 35 [sl b l] = some (.v (.int .i64 (checkZ l))))
    (h21 : ∀ n lo hi : Int, call 21 [.v (.int .i64 n), .v (.int .i64 lo), .v (.int .i64 hi)] = some (.v (.bool (inB n lo hi))))
    (h36 : ∀ f : Nat, call 36 [sl b l, .v (.int .i64 (f : Nat)), .v (.int .i64 k)] = some (.v (.int .i64 (c f : Nat)))) :
    callF call fuel c24 [sl b l, .v (.int .i64 k)] = some (denD l k c) := by
  have e := loop24_0 call fuel hf b l k c h36
  by_cases h : checkZ l = 0
  · unfold sl at h35
    rw [h] at h35
    unfold denD
    rw [if_pos h]
    cases hi : inB k 1 12
    · have : ¬ (1 ≤ k ∧ k ≤ 12) := by
        intro hk
        simp [inB, hk.1, hk.2] at hi
      rw [if_neg this]
      simp [c24, sl, h35, h21, hi, tri]
    · have : 1 ≤ k ∧ k ≤ 12 := by simpa [inB] using hi
      rw [if_pos this]
      simp [c24, sl, h35, h21, hi]
      rw [e]
      · simp [tri]
      · simp [sl]
  · have h' : (checkZ l != 0) = true := by simpa using h
    unfold sl at h35
    simp [c24, sl, h35, h', denD, h, tri]

theorem denD_tri (l : List Int) (k : Int) (c : Nat → Nat) : ∃ a b d, denD l k c = tri a b d := by
  unfold denD
  split
  · split
    · exact ⟨_, _, _, rfl⟩
    · exact ⟨_, _, _, rfl⟩
  · exact ⟨_, _, _, rfl⟩

set_option maxHeartbeats 2000000 in
theorem f8 (call : Oracle) (fuel : Nat) (b : Bool) (l : List Int) (k : Int) (h12 : call 12 [] = some (.v (.bool true))) (h16 : call 16 [sl b l] = some (.v (.bool (decide (l.length ≤ 80)))))
    (h23 : l.length ≤ 80 → call 23 [sl b l, .v (.int .i64 k)] = some (denD l k (fun f => l.countP (withinP (f : Nat) k))))
    (h24 : l.length ≤ 80 → call 24 [sl b l, .v (.int .i64 k)] = some (denD l k (fun f => l.countP (inP (f : Nat) k))))
    (h22 : l.length ≤ 80 → call 22 [sl b l, .v (.int .i64 k)] = some (.v (.bool (fixB l k))))
    (h25 : l.length ≤ 80 → call 25 [sl b l, .v (.int .i64 k)] = some (.v (.bool (fixB l k)))) :
    callF call fuel c8 [sl b l, .v (.int .i64 k)] = some (.v (.bool true)) := by
  by_cases hl : l.length ≤ 80
  · have h23 := h23 hl
    have h24 := h24 hl
    have h22 := h22 hl
    have h25 := h25 hl
    rw [← den_same] at h24
    obtain ⟨a1, a2, a3, ha⟩ := denD_tri l k (fun f => l.countP (withinP (f : Nat) k))
    rw [ha] at h23 h24
    simp only [hl, decide_true] at h16
    unfold sl tri at *
    simp [c8, h12, h16, h23, h24, h22, h25]
  · simp only [hl, decide_false] at h16
    unfold sl at *
    simp [c8, h12, h16]

/-! ### the law on being near one hour -/

theorem fin_near : ∀ (h x : Fin 12) (t : Fin 6), (distZ h.val x.val ≤ t.val ↔ turnZ x.val (IntKind.i64.wrap (-(((h.val + 12 - t.val) % 12 : Nat) : Int))) < 2 * t.val + 1) := by decide +kernel

theorem withinP_mono {f n m : Int} (h : n ≤ m) (x : Int) (hx : withinP f n x = true) : withinP f m x = true := by
  simp only [withinP, decide_eq_true_eq] at *
  omega

theorem near_arc {l : List Int} (hh : ∀ x ∈ l, hourB x = true) {F K : Nat} (ok : ArcOK l F K) {t : Nat} (ht : t ≤ 6) : (findFrom (nearB l (t : Nat)) 0 12).isSome = decide (K ≤ 2 * t + 1) := by
  rw [Bool.eq_iff_iff, decide_eq_true_eq]
  by_cases h6 : t = 6
  · subst h6
    have hk := ok.k2
    refine ⟨fun _ => by omega, fun _ => ?_⟩
    cases hq : findFrom (nearB l ((6 : Nat) : Int)) 0 12 with
    | some f => rfl
    | none =>
      have := findFrom_none hq 0 (by omega) (by omega)
      have h2 : nearB l ((6 : Nat) : Int) 0 = true := by
        unfold nearB
        rw [List.all_eq_true]
        intro x hx
        have := dist_range (hour_nat (h := 0) (by omega)) (hh x hx)
        simpa using this.2
      rw [h2] at this
      cases this
  · have ht5 : t < 6 := by omega
    have hnear : ∀ h, h < 12 → (nearB l (t : Nat) h = true ↔ l.countP (withinP (((h + 12 - t) % 12 : Nat) : Int) ((2 * t + 1 : Nat) : Int)) = l.length) := by
      intro h hlt
      rw [List.countP_eq_length]
      unfold nearB
      rw [List.all_eq_true]
      refine forall_congr' fun x => forall_congr' fun hx => ?_
      obtain ⟨j, rfl⟩ := hour_fin (hh x hx)
      have := fin_near ⟨h, hlt⟩ j ⟨t, ht5⟩
      simp only [withinP, decide_eq_true_eq]
      simp only at this
      rw [this]
      have e : ((2 * t + 1 : Nat) : Int) = 2 * (t : Int) + 1 := by omega
      rw [e]
    constructor
    · intro hs
      obtain ⟨h, hf⟩ := Option.isSome_iff_exists.1 hs
      obtain ⟨_, h2, h3⟩ := findFrom_some hf
      have h4 := (hnear h (by omega)).1 h3
      rcases Nat.lt_or_ge (2 * t + 1) K with hk | hk
      · exact absurd h4 (ok.less (2 * t + 1) (by omega) hk _ (Nat.mod_lt _ (by omega)))
      · exact hk
    · intro hk
      have hall : l.countP (withinP (F : Nat) ((2 * t + 1 : Nat) : Int)) = l.length := by
        rw [List.countP_eq_length]
        intro x hx
        exact withinP_mono (by omega) x (List.countP_eq_length.1 ok.all x hx)
      have hF := ok.f
      have hh2 : (((F + t) % 12) + 12 - t) % 12 = F := by omega
      have h5 := (hnear ((F + t) % 12) (Nat.mod_lt _ (by omega))).2 (by rw [hh2]; exact hall)
      cases hq : findFrom (nearB l (t : Nat)) 0 12 with
      | some f => rfl
      | none =>
        have := findFrom_none hq ((F + t) % 12) (by omega) (by have := Nat.mod_lt (F + t) (show 0 < 12 by omega); omega)
        rw [h5] at this
        cases this

theorem mod7 (a : Int) : ∃ t : Nat, t ≤ 6 ∧ modZ a 7 = (t : Nat) := by
  have := tmod_range a (b := 7) (by decide)
  have h : 0 ≤ modZ a 7 ∧ modZ a 7 ≤ 6 := by
    unfold modZ
    split
    · rw [wrap_eq (by unfold I64; omega)]; omega
    · omega
  exact ⟨(modZ a 7).toNat, by omega, by omega⟩

set_option maxHeartbeats 2000000 in
theorem f6 (call : Oracle) (fuel : Nat) (b : Bool) (l : List Int) (tol : Int) (h12 : call 12 [] = some (.v (.bool true))) (h16 : call 16 [sl b l] = some (.v (.bool (decide (l.length ≤ 80)))))
    (h15 : ∀ a b : Int, b ≠ 0 → call 15 [.v (.int .i64 a), .v (.int .i64 b)] = some (.v (.int .i64 (modZ a b))))
    (h17 : l.length ≤ 80 → call 17 [sl b l] = some (arcD (filledZ l) (fun n f => decide (l.countP (withinP (f : Nat) (n : Nat)) = l.length))))
    (h22 : l.length ≤ 80 → ∀ t : Int, call 22 [sl b l, .v (.int .i64 t)] = some (.v (.bool (fixB l t)))) :
    callF call fuel c6 [sl b l, .v (.int .i64 tol)] = some (.v (.bool true)) := by
  by_cases hl : l.length ≤ 80
  · have h17 := h17 hl
    obtain ⟨t, ht, hmod⟩ := mod7 tol
    have h22 := h22 hl (t : Nat)
    simp only [hl, decide_true] at h16
    have w1 : IntKind.i64.wrap (2 * (t : Int)) = 2 * (t : Int) := wrap_eq (by unfold I64; omega)
    have w2 : IntKind.i64.wrap (2 * (t : Int) + 1) = 2 * (t : Int) + 1 := wrap_eq (by unfold I64; omega)
    by_cases h : filledZ l = 0
    · have hh := hours_of_filled h
      obtain ⟨F, K, ha, ok⟩ := arc_ok hh h
      rw [ha] at h17
      have hfix : fixB l (t : Nat) = decide ((K : Int) ≤ 2 * (t : Int) + 1) := by
        unfold fixB
        rw [near_arc hh ok ht]
        have h1 : (0 : Int) ≤ (t : Int) := by omega
        have h2 : (t : Int) ≤ 6 := by omega
        simp only [h, h1, h2, decide_true, Bool.true_and]
        rw [decide_eq_decide]
        omega
      rw [hfix] at h22
      unfold sl tri at *
      simp [c6, h12, h16, h17, h15, hmod, h22, w1, w2]
    · have h' : (filledZ l != 0) = true := by simpa using h
      have hfix : fixB l (t : Nat) = false := by simp [fixB, h]
      rw [hfix] at h22
      unfold arcD at h17
      rw [if_neg h] at h17
      unfold sl tri at *
      simp [c6, h12, h16, h17, h15, hmod, h22, h']
  · simp only [hl, decide_false] at h16
    unfold sl at *
    simp [c6, h12, h16]

end Go.Mx
