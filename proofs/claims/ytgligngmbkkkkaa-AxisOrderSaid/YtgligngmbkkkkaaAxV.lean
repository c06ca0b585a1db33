import Derived.Test.YtgligngmbkkkkaaAxN
/-
  The axis: the order of the elements does not matter.
-/
namespace Go.Mx
set_option linter.unusedVariables false
set_option linter.unusedSimpArgs false
set_option linter.unusedSectionVars false
open Go

def bsl (b : Bool) (cs : List Int) : D := .nd (.sl b 1 cs.length) (cs.map fun n => .v (.int .u8 n))

theorem swap_index (c : Int) (hc : 0 ≤ c ∧ c ≤ 255) {i n : Nat} (hi : i < n) (hn : n ≤ 80) :
    ∃ j : Nat, j < n ∧ IntKind.i64.wrap ((i : Int) + c.tmod ((n - i : Nat) : Int)) = (j : Int) := by
  have hd : (0 : Int) < ((n - i : Nat) : Int) := by omega
  have h1 := Int.tmod_nonneg ((n - i : Nat) : Int) hc.1
  have h2 := Int.tmod_lt_of_pos c hd
  refine ⟨i + (c.tmod ((n - i : Nat) : Int)).toNat, by omega, ?_⟩
  rw [wrap_eq (by unfold I64; omega)]
  omega

set_option maxHeartbeats 4000000 in
set_option maxRecDepth 100000 in
theorem loop9_0 (call : Oracle) (fuel : Nat) (hf : 100 < fuel) (b b2 : Bool) (l cs : List Int) (hl : l.length ≤ 80) (k : Int) (hcs : ∀ c ∈ cs, 0 ≤ c ∧ c ≤ 255) (st : St)
    (h0 : drops st h9_0 = L9_0 (.ro (sl b l)) (.ro (bsl b2 cs)) (ii k) (.own (sl false l)) (ii 0) (.ref 7 [])) :
    ∃ m, m.Perm l ∧ run.loopN (run call fuel b9_0) fuel st = some (.ex 0, X9_0 (.ro (sl b l)) (ii k) (.own (sl false m)) (.ref 7 [])) := by
  refine loop_rule (fun q st => ∃ (i : Nat) (m : List Int), i ≤ l.length ∧ q = l.length - i ∧ m.Perm l ∧ drops st h9_0 = L9_0 (.ro (sl b l)) (.ro (bsl b2 cs)) (ii k) (.own (sl false m)) (ii (i : Nat)) (.ref 7 []))
    (fun r => ∃ m, m.Perm l ∧ r = some (.ex 0, X9_0 (.ro (sl b l)) (ii k) (.own (sl false m)) (.ref 7 []))) ?_ l.length fuel st ⟨0, l, by omega, by omega, List.Perm.refl _, by simpa using h0⟩ (by omega)
  rintro q st ⟨i, m, hi, hq, hp, hst⟩
  have hml := hp.length_eq
  by_cases hlt : i < m.length
  · by_cases hlc : i < cs.length
    · left
      have hw1 := wrap_succ (i := i) (by omega)
      have hc := hcs cs[i] (List.getElem_mem hlc)
      obtain ⟨j, hj, hwj⟩ := swap_index cs[i] hc hlt (by omega)
      have hwc : IntKind.i64.wrap cs[i] = cs[i] := wrap_eq (by unfold I64; omega)
      have hws : IntKind.i64.wrap ((m.length : Int) - (i : Int)) = ((m.length - i : Nat) : Int) := by rw [wrap_eq (by unfold I64; omega)]; omega
      have hpm := (List.set_set_perm hlt hj).trans hp
      have hd0 : m.length - i ≠ 0 := by omega
      generalize m.length - i = dn at *
      refine ⟨_, by rw [b9_0, run_scr, hst]; simp [sl, bsl, hlt, hlc, hj, hwc, hws, hd0, hwj, hw1, isOwn, Mx.store, target, cellsOfD, flatOk, putCells, Value.oneCell']; rfl, q - 1, by omega, i + 1, (m.set i m[j]).set j m[i], by omega, by omega, hpm, ?_⟩
      simp [sl, bsl]
    · right
      refine ⟨.ex 0, _, by rw [b9_0, run_scr, hst]; simp [sl, bsl, hlt, hlc]; rfl, by simp, m, hp, ?_⟩
      simp [sl]
  · right
    refine ⟨.ex 0, _, by rw [b9_0, run_scr, hst]; simp [sl, bsl, hlt]; rfl, by simp, m, hp, ?_⟩
    simp [sl]

/-! ### what does not depend on the order -/
theorem perm_check {m l : List Int} (h : m.Perm l) : checkZ m = checkZ l := by
  unfold checkZ
  rw [h.length_eq, h.all_eq]

theorem perm_filled {m l : List Int} (h : m.Perm l) : filledZ m = filledZ l := by
  unfold filledZ
  rw [perm_check h, h.length_eq]

theorem perm_sum (d : Int → Int) {m l : List Int} (h : m.Perm l) : sumD d m = sumD d l := by
  unfold sumD
  induction h with
  | nil => rfl
  | cons x _ ih => simp [ih]
  | swap x y l => simp only [List.map_cons, List.sum_cons]; omega
  | trans _ _ h1 h2 => exact h1.trans h2

theorem perm_arc {m l : List Int} (h : m.Perm l) : arcD (filledZ m) (fun n f => decide (m.countP (withinP (f : Nat) (n : Nat)) = m.length)) = arcD (filledZ l) (fun n f => decide (l.countP (withinP (f : Nat) (n : Nat)) = l.length)) := by
  rw [perm_filled h]
  congr 1
  funext n f
  rw [h.countP_eq, h.length_eq]

theorem perm_med {m l : List Int} (h : m.Perm l) : medD (filledZ m) (fun a => sumD (distZ (a : Nat)) m) = medD (filledZ l) (fun a => sumD (distZ (a : Nat)) l) := by
  rw [perm_filled h]
  congr 1
  funext a
  rw [perm_sum _ h]

theorem perm_den {m l : List Int} (h : m.Perm l) (k : Int) : denD m k (fun f => m.countP (withinP (f : Nat) k)) = denD l k (fun f => l.countP (withinP (f : Nat) k)) := by
  have e : (fun f : Nat => m.countP (withinP (f : Nat) k)) = fun f : Nat => l.countP (withinP (f : Nat) k) := by funext f; rw [h.countP_eq]
  rw [e]
  unfold denD
  rw [perm_check h]

theorem perm_fix {m l : List Int} (h : m.Perm l) (t : Int) : fixB m t = fixB l t := by
  unfold fixB
  rw [perm_filled h]
  have e : nearB m t = nearB l t := by
    funext a
    unfold nearB
    exact h.all_eq
  rw [e]

set_option maxHeartbeats 40000000 in
set_option maxRecDepth 100000 in
theorem f9_part (call : Oracle) (fuel : Nat) (hf : 100 < fuel) (b b2 : Bool) (l cs : List Int) (hl : l.length ≤ 80) (k : Int) (hcs : ∀ c ∈ cs, 0 ≤ c ∧ c ≤ 255)
    (h12 : call 12 [] = some (.v (.bool true))) (h16 : call 16 [sl b l] = some (.v (.bool true)))
    (h17 : ∀ (b : Bool) (l : List Int), l.length ≤ 80 → call 17 [sl b l] = some (arcD (filledZ l) (fun n f => decide (l.countP (withinP (f : Nat) (n : Nat)) = l.length))))
    (h19 : ∀ (b : Bool) (l : List Int), l.length ≤ 80 → call 19 [sl b l] = some (medD (filledZ l) (fun h => sumD (distZ (h : Nat)) l)))
    (h23 : ∀ (b : Bool) (l : List Int), l.length ≤ 80 → call 23 [sl b l, .v (.int .i64 k)] = some (denD l k (fun f => l.countP (withinP (f : Nat) k))))
    (h22 : ∀ (b : Bool) (l : List Int), l.length ≤ 80 → call 22 [sl b l, .v (.int .i64 k)] = some (.v (.bool (fixB l k)))) :
    callF call fuel c9 [sl b l, bsl b2 cs, .v (.int .i64 k)] = some (.v (.bool true)) := by
  have e := loop9_0 call fuel hf b b2 l cs hl k hcs
  have q1 := all_flat l
  have q2 := all_isSc l
  have q3 : l.length ≤ 2 ^ 36 := by omega
  have a17 := h17 b l hl
  have a19 := h19 b l hl
  have a23 := h23 b l hl
  have a22 := h22 b l hl
  have c17 : ∀ m : List Int, m.Perm l → call 17 [sl false m] = some (arcD (filledZ l) (fun n f => decide (l.countP (withinP (f : Nat) (n : Nat)) = l.length))) := fun m hp => by rw [h17 false m (by rw [hp.length_eq]; exact hl), perm_arc hp]
  have c19 : ∀ m : List Int, m.Perm l → call 19 [sl false m] = some (medD (filledZ l) (fun h => sumD (distZ (h : Nat)) l)) := fun m hp => by rw [h19 false m (by rw [hp.length_eq]; exact hl), perm_med hp]
  have c23 : ∀ m : List Int, m.Perm l → call 23 [sl false m, .v (.int .i64 k)] = some (denD l k (fun f => l.countP (withinP (f : Nat) k))) := fun m hp => by rw [h23 false m (by rw [hp.length_eq]; exact hl), perm_den hp]
  have c22 : ∀ m : List Int, m.Perm l → call 22 [sl false m, .v (.int .i64 k)] = some (.v (.bool (fixB l k))) := fun m hp => by rw [h22 false m (by rw [hp.length_eq]; exact hl), perm_fix hp]
  clear h17 h19 h23 h22
  obtain ⟨x1, x2, x3, hx⟩ := arcD_tri (filledZ l) (fun n f => decide (l.countP (withinP (f : Nat) (n : Nat)) = l.length))
  obtain ⟨y1, y2, y3, hy⟩ := medD_tri (filledZ l) (fun h => sumD (distZ (h : Nat)) l)
  obtain ⟨z1, z2, z3, hz⟩ := denD_tri l k (fun f => l.countP (withinP (f : Nat) k))
  rw [hx] at a17 c17
  rw [hy] at a19 c19
  rw [hz] at a23 c23
  unfold sl bsl tri at *
  simp (maxSteps := 100000000) [c9, h12, h16, reps, lay, append, appSrc, q1, q2, q3, most, leave, memB]
  generalize hr : run.loopN (run call fuel b9_0) fuel _ = r
  obtain ⟨m, hp, rfl⟩ : ∃ m : List Int, m.Perm l ∧ r = some (.ex 0, X9_0 (.ro (.nd (.sl b 1 l.length) (l.map fun n => .v (.int .i64 n)))) (ii k) (.own (.nd (.sl false 1 m.length) (m.map fun n => .v (.int .i64 n)))) (.ref 7 [])) := by
    rw [← hr]
    exact e _ (by simp (maxSteps := 100000000))
  clear hr
  have d17 := c17 m hp
  have d19 := c19 m hp
  have d23 := c23 m hp
  have d22 := c22 m hp
  clear c17 c19 c23 c22 e
  simp (maxSteps := 100000000) [a17, a19, a23, a22, d17, d19, d23, d22]

end Go.Mx
