import Derived.Test.YtldfddgdcjaogaaDiM
/-
  Cycles: the program.
-/
namespace Go.Mx
set_option linter.unusedVariables false
set_option linter.unusedSimpArgs false
set_option linter.unusedSectionVars false
open Go

theorem wC_bd {n : Nat} {l : List Bn} (h : VB n l) (s k v : Nat) (hk : k ≤ 16) : Bd 16000000 (wC l s k v) :=
  (W_bd (fun c hc => h.c c (List.mem_of_mem_drop hc)) _ k v).mono (by omega)

theorem loop39_1 (call : Oracle) (fuel : Nat) (n : Nat) (l : List Bn) (h : VB n l) (b : Bool) (s : Nat) (len0 : Int) (m left : Nat) (hm : left < m) (hm16 : m ≤ 16) (q : CS) (hq : q.1.length ≤ 16) (h1 : -16000000 ≤ q.2.1) (h2 : q.2.1 ≤ 16000000) (fu : Nat) (hf : 100 < fu) (st : St)
    (h0 : drops st h39_1 = L39_1 (.ro (sd b (nbL l))) (ii s) (ii len0) (.own (wT m n (l.drop (s + 1)) (nth l zN s).1)) (.own (si false (zl q.1))) (ii q.2.1) (ii q.2.2) (ii left) (ii (ad (s + 1) 0))) (hs : s < l.length) :
    run.loopN (run call fuel b39_1) fu st = some ((pickT l (wC l s) s left q.2.1 q.2.2).elim (.ex 2, X39_2 (.ro (sd b (nbL l))) (ii s) (ii len0) (.own (wT m n (l.drop (s + 1)) (nth l zN s).1)) (.own (si false (zl q.1))) (ii q.2.1) (ii q.2.2))
      fun j => (.ex 2, X39_2 (.ro (sd b (nbL l))) (ii s) (ii len0) (.own (wT m n (l.drop (s + 1)) (nth l zN s).1)) (.own (si false (zl (goT l q (ad (s + 1) j)).1))) (ii (goT l q (ad (s + 1) j)).2.1) (ii (goT l q (ad (s + 1) j)).2.2))) := by
  have hlen := h.len
  have hl' : ad (s + 1) (l.length - (s + 1)) = l.length := by unfold ad; omega
  refine loop_find call fuel h39_1 _ (l.length - (s + 1)) (fun j => cndT l (wC l s) left q.2.1 q.2.2 (ad (s + 1) j)) (fun j => L39_1 (.ro (sd b (nbL l))) (ii s) (ii len0) (.own (wT m n (l.drop (s + 1)) (nth l zN s).1)) (.own (si false (zl q.1))) (ii q.2.1) (ii q.2.2) (ii left) (ii (ad (s + 1) j))) _ _ (by simp) (by simp) ?_ (by rw [hl']; simp) fu st (by rw [h0]) (by omega)
  intro j hj _
  have ht : ad (s + 1) j < l.length := by unfold ad; omega
  have hw : IntKind.i64.wrap (((ad (s + 1) j : Nat) : Int) + 1) = ((ad (s + 1) (j + 1) : Nat) : Int) := by
    rw [wrap_eq (by unfold I64; omega)]; unfold ad; omega
  have hv := h.at ht
  have hx := h.c _ (nth_mem zN ht)
  have hB := wC_bd h s left (nth l zN (ad (s + 1) j)).2.1 (by omega)
  have hG : wC l s = W (l.drop (s + 1)) (nth l zN s).1 := rfl
  have hmo : q.1.length + 1 ≤ most := by unfold most; omega
  unfold goT cndT
  rw [hG] at hB ⊢
  dsimp only [wT]
  generalize (nth l zN s).1 = to at *
  generalize W (l.drop (s + 1)) to = w at *
  generalize ad (s + 1) (j + 1) = t1 at *
  generalize ad (s + 1) j = t at *
  obtain ⟨out, sum, at'⟩ := q
  simp only at h1 h2 hmo
  generalize hq' : nth l zN t = c at *
  obtain ⟨a, b', x⟩ := c
  have k1 : b' < n := hv.2.1
  simp only at hx hB
  have e : rlR (w left) b' = rl (w left b') := rfl
  by_cases c1 : a = at'
  · subst c1
    cases hr : w left b' with
    | none =>
      rw [hr, rl_none] at e
      simp [ht, hw, hq', k1, hm, tb2_nth, nth_row, e]
    | some r =>
      rw [hr, rl_some] at e
      have hr' := hB r hr
      have e1 : IntKind.i64.wrap (sum + x) = sum + x := wrap_eq (by unfold I64; omega)
      have e2 : IntKind.i64.wrap (sum + x + r) = sum + x + r := wrap_eq (by unfold I64; omega)
      by_cases c2 : sum + x + r < 0
      · simp [ht, hw, hq', k1, hm, tb2_nth, nth_row, e, e1, e2, c2, hmo]
      · simp [ht, hw, hq', k1, hm, tb2_nth, nth_row, e, e1, e2, c2]
  · have c1' : ¬ (a : Int) = (at' : Int) := by omega
    simp [ht, hw, hq', k1, hm, tb2_nth, nth_row, c1, c1']
theorem loop39_0 (call : Oracle) (fuel : Nat) (hF : 100 < fuel) (n : Nat) (l : List Bn) (h : VB n l) (b : Bool) (s len : Nat) (hs : s < l.length) (h2 : 2 ≤ len) (h16 : len ≤ 16) (hg : ngC l s len = true) (fu : Nat) (hf : 100 < fu) (st : St)
    (h0 : drops st h39_0 = L39_0 (.ro (sd b (nbL l))) (ii s) (ii len) (.own (wT (len - 1 + 1) n (l.drop (s + 1)) (nth l zN s).1)) (.own (si false (zl (stK l (wC l s) s len 0).1))) (ii (stK l (wC l s) s len 0).2.1) (ii (stK l (wC l s) s len 0).2.2)) :
    run.loopN (run call fuel b39_0) fu st = some (.ex 0, X39_0 (.own (si false (zl (stK l (wC l s) s len (len - 1)).1)))) := by
  refine loop_cnt call fuel h39_0 _ (len - 1) (fun k => L39_0 (.ro (sd b (nbL l))) (ii s) (ii len) (.own (wT (len - 1 + 1) n (l.drop (s + 1)) (nth l zN s).1)) (.own (si false (zl (stK l (wC l s) s len k).1))) (ii (stK l (wC l s) s len k).2.1) (ii (stK l (wC l s) s len k).2.2)) _ (by simp) ?_ ?_ fu st h0 (by omega)
  · intro k hk
    have hI := stK_ok h hs hg k (by omega)
    have hN : stK l (wC l s) s len (k + 1) = stp l (wC l s) s (len - 2 - k) (stK l (wC l s) s len k) := rfl
    rw [hN]
    generalize stK l (wC l s) s len k = q at *
    obtain ⟨r, h3, h4⟩ := hI.left
    rw [show len - 1 - k = (len - 2 - k) + 1 by omega] at h3
    obtain ⟨j, h5, _, _⟩ := pick_some h3 h4
    have hlo := hI.lo
    have hhi := hI.hi
    have hc := hI.cnt
    have hL := loop39_1 call fuel n l h b s len (len - 1 + 1) (len - 2 - k) (by omega) (by omega) q (by omega) (by omega) (by omega) fuel hF
    rw [h5] at hL
    unfold stp
    rw [h5]
    simp only [Option.elim_some] at hL ⊢
    generalize goT l q (ad (s + 1) j) = q' at *
    generalize hle : len - 2 - k = left at *
    have hlen := h.len
    obtain ⟨c, hcc⟩ : ∃ c, c = q.1.length := ⟨_, rfl⟩
    have hlt : c < len := by omega
    have e1 : IntKind.i64.wrap ((len : Int) - (c : Int)) = ((left + 1 : Nat) : Int) := by rw [wrap_eq (by unfold I64; omega)]; omega
    have e2 : IntKind.i64.wrap (left : Int) = (left : Int) := wrap_eq (by unfold I64; omega)
    have e3 : IntKind.i64.wrap ((s : Int) + 1) = ((ad (s + 1) 0 : Nat) : Int) := by rw [wrap_eq (by unfold I64; omega)]; unfold ad; omega
    simp [← hcc, hlt, e1, e2, e3]
    rw [hL _ (by simp) hs]
    simp
  · have hI := stK_ok h hs hg (len - 1) (by omega)
    generalize stK l (wC l s) s len (len - 1) = q at *
    have hc := hI.cnt
    obtain ⟨c, hcc⟩ : ∃ c, c = q.1.length := ⟨_, rfl⟩
    have hlt : ¬ c < len := by omega
    simp [← hcc, hlt]

/-- A cycle, or none. -/
def cyc (l : List Bn) (s len : Nat) : Option (List Nat) := if ngC l s len = true then some (stK l (wC l s) s len (len - 1)).1 else none
def cycD (l : List Bn) (s len : Nat) : D := match cyc l s len with
  | some c => si false (zl c)
  | none => nilI
theorem f39 (call : Oracle) (fuel : Nat) (hF : 100 < fuel) (n : Nat) (l : List Bn) (h : VB n l) (b : Bool) (s len : Nat) (hs : s < l.length) (h2 : 2 ≤ len) (h16 : len ≤ 16)
    (h50 : call 50 [nV n, sd b (nbL l), nV ((s + 1 : Nat) : Int), nV (nth l zN s).1, nV ((len - 1 : Nat) : Int)] = some (wT (len - 1 + 1) n (l.drop (s + 1)) (nth l zN s).1)) :
    callF call fuel c39 [nV n, sd b (nbL l), nV s, nV len] = some (cycD l s len) := by
  rw [callF_tab call fuel c39 17 _ (by exact Nat.le_of_ble_eq_true rfl) (by exact Nat.le_of_ble_eq_true rfl)]
  have hlen := h.len
  obtain ⟨s1, hs1⟩ : ∃ s1, s1 = s + 1 := ⟨_, rfl⟩
  obtain ⟨l1, hl1⟩ : ∃ l1, l1 = len - 1 := ⟨_, rfl⟩
  have e1 : IntKind.i64.wrap ((s : Int) + 1) = (s1 : Int) := by rw [wrap_eq (by unfold I64; omega)]; omega
  have e2 : IntKind.i64.wrap ((len : Int) - 1) = (l1 : Int) := by rw [wrap_eq (by unfold I64; omega)]; omega
  have hB := wC_bd h s l1 (nth l zN s).2.1 (by omega)
  have hL := loop39_0 call fuel hF n l h b s len hs h2 h16
  have hv := h.at hs
  have hx := h.c _ (nth_mem zN hs)
  have hq0 : stK l (wC l s) s len 0 = ([s], (nth l zN s).2.2, (nth l zN s).2.1) := rfl
  rw [hq0] at hL
  unfold cycD cyc
  unfold ngC at hL ⊢
  rw [← hs1, ← hl1] at h50
  rw [← hl1] at hL ⊢
  have hG : wC l s = W (l.drop (s + 1)) (nth l zN s).1 := rfl
  dsimp only [wT] at hL h50
  rw [← hs1] at hL
  rw [hG, ← hs1] at hB
  generalize hw : wC l s = w at *
  rw [← hs1] at hG
  rw [← hG] at hL h50 hB
  generalize hq' : nth l zN s = c at *
  obtain ⟨a, b', x⟩ := c
  simp only at hL h50 hB hv hx ⊢
  have k1 : b' < n := hv.2.1
  have k2 : l1 < l1 + 1 := by omega
  have e : rlR (w l1) b' = rl (w l1 b') := rfl
  have hz : T.nd (K.sl false 1 1) [T.v (Value.int .i64 (s : Int))] = si false (zl [s]) := rfl
  cases hr : w l1 b' with
  | none =>
    rw [hr, rl_none] at e
    simp [c39, hs, hq', e1, e2, h50, k1, k2, tb2_nth, nth_row, e]
    rfl
  | some r =>
    rw [hr, rl_some] at e
    rw [hr] at hL
    have hr' := hB r hr
    have e3 : IntKind.i64.wrap (x + r) = x + r := wrap_eq (by unfold I64; omega)
    by_cases c2 : x + r < 0
    · have c3 : ¬ 0 ≤ x + r := by omega
      have hL := hL (by simpa using c2) fuel hF
      simp [c39, hs, hq', e1, e2, h50, k1, k2, tb2_nth, nth_row, e, e3, c2, c3, hz]
      rw [hL _ (by simp)]
      simp
    · have c3 : 0 ≤ x + r := by omega
      simp [c39, hs, hq', e1, e2, h50, k1, k2, tb2_nth, nth_row, e, e3, c2, c3, hz]
      rfl
end Go.Mx
