import Derived.Test.YtigplgminjhgmaaJoM
/-
  Journals: the laws of reading.
-/
namespace Go.Mx
set_option linter.unusedVariables false
set_option linter.unusedSimpArgs false
set_option linter.unusedSectionVars false
open Go

theorem find_first {n : Nat} {stop : Nat → Bool} : (∃ j, j < n ∧ stop j = true ∧ (∀ i, i < j → stop i = false) ∧ (List.range n).find? stop = some j) ∨ ((∀ i, i < n → stop i = false) ∧ (List.range n).find? stop = none) := by
  cases h : (List.range n).find? stop with
  | none =>
    right
    refine ⟨fun i hi => ?_, rfl⟩
    have := List.find?_eq_none.1 h i (List.mem_range.2 hi)
    simpa using this
  | some j =>
    left
    rw [List.find?_range_eq_some] at h
    exact ⟨j, by simpa using h.2.1, h.1, fun i hi => by simpa using h.2.2 i hi, rfl⟩
theorem loop5 (call : Oracle) (fuel : Nat) (b : Bool) (l : List EN) (hf : fewB l = true) (n : Nat) (h5 : 5 ≤ n) (hn : n ≤ 10000) (v10 v11 : Value) (K : List D) (fu : Nat) (hfu : 20000 < fu) :
    ∃ j, j ≤ l.length ∧ byN (esL l) j ≤ n ∧ (j < l.length → n < byN (esL l) (j + 1)) ∧ ∀ st, drops st h5_0 = L5_0 (.ro (sE b l)) (ii n) (.own (.nd (.bx false) K)) (.sc v10) (.sc v11) (ii 5) (ii 0) → run.loopN (run call fuel b5_0) fu st = some (.ex 0, X5_0 (ii n) (.own (.nd (.bx false) K)) (.sc v10) (.sc v11) (ii (byN (esL l) j)) (ii j)) := by
  obtain ⟨f1, f2⟩ := few_ok hf
  have hbs : ∀ j, j < l.length → byN (esL l) (j + 1) = byN (esL l) j + (nth l (0, (true, [])) j).2.2.length + 9 := by
    intro j hj
    rw [by_succ (esL l) (by simpa using hj)]
    have : nth (esL l) (0, []) j = ((nth l (0, (true, [])) j).1, (nth l (0, (true, [])) j).2.2) := nth_map (fun e : EN => (e.1, e.2.2)) l (0, (true, [])) j
    rw [this]
  have hle : ∀ j, byN (esL l) j ≤ 1275 := by
    intro j
    have h1 := few_len hf
    have h2 : jbL (esL l) = jbL ((esL l).take j) ++ ((esL l).drop j).flatMap fun e => sealL e.1 e.2 := by
      unfold jbL
      rw [List.append_assoc, ← List.flatMap_append, List.take_append_drop]
    have h3 := congrArg List.length h2
    rw [List.length_append] at h3
    unfold byN
    omega
  have L := loop_find call fuel h5_0 (tlC b5_0) l.length (fun j => decide (n < byN (esL l) (j + 1))) (fun j => L5_0 (.ro (sE b l)) (ii n) (.own (.nd (.bx false) K)) (.sc v10) (.sc v11) (ii (byN (esL l) j)) (ii j)) (fun j => (.ex 0, X5_0 (ii n) (.own (.nd (.bx false) K)) (.sc v10) (.sc v11) (ii (byN (esL l) j)) (ii j)))
    (.ex 0, X5_0 (ii n) (.own (.nd (.bx false) K)) (.sc v10) (.sc v11) (ii (byN (esL l) l.length)) (ii l.length)) (by simp) (by simp) ?_ ?_ fu
  · rw [show b5_0 = .seq (.scr h5_0) (tlC b5_0) from rfl]
    rcases find_first (n := l.length) (stop := fun j => decide (n < byN (esL l) (j + 1))) with ⟨j, hj, h1, h2, h3⟩ | ⟨h1, h3⟩
    · rw [h3] at L
      refine ⟨j, by omega, ?_, fun _ => by simpa using h1, fun st h0 => L st (by rw [h0]; rfl) (by omega)⟩
      cases j with
      | zero => exact h5
      | succ j => exact Nat.le_of_not_lt (of_decide_eq_false (h2 j (by omega)))
    · rw [h3] at L
      refine ⟨l.length, by omega, ?_, fun h => absurd h (Nat.lt_irrefl _), fun st h0 => L st (by rw [h0]; rfl) (by omega)⟩
      have h6 : l.length = 0 ∨ ∃ m, l.length = m + 1 := by
        rcases l.length with _ | m
        · exact .inl rfl
        · exact .inr ⟨m, rfl⟩
      rcases h6 with h6 | ⟨m, h6⟩
      · rw [h6]; exact h5
      · have h7 : ¬ n < byN (esL l) (m + 1) := of_decide_eq_false (h1 m (by omega))
        rw [h6]
        exact Nat.le_of_not_lt h7
  · intro j hj hs
    have hw := wrap_succ (i := j) (by omega)
    have hb1 := hbs j hj
    have hb2 := hle j
    have hd := f2 _ (nth_mem (0, (true, [])) hj)
    rw [hb1]
    generalize byN (esL l) j = B at *
    have w1 : IntKind.i64.wrap ((B : Int) + ((nth l (0, (true, [])) j).2.2.length : Int)) = (B : Int) + ((nth l (0, (true, [])) j).2.2.length : Int) := wrap_eq (by unfold I64; omega)
    have w2 : IntKind.i64.wrap ((B : Int) + ((nth l (0, (true, [])) j).2.2.length : Int) + 9) = (B : Int) + ((nth l (0, (true, [])) j).2.2.length : Int) + 9 := wrap_eq (by unfold I64; omega)
    by_cases hc : n < B + (nth l (0, (true, [])) j).2.2.length + 9
    · have i1 : ¬ (B : Int) + ((nth l (0, (true, [])) j).2.2.length : Int) + 9 ≤ (n : Int) := by omega
      simp [tlC, b5_0, hj, hw, w1, w2, hc, i1]
    · have i1 : (B : Int) + ((nth l (0, (true, [])) j).2.2.length : Int) + 9 ≤ (n : Int) := by omega
      simp [tlC, b5_0, hj, hw, w1, w2, hc, i1]
  · intro _
    simp [tlC, b5_0]
theorem f5a (call : Oracle) (fuel : Nat) (h10 : call 10 [] = some (bV true)) (b : Bool) (l : List EN) (x : Nat) (hx : x < 65536) (h11 : call 11 [sE b l] = some (bV false)) : callF call fuel c5 [sE b l, .v (.int .u16 (x : Int))] = some (bV true) := by
  rw [callF_tab call fuel c5 47 _ (by exact Nat.le_of_ble_eq_true rfl) (by exact Nat.le_of_ble_eq_true rfl)]
  simp [c5, h10, h11]
theorem f5 (call : Oracle) (fuel : Nat) (hF : 20000 < fuel) (h10 : call 10 [] = some (bV true)) (b : Bool) (l : List EN) (x : Nat) (hx : x < 65536) (h11 : call 11 [sE b l] = some (bV true)) (hf : fewB l = true) (J W : List D)
    (h17 : call 17 [sE b l] = some (.nd .tu [.nd (.bx false) J, .nd (.bx false) W])) (al : List Nat) (hal : al.length ≤ 1275) (h18 : call 18 [.nd (.bx false) J] = some (su8 false al)) (n : Nat) (hn : n = x % (al.length + 1))
    (h19 : n < 5 → call 19 [su8 false (al.take n)] = some (.nd .tu [ptr0, nV 0, nV 4]) ∧ call 20 [su8 false (al.take n)] = some (.nd .tu [ptr0, nV 0, nV 4]) ∧ call 16 [ptr0, ptr0] = some (bV true))
    (h20 : 5 ≤ n → ∃ (dJ dW : List D) (r : Nat), call 19 [su8 false (al.take n)] = some (.nd .tu [.nd (.bx false) dJ, nV r, nV 0]) ∧ call 20 [su8 false (al.take n)] = some (.nd .tu [.nd (.bx false) dW, nV r, nV 0]) ∧ call 16 [.nd (.bx false) dJ, .nd (.bx false) dW] = some (bV true) ∧
      ∀ j, j ≤ l.length → byN (esL l) j ≤ n → (j < l.length → n < byN (esL l) (j + 1)) → call 21 [.nd (.bx false) dJ] = some (nV j) ∧ r = n - byN (esL l) j) :
    callF call fuel c5 [sE b l, .v (.int .u16 (x : Int))] = some (bV true) := by
  rw [callF_tab call fuel c5 47 _ (by exact Nat.le_of_ble_eq_true rfl) (by exact Nat.le_of_ble_eq_true rfl)]
  have w1 : IntKind.i64.wrap (x : Int) = (x : Int) := wrapI (by omega) (by omega)
  have w2 := wrap_succ (i := al.length) (by omega)
  have w3 : (x : Int).tmod ((al.length : Int) + 1) = (n : Int) := by
    have := tmod_nat x (al.length + 1)
    rw [hn, ← this]; rfl
  have hnl : n ≤ al.length := by
    have := Nat.mod_lt x (show 0 < al.length + 1 by omega)
    omega
  have hnz : ¬ (al.length : Int) + 1 = 0 := by omega
  by_cases h5 : n < 5
  · obtain ⟨k1, k2, k3⟩ := h19 h5
    have i1 : (n : Int) < 5 := by omega
    simp [c5, h10, h11, h17, h18, w1, w2, w3, hnl, hnz, k1, k2, k3, i1]
  · obtain ⟨dJ, dW, r, k1, k2, k3, k4⟩ := h20 (by omega)
    have i1 : ¬ (n : Int) < 5 := by omega
    simp [c5, h10, h11, h17, h18, w1, w2, w3, hnl, hnz, k1, k2, k3, i1]
    obtain ⟨j, j1, j2, j3, L⟩ := loop5 call fuel b l hf n (by omega) (by omega) (.int .i64 (r : Int)) (.int .i64 0) dJ fuel hF
    obtain ⟨k21, hr⟩ := k4 j j1 j2 j3
    rw [L _ (by simp)]
    have w4 : IntKind.i64.wrap ((n : Int) - (byN (esL l) j : Int)) = (r : Int) := by
      rw [wrap_eq (by unfold I64; omega)]; omega
    generalize byN (esL l) j = B at *
    simp [k21, w4]
theorem esL_by {l : List EN} (hb : ByE l) (hf : fewB l = true) : ∀ e ∈ esL l, e.2.length ≤ 8192 := fun e he => ((okJ_es hb hf).by8 e he).2.2
theorem take_len {α : Type} (l : List α) (n : Nat) : (l.take n).length = min n l.length := List.length_take ..
theorem law5 (b : Bool) (l : List EN) (hb : ByE l) (x : Nat) (hx : x < 65536) : S 7 5 [sE b l, .v (.int .u16 (x : Int))] = some (bV true) := by
  rw [S, sem_succ (mf := c5) rfl]
  by_cases hf : fewB l = true
  · have hJ := okJ_es hb hf
    have hlen := few_len hf
    have hby := By.jb hJ.by8
    have h30 := (few_ok hf).1
    refine f5 _ _ (by decide) awake_ok b l x hx (by rw [← hf]; exact s11 5 b l) hf _ _ (s17 1 b l hb hf) (jbL (esL l)) hlen (s18 4 _ _ (by omega)) _ rfl ?_ ?_
    all_goals
      have hnl : x % ((jbL (esL l)).length + 1) ≤ (jbL (esL l)).length := by
        have := Nat.mod_lt x (show 0 < (jbL (esL l)).length + 1 by omega)
        omega
      generalize x % ((jbL (esL l)).length + 1) = n at *
      have hbt := hby.take n
      have htl := take_len (jbL (esL l)) n
      intro h5
      have k19 := s19 3 false _ (by simp) hbt (by omega)
      have k20 := s20 3 false _ (by simp) hbt (by omega)
    · have e1 : opJ ((jbL (esL l)).take n) = .nd .tu [ptr0, nV 0, nV 4] := if_pos (by omega)
      have e2 : opW ((jbL (esL l)).take n) = .nd .tu [ptr0, nV 0, nV 4] := if_pos (by omega)
      rw [e1] at k19
      rw [e2] at k20
      exact ⟨k19, k20, s16n 2⟩
    · have h5' : ¬ ((jbL (esL l)).take n).length < 5 := by omega
      have hpc := fun j => pal_cut (esL_by hb hf) hnl (j := j)
      obtain ⟨j, j1, j2, j3⟩ : ∃ j, j ≤ (esL l).length ∧ byN (esL l) j ≤ n ∧ (j < (esL l).length → n < byN (esL l) (j + 1)) := by
        rcases find_first (n := (esL l).length) (stop := fun j => decide (n < byN (esL l) (j + 1))) with ⟨j, hj, h1, h2, h3⟩ | ⟨h1, h3⟩
        · refine ⟨j, by omega, ?_, fun _ => of_decide_eq_true h1⟩
          cases j with
          | zero => exact h5
          | succ j => exact Nat.le_of_not_lt (of_decide_eq_false (h2 j (by omega)))
        · refine ⟨(esL l).length, by omega, ?_, fun h => absurd h (Nat.lt_irrefl _)⟩
          have h6 : (esL l).length = 0 ∨ ∃ m, (esL l).length = m + 1 := by
            rcases (esL l).length with _ | m
            · exact .inl rfl
            · exact .inr ⟨m, rfl⟩
          rcases h6 with h6 | ⟨m, h6⟩
          · rw [h6]; exact h5
          · have h7 : ¬ n < byN (esL l) (m + 1) := of_decide_eq_false (h1 m (by omega))
            rw [h6]
            exact Nat.le_of_not_lt h7
      obtain ⟨hm, r, hr, hp⟩ := hpc j j2 j1 j3
      have e1 : opJ ((jbL (esL l)).take n) = .nd .tu [jD (((esL l).take j).length == 0) ((esL l).take j), nV r.length, nV 0] := by
        unfold opJ; rw [if_neg h5', if_pos hm, hp]
      have e2 : opW ((jbL (esL l)).take n) = .nd .tu [wD (((esL l).take j).length == 0) ((esL l).take j), nV r.length, nV 0] := by
        unfold opW; rw [if_neg h5', if_pos hm, hp]
      rw [e1] at k19
      rw [e2] at k20
      have hbj : (jbL ((esL l).take j)).length ≤ n := j2
      have hok : OkJ ((esL l).take j) := ⟨fun e he => hJ.by8 e (List.mem_of_mem_take he), by omega⟩
      refine ⟨_, _, r.length, k19, k20, s16 2 _ _ _ hok (by rw [List.length_take, esL_len]; omega) (by omega), fun i i1 i2 i3 => ?_⟩
      rw [← esL_len] at i1 i3
      obtain ⟨_, r', hr', hp'⟩ := hpc i i2 i1 i3
      rw [hp] at hp'
      have e3 : (esL l).take j = (esL l).take i := congrArg Prod.fst hp'
      have e4 : r = r' := congrArg Prod.snd hp'
      refine ⟨?_, by rw [e4]; exact hr'⟩
      have e5 : ((esL l).take j).length = i := by rw [e3, List.length_take]; omega
      have := s21 5 (((esL l).take j).length == 0) ((esL l).take j)
      rw [e5] at this
      rw [e5]
      exact this
  · exact f5a _ _ awake_ok b l x hx (by have := s11 5 b l; rwa [show fewB l = false by simpa using hf] at this)
end Go.Mx
