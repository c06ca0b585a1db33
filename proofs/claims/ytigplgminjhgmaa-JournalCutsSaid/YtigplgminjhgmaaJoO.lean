import Derived.Test.YtigplgminjhgmaaJoN
/-
  Journals: the laws of going on, and of cutting.
-/
namespace Go.Mx
set_option linter.unusedVariables false
set_option linter.unusedSimpArgs false
set_option linter.unusedSectionVars false
open Go

theorem loop7 (call : Oracle) (fuel : Nat) (H : ApOK call) (b : Bool) (m : List EN) (hb : ByE m) (hf : fewB m = true) (E : ES) (hE : OkJ E) (hEl : E.length ≤ 30) (hEj : (jbL E).length ≤ 1275) (fu : Nat) (hfu : 20000 < fu) (st : St)
    (h0 : drops st h7_0 = L7_0 (.ro (sE b m)) (.own (jD (E.length == 0) E)) (.own (jD (E.length == 0) E)) (ii 0)) :
    run.loopN (run call fuel b7_0) fu st = some (.ex 0, X7_0 (.own (jD ((E ++ esL m).length == 0) (E ++ esL m))) (.own (jD ((E ++ esL m).length == 0) (E ++ esL m)))) := by
  obtain ⟨f1, f2⟩ := few_ok hf
  have e1 : esL (m.take m.length) = esL m := by rw [List.take_length]
  rw [← e1]
  refine loop_cnt call fuel h7_0 _ m.length (fun i => L7_0 (.ro (sE b m)) (.own (jD ((E ++ esL (m.take i)).length == 0) (E ++ esL (m.take i)))) (.own (jD ((E ++ esL (m.take i)).length == 0) (E ++ esL (m.take i)))) (ii i)) _ (by simp) ?_ (by simp) fu st (by rw [h0]; simp [esL]) (by omega)
  intro i hi
  have hw := wrap_succ (i := i) (by omega)
  have hmem := nth_mem (0, (true, [])) hi
  obtain ⟨b1, b2⟩ := hb _ hmem
  have b3 := f2 _ hmem
  have hlt : (m.take i).length = i := by rw [List.length_take]; omega
  have hbd := jb_bound (m.take i) fun e he => f2 e (List.mem_of_mem_take he)
  have hja : (jbL (E ++ esL (m.take i))).length + 5 = (jbL E).length + (jbL (esL (m.take i))).length := by
    simp [jbL, magL]
    omega
  have k14 := H.j ((E ++ esL (m.take i)).length == 0) (nth m (0, (true, [])) i).2.1 (E ++ esL (m.take i)) _ _ (by omega) (by simp; omega) b1 b2 (by omega)
  rw [apJ_ok (by omega) (by omega)] at k14
  have ef : ((E ++ esL (m.take (i + 1))).length == 0) = false := by rw [beq_eq_false_iff_ne, List.length_append, esL_len, List.length_take]; omega
  rw [ef]
  rw [esL_take_succ m hi, ← List.append_assoc]
  generalize E ++ esL (m.take i) = F at *
  generalize hje : jD false (F ++ [((nth m (0, (true, [])) i).1, (nth m (0, (true, [])) i).2.2)]) = J' at *
  obtain ⟨J1, rfl⟩ : ∃ k, J' = .nd (.bx false) k := ⟨_, hje.symm⟩
  simp [hi, hw, k14]
theorem f7a (call : Oracle) (fuel : Nat) (h10 : call 10 [] = some (bV true)) (b c : Bool) (l m : List EN) (h : fewB l = false ∨ fewB m = false) (h11 : call 11 [sE b l] = some (bV (fewB l))) (h11' : call 11 [sE c m] = some (bV (fewB m))) :
    callF call fuel c7 [sE b l, sE c m] = some (bV true) := by
  rw [callF_tab call fuel c7 30 _ (by exact Nat.le_of_ble_eq_true rfl) (by exact Nat.le_of_ble_eq_true rfl)]
  generalize fewB l = x at *
  generalize fewB m = y at *
  cases x <;> cases y <;> simp at h <;> simp [c7, h10, h11, h11']
theorem f7 (call : Oracle) (fuel : Nat) (hF : 20000 < fuel) (H : ApOK call) (h10 : call 10 [] = some (bV true)) (b c : Bool) (l m : List EN) (hbl : ByE l) (hbm : ByE m) (hl : fewB l = true) (hm : fewB m = true) (h11 : call 11 [sE b l] = some (bV true)) (h11' : call 11 [sE c m] = some (bV true))
    (h17 : call 17 [sE b l] = some (.nd .tu [jD (l.length == 0) (esL l), wD (l.length == 0) (esL l)]))
    (h18 : ∀ b es, (jbL es).length ≤ 20000 → call 18 [jD b es] = some (su8 false (jbL es))) (h19 : call 19 [su8 false (jbL (esL l))] = some (.nd .tu [jD (l.length == 0) (esL l), nV 0, nV 0]))
    (h21 : ∀ b es, call 21 [jD b es] = some (nV es.length)) (h22 : ∀ l, By l → call 22 [su8 false l, su8 false l] = some (bV true)) :
    callF call fuel c7 [sE b l, sE c m] = some (bV true) := by
  rw [callF_tab call fuel c7 30 _ (by exact Nat.le_of_ble_eq_true rfl) (by exact Nat.le_of_ble_eq_true rfl)]
  have hJ := okJ_es hbl hl
  have hM := okJ_es hbm hm
  have hlen := few_len hl
  have hlen' := few_len hm
  have L := loop7 call fuel H c m hbm hm (esL l) hJ (by have := (few_ok hl).1; rwa [esL_len]) hlen fuel hF
  have hja : (jbL (esL l ++ esL m)).length + 5 = (jbL (esL l)).length + (jbL (esL m)).length := by
    simp [jbL, magL]
    omega
  have k18 := h18 (l.length == 0) (esL l) (by omega)
  have k18' := h18 ((esL l ++ esL m).length == 0) (esL l ++ esL m) (by omega)
  have k21 := h21 ((esL l ++ esL m).length == 0) (esL l ++ esL m)
  have hby : By (jbL (esL l ++ esL m)) := By.jb fun e he => (List.mem_append.1 he).elim (hJ.by8 e) (hM.by8 e)
  have k22 := h22 _ hby
  rw [esL_len] at L
  generalize hE : (esL l ++ esL m) = E at *
  generalize hx : (E.length == 0) = x at *
  generalize hy : (l.length == 0) = y at *
  simp [c7, h10, h11, h11', h17, k18, h19]
  rw [L _ (by simp)]
  simp [k18', k21, k22]
theorem law7 (b c : Bool) (l m : List EN) (hbl : ByE l) (hbm : ByE m) : S 7 7 [sE b l, sE c m] = some (bV true) := by
  rw [S, sem_succ (mf := c7) rfl]
  by_cases hl : fewB l = true
  · by_cases hm : fewB m = true
    · have hJ := okJ_es hbl hl
      have hlen := few_len hl
      have hby := By.jb hJ.by8
      have k19 := s19 3 false (jbL (esL l)) (by simp) hby (by omega)
      obtain ⟨p1, p2⟩ := pal_of (fun e he => (hJ.by8 e he).2.2) [] nil_torn
      rw [List.append_nil] at p1 p2
      have h5 : ¬ (jbL (esL l)).length < 5 := by simp [jbL, magL]
      have e1 : opJ (jbL (esL l)) = .nd .tu [jD (l.length == 0) (esL l), nV 0, nV 0] := by
        unfold opJ; rw [if_neg h5, if_pos p1, p2]; dsimp only; rw [esL_len]; rfl
      rw [e1] at k19
      exact f7 _ _ (by decide) (apOK 2) awake_ok b c l m hbl hbm hl hm (by rw [← hl]; exact s11 5 b l) (by rw [← hm]; exact s11 5 c m) (s17 1 b l hbl hl) (s18 4) k19 (s21 5) (s22r 5 false false)
    · exact f7a _ _ awake_ok b c l m (.inr (by simpa using hm)) (s11 5 b l) (s11 5 c m)
  · exact f7a _ _ awake_ok b c l m (.inl (by simpa using hl)) (s11 5 b l) (s11 5 c m)
end Go.Mx
