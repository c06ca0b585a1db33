import Derived.Test.YtigplgminjhgmaaJoL
/-
  Journals: what is read of bytes that are cut off.
-/
namespace Go.Mx
set_option linter.unusedVariables false
set_option linter.unusedSimpArgs false
set_option linter.unusedSectionVars false
open Go

theorem okS_seal (k : Nat) (d r : List Nat) (hd : d.length ≤ 8192) : okS (sealL k d ++ r) := by
  by_cases h : okS (sealL k d ++ r)
  · exact h
  · obtain ⟨e, he, h1⟩ := opn_no h
    rw [open_seal k d r hd] at h1
    simp [okD, oE] at h1
    omega
theorem okS_torn (k : Nat) (d : List Nat) (hd : d.length ≤ 8192) (c : Nat) (hc : c < d.length + 9) : ¬ okS ((sealL k d).take c) := by
  intro h
  have h1 := opn_ok h
  rw [open_torn k d hd c hc] at h1
  simp [okO, oE] at h1
theorem seal_parts (k : Nat) (d r : List Nat) (hd : d.length ≤ 8192) : nth (sealL k d ++ r) 0 1 = k ∧ ((sealL k d ++ r).drop 5).take (len3 (sealL k d ++ r)) = d ∧ (sealL k d ++ r).drop (len3 (sealL k d ++ r) + 9) = r := by
  rw [seal_cons, len3_cons _ _ _ _ hd]
  refine ⟨rfl, by simp, ?_⟩
  show List.drop (d.length + 4) (d ++ (bigL (adler (bodyL k d)) 4 ++ r)) = r
  rw [← List.append_assoc, List.drop_left' (by simp)]
theorem fin_seal (n : Nat) (a : ES) (k : Nat) (d r : List Nat) (hd : d.length ≤ 8192) : finN (n + 1) (a, sealL k d ++ r) = finN n (a ++ [(k, d)], r) := by
  obtain ⟨h1, h2, h3⟩ := seal_parts k d r hd
  have ho := okS_seal k d r hd
  generalize sealL k d ++ r = q at *
  show (if okS q then finN n (a ++ [(nth q 0 1, (q.drop 5).take (len3 q))], q.drop (len3 q + 9)) else (a, q)) = _
  rw [if_pos ho, h1, h2, h3]
theorem fin_torn (n : Nat) (a : ES) (r : List Nat) (h : ¬ okS r) : finN n (a, r) = (a, r) := by
  cases n with
  | zero => rfl
  | succ n => show (if okS r then _ else (a, r)) = _; rw [if_neg h]
theorem fin_es : ∀ (es : ES) (n : Nat) (a : ES) (r : List Nat), (∀ e ∈ es, e.2.length ≤ 8192) → es.length ≤ n → ¬ okS r → finN n (a, (es.flatMap fun e => sealL e.1 e.2) ++ r) = (a ++ es, r)
  | [], n, a, r, _, _, h => by simpa using fin_torn n a r h
  | e :: es, 0, a, r, _, hn, _ => by simp at hn
  | e :: es, n + 1, a, r, hd, hn, h => by
    rw [List.flatMap_cons, List.append_assoc, fin_seal n a e.1 e.2 _ (hd e (List.mem_cons_self ..)), fin_es es n _ r (fun x hx => hd x (List.mem_cons_of_mem _ hx)) (by simpa using hn) h]
    simp
theorem pal_of {es : ES} (hd : ∀ e ∈ es, e.2.length ≤ 8192) (r : List Nat) (h : ¬ okS r) : (jbL es ++ r).take 5 = magL ∧ pal (jbL es ++ r) = (es, r) := by
  have e1 : jbL es ++ r = magL ++ ((es.flatMap fun e => sealL e.1 e.2) ++ r) := by simp [jbL]
  have e2 : (jbL es ++ r).drop 5 = (es.flatMap fun e => sealL e.1 e.2) ++ r := by rw [e1]; rfl
  refine ⟨by rw [e1]; rfl, ?_⟩
  unfold pal
  rw [e2, fin_es es _ [] r hd _ h]
  · simp
  · have h9 := jb_ge es
    have : (jbL es).length = 5 + (es.flatMap fun e => sealL e.1 e.2).length := by simp [jbL, magL]; omega
    rw [List.length_append]
    omega
theorem nil_torn : ¬ okS [] := by intro h; exact absurd h.1 (by simp)
/-- Where an entry ends. -/
abbrev byN (es : ES) (j : Nat) : Nat := (jbL (es.take j)).length
theorem by_succ (es : ES) {j : Nat} (h : j < es.length) : byN es (j + 1) = byN es j + (nth es (0, []) j).2.length + 9 := by
  unfold byN
  rw [List.take_succ_eq_append_getElem h, jb_len_snoc, nth_get _ h]
  omega
theorem pal_cut {es : ES} (hd : ∀ e ∈ es, e.2.length ≤ 8192) {n j : Nat} (hn : n ≤ (jbL es).length) (hj : byN es j ≤ n) (hl : j ≤ es.length) (hs : j < es.length → n < byN es (j + 1)) :
    ((jbL es).take n).take 5 = magL ∧ ∃ r, r.length = n - byN es j ∧ pal ((jbL es).take n) = (es.take j, r) := by
  have hdj : ∀ e ∈ es.take j, e.2.length ≤ 8192 := fun e he => hd e (List.mem_of_mem_take he)
  by_cases h : j < es.length
  · have hs := hs h
    have e1 : es = es.take j ++ (nth es (0, []) j :: es.drop (j + 1)) := by
      rw [nth_get _ h, ← List.drop_eq_getElem_cons h, List.take_append_drop]
    have e2 : jbL es = jbL (es.take j) ++ (sealL (nth es (0, []) j).1 (nth es (0, []) j).2 ++ (es.drop (j + 1)).flatMap fun e => sealL e.1 e.2) := by
      conv => lhs; rw [e1]
      simp [jbL]
    have hde := hd _ (nth_mem (0, []) h)
    rw [by_succ es h] at hs
    have e3 : (jbL es).take n = jbL (es.take j) ++ (sealL (nth es (0, []) j).1 (nth es (0, []) j).2).take (n - byN es j) := by
      rw [e2, List.take_append, List.take_of_length_le hj, List.take_append_of_le_length (by rw [seal_len]; unfold byN at *; omega)]
    rw [e3]
    obtain ⟨p1, p2⟩ := pal_of hdj _ (okS_torn _ _ hde (n - byN es j) (by omega))
    exact ⟨p1, _, by rw [List.length_take, seal_len]; omega, p2⟩
  · have hj' : j = es.length := by omega
    subst hj'
    unfold byN at *
    rw [List.take_length] at *
    have hn' : n = (jbL es).length := by omega
    subst hn'
    rw [List.take_length]
    obtain ⟨p1, p2⟩ := pal_of hd [] nil_torn
    rw [List.append_nil] at p1 p2
    exact ⟨p1, [], by simp, p2⟩
end Go.Mx
