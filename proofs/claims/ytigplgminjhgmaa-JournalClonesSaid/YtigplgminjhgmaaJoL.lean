import Derived.Test.YtigplgminjhgmaaJoK
import Derived.Test.YtigplgminjhgmaaJoW
/-
  Journals: the laws of appending and of filling.
-/
namespace Go.Mx
set_option linter.unusedVariables false
set_option linter.unusedSimpArgs false
set_option linter.unusedSectionVars false
open Go

theorem mn_len {l : List EN} (h : ∀ e ∈ l, e.2.2.length ≤ 1000) : ∀ i, i ≤ l.length → (jbL (esL (l.take i))).length = 5 + mnL l i + 9 * i
  | 0, _ => rfl
  | i + 1, hi => by
    have hi' : i < l.length := hi
    have h1 := mn_len h i (by omega)
    have h2 := h _ (nth_mem (0, (true, [])) hi')
    rw [esL_take_succ l hi', jb_len_snoc, h1, mnL]
    dsimp only
    omega
theorem few_len {l : List EN} (hf : fewB l = true) : (jbL (esL l)).length ≤ 1275 := by
  obtain ⟨h1, h2⟩ := few_ok hf
  have h3 := mn_len h2 l.length (Nat.le_refl _)
  rw [List.take_length] at h3
  unfold fewB at hf
  simp only [Bool.and_eq_true, decide_eq_true_eq] at hf
  have : min l.length 50 = l.length := by omega
  rw [this] at hf
  omega
theorem loop3 (call : Oracle) (fuel : Nat) (H : ApOK call) (b : Bool) (l : List EN) (hb : ByE l) (hf : fewB l = true) (fu : Nat) (hfu : 20000 < fu) (st : St)
    (h0 : drops st h3_0 = L3_0 (.ro (sE b l)) (.own (jD true [])) (.own (wD true [])) (ii 0)) :
    run.loopN (run call fuel b3_0) fu st = some (.ex 0, X3_0 (.own (jD (l.length == 0) (esL l))) (.own (wD (l.length == 0) (esL l)))) := by
  obtain ⟨f1, f2⟩ := few_ok hf
  have e1 : esL (l.take l.length) = esL l := by rw [List.take_length]
  rw [← e1]
  refine loop_cnt call fuel h3_0 _ l.length (fun i => L3_0 (.ro (sE b l)) (.own (jD (i == 0) (esL (l.take i)))) (.own (wD (i == 0) (esL (l.take i)))) (ii i)) _ (by simp) ?_ (by simp) fu st (by rw [h0]; rfl) (by omega)
  intro i hi
  have hw := wrap_succ (i := i) (by omega)
  have hmem := nth_mem (0, (true, [])) hi
  obtain ⟨b1, b2⟩ := hb _ hmem
  have b3 := f2 _ hmem
  have hlt : (l.take i).length = i := by rw [List.length_take]; omega
  have hbt : ByE (l.take i) := fun e he => hb e (List.mem_of_mem_take he)
  have hbd := jb_bound (l.take i) fun e he => f2 e (List.mem_of_mem_take he)
  have hok : OkJ (esL (l.take i)) := by
    refine ⟨fun e he => ?_, by omega⟩
    unfold esL at he
    obtain ⟨x, hx, rfl⟩ := List.mem_map.1 he
    exact ⟨(hbt x hx).1, (hbt x hx).2, by have := f2 x (List.mem_of_mem_take hx); dsimp only; omega⟩
  have k14 := H.j (i == 0) (nth l (0, (true, [])) i).2.1 (esL (l.take i)) _ _ hok.len (by simp; omega) b1 b2 (by omega)
  have k15 := H.w (i == 0) (nth l (0, (true, [])) i).2.1 (esL (l.take i)) _ _ hok (by simp; omega) b1 b2 (by omega)
  rw [apJ_ok (by omega) (by omega)] at k14
  rw [apW_ok (by omega) (by omega)] at k15
  rw [esL_take_succ l hi]
  generalize esL (l.take i) = E at *
  generalize hje : jD false (E ++ [((nth l (0, (true, [])) i).1, (nth l (0, (true, [])) i).2.2)]) = J' at *
  generalize hwe : wD false (E ++ [((nth l (0, (true, [])) i).1, (nth l (0, (true, [])) i).2.2)]) = W' at *
  obtain ⟨J1, rfl⟩ : ∃ k, J' = .nd (.bx false) k := ⟨_, hje.symm⟩
  obtain ⟨W1, rfl⟩ : ∃ k, W' = .nd (.bx false) k := ⟨_, hwe.symm⟩
  simp [hi, hw, k14, k15]
  simp [← hje, ← hwe]
theorem f3 (call : Oracle) (fuel : Nat) (hF : 20000 < fuel) (H : ApOK call) (h10 : call 10 [] = some (bV true)) (h12 : call 12 [] = some (jD true [])) (h13 : call 13 [] = some (wD true [])) (b : Bool) (l : List EN) (hb : ByE l) (h11 : call 11 [sE b l] = some (bV (fewB l)))
    (h16 : fewB l = true → call 16 [jD (l.length == 0) (esL l), wD (l.length == 0) (esL l)] = some (bV true)) :
    callF call fuel c3 [sE b l] = some (bV true) := by
  rw [callF_tab call fuel c3 6 _ (by exact Nat.le_of_ble_eq_true rfl) (by exact Nat.le_of_ble_eq_true rfl)]
  by_cases hf : fewB l = true
  · have L := loop3 call fuel H b l hb hf fuel hF
    have h16 := h16 hf
    rw [hf] at h11
    simp [c3, h12, h13, h10, h11]
    rw [L _ (by simp)]
    simp [h16]
  · have hf : fewB l = false := by simpa using hf
    rw [hf] at h11
    simp [c3, h10, h11]
theorem okJ_few {l : List EN} (hb : ByE l) (hf : fewB l = true) (k : Nat) : S (k + 4) 16 [jD (l.length == 0) (esL l), wD (l.length == 0) (esL l)] = some (bV true) :=
  s16 k _ _ _ (okJ_es hb hf) (by have := (few_ok hf).1; simp; omega) (by have := few_len hf; omega)
theorem law3 (b : Bool) (l : List EN) (hb : ByE l) : S 7 3 [sE b l] = some (bV true) := by
  rw [S, sem_succ (mf := c3) rfl]
  exact f3 _ _ (by decide) (apOK 2) awake_ok (s12 5) (s13 5) b l hb (s11 5 b l) (fun hf => okJ_few hb hf 2)

/-! ### what is read -/
theorem f6 (call : Oracle) (fuel : Nat) (h10 : call 10 [] = some (bV true)) (b : Bool) (l : List Nat) (dJ dW : D) (n e : Int) (hJW : (dJ = ptr0 ∧ dW = ptr0) ∨ ((∃ k, dJ = .nd (.bx false) k) ∧ ∃ k, dW = .nd (.bx false) k))
    (h : l.length ≤ 3000 → call 19 [su8 b l] = some (.nd .tu [dJ, nV n, nV e]) ∧ call 20 [su8 b l] = some (.nd .tu [dW, nV n, nV e]) ∧ call 16 [dJ, dW] = some (bV true)) :
    callF call fuel c6 [su8 b l] = some (bV true) := by
  rw [callF_tab call fuel c6 24 _ (by exact Nat.le_of_ble_eq_true rfl) (by exact Nat.le_of_ble_eq_true rfl)]
  by_cases hl : l.length ≤ 3000
  · obtain ⟨h1, h2, h3⟩ := h hl
    have i1 : ¬ (3000 : Int) < (l.length : Int) := by omega
    rcases hJW with ⟨rfl, rfl⟩ | ⟨⟨kj, rfl⟩, ⟨kw, rfl⟩⟩ <;> simp [c6, h10, i1, h1, h2, h3]
  · have i1 : (3000 : Int) < (l.length : Int) := by omega
    simp [c6, h10, i1]

theorem op_ok (k : Nat) {l : List Nat} (hb : By l) (hl : l.length ≤ 10000) : ∃ (dJ dW : D) (n e : Int), opJ l = .nd .tu [dJ, nV n, nV e] ∧ opW l = .nd .tu [dW, nV n, nV e] ∧
    ((dJ = ptr0 ∧ dW = ptr0) ∨ ((∃ k, dJ = .nd (.bx false) k) ∧ ∃ k, dW = .nd (.bx false) k)) ∧ S (k + 4) 16 [dJ, dW] = some (bV true) := by
  unfold opJ opW
  split
  · exact ⟨_, _, _, _, rfl, rfl, .inl ⟨rfl, rfl⟩, s16n k⟩
  split
  · rename_i h1 h2
    refine ⟨_, _, _, _, rfl, rfl, .inr ⟨⟨_, rfl⟩, _, rfl⟩, ?_⟩
    have hp := fin_pa hb ((l.drop 5).length + 1) _ (pa_0 h2)
    have h3 : (jbL (pal l).1).length ≤ l.length := by
      have := congrArg List.length hp.cat
      rw [List.length_append] at this
      unfold pal
      omega
    have h4 := jb_ge (pal l).1
    exact s16 k _ _ _ ⟨hp.by8, by omega⟩ (by omega) (by omega)
  · exact ⟨_, _, _, _, rfl, rfl, .inl ⟨rfl, rfl⟩, s16n k⟩
theorem law6 (b : Bool) (l : List Nat) (hb : By l) (hbl : b = true → l = []) : S 7 6 [su8 b l] = some (bV true) := by
  rw [S, sem_succ (mf := c6) rfl]
  by_cases hl : l.length ≤ 3000
  · obtain ⟨dJ, dW, n, e, h1, h2, h3, h4⟩ := op_ok 2 hb (l := l) (by omega)
    exact f6 _ _ awake_ok b l dJ dW n e h3 fun _ => ⟨by rw [← h1]; exact s19 3 b l hbl hb (by omega), by rw [← h2]; exact s20 3 b l hbl hb (by omega), h4⟩
  · exact f6 _ _ awake_ok b l ptr0 ptr0 0 0 (.inl ⟨rfl, rfl⟩) fun h => absurd h hl

/-! ### filling -/
abbrev zs (n : Nat) : List Nat := List.replicate n 0
def flS (k n : Nat) (es : ES) : ES := if n ≤ 8192 ∧ (jbL es).length + (n + 9) ≤ 65536 then es ++ [(k, zs n)] else es
def fl (k n : Nat) : Nat → ES
  | 0 => []
  | i + 1 => flS k n (fl k n i)
theorem ro4 (call : Oracle) (fuel : Nat) (k n : Nat) (last : Value) (hn : n ≤ 9000) (es : ES) (i : Nat) (hi : i < 20) (hes : (jbL es).length ≤ 65536) (k14 : call (14 + ioB) [jD (es.length == 0) es, kV k, su8 false (zs n)] = some (apJ (es.length == 0) es k (zs n))) :
    nxt h4_0 (run call fuel (tlC b4_0) (L4_0 (.sc (.int .u8 (k : Int))) (.sc last) (ii n) (.own (jD (es.length == 0) es)) (ii (jbL es).length) (ii i))) =
      some (.norm, L4_0 (.sc (.int .u8 (k : Int))) (.sc last) (ii n) (.own (jD ((flS k n es).length == 0) (flS k n es))) (ii (jbL (flS k n es)).length) (ii (i + 1 : Nat))) := by
  have hw := wrap_succ (i := i) (by omega)
  have hi' : (i : Int) < 20 := by omega
  have w1 : IntKind.i64.wrap (((jbL es).length : Int) + (n : Int)) = ((jbL es).length : Int) + (n : Int) := wrap_eq (by unfold I64; omega)
  have w2 : IntKind.i64.wrap (((jbL es).length : Int) + (n : Int) + 9) = ((jbL es).length : Int) + (n : Int) + 9 := wrap_eq (by unfold I64; omega)
  have hm : n ≤ most := by unfold most; omega
  unfold flS
  unfold apJ at k14
  rw [List.length_replicate] at k14
  have zz : zl (zs n) = List.replicate n 0 := by simp [zl]
  rw [show su8 false (zs n) = gsl (eI .u8) false (List.replicate n 0) by rw [← zz]] at k14
  by_cases h1 : n ≤ 8192
  · have i1 : ¬ (8192 : Int) < (n : Int) := by omega
    by_cases h2 : (jbL es).length + (n + 9) ≤ 65536
    · have i2 : ¬ (65536 : Int) < ((jbL es).length : Int) + (n : Int) + 9 := by omega
      rw [if_pos ⟨h1, h2⟩] at k14
      rw [if_pos ⟨h1, h2⟩]
      have e1 : (jbL (es ++ [(k, zs n)])).length = (jbL es).length + n + 9 := by rw [jb_len_snoc]; simp; omega
      have e2 : ((es ++ [(k, zs n)]).length == 0) = false := by simp
      rw [e1, e2]
      generalize hje : jD false (es ++ [(k, zs n)]) = J' at *
      obtain ⟨J1, rfl⟩ : ∃ k, J' = .nd (.bx false) k := ⟨_, hje.symm⟩
      simp [tlC, b4_0, hi', hw, k14, w1, w2, hm, i1, i2]
    · have i2 : (65536 : Int) < ((jbL es).length : Int) + (n : Int) + 9 := by omega
      rw [if_neg (by omega)] at k14
      rw [if_neg (by omega)]
      simp [tlC, b4_0, hi', hw, k14, w1, w2, hm, i1, i2]
  · have i1 : (8192 : Int) < (n : Int) := by omega
    rw [if_neg (by omega)] at k14
    rw [if_neg (by omega)]
    simp [tlC, b4_0, hi', hw, k14, w1, w2, hm, i1]
theorem fl_ok (k n : Nat) (hk : k < 256) : ∀ i, OkJ (fl k n i) ∧ (fl k n i).length ≤ i
  | 0 => ⟨OkJ.nil, Nat.le_refl _⟩
  | i + 1 => by
    obtain ⟨h1, h2⟩ := fl_ok k n hk i
    unfold fl flS
    by_cases h : n ≤ 8192 ∧ (jbL (fl k n i)).length + (n + 9) ≤ 65536
    · rw [if_pos h]
      refine ⟨⟨fun e he => ?_, ?_⟩, by simp; omega⟩
      · rcases List.mem_append.1 he with he | he
        · exact h1.by8 e he
        · rw [List.mem_singleton.1 he]
          refine ⟨hk, fun x hx => ?_, by simpa using h.1⟩
          have := (List.mem_replicate.1 hx).2
          omega
      · rw [jb_len_snoc]
        simpa using h.2
    · rw [if_neg h]
      exact ⟨h1, by omega⟩
theorem loop4 (call : Oracle) (fuel : Nat) (H : ApOK call) (k n : Nat) (last : Value) (hk : k < 256) (hn : n ≤ 9000) (fu : Nat) (hfu : 20000 < fu) (st : St)
    (h0 : drops st h4_0 = L4_0 (.sc (.int .u8 (k : Int))) (.sc last) (ii n) (.own (jD true [])) (ii 5) (ii 0)) :
    run.loopN (run call fuel b4_0) fu st = some (.ex 0, X4_0 (.sc (.int .u8 (k : Int))) (.sc last) (.own (jD ((fl k n 20).length == 0) (fl k n 20))) (ii (jbL (fl k n 20)).length)) := by
  refine loop_cnt call fuel h4_0 (tlC b4_0) 20 (fun i => L4_0 (.sc (.int .u8 (k : Int))) (.sc last) (ii n) (.own (jD ((fl k n i).length == 0) (fl k n i))) (ii (jbL (fl k n i)).length) (ii i)) _ (by simp) ?_ ?_ fu st (by rw [h0]; rfl) (by omega)
  · intro i hi
    obtain ⟨h1, h2⟩ := fl_ok k n hk i
    exact ro4 call fuel k n last hn (fl k n i) i hi h1.len (H.j _ _ _ _ _ h1.len (by omega) hk (fun x hx => by have := (List.mem_replicate.1 hx).2; omega) (by simp; omega))
  · generalize fl k n 20 = es
    simp [tlC, b4_0]
theorem f4 (call : Oracle) (fuel : Nat) (hF : 20000 < fuel) (H : ApOK call) (h10 : call 10 [] = some (bV true)) (h12 : call 12 [] = some (jD true [])) (k s t : Nat) (hk : k < 256) (hs : s < 65536) (ht : t < 65536) :
    callF call fuel c4 [kV k, .v (.int .u16 (s : Int)), .v (.int .u16 (t : Int))] = some (bV true) := by
  rw [callF_tab call fuel c4 13 _ (by exact Nat.le_of_ble_eq_true rfl) (by exact Nat.le_of_ble_eq_true rfl)]
  have w1 : IntKind.i64.wrap (s : Int) = (s : Int) := wrapI (by omega) (by omega)
  have w2 : IntKind.i64.wrap (t : Int) = (t : Int) := wrapI (by omega) (by omega)
  have w3 : (s : Int).tmod 5000 = ((s % 5000 : Nat) : Int) := tmod_nat s 5000
  have w4 : (t : Int).tmod 8193 = ((t % 8193 : Nat) : Int) := tmod_nat t 8193
  have hs5 : s % 5000 < 5000 := Nat.mod_lt _ (by decide)
  have ht5 : t % 8193 < 8193 := Nat.mod_lt _ (by decide)
  generalize hn : s % 5000 = sn at *
  generalize hm : t % 8193 = m at *
  have w5 : IntKind.i64.wrap (4000 + (sn : Int)) = ((4000 + sn : Nat) : Int) := by rw [wrapI (by omega) (by omega)]; omega
  have L := loop4 call fuel H k (4000 + sn) (.int .u16 (t : Int)) hk (by omega) fuel hF
  obtain ⟨h1, h2⟩ := fl_ok k (4000 + sn) hk 20
  have k14 := H.j ((fl k (4000 + sn) 20).length == 0) false _ k (zs m) h1.len (by omega) hk (fun x hx => by have := (List.mem_replicate.1 hx).2; omega) (by simp; omega)
  have hl := h1.len
  generalize fl k (4000 + sn) 20 = es at *
  have zz : zl (zs m) = List.replicate m 0 := by simp [zl]
  rw [show su8 false (zs m) = gsl (eI .u8) false (List.replicate m 0) by rw [← zz]] at k14
  have v1 : IntKind.i64.wrap (((jbL es).length : Int) + (m : Int)) = ((jbL es).length : Int) + (m : Int) := wrap_eq (by unfold I64; omega)
  have v2 : IntKind.i64.wrap (((jbL es).length : Int) + (m : Int) + 9) = ((jbL es).length : Int) + (m : Int) + 9 := wrap_eq (by unfold I64; omega)
  have hmm : m ≤ most := by unfold most; omega
  unfold apJ at k14
  rw [List.length_replicate] at k14
  simp [c4, h10, h12, w1, w3, w5]
  rw [L _ (by simp)]
  by_cases hc : (jbL es).length + (m + 9) ≤ 65536
  · rw [if_pos ⟨by omega, hc⟩] at k14
    have i1 : ((jbL es).length : Int) + (m : Int) + 9 ≤ 65536 := by omega
    generalize hje : jD false (es ++ [(k, zs m)]) = J' at *
    obtain ⟨J1, rfl⟩ : ∃ k, J' = .nd (.bx false) k := ⟨_, hje.symm⟩
    simp [w2, w4, k14, v1, v2, hmm, i1]
  · rw [if_neg (by omega)] at k14
    have i1 : ¬ ((jbL es).length : Int) + (m : Int) + 9 ≤ 65536 := by omega
    simp [w2, w4, k14, v1, v2, hmm, i1]
theorem law4 (k s t : Nat) (hk : k < 256) (hs : s < 65536) (ht : t < 65536) : S 7 4 [kV k, .v (.int .u16 (s : Int)), .v (.int .u16 (t : Int))] = some (bV true) := by
  rw [S, sem_succ (mf := c4) rfl]
  exact f4 _ _ (by decide) (apOK 2) awake_ok (s12 5) k s t hk hs ht
end Go.Mx
