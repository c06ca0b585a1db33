import Derived.Test.YtigplgminjhgmaaJoO
/-
  Journals: the laws of cutting and of clones.
-/
namespace Go.Mx
set_option linter.unusedVariables false
set_option linter.unusedSimpArgs false
set_option linter.unusedSectionVars false
open Go

theorem esL_take (l : List EN) (n : Nat) : esL (l.take n) = (esL l).take n := by simp [esL, List.map_take]
theorem mnL_take (l : List EN) (n : Nat) : ∀ i, i ≤ n → i ≤ l.length → mnL (l.take n) i = mnL l i
  | 0, _, _ => rfl
  | i + 1, h, h' => by
    have e : nth (l.take n) (0, (true, [])) i = nth l (0, (true, [])) i := nth_take0 l _ (by omega)
    rw [mnL, mnL, mnL_take l n i (by omega) (by omega), e]
theorem few_take {l : List EN} (hf : fewB l = true) (n : Nat) (hn : n ≤ l.length) : fewB (l.take n) = true := by
  unfold fewB at *
  simp only [Bool.and_eq_true, decide_eq_true_eq] at *
  have h1 : (l.take n).length = n := by rw [List.length_take]; omega
  rw [h1]
  refine ⟨by omega, ?_⟩
  rw [mnL_take l n _ (by omega) (by omega)]
  have h2 : min l.length 50 = l.length := by omega
  have h3 : min n 50 = n := by omega
  rw [h2] at hf
  rw [h3]
  have := mn_mono l n (l.length - n)
  rw [show n + (l.length - n) = l.length by omega] at this
  omega
@[simp] theorem E_slR (lo hi : Option Nat) (b : Bool) (l : List EN) : slR 2 lo hi (gsl eE b l) = if lo.getD 0 ≤ hi.getD l.length ∧ hi.getD l.length ≤ l.length then some (.ro (gsl eE b ((l.drop (lo.getD 0)).take (hi.getD l.length - lo.getD 0)))) else none := slR_ge eE lo hi b l
theorem f8a (call : Oracle) (fuel : Nat) (h10 : call 10 [] = some (bV true)) (b : Bool) (l : List EN) (x : Int) (h11 : call 11 [sE b l] = some (bV false)) : callF call fuel c8 [sE b l, .v (.int .i8 x)] = some (bV true) := by
  rw [callF_tab call fuel c8 53 _ (by exact Nat.le_of_ble_eq_true rfl) (by exact Nat.le_of_ble_eq_true rfl)]
  simp [c8, h10, h11]
theorem f8 (call : Oracle) (fuel : Nat) (h10 : call 10 [] = some (bV true)) (b : Bool) (l : List EN) (x : Int) (hx : -128 ≤ x ∧ x < 128) (hb : ByE l) (hf : fewB l = true) (h11 : call 11 [sE b l] = some (bV true)) (f g : Bool)
    (h17 : call 17 [sE b l] = some (.nd .tu [jD f (esL l), wD f (esL l)]))
    (h23 : call (23 + ioB) [jD f (esL l), nV x] = some (ctD f (esL l) x)) (h24 : call (24 + ioB) [wD f (esL l), nV x] = some (ctW f (esL l) x))
    (h16 : ∀ b c n, call 16 [jD b ((esL l).take n), wD c ((esL l).take n)] = some (bV true)) (h21 : call 21 [jD f (esL l)] = some (nV l.length))
    (h17' : 0 ≤ x → x ≤ l.length → call 17 [sE b (l.take x.toNat)] = some (.nd .tu [jD g ((esL l).take x.toNat), wD g ((esL l).take x.toNat)]))
    (h18 : ∀ b n, call 18 [jD b ((esL l).take n)] = some (su8 false (jbL ((esL l).take n)))) (h22 : ∀ n, call 22 [su8 false (jbL ((esL l).take n)), su8 false (jbL ((esL l).take n))] = some (bV true)) :
    callF call fuel c8 [sE b l, .v (.int .i8 x)] = some (bV true) := by
  rw [callF_tab call fuel c8 53 _ (by exact Nat.le_of_ble_eq_true rfl) (by exact Nat.le_of_ble_eq_true rfl)]
  have w1 : IntKind.i64.wrap x = x := wrapI (by omega) (by omega)
  unfold ctD at h23
  unfold ctW at h24
  by_cases hc : 0 ≤ x ∧ x ≤ l.length
  · have i1 : ¬ x < 0 := by omega
    have i2 : ¬ (l.length : Int) < x := by omega
    rw [if_pos (by rw [esL_len]; exact hc)] at h23 h24
    obtain ⟨n, rfl⟩ : ∃ n : Nat, x = n := ⟨x.toNat, by omega⟩
    have i3 : n ≤ l.length := by omega
    have k17 := h17' hc.1 hc.2
    rw [Int.toNat_natCast] at h23 h24 k17
    have k16 := h16 f false n
    have k18 := h18 f n
    have k18' := h18 g n
    have k22 := h22 n
    generalize (esL l).take n = T at *
    generalize esL l = E at *
    simp [c8, h10, h11, h17, h23, h24, w1, i1, i2, i3, k16, k17, k18, k18', k22]
  · rw [if_neg (by rw [esL_len]; exact hc)] at h23 h24
    have k16 := h16 f f l.length
    rw [List.take_of_length_le (by simp)] at k16
    generalize esL l = E at *
    by_cases h0 : x < 0
    · simp [c8, h10, h11, h17, h23, h24, w1, h0, k16, h21]
    · have i2 : (l.length : Int) < x := by omega
      simp [c8, h10, h11, h17, h23, h24, w1, h0, i2, k16, h21]
theorem law8 (b : Bool) (l : List EN) (hb : ByE l) (x : Int) (hx : -128 ≤ x ∧ x < 128) : S 7 8 [sE b l, .v (.int .i8 x)] = some (bV true) := by
  rw [S, sem_succ (mf := c8) rfl]
  by_cases hf : fewB l = true
  · have hJ := okJ_es hb hf
    have hlen := few_len hf
    have h30 := (few_ok hf).1
    have hn : (l.length == 0) = true → esL l = [] := by
      intro h
      have : l = [] := by simpa using h
      rw [this]; rfl
    have ht : ∀ n, OkJ ((esL l).take n) ∧ (jbL ((esL l).take n)).length ≤ 1275 := by
      intro n
      have h2 : jbL (esL l) = jbL ((esL l).take n) ++ ((esL l).drop n).flatMap fun e => sealL e.1 e.2 := by
        unfold jbL
        rw [List.append_assoc, ← List.flatMap_append, List.take_append_drop]
      have h3 := congrArg List.length h2
      rw [List.length_append] at h3
      exact ⟨⟨fun e he => hJ.by8 e (List.mem_of_mem_take he), by omega⟩, by omega⟩
    refine f8 _ _ awake_ok b l x hx hb hf (by rw [← hf]; exact s11 5 b l) (l.length == 0) ((l.take x.toNat).length == 0) (s17 1 b l hb hf) (s23 4 _ _ hn x (by simp; omega)) (s24 5 _ _ hn x (by simp; omega))
      (fun b c n => s16 2 b c _ (ht n).1 (by rw [List.length_take, esL_len]; omega) (by have := (ht n).2; omega)) (by have := s21 5 (l.length == 0) (esL l); rwa [esL_len] at this) (fun h0 h1 => ?_)
      (fun b n => s18 4 b _ (by have := (ht n).2; omega)) (fun n => s22r 5 false false _ (By.jb (ht n).1.by8))
    have := s17 1 b (l.take x.toNat) (fun e he => hb e (List.mem_of_mem_take he)) (few_take hf _ (by omega))
    rwa [esL_take] at this
  · exact f8a _ _ awake_ok b l x (by have := s11 5 b l; rwa [show fewB l = false by simpa using hf] at this)

/-! ### clones -/
def bmp (l : List Int) : Nat → List Int
  | 0 => l
  | i + 1 => (bmp l i).set i (IntKind.u8.wrap (nth (bmp l i) 0 i + 1))
@[simp] theorem bmp_len (l : List Int) : ∀ i, (bmp l i).length = l.length
  | 0 => rfl
  | i + 1 => by rw [bmp, List.length_set, bmp_len l i]
theorem loop9a (call : Oracle) (fuel : Nat) (dc : List D) (lb cb wf : Bool) (l : List EN) (d : List Nat) (E : ES) (k : Nat) (b : List Int) (hb : b.length ≤ 15000) (fu : Nat) (hfu : 20000 < fu) (st : St)
    (h0 : drops st h9_0 = L9_0 (.ro (sE lb l)) (.sc (.int .u8 (k : Int))) (.ro (su8 cb d)) (.own (wD wf E)) (.own (.nd (.bx false) dc)) (.own (su8 false d)) (.own (gsl (eI .u8) false b)) (ii 0)) :
    run.loopN (run call fuel b9_0) fu st = some (.ex 0, X9_0 (.ro (sE lb l)) (.sc (.int .u8 (k : Int))) (.ro (su8 cb d)) (.own (wD wf E)) (.own (.nd (.bx false) dc)) (.own (su8 false d))) := by
  refine loop_cnt call fuel h9_0 (tlC b9_0) b.length (fun i => L9_0 (.ro (sE lb l)) (.sc (.int .u8 (k : Int))) (.ro (su8 cb d)) (.own (wD wf E)) (.own (.nd (.bx false) dc)) (.own (su8 false d)) (.own (gsl (eI .u8) false (bmp b i))) (ii i)) _ (by simp) ?_ ?_ fu st (by rw [h0]; rfl) (by omega)
  · intro i hi
    have hw := wrap_succ (i := i) (by omega)
    have e : bmp b (i + 1) = (bmp b i).set i (IntKind.u8.wrap (nth (bmp b i) 0 i + 1)) := rfl
    have hl := bmp_len b i
    rw [e]
    generalize bmp b i = B at *
    simp [tlC, b9_0, hi, hw, hl]
  · have hl := bmp_len b b.length
    generalize bmp b b.length = B at *
    simp [tlC, b9_0, hl]
theorem loop9b (call : Oracle) (fuel : Nat) (dc : List D) (lb cb wf : Bool) (l : List EN) (d : List Nat) (E : ES) (k : Nat) (b : List Int) (hb : b.length ≤ 15000) (fu : Nat) (hfu : 20000 < fu) (st : St)
    (h0 : drops st h9_1 = L9_1 (.ro (sE lb l)) (.sc (.int .u8 (k : Int))) (.ro (su8 cb d)) (.own (wD wf E)) (.own (.nd (.bx false) dc)) (.own (gsl (eI .u8) false b)) (ii 0)) :
    run.loopN (run call fuel b9_1) fu st = some (.ex 2, X9_2 (.ro (sE lb l)) (.sc (.int .u8 (k : Int))) (.ro (su8 cb d)) (.own (wD wf E)) (.own (.nd (.bx false) dc))) := by
  refine loop_cnt call fuel h9_1 (tlC b9_1) b.length (fun i => L9_1 (.ro (sE lb l)) (.sc (.int .u8 (k : Int))) (.ro (su8 cb d)) (.own (wD wf E)) (.own (.nd (.bx false) dc)) (.own (gsl (eI .u8) false (bmp b i))) (ii i)) _ (by simp) ?_ ?_ fu st (by rw [h0]; rfl) (by omega)
  · intro i hi
    have hw := wrap_succ (i := i) (by omega)
    have e : bmp b (i + 1) = (bmp b i).set i (IntKind.u8.wrap (nth (bmp b i) 0 i + 1)) := rfl
    have hl := bmp_len b i
    rw [e]
    generalize bmp b i = B at *
    simp [tlC, b9_1, hi, hw, hl]
  · have hl := bmp_len b b.length
    generalize bmp b b.length = B at *
    simp [tlC, b9_1, hl]
theorem loop9c (call : Oracle) (fuel : Nat) (dc : List D) (cb wf : Bool) (d : List Nat) (E : ES) (k : Nat) (b : List Int) (hb : b.length ≤ 15000) (fu : Nat) (hfu : 20000 < fu) (st : St)
    (h0 : drops st h9_2 = L9_2 (.sc (.int .u8 (k : Int))) (.ro (su8 cb d)) (.own (wD wf E)) (.own (.nd (.bx false) dc)) (.own (gsl (eI .u8) false b)) (ii 0)) :
    run.loopN (run call fuel b9_2) fu st = some (.ex 4, X9_4 (.sc (.int .u8 (k : Int))) (.ro (su8 cb d)) (.own (wD wf E)) (.own (.nd (.bx false) dc))) := by
  refine loop_cnt call fuel h9_2 (tlC b9_2) b.length (fun i => L9_2 (.sc (.int .u8 (k : Int))) (.ro (su8 cb d)) (.own (wD wf E)) (.own (.nd (.bx false) dc)) (.own (gsl (eI .u8) false (bmp b i))) (ii i)) _ (by simp) ?_ ?_ fu st (by rw [h0]; rfl) (by omega)
  · intro i hi
    have hw := wrap_succ (i := i) (by omega)
    have e : bmp b (i + 1) = (bmp b i).set i (IntKind.u8.wrap (nth (bmp b i) 0 i + 1)) := rfl
    have hl := bmp_len b i
    rw [e]
    generalize bmp b i = B at *
    simp [tlC, b9_2, hi, hw, hl]
  · have hl := bmp_len b b.length
    generalize bmp b b.length = B at *
    simp [tlC, b9_2, hl]
theorem f9a (call : Oracle) (fuel : Nat) (h10 : call 10 [] = some (bV true)) (b c : Bool) (l : List EN) (k : Nat) (d : List Nat) (h : fewB l = false ∨ 500 < d.length) (h11 : call 11 [sE b l] = some (bV (fewB l))) :
    callF call fuel c9 [sE b l, kV k, su8 c d] = some (bV true) := by
  rw [callF_tab call fuel c9 83 _ (by exact Nat.le_of_ble_eq_true rfl) (by exact Nat.le_of_ble_eq_true rfl)]
  rcases h with h | h
  · rw [h] at h11
    simp [c9, h10, h11]
  · have i1 : (500 : Int) < (d.length : Int) := by omega
    cases hf : fewB l <;> rw [hf] at h11 <;> simp [c9, h10, h11, i1]
theorem u8_fold (d : List Nat) : T.nd (K.sl false 1 d.length) (gk (eI .u8) (zl d)) = su8 false d := by
  show _ = T.nd (K.sl false 1 (zl d).length) (gk (eI .u8) (zl d))
  rw [zl_len]
theorem f9 (call : Oracle) (fuel : Nat) (hF : 20000 < fuel) (h10 : call 10 [] = some (bV true)) (b c : Bool) (l : List EN) (k : Nat) (d : List Nat) (hd : d.length ≤ 500) (h11 : call 11 [sE b l] = some (bV true)) (f : Bool) (E : ES) (hEl : (jbL E).length ≤ 10000) (hl : E.length = l.length)
    (h17 : call 17 [sE b l] = some (.nd .tu [jD f E, wD f E])) (h25 : call 25 [jD f E] = some (jD f E))
    (h14 : call (14 + ioB) [jD f E, kV k, su8 false d] = some (.nd .tu [nV 0, jD false (E ++ [(k, d)])])) (h15 : call (15 + ioB) [wD f E, kV k, su8 c d] = some (.nd .tu [nV 0, wD false (E ++ [(k, d)])]))
    (h16 : call 16 [jD f E, wD f E] = some (bV true)) (h16' : call 16 [jD false (E ++ [(k, d)]), wD false (E ++ [(k, d)])] = some (bV true))
    (h18 : call 18 [jD false (E ++ [(k, d)])] = some (su8 false (jbL (E ++ [(k, d)])))) (h26 : call 26 [jD false (E ++ [(k, d)]), nV l.length] = some (.nd .tu [kV k, su8 false d, nV 0])) :
    callF call fuel c9 [sE b l, kV k, su8 c d] = some (bV true) := by
  rw [callF_tab call fuel c9 83 _ (by exact Nat.le_of_ble_eq_true rfl) (by exact Nat.le_of_ble_eq_true rfl)]
  have i1 : ¬ (500 : Int) < (d.length : Int) := by omega
  have hm : d.length ≤ most := by unfold most; omega
  have hjl : (jbL (E ++ [(k, d)])).length ≤ 15000 := by rw [jb_len_snoc]; dsimp only; omega
  generalize hje : jD false (E ++ [(k, d)]) = J' at *
  generalize hwe : wD false (E ++ [(k, d)]) = W' at *
  obtain ⟨J1, rfl⟩ : ∃ k, J' = .nd (.bx false) k := ⟨_, hje.symm⟩
  obtain ⟨W1, rfl⟩ : ∃ k, W' = .nd (.bx false) k := ⟨_, hwe.symm⟩
  generalize jbL (E ++ [(k, d)]) = Q at *
  simp [c9, h10, h11, i1, hm, h17, h25, h14, h16, h18, u8_fold]
  rw [loop9a call fuel J1 b c f l d E k (zl Q) (by rw [zl_len]; omega) fuel hF _ (by simp)]
  simp
  rw [loop9b call fuel J1 b c f l d E k (zl d) (by rw [zl_len]; omega) fuel hF _ (by simp)]
  simp [h26]
  rw [loop9c call fuel J1 c f d E k (zl d) (by rw [zl_len]; omega) fuel hF _ (by simp)]
  simp [h15, h16']
end Go.Mx
