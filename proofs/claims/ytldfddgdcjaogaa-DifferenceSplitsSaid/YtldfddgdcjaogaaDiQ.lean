import Derived.Test.YtldfddgdcjaogaaDiM
/-
  Least sums of walks: the reference.
-/
namespace Go.Mx
set_option linter.unusedVariables false
set_option linter.unusedSimpArgs false
set_option linter.unusedSectionVars false
open Go

def lzR (g : Nat → Lm) : Nat → Int := fun v => lz (g v)
theorem set_lzR (g : Nat → Lm) (i : Nat) (x : Lm) : updF (lzR g) i (lz x) = lzR (updF g i x) := by
  funext j
  by_cases h : j = i
  · subst h; simp [updF, lzR]
  · simp [updF, lzR, h]
abbrev zT (m n : Nat) (l : List Bn) (to : Nat) : D := gsl eII false (tb2 m n (fun k => lzR (W l to k)))
def noR (i v : Nat) : Int := if v < i then 1099511627776 else 0
theorem noR_succ (i : Nat) : updF (noR i) i 1099511627776 = noR (i + 1) := by
  funext v
  unfold updF noR
  by_cases h : v = i
  · subst h; rw [if_pos rfl, if_pos (by omega)]
  · rw [if_neg h]
    by_cases h2 : v < i
    · rw [if_pos h2, if_pos (by omega)]
    · rw [if_neg h2, if_neg (by omega)]
theorem noR_zero (n : Nat) : List.replicate n (0 : Int) = row n (noR 0) := by
  rw [row_rep]; exact row_ext _ fun i _ => by unfold noR; rw [if_neg (by omega)]
theorem noR_end (n : Nat) (l : List Bn) (g : Nat → Lm) : row n (noR n) = row n (lzR (wA l g 0)) := row_ext _ fun i hi => by unfold noR; rw [if_pos hi]; rfl

theorem loop40_0 (call : Oracle) (fuel : Nat) (n : Nat) (hn : n ≤ 16) (d : D) (s m : Int) (fu : Nat) (hf : 100 < fu) (st : St)
    (h0 : drops st h40_0 = L40_0 (ii n) (.ro d) (ii s) (ii m) (.own (si false (row n (noR 0)))) (ii 0)) :
    run.loopN (run call fuel b40_0) fu st = some (.ex 0, X40_0 (ii n) (.ro d) (ii s) (ii m) (.own (si false (row n (noR n))))) := by
  refine loop_cnt call fuel h40_0 _ n (fun i => L40_0 (ii n) (.ro d) (ii s) (ii m) (.own (si false (row n (noR i)))) (ii i)) _ (by simp) ?_ (by simp) fu st (by rw [h0]; rfl) (by omega)
  intro i hi
  have hw := wrap_succ (i := i) (by omega)
  have e := noR_succ i
  simp [hi, hw, e]
theorem loop40_2 (call : Oracle) (fuel : Nat) (n : Nat) (hn : n ≤ 16) (d o : D) (s m k : Int) (fu : Nat) (hf : 100 < fu) (st : St)
    (h0 : drops st h40_2 = L40_2 (ii n) (.ro d) (ii s) (ii m) (.own o) (ii k) (.own (si false (row n (noR 0)))) (ii 0)) :
    run.loopN (run call fuel b40_2) fu st = some (.ex 4, X40_4 (ii n) (.ro d) (ii s) (ii m) (.own o) (ii k) (.own (si false (row n (noR n))))) := by
  refine loop_cnt call fuel h40_2 _ n (fun i => L40_2 (ii n) (.ro d) (ii s) (ii m) (.own o) (ii k) (.own (si false (row n (noR i)))) (ii i)) _ (by simp) ?_ (by simp) fu st (by rw [h0]; rfl) (by omega)
  intro i hi
  have hw := wrap_succ (i := i) (by omega)
  have e := noR_succ i
  simp [hi, hw, e]

theorem nth_drop {l : List Bn} {s j : Nat} : nth (l.drop s) zN j = nth l zN (ad s j) := by
  unfold nth ad
  rw [List.getD_eq_getElem?_getD, List.getElem?_drop, List.getD_eq_getElem?_getD]
theorem wStep_none {g h : Nat → Lm} {c : Bn} (hg : g c.2.1 = none) : wStep g h c = h := by
  funext v
  unfold wStep updF
  rw [hg]
  split
  · rename_i e; subst e; simp
  · rfl
theorem wA_bd {l : List Bn} (h : ∀ c ∈ l, -1000000 ≤ c.2.2 ∧ c.2.2 ≤ 1000000) {N : Int} (hN : 0 ≤ N) {g : Nat → Lm} (hg : ∀ v, Bd N (g v)) (i v : Nat) : Bd (N + 1000000) (wA l g i v) :=
  wS_bd (l := l.take i) (fun c hc => h c (List.mem_of_mem_take hc)) hN hg v

theorem loop40_3 (call : Oracle) (fuel : Nat) (n : Nat) (l : List Bn) (h : VB n l) (b : Bool) (s : Nat) (m0 : Int) (k i : Nat) (hi : i < k) (hk : k ≤ 17) (G : Nat → Nat → Int) (g : Nat → Lm) (hG : G i = lzR g) (hg : ∀ v, Bd 20000000 (g v)) (fu : Nat) (hf : 100 < fu) (st : St)
    (h0 : drops st h40_3 = L40_3 (ii n) (.ro (sd b (nbL l))) (ii s) (ii m0) (.own (gsl eII false (tb2 k n G))) (ii ((ad 1 i : Nat) : Int)) (.own (si false (row n (lzR (wA (l.drop (s + 1)) g 0))))) (ii ((ad (s + 1) 0 : Nat) : Int))) (hs : s < l.length) :
    run.loopN (run call fuel b40_3) fu st = some (.ex 6, X40_6 (ii n) (.ro (sd b (nbL l))) (ii s) (ii m0) (.own (gsl eII false (tb2 k n G))) (ii ((ad 1 i : Nat) : Int)) (.own (si false (row n (lzR (wS (l.drop (s + 1)) g)))))) := by
  rw [← wA_end]
  have hlen := h.len
  have hN : (l.drop (s + 1)).length = l.length - (s + 1) := List.length_drop
  have hend : ¬ ad (s + 1) (l.drop (s + 1)).length < l.length := by rw [hN]; unfold ad; omega
  refine loop_cnt call fuel h40_3 _ (l.drop (s + 1)).length (fun j => L40_3 (ii n) (.ro (sd b (nbL l))) (ii s) (ii m0) (.own (gsl eII false (tb2 k n G))) (ii ((ad 1 i : Nat) : Int)) (.own (si false (row n (lzR (wA (l.drop (s + 1)) g j))))) (ii ((ad (s + 1) j : Nat) : Int))) _ (by simp) ?_ (by generalize (l.drop (s + 1)).length = z at *; simp [hend]) fu st h0 (by rw [hN]; omega)
  intro j hj
  have ht : ad (s + 1) j < l.length := by rw [hN] at hj; unfold ad; omega
  have hw : IntKind.i64.wrap (((ad (s + 1) j : Nat) : Int) + 1) = ((ad (s + 1) (j + 1) : Nat) : Int) := by
    rw [wrap_eq (by unfold I64; omega)]; unfold ad; omega
  have e1 : IntKind.i64.wrap (((ad 1 i : Nat) : Int) - 1) = (i : Int) := by
    rw [wrap_eq (by unfold I64 ad; omega)]; unfold ad; omega
  have hv := h.at ht
  have hx := h.c _ (nth_mem zN ht)
  have hbA := wA_bd (l := l.drop (s + 1)) (fun c hc => h.c c (List.mem_of_mem_drop hc)) (N := 20000000) (by omega) hg j
  rw [wA_succ g hj, nth_drop]
  generalize ad (s + 1) (j + 1) = t1 at *
  generalize ad (s + 1) j = t at *
  generalize wA (l.drop (s + 1)) g j = f at *
  generalize hq : nth l zN t = c at *
  obtain ⟨a, b', x⟩ := c
  have k1 : a < n := hv.1
  have k2 : b' < n := hv.2.1
  simp only at hx
  have e : lzR g b' = lz (g b') := rfl
  cases hr : g b' with
  | none =>
    rw [wStep_none (c := (a, b', x)) hr]
    rw [hr, lz_none] at e
    simp [ht, hw, hq, e1, hi, k1, k2, tb2_nth, nth_row, hG, e]
  | some r =>
    rw [hr, lz_some] at e
    have hr' := hg b' r hr
    have c1 : ¬ r = 1099511627776 := by omega
    have e2 : IntKind.i64.wrap (x + r) = x + r := wrap_eq (by unfold I64; omega)
    have ha : wStep g f (a, b', x) = updF f a (less (f a) (some (x + r))) := by unfold wStep; rw [hr]; rfl
    have e3 : min (lzR f a) (x + r) = lz (less (f a) (some (x + r))) := by
      rw [lz_less ((hbA a).mono (by omega)) (fun v hv => by cases hv; omega)]; rfl
    have hs := set_lzR f a (less (f a) (some (x + r)))
    rw [ha]
    generalize lz (less (f a) (some (x + r))) = y at *
    simp [ht, hw, hq, e1, hi, k1, k2, tb2_nth, nth_row, hG, e, c1, e2, e3, hs]
theorem loop40_1 (call : Oracle) (fuel : Nat) (hF : 100 < fuel) (n : Nat) (l : List Bn) (h : VB n l) (b : Bool) (s : Nat) (m : Nat) (hm : m ≤ 16) (hs : s < l.length) (to : Nat) (fu : Nat) (hf : 100 < fu) (st : St)
    (h0 : drops st h40_1 = L40_1 (ii n) (.ro (sd b (nbL l))) (ii s) (ii m) (.own (zT 1 n (l.drop (s + 1)) to)) (ii ((ad 1 0 : Nat) : Int))) :
    run.loopN (run call fuel b40_1) fu st = some (.ex 2, X40_2 (.own (zT (m + 1) n (l.drop (s + 1)) to))) := by
  have hend : ¬ ad 1 m ≤ m := by unfold ad; omega
  refine loop_cnt call fuel h40_1 _ m (fun i => L40_1 (ii n) (.ro (sd b (nbL l))) (ii s) (ii m) (.own (zT (i + 1) n (l.drop (s + 1)) to)) (ii ((ad 1 i : Nat) : Int))) _ (by simp) ?_ (by simp [hend]) fu st h0 (by omega)
  intro i hi
  have hn := h.n16
  have hlen := h.len
  have hle : ad 1 i ≤ m := by unfold ad; omega
  have hw : IntKind.i64.wrap (((ad 1 i : Nat) : Int) + 1) = ((ad 1 (i + 1) : Nat) : Int) := by
    rw [wrap_eq (by unfold I64 ad; omega)]; unfold ad; omega
  have hcd : ∀ c ∈ l.drop (s + 1), -1000000 ≤ c.2.2 ∧ c.2.2 ≤ 1000000 := fun c hc' => h.c c (List.mem_of_mem_drop hc')
  have h2 := loop40_2 call fuel n hn (sd b (nbL l)) (zT (i + 1) n (l.drop (s + 1)) to) s m ((ad 1 i : Nat) : Int) fuel hF
  have h3 := loop40_3 call fuel n l h b s m (i + 1) i (by omega) (by omega) (fun k => lzR (W (l.drop (s + 1)) to k)) (W (l.drop (s + 1)) to i) rfl (fun v => (W_bd hcd to i v).mono (by omega)) fuel hF
  rw [noR_end n (l.drop (s + 1)) (W (l.drop (s + 1)) to i)] at h2
  have hmo : n ≤ most := by unfold most; omega
  have hm2 : i + 1 + 1 ≤ most := by unfold most; omega
  have hz := noR_zero n
  have es : IntKind.i64.wrap ((s : Int) + 1) = ((ad (s + 1) 0 : Nat) : Int) := by rw [wrap_eq (by unfold I64; omega)]; unfold ad; omega
  have hS := tb2_succ (i + 1) n (fun k => lzR (W (l.drop (s + 1)) to k))
  have hW : W (l.drop (s + 1)) to (i + 1) = wS (l.drop (s + 1)) (W (l.drop (s + 1)) to i) := rfl
  rw [hW] at hS
  simp [hle, hmo, hz]
  rw [h2 _ (by simp)]
  simp [es]
  rw [h3 _ (by simp) hs]
  simp [hw, hm2, ← hS]
/-- walks of the reference. -/
theorem f40 (call : Oracle) (fuel : Nat) (hF : 100 < fuel) (n : Nat) (l : List Bn) (h : VB n l) (b : Bool) (s : Nat) (m : Nat) (hm : m ≤ 16) (hs : s < l.length) :
    callF call fuel c40 [nV n, sd b (nbL l), nV s, nV m] = some (zT (m + 1) n (l.drop (s + 1)) (nth l zN s).1) := by
  rw [callF_tab call fuel c40 16 _ (by exact Nat.le_of_ble_eq_true rfl) (by exact Nat.le_of_ble_eq_true rfl)]
  have hn := h.n16
  have h1 := loop40_0 call fuel n hn (sd b (nbL l)) s m fuel hF
  have h2 := loop40_1 call fuel hF n l h b s m hm hs (nth l zN s).1 fuel hF
  have hv := h.at hs
  have hmo : n ≤ most := by unfold most; omega
  have hz := noR_zero n
  have hE : ∀ q : Nat → Int, T.nd (K.sl false 1 1) [gsl (eI .i64) false (row n q)] = gsl eII false (tb2 1 n fun _ => q) := fun q => rfl
  generalize hq : nth l zN s = c at *
  obtain ⟨a, b', x⟩ := c
  have k1 : a < n := hv.1
  have hst : gsl eII false (tb2 1 n fun _ => updF (noR n) a 0) = zT 1 n (l.drop (s + 1)) a := by
    refine congrArg (gsl eII false) (tb2_ext fun i j hi hj => ?_)
    have : i = 0 := by omega
    subst this
    show updF (noR n) a 0 j = lz (W (l.drop (s + 1)) a 0 j)
    unfold updF noR W
    by_cases h : j = a
    · rw [if_pos h, if_pos h]; rfl
    · rw [if_neg h, if_neg h, if_pos hj]; rfl
  simp [c40, hmo, hz]
  rw [h1 _ (by simp)]
  simp [hs, hq, k1, hE, hst]
  rw [h2 _ (by simp; rfl)]
  simp

/-! ### Refute: the reference. -/

theorem loop22_3 (call : Oracle) (fuel : Nat) (n : Nat) (l : List Bn) (h : VB n l) (b : Bool) (s : Nat) (len0 : Int) (m left : Nat) (hm : left < m) (hm16 : m ≤ 16) (q : CS) (hq : q.1.length ≤ 16) (h1 : -16000000 ≤ q.2.1) (h2 : q.2.1 ≤ 16000000) (fu : Nat) (hf : 100 < fu) (st : St)
    (h0 : drops st h22_3 = L22_3 (.ro (sd b (nbL l))) (ii len0) (ii s) (.own (zT m n (l.drop (s + 1)) (nth l zN s).1)) (.own (si false (zl q.1))) (ii q.2.1) (ii q.2.2) (ii ((ad 1 left : Nat) : Int)) (ii (ad (s + 1) 0))) (hs : s < l.length) :
    run.loopN (run call fuel b22_3) fu st = some ((pickT l (wC l s) s left q.2.1 q.2.2).elim (.ex 6, X22_6 (.ro (sd b (nbL l))) (ii len0) (ii s) (.own (zT m n (l.drop (s + 1)) (nth l zN s).1)) (.own (si false (zl q.1))) (ii q.2.1) (ii q.2.2))
      fun j => (.ex 6, X22_6 (.ro (sd b (nbL l))) (ii len0) (ii s) (.own (zT m n (l.drop (s + 1)) (nth l zN s).1)) (.own (si false (zl (goT l q (ad (s + 1) j)).1))) (ii (goT l q (ad (s + 1) j)).2.1) (ii (goT l q (ad (s + 1) j)).2.2))) := by
  have hlen := h.len
  have hl' : ad (s + 1) (l.length - (s + 1)) = l.length := by unfold ad; omega
  refine loop_find call fuel h22_3 _ (l.length - (s + 1)) (fun j => cndT l (wC l s) left q.2.1 q.2.2 (ad (s + 1) j)) (fun j => L22_3 (.ro (sd b (nbL l))) (ii len0) (ii s) (.own (zT m n (l.drop (s + 1)) (nth l zN s).1)) (.own (si false (zl q.1))) (ii q.2.1) (ii q.2.2) (ii ((ad 1 left : Nat) : Int)) (ii (ad (s + 1) j))) _ _ (by simp) (by simp) ?_ (by rw [hl']; simp) fu st (by rw [h0]) (by omega)
  intro j hj _
  have ht : ad (s + 1) j < l.length := by unfold ad; omega
  have hw : IntKind.i64.wrap (((ad (s + 1) j : Nat) : Int) + 1) = ((ad (s + 1) (j + 1) : Nat) : Int) := by
    rw [wrap_eq (by unfold I64; omega)]; unfold ad; omega
  have e0 : IntKind.i64.wrap (((ad 1 left : Nat) : Int) - 1) = (left : Int) := by
    rw [wrap_eq (by unfold I64 ad; omega)]; unfold ad; omega
  have hv := h.at ht
  have hx := h.c _ (nth_mem zN ht)
  have hB := wC_bd h s left (nth l zN (ad (s + 1) j)).2.1 (by omega)
  have hG : wC l s = W (l.drop (s + 1)) (nth l zN s).1 := rfl
  have hmo : q.1.length + 1 ≤ most := by unfold most; omega
  unfold goT cndT
  rw [hG] at hB ⊢
  dsimp only [zT]
  generalize (nth l zN s).1 = to at *
  generalize W (l.drop (s + 1)) to = w at *
  generalize ad (s + 1) (j + 1) = t1 at *
  generalize ad (s + 1) j = t at *
  obtain ⟨out, sum, at'⟩ := q
  simp only at h1 h2 hmo
  generalize hq' : nth l zN t = c at *
  obtain ⟨a, b', x⟩ := c
  have k1 : b' < n := hv.2.1
  simp only at hx hB
  have e : lzR (w left) b' = lz (w left b') := rfl
  by_cases c1 : a = at'
  · subst c1
    cases hr : w left b' with
    | none =>
      rw [hr, lz_none] at e
      simp [ht, hw, e0, hq', k1, hm, tb2_nth, nth_row, e]
    | some r =>
      rw [hr, lz_some] at e
      have hr' := hB r hr
      have c0 : ¬ r = 1099511627776 := by omega
      have e1 : IntKind.i64.wrap (sum + x) = sum + x := wrap_eq (by unfold I64; omega)
      have e2 : IntKind.i64.wrap (sum + x + r) = sum + x + r := wrap_eq (by unfold I64; omega)
      by_cases c2 : sum + x + r < 0
      · simp [ht, hw, e0, hq', k1, hm, tb2_nth, nth_row, e, e1, e2, c0, c2, hmo]
      · simp [ht, hw, e0, hq', k1, hm, tb2_nth, nth_row, e, e1, e2, c0, c2]
  · have c1' : ¬ (a : Int) = (at' : Int) := by omega
    simp [ht, hw, e0, hq', k1, hm, tb2_nth, nth_row, c1, c1']

theorem loop22_2 (call : Oracle) (fuel : Nat) (hF : 100 < fuel) (n : Nat) (l : List Bn) (h : VB n l) (b : Bool) (s len : Nat) (hs : s < l.length) (h2 : 2 ≤ len) (h16 : len ≤ 16) (hg : ngC l s len = true) (fu : Nat) (hf : 100 < fu) (st : St)
    (h0 : drops st h22_2 = L22_2 (.ro (sd b (nbL l))) (ii len) (ii s) (.own (zT (len - 1 + 1) n (l.drop (s + 1)) (nth l zN s).1)) (.own (si false (zl (stK l (wC l s) s len 0).1))) (ii (stK l (wC l s) s len 0).2.1) (ii (stK l (wC l s) s len 0).2.2)) :
    run.loopN (run call fuel b22_2) fu st = some (.ex 4, X22_4 (.own (si false (zl (stK l (wC l s) s len (len - 1)).1)))) := by
  refine loop_cnt call fuel h22_2 _ (len - 1) (fun k => L22_2 (.ro (sd b (nbL l))) (ii len) (ii s) (.own (zT (len - 1 + 1) n (l.drop (s + 1)) (nth l zN s).1)) (.own (si false (zl (stK l (wC l s) s len k).1))) (ii (stK l (wC l s) s len k).2.1) (ii (stK l (wC l s) s len k).2.2)) _ (by simp) ?_ ?_ fu st h0 (by omega)
  · intro k hk
    have hI := stK_ok h hs hg k (by omega)
    have hN : stK l (wC l s) s len (k + 1) = stp l (wC l s) s (len - 2 - k) (stK l (wC l s) s len k) := rfl
    rw [hN]
    generalize stK l (wC l s) s len k = q at *
    obtain ⟨r, h3, h4⟩ := hI.left
    rw [show len - 1 - k = (len - 2 - k) + 1 by omega] at h3
    obtain ⟨j, h5, _, _⟩ := pick_some h3 h4
    have hlo := hI.lo
    have hhi := hI.hi
    have hc := hI.cnt
    have hL := loop22_3 call fuel n l h b s len (len - 1 + 1) (len - 2 - k) (by omega) (by omega) q (by omega) (by omega) (by omega) fuel hF
    rw [h5] at hL
    unfold stp
    rw [h5]
    simp only [Option.elim_some] at hL ⊢
    generalize goT l q (ad (s + 1) j) = q' at *
    generalize hle : len - 2 - k = left at *
    have hlen := h.len
    obtain ⟨c, hcc⟩ : ∃ c, c = q.1.length := ⟨_, rfl⟩
    have hlt : c < len := by omega
    have e1 : IntKind.i64.wrap ((len : Int) - (c : Int)) = ((ad 1 left : Nat) : Int) := by rw [wrap_eq (by unfold I64; omega)]; unfold ad; omega
    have e3 : IntKind.i64.wrap ((s : Int) + 1) = ((ad (s + 1) 0 : Nat) : Int) := by rw [wrap_eq (by unfold I64; omega)]; unfold ad; omega
    simp [← hcc, hlt, e1, e3]
    rw [hL _ (by simp) hs]
    simp
  · have hI := stK_ok h hs hg (len - 1) (by omega)
    generalize stK l (wC l s) s len (len - 1) = q at *
    have hc := hI.cnt
    obtain ⟨c, hcc⟩ : ∃ c, c = q.1.length := ⟨_, rfl⟩
    have hlt : ¬ c < len := by omega
    simp [← hcc, hlt]

theorem loop22_1 (call : Oracle) (fuel : Nat) (hF : 100 < fuel) (n : Nat) (l : List Bn) (h : VB n l) (b : Bool) (len : Nat) (h2 : 2 ≤ len) (h16 : len ≤ 16)
    (h40 : ∀ s : Nat, s < l.length → call 40 [nV n, sd b (nbL l), nV s, nV ((len - 1 : Nat) : Int)] = some (zT (len - 1 + 1) n (l.drop (s + 1)) (nth l zN s).1)) (fu : Nat) (hf : 100 < fu) (st : St)
    (h0 : drops st h22_1 = L22_1 (ii n) (.ro (sd b (nbL l))) (ii len) (ii 0)) :
    run.loopN (run call fuel b22_1) fu st = some ((cS l len).elim (.ex 2, X22_2 (ii n) (.ro (sd b (nbL l))) (ii len)) fun s => (.ret, R22 (.own (si false (zl (cC l s len)))) (ii 0))) := by
  have hlen := h.len
  refine loop_find call fuel h22_1 _ l.length (fun s => ngC l s len) (fun s => L22_1 (ii n) (.ro (sd b (nbL l))) (ii len) (ii s)) (fun s => (.ret, R22 (.own (si false (zl (cC l s len)))) (ii 0))) _ (by simp) (by simp) ?_ (by simp) fu st (by rw [h0]; rfl) (by omega)
  intro s hs _
  have hw := wrap_succ (i := s) (by omega)
  have h40 := h40 s hs
  obtain ⟨l1, hl1⟩ : ∃ l1, l1 = len - 1 := ⟨_, rfl⟩
  have e2 : IntKind.i64.wrap ((len : Int) - 1) = (l1 : Int) := by rw [wrap_eq (by unfold I64; omega)]; omega
  have hB := wC_bd h s l1 (nth l zN s).2.1 (by omega)
  have hL := loop22_2 call fuel hF n l h b s len hs h2 h16
  have hv := h.at hs
  have hx := h.c _ (nth_mem zN hs)
  have hq0 : stK l (wC l s) s len 0 = ([s], (nth l zN s).2.2, (nth l zN s).2.1) := rfl
  rw [hq0] at hL
  unfold cC
  unfold ngC at hL ⊢
  rw [← hl1] at h40
  rw [← hl1] at hL ⊢
  have hG : wC l s = W (l.drop (s + 1)) (nth l zN s).1 := rfl
  dsimp only [zT] at hL h40
  generalize hw' : wC l s = w at *
  rw [← hG] at hL h40
  generalize hq' : nth l zN s = c at *
  obtain ⟨a, b', x⟩ := c
  simp only at hL h40 hB hv hx ⊢
  have k1 : b' < n := hv.2.1
  have k2 : l1 < l1 + 1 := by omega
  have e : lzR (w l1) b' = lz (w l1 b') := rfl
  have hz : T.nd (K.sl false 1 1) [T.v (Value.int .i64 (s : Int))] = si false (zl [s]) := rfl
  cases hr : w l1 b' with
  | none =>
    rw [hr, lz_none] at e
    simp [hs, hq', e2, h40, k1, k2, tb2_nth, nth_row, e, hw]
  | some r =>
    rw [hr, lz_some] at e
    rw [hr] at hL
    have hr' := hB r hr
    have c0 : ¬ r = 1099511627776 := by omega
    have e3 : IntKind.i64.wrap (x + r) = x + r := wrap_eq (by unfold I64; omega)
    by_cases c2 : x + r < 0
    · have c3 : ¬ 0 ≤ x + r := by omega
      have hL := hL (by simpa using c2) fuel hF
      simp [hs, hq', e2, h40, k1, k2, tb2_nth, nth_row, e, e3, c0, c2, c3, hz]
      rw [hL _ (by simp)]
      simp
    · have c3 : 0 ≤ x + r := by omega
      simp [hs, hq', e2, h40, k1, k2, tb2_nth, nth_row, e, e3, c0, c2, c3, hw]
theorem loop22_0 (call : Oracle) (fuel : Nat) (hF : 100 < fuel) (n : Nat) (l : List Bn) (h : VB n l) (b : Bool)
    (h40 : ∀ s len : Nat, s < l.length → 2 ≤ len → len ≤ 16 → call 40 [nV n, sd b (nbL l), nV s, nV ((len - 1 : Nat) : Int)] = some (zT (len - 1 + 1) n (l.drop (s + 1)) (nth l zN s).1)) (fu : Nat) (hf : 100 < fu) (st : St)
    (h0 : drops st h22_0 = L22_0 (ii n) (.ro (sd b (nbL l))) (ii ((ad 2 0 : Nat) : Int))) :
    run.loopN (run call fuel b22_0) fu st = some ((cF n l).elim (.ex 0, X22_0) fun i => (.ret, R22 (.own (si false (zl (cR l (i + 2))))) (ii 0))) := by
  have hn := h.n16
  have hn1 := h.n1
  have hend : ¬ ad 2 (n - 1) ≤ n := by unfold ad; omega
  refine loop_find call fuel h22_0 _ (n - 1) (fun i => (cS l (i + 2)).isSome) (fun i => L22_0 (ii n) (.ro (sd b (nbL l))) (ii ((ad 2 i : Nat) : Int))) (fun i => (.ret, R22 (.own (si false (zl (cR l (i + 2))))) (ii 0))) _ (by simp) (by simp) ?_ (by simp [hend]) fu st h0 (by omega)
  intro i hi _
  have hle : ad 2 i ≤ n := by unfold ad; omega
  have hw : IntKind.i64.wrap (((ad 2 i : Nat) : Int) + 1) = ((ad 2 (i + 1) : Nat) : Int) := by
    rw [wrap_eq (by unfold I64; omega)]; unfold ad; omega
  have hL := loop22_1 call fuel hF n l h b (ad 2 i) (by unfold ad; omega) (by omega) (fun s hs => h40 s (ad 2 i) hs (by unfold ad; omega) (by omega)) fuel hF
  have he : i + 2 = ad 2 i := by unfold ad; omega
  unfold cR
  rw [he]
  simp [hle]
  rw [hL _ (by simp)]
  cases cS l (ad 2 i) with
  | none => simp [hw]
  | some s => simp
theorem f22 (call : Oracle) (fuel : Nat) (hF : 100 < fuel) (n : Nat) (l : List Bn) (h : VB n l) (b : Bool) (h17 : call 17 [nV n, sd b (nbL l)] = some (bV true))
    (h40 : ∀ s len : Nat, s < l.length → 2 ≤ len → len ≤ 16 → call 40 [nV n, sd b (nbL l), nV s, nV ((len - 1 : Nat) : Int)] = some (zT (len - 1 + 1) n (l.drop (s + 1)) (nth l zN s).1)) :
    callF call fuel c22 [nV n, sd b (nbL l)] = some (srD n l) := by
  rw [callF_tab call fuel c22 15 _ (by exact Nat.le_of_ble_eq_true rfl) (by exact Nat.le_of_ble_eq_true rfl)]
  have hL := loop22_0 call fuel hF n l h b h40 fuel hF
  unfold srD
  simp [c22, h17]
  rw [hL _ (by simp; rfl)]
  cases cF n l with
  | none => simp; rfl
  | some i => simp
theorem f22e (call : Oracle) (fuel : Nat) (n : Int) (b : Bool) (l : List (Int × Int × Int)) (h17 : call 17 [nV n, sd b l] = some (bV false)) :
    callF call fuel c22 [nV n, sd b l] = some (slD nilI 1) := by
  rw [callF_tab call fuel c22 15 _ (by exact Nat.le_of_ble_eq_true rfl) (by exact Nat.le_of_ble_eq_true rfl)]
  simp [c22, h17]
  rfl
end Go.Mx
