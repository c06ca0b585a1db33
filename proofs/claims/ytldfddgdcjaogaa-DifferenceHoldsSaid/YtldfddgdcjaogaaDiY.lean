import Derived.Test.YtldfddgdcjaogaaDiU
/-
  Differences: Holds and IsCycle.
-/
namespace Go.Mx
set_option linter.unusedVariables false
set_option linter.unusedSimpArgs false
set_option linter.unusedSectionVars false
open Go

/-! ### Holds -/
abbrev bxD (d : D) : D := .nd (.bx false) [d]
def smB (v : Int) : Bool := decide (-1000000000 ≤ v) && decide (v ≤ 1000000000)
def brkB (x : List Int) (c : Bn) : Bool := decide (c.2.2 < nth x 0 c.2.1 - nth x 0 c.1)
def holdB (n : Nat) (l : List Bn) (x : List Int) : Bool := decide (x.length = n) && !(x.any fun v => !smB v) && !(l.any (brkB x))
theorem f43 (call : Oracle) (fuel : Nat) (v : Int) (h44 : call 44 [nV v, nV 1000000000] = some (bV (smB v))) : callF call fuel c43 [nV v] = some (bV (!smB v)) := by
  rw [callF_tab call fuel c43 3 _ (by exact Nat.le_of_ble_eq_true rfl) (by exact Nat.le_of_ble_eq_true rfl)]
  simp [c43, h44]
theorem f45 (call : Oracle) (fuel : Nat) (b : Bool) (x : List Int) (hx : ∀ v ∈ x, smB v = true) (c : Bn) (h1 : c.1 < x.length) (h2 : c.2.1 < x.length) :
    callF call fuel c45 [bD ((c.1 : Int), (c.2.1 : Int), c.2.2), bxD (si b x)] = some (bV (brkB x c)) := by
  rw [callF_tab call fuel c45 4 _ (by exact Nat.le_of_ble_eq_true rfl) (by exact Nat.le_of_ble_eq_true rfl)]
  have b1 := hx _ (nth_mem 0 h1)
  have b2 := hx _ (nth_mem 0 h2)
  unfold smB at b1 b2
  simp only [Bool.and_eq_true, decide_eq_true_eq] at b1 b2
  have e : IntKind.i64.wrap (nth x 0 c.2.1 - nth x 0 c.1) = nth x 0 c.2.1 - nth x 0 c.1 := wrapI (by omega) (by omega)
  unfold brkB
  simp [c45, h1, h2, e]
theorem any_small {x : List Int} (h : (x.any fun v => !smB v) = false) : ∀ v ∈ x, smB v = true := by
  intro v hv
  have := List.any_eq_false.1 h v hv
  simpa using this
theorem any_nb (l : List Bn) (p : Bn → Bool) : ((nbL l).any fun c => p (nat3 c)) = l.any p := by
  unfold nbL
  rw [List.any_map]
  rfl
theorem f26e (call : Oracle) (fuel : Nat) (n : Int) (b : Bool) (l : List (Int × Int × Int)) (c : Bool) (x : List Int) (h16 : call 16 [nV n, sd b l] = some (bV false)) :
    callB call fuel c26 [nV n, sd b l, si c x] = some (bV false) := by
  rw [callB_tab call fuel c26 7 _ rfl (by exact Nat.le_of_ble_eq_true rfl) (by exact Nat.le_of_ble_eq_true rfl)]
  simp [c26, h16]
theorem f26 (call : Oracle) (fuel : Nat) (n : Nat) (b : Bool) (l : List Bn) (c : Bool) (x : List Int) (h16 : call 16 [nV n, sd b (nbL l)] = some (bV true))
    (h42 : call 42 [si c x, fnV 43 []] = some (bV (x.any fun v => !smB v)))
    (h38 : x.length = n → (x.any fun v => !smB v) = false → call 38 [sd b (nbL l), fnV 45 [bxD (si c x)]] = some (bV (l.any (brkB x)))) :
    callB call fuel c26 [nV n, sd b (nbL l), si c x] = some (bV (holdB n l x)) := by
  rw [callB_tab call fuel c26 7 _ rfl (by exact Nat.le_of_ble_eq_true rfl) (by exact Nat.le_of_ble_eq_true rfl)]
  unfold holdB
  by_cases hn : x.length = n
  rotate_left
  · have : ¬ (x.length : Int) = (n : Int) := by omega
    simp [c26, h16, hn, this]
  have h38 := h38 hn
  generalize (x.any fun v => !smB v) = q at *
  cases q with
  | true => simp [c26, h16, hn, h42]
  | false =>
    have h38 := h38 rfl
    simp [c26, h16, hn, h42, h38]

theorem loop27_0 (call : Oracle) (fuel : Nat) (n : Nat) (d : D) (c : Bool) (x : List Int) (hn : x.length = n) (hl : n ≤ 16) (h41 : ∀ v, call 41 [nV v, nV 1000000000] = some (bV (smB v))) (fu : Nat) (hf : 100 < fu) (st : St)
    (h0 : drops st h27_0 = L27_0 (ii n) (.ro d) (.ro (si c x)) (ii 0)) :
    run.loopN (run call fuel b27_0) fu st = some (if (List.range n).any (fun i => !smB (nth x 0 i)) = true then (.ret, R27 (bb false)) else (.ex 0, X27_0 (.ro d) (.ro (si c x)))) := by
  refine loop_any call fuel h27_0 _ n (fun i => !smB (nth x 0 i)) (fun i => L27_0 (ii n) (.ro d) (.ro (si c x)) (ii i)) (.ret, R27 (bb false)) (.ex 0, X27_0 (.ro d) (.ro (si c x))) (by simp) (by simp) ?_ (by simp) fu st (by rw [h0]; rfl) (by omega)
  intro i hi _
  have hw := wrap_succ (i := i) (by omega)
  have e := h41 (nth x 0 i)
  generalize smB (nth x 0 i) = q at *
  cases q <;> simp [hi, hw, hn, e]
theorem loop27_1 (call : Oracle) (fuel : Nat) (n : Nat) (l : List Bn) (h : VB n l) (b c : Bool) (x : List Int) (hn : x.length = n) (hx : ∀ v ∈ x, smB v = true) (fu : Nat) (hf : 100 < fu) (st : St)
    (h0 : drops st h27_1 = L27_1 (.ro (sd b (nbL l))) (.ro (si c x)) (ii 0)) :
    run.loopN (run call fuel b27_1) fu st = some (if (List.range l.length).any (fun i => brkB x (nth l zN i)) = true then (.ret, R27 (bb false)) else (.ex 2, X27_2)) := by
  have hlen := h.len
  refine loop_any call fuel h27_1 _ l.length (fun i => brkB x (nth l zN i)) (fun i => L27_1 (.ro (sd b (nbL l))) (.ro (si c x)) (ii i)) (.ret, R27 (bb false)) (.ex 2, X27_2) (by simp) (by simp) ?_ (by simp) fu st (by rw [h0]; rfl) (by omega)
  intro i hi _
  have hw := wrap_succ (i := i) (by omega)
  have hv := h.at hi
  generalize hq : nth l zN i = q at *
  obtain ⟨a, b', z⟩ := q
  have k1 : a < x.length := by rw [hn]; exact hv.1
  have k2 : b' < x.length := by rw [hn]; exact hv.2.1
  have b1 := hx _ (nth_mem 0 k1)
  have b2 := hx _ (nth_mem 0 k2)
  unfold smB at b1 b2
  simp only [Bool.and_eq_true, decide_eq_true_eq] at b1 b2
  unfold brkB
  have e : IntKind.i64.wrap (nth x 0 b' - nth x 0 a) = nth x 0 b' - nth x 0 a := wrapI (by omega) (by omega)
  simp only
  by_cases c1 : z < nth x 0 b' - nth x 0 a
  · simp [hi, hq, k1, k2, e, c1]
  · simp [hi, hw, hq, k1, k2, e, c1]
theorem f27e (call : Oracle) (fuel : Nat) (n : Int) (b : Bool) (l : List (Int × Int × Int)) (c : Bool) (x : List Int) (h17 : call 17 [nV n, sd b l] = some (bV false)) :
    callF call fuel c27 [nV n, sd b l, si c x] = some (bV false) := by
  rw [callF_tab call fuel c27 9 _ (by exact Nat.le_of_ble_eq_true rfl) (by exact Nat.le_of_ble_eq_true rfl)]
  simp [c27, h17]
theorem f27 (call : Oracle) (fuel : Nat) (hF : 100 < fuel) (n : Nat) (b : Bool) (l : List Bn) (h : VB n l) (c : Bool) (x : List Int) (h17 : call 17 [nV n, sd b (nbL l)] = some (bV true)) (h41 : ∀ v, call 41 [nV v, nV 1000000000] = some (bV (smB v))) :
    callF call fuel c27 [nV n, sd b (nbL l), si c x] = some (bV (holdB n l x)) := by
  rw [callF_tab call fuel c27 9 _ (by exact Nat.le_of_ble_eq_true rfl) (by exact Nat.le_of_ble_eq_true rfl)]
  unfold holdB
  by_cases hn : x.length = n
  rotate_left
  · have : ¬ (x.length : Int) = (n : Int) := by omega
    simp [c27, h17, hn, this]
  have h1 := loop27_0 call fuel n (sd b (nbL l)) c x hn h.n16 h41 fuel hF
  have h2 := fun hx => loop27_1 call fuel n l h b c x hn hx fuel hF
  have ha : (List.range n).any (fun i => !smB (nth x 0 i)) = x.any fun v => !smB v := by rw [← hn]; exact any_nth x 0 fun v => !smB v
  have hb : (List.range l.length).any (fun i => brkB x (nth l zN i)) = l.any (brkB x) := any_nth l zN (brkB x)
  rw [ha] at h1
  rw [hb] at h2
  cases hq : (x.any fun v => !smB v) with
  | true =>
    rw [hq] at h1
    simp [c27, h17, hn]
    rw [h1 _ (by simp)]
    simp
  | false =>
    have h2 := h2 (any_small hq)
    rw [hq] at h1
    simp [c27, h17, hn]
    rw [h1 _ (by simp)]
    simp
    rw [h2 _ (by simp)]
    cases l.any (brkB x) <;> simp
/-! ### IsCycle -/
theorem f46 (call : Oracle) (fuel : Nat) (b : Bool) (l : List (Int × Int × Int)) (i : Int) : callF call fuel c46 [nV i, bxD (sd b l)] = some (bV (decide (i < 0) || decide ((l.length : Int) ≤ i))) := by
  rw [callF_tab call fuel c46 4 _ (by exact Nat.le_of_ble_eq_true rfl) (by exact Nat.le_of_ble_eq_true rfl)]
  by_cases h : i < 0 <;> simp [c46, h]

/-- The next place around. -/
def nxP (m k : Nat) : Nat := (k + 1) % m
def cJ (l : List Bn) (y : List Nat) (k : Nat) : Bool := decide ((nth l zN (nth y 0 k)).2.1 ≠ (nth l zN (nth y 0 (nxP y.length k))).1)
def cSum (l : List Bn) (y : List Nat) : Nat → Int
  | 0 => 0
  | k + 1 => cSum l y k + (nth l zN (nth y 0 k)).2.2
def cycB (l : List Bn) (y : List Nat) : Bool := !((List.range y.length).any (cJ l y)) && decide (cSum l y y.length < 0)
theorem cSum_bd {n : Nat} {l : List Bn} (h : VB n l) {y : List Nat} (hy : ∀ v ∈ y, v < l.length) : ∀ k, k ≤ y.length → -1000000 * (k : Int) ≤ cSum l y k ∧ cSum l y k ≤ 1000000 * (k : Int)
  | 0, _ => by simp [cSum]
  | k + 1, hk => by
    have ih := cSum_bd h hy k (by omega)
    have := h.c _ (nth_mem zN (hy _ (nth_mem 0 (show k < y.length by omega))))
    simp only [cSum]
    omega

theorem loop28 (call : Oracle) (fuel : Nat) (n : Nat) (l : List Bn) (h : VB n l) (b c : Bool) (y : List Nat) (hy : ∀ v ∈ y, v < l.length) (hl : y.length ≤ 40) (fu : Nat) (hf : 100 < fu) (st : St)
    (h0 : drops st h28_0 = L28_0 (.ro (si c (zl y))) (.ro (bxD (sd b (nbL l)))) (ii (cSum l y 0)) (.ro (si c (zl y))) (ii y.length) (ii 0)) :
    run.loopN (run call fuel b28_0) fu st = some (if (List.range y.length).any (cJ l y) = true then (.ret, R28 (bb false)) else (.ex 0, X28_0 (ii (cSum l y y.length)))) := by
  refine loop_any call fuel h28_0 _ y.length (cJ l y) (fun k => L28_0 (.ro (si c (zl y))) (.ro (bxD (sd b (nbL l)))) (ii (cSum l y k)) (.ro (si c (zl y))) (ii y.length) (ii k)) (.ret, R28 (bb false)) (.ex 0, X28_0 (ii (cSum l y y.length))) (by simp) (by simp) ?_ (by simp) fu st (by rw [h0]; rfl) (by omega)
  intro k hk _
  have hw := wrap_succ (i := k) (by omega)
  have hm0 : ¬ y.length = 0 := by omega
  have hyl : ¬ y = [] := by rintro rfl; simp at hk
  have t0 : ((k : Int) + 1).tmod (y.length : Int) = ((nxP y.length k : Nat) : Int) := tmod_nat (k + 1) y.length
  have hnx : nxP y.length k < y.length := Nat.mod_lt _ (by omega)
  have v1 := hy _ (nth_mem 0 hk)
  have v2 := hy _ (nth_mem 0 hnx)
  have hb := cSum_bd h hy k (by omega)
  have hx := h.c _ (nth_mem zN v1)
  have w1 : IntKind.i64.wrap (cSum l y k + (nth l zN (nth y 0 k)).2.2) = cSum l y (k + 1) := by
    rw [wrapI (by omega) (by omega)]; rfl
  have w2 : IntKind.i64.wrap ((k : Int) + 1) = (k : Int) + 1 := wrapI (by omega) (by omega)
  unfold cJ
  generalize cSum l y (k + 1) = s1 at *
  generalize nxP y.length k = j at *
  by_cases c1 : (nth l zN (nth y 0 k)).2.1 = (nth l zN (nth y 0 j)).1
  · simp [hk, w2, hm0, hyl, t0, hnx, v1, v2, c1, w1]
  · have c1' : ¬ (((nth l zN (nth y 0 k)).2.1 : Nat) : Int) = (((nth l zN (nth y 0 j)).1 : Nat) : Int) := by omega
    simp [hk, w2, hm0, hyl, t0, hnx, v1, v2, c1, c1']
theorem f28e (call : Oracle) (fuel : Nat) (n : Int) (b : Bool) (l : List (Int × Int × Int)) (c : Bool) (x : List Int) (h16 : call 16 [nV n, sd b l] = some (bV false)) :
    callB call fuel c28 [nV n, sd b l, si c x] = some (bV false) := by
  rw [callB_tab call fuel c28 25 _ rfl (by exact Nat.le_of_ble_eq_true rfl) (by exact Nat.le_of_ble_eq_true rfl)]
  simp [c28, h16]
def outB (m : Nat) (i : Int) : Bool := decide (i < 0) || decide ((m : Int) ≤ i)
theorem out_nat {m : Nat} {x : List Int} (h : x.any (outB m) = false) : ∃ y : List Nat, x = zl y ∧ ∀ v ∈ y, v < m := by
  have h := List.any_eq_false.1 h
  refine ⟨x.map Int.toNat, ?_, ?_⟩
  · unfold zl
    rw [List.map_map]
    conv => lhs; rw [← List.map_id x]
    apply List.map_congr_left
    intro v hv
    have := h v hv
    unfold outB at this
    simp at this
    simp [Function.comp]; omega
  · intro v hv
    obtain ⟨u, hu, rfl⟩ := List.mem_map.1 hv
    have := h u hu
    unfold outB at this
    simp at this
    omega
theorem nat_out {m : Nat} {y : List Nat} (h : ∀ v ∈ y, v < m) : (zl y).any (outB m) = false := by
  rw [List.any_eq_false]
  intro v hv
  obtain ⟨u, hu, rfl⟩ := List.mem_map.1 hv
  have := h u hu
  unfold outB
  simp; omega
/-- IsCycle of any list. -/
def cyI (l : List Bn) (x : List Int) : Bool := if x.length = 0 ∨ x.any (outB l.length) = true then false else cycB l (x.map Int.toNat)
theorem cyI_nat {l : List Bn} {y : List Nat} (h : ∀ v ∈ y, v < l.length) (hy : ¬ y.length = 0) : cyI l (zl y) = cycB l y := by
  unfold cyI
  rw [nat_out h, if_neg (by simp; exact fun e => hy (by rw [e]; rfl))]
  congr 1
  unfold zl
  rw [List.map_map]
  conv => rhs; rw [← List.map_id y]
  apply List.map_congr_left
  intro v _
  simp
theorem f28 (call : Oracle) (fuel : Nat) (hF : 100 < fuel) (n : Nat) (b : Bool) (l : List Bn) (h : VB n l) (c : Bool) (x : List Int) (hx : x.length ≤ 40) (h16 : call 16 [nV n, sd b (nbL l)] = some (bV true))
    (h42 : call 42 [si c x, fnV 46 [bxD (sd b (nbL l))]] = some (bV (x.any (outB l.length)))) :
    callB call fuel c28 [nV n, sd b (nbL l), si c x] = some (bV (cyI l x)) := by
  rw [callB_tab call fuel c28 25 _ rfl (by exact Nat.le_of_ble_eq_true rfl) (by exact Nat.le_of_ble_eq_true rfl)]
  by_cases h0 : x.length = 0
  · have hx0 : x = [] := List.length_eq_zero_iff.1 h0
    subst hx0
    simp [c28, h16, cyI]
  have h0' : ¬ x = [] := by rintro rfl; exact h0 rfl
  cases hq : x.any (outB l.length) with
  | true =>
    rw [hq] at h42
    have : cyI l x = false := by unfold cyI; rw [hq, if_pos (.inr rfl)]
    rw [this]
    simp [c28, h16, h0, h0', h42]
  | false =>
    rw [hq] at h42
    obtain ⟨y, rfl, hy⟩ := out_nat hq
    rw [zl_len] at h0 hx
    rw [cyI_nat hy h0]
    have hy0 : ¬ y = [] := by rintro rfl; exact h0 rfl
    have hL := loop28 call fuel n l h b c y hy hx fuel hF
    unfold cycB
    simp [c28, h16, h0, hy0, h42]
    rw [hL _ (by simp; rfl)]
    cases (List.range y.length).any (cJ l y) <;> simp
theorem loop29_0 (call : Oracle) (fuel : Nat) (m : Nat) (hm : m ≤ 80) (b c : Bool) (l : List (Int × Int × Int)) (hlm : l.length = m) (x : List Int) (hl : x.length ≤ 40)
    (h33 : ∀ x : Int, call 33 [nV x, nV 0, nV ((m : Int) - 1)] = some (bV (!outB m x))) (fu : Nat) (hf : 100 < fu) (st : St)
    (h0 : drops st h29_0 = L29_0 (.ro (sd b l)) (.ro (si c x)) (ii 0) (ii 0)) :
    run.loopN (run call fuel b29_0) fu st = some (if (List.range x.length).any (fun k => outB m (nth x 0 k)) = true then (.ret, R29 (bb false)) else (.ex 0, X29_0 (.ro (sd b l)) (.ro (si c x)) (ii 0))) := by
  refine loop_any call fuel h29_0 _ x.length (fun k => outB m (nth x 0 k)) (fun k => L29_0 (.ro (sd b l)) (.ro (si c x)) (ii 0) (ii k)) (.ret, R29 (bb false)) (.ex 0, X29_0 (.ro (sd b l)) (.ro (si c x)) (ii 0)) (by simp) (by simp) ?_ (by simp) fu st (by rw [h0]; rfl) (by omega)
  intro k hk _
  have hw := wrap_succ (i := k) (by omega)
  have w1 : IntKind.i64.wrap ((m : Int) - 1) = (m : Int) - 1 := wrapI (by omega) (by omega)
  have g := h33 (nth x 0 k)
  generalize outB m (nth x 0 k) = q at *
  cases q <;> simp [hk, hw, hlm, w1, g]
theorem loop29_1 (call : Oracle) (fuel : Nat) (n : Nat) (l : List Bn) (h : VB n l) (b c : Bool) (y : List Nat) (hy : ∀ v ∈ y, v < l.length) (hl : y.length ≤ 40) (fu : Nat) (hf : 100 < fu) (st : St)
    (h0 : drops st h29_1 = L29_1 (.ro (sd b (nbL l))) (.ro (si c (zl y))) (ii (cSum l y 0)) (ii 0)) :
    run.loopN (run call fuel b29_1) fu st = some (if (List.range y.length).any (cJ l y) = true then (.ret, R29 (bb false)) else (.ex 2, X29_2 (ii (cSum l y y.length)))) := by
  refine loop_any call fuel h29_1 _ y.length (cJ l y) (fun k => L29_1 (.ro (sd b (nbL l))) (.ro (si c (zl y))) (ii (cSum l y k)) (ii k)) (.ret, R29 (bb false)) (.ex 2, X29_2 (ii (cSum l y y.length))) (by simp) (by simp) ?_ (by simp) fu st (by rw [h0]; rfl) (by omega)
  intro k hk _
  have hw := wrap_succ (i := k) (by omega)
  have hy0 : 0 < y.length := by omega
  have v1 := hy _ (nth_mem 0 hk)
  have v0 := hy _ (nth_mem 0 hy0)
  have hb := cSum_bd h hy k (by omega)
  have hx := h.c _ (nth_mem zN v1)
  have w1 : IntKind.i64.wrap (cSum l y k + (nth l zN (nth y 0 k)).2.2) = cSum l y (k + 1) := by
    rw [wrapI (by omega) (by omega)]; rfl
  obtain ⟨k1, hk1⟩ : ∃ k1, k1 = k + 1 := ⟨_, rfl⟩
  have w2 : IntKind.i64.wrap ((k : Int) + 1) = (k1 : Int) := by rw [wrapI (by omega) (by omega)]; omega
  unfold cJ nxP
  rw [← hk1] at w1 ⊢
  generalize cSum l y k1 = s1 at *
  by_cases c0 : k1 < y.length
  · have e : k1 % y.length = k1 := Nat.mod_eq_of_lt c0
    have v2 := hy _ (nth_mem 0 c0)
    rw [e]
    by_cases c1 : (nth l zN (nth y 0 k)).2.1 = (nth l zN (nth y 0 k1)).1
    · simp [hk, w2, v1, v2, c0, c1, w1, hy0]
    · have c1' : ¬ (((nth l zN (nth y 0 k)).2.1 : Nat) : Int) = (((nth l zN (nth y 0 k1)).1 : Nat) : Int) := by omega
      simp [hk, w2, v1, v2, c0, c1, c1', hy0]
  · have e : k1 % y.length = 0 := by rw [show k1 = y.length by omega]; exact Nat.mod_self _
    rw [e]
    by_cases c1 : (nth l zN (nth y 0 k)).2.1 = (nth l zN (nth y 0 0)).1
    · simp [hk, w2, v1, v0, c0, c1, w1, hy0]
    · have c1' : ¬ (((nth l zN (nth y 0 k)).2.1 : Nat) : Int) = (((nth l zN (nth y 0 0)).1 : Nat) : Int) := by omega
      simp [hk, w2, v1, v0, c0, c1, c1', hy0]
theorem f29e (call : Oracle) (fuel : Nat) (n : Int) (b : Bool) (l : List (Int × Int × Int)) (c : Bool) (x : List Int) (h17 : call 17 [nV n, sd b l] = some (bV false)) :
    callF call fuel c29 [nV n, sd b l, si c x] = some (bV false) := by
  rw [callF_tab call fuel c29 11 _ (by exact Nat.le_of_ble_eq_true rfl) (by exact Nat.le_of_ble_eq_true rfl)]
  simp [c29, h17]
theorem f29 (call : Oracle) (fuel : Nat) (hF : 100 < fuel) (n : Nat) (b : Bool) (l : List Bn) (h : VB n l) (c : Bool) (x : List Int) (hx : x.length ≤ 40) (h17 : call 17 [nV n, sd b (nbL l)] = some (bV true))
    (h33 : ∀ x : Int, call 33 [nV x, nV 0, nV ((l.length : Int) - 1)] = some (bV (!outB l.length x))) :
    callF call fuel c29 [nV n, sd b (nbL l), si c x] = some (bV (cyI l x)) := by
  rw [callF_tab call fuel c29 11 _ (by exact Nat.le_of_ble_eq_true rfl) (by exact Nat.le_of_ble_eq_true rfl)]
  by_cases h0 : x.length = 0
  · have hx0 : x = [] := List.length_eq_zero_iff.1 h0
    subst hx0
    simp [c29, h17, cyI]
  have h0' : ¬ x = [] := by rintro rfl; exact h0 rfl
  have hA := loop29_0 call fuel l.length h.len b c (nbL l) (nb_len l) x hx h33 fuel hF
  have ha : (List.range x.length).any (fun k => outB l.length (nth x 0 k)) = x.any (outB l.length) := any_nth x 0 (outB l.length)
  rw [ha] at hA
  cases hq : x.any (outB l.length) with
  | true =>
    rw [hq] at hA
    have : cyI l x = false := by unfold cyI; rw [hq, if_pos (.inr rfl)]
    rw [this]
    simp [c29, h17, h0, h0']
    rw [hA _ (by simp)]
    simp
  | false =>
    rw [hq] at hA
    obtain ⟨y, rfl, hy⟩ := out_nat hq
    rw [zl_len] at h0 hx
    rw [cyI_nat hy h0]
    have hy0 : ¬ y = [] := by rintro rfl; exact h0 rfl
    have hL := loop29_1 call fuel n l h b c y hy hx fuel hF
    unfold cycB
    simp [c29, h17, h0, hy0]
    rw [hA _ (by simp)]
    simp
    rw [hL _ (by simp; rfl)]
    cases (List.range y.length).any (cJ l y) <;> simp

/-! ### at a depth -/
theorem s43 (k : Nat) (v : Int) : S (k + 2) 43 [nV v] = some (bV (!smB v)) := by
  rw [S, sem_succ (mf := c43) rfl]
  refine f43 _ _ v ?_
  rw [sem_succ (mf := c44) rfl]; exact f44 _ _ v 1000000000 (by decide)
theorem s42 (k : Nat) (f : FuncId) (kids : List D) (p : Int → Bool) (b : Bool) (x : List Int) (hx : x.length ≤ 1000) (hp : ∀ c ∈ x, S k f (nV c :: kids) = some (bV (p c))) : S (k + 2) 42 [si b x, fnV f kids] = some (bV (x.any p)) := by
  rw [S, sem_succ (mf := c42) rfl]
  refine f42 _ _ b x f kids p ?_
  rw [sem_succ (mf := c51) rfl]
  exact f51 _ _ (by decide) b x f kids p hp hx
theorem s38' (k : Nat) (f : FuncId) (kids : List D) (p : Int × Int × Int → Bool) (b : Bool) (l : List (Int × Int × Int)) (hl : l.length ≤ 1000) (hp : ∀ c ∈ l, S k f (bD c :: kids) = some (bV (p c))) : S (k + 2) 38 [sd b l, fnV f kids] = some (bV (l.any p)) := by
  rw [S, sem_succ (mf := c38) rfl]
  refine f38 _ _ b l f kids p ?_
  rw [sem_succ (mf := c49) rfl]
  exact f49 _ _ (by decide) b l f kids p hp hl
def holdI (n : Int) (l : List (Int × Int × Int)) (x : List Int) : Bool := if validB n l = true then holdB n.toNat (l.map nat3) x else false
theorem holdI_nb {n : Nat} {l : List Bn} (h : VB n l) (x : List Int) : holdI (n : Int) (nbL l) x = holdB n l x := by
  unfold holdI
  rw [if_pos (vb_valid h), nat3_nb]; rfl
theorem s26 (k : Nat) (n : Int) (b : Bool) (l : List (Int × Int × Int)) (c : Bool) (x : List Int) (hx : x.length ≤ 1000) : S (k + 7) 26 [nV n, sd b l, si c x] = some (bV (holdI n l x)) := by
  rw [S, sem_succB (mf := c26) rfl]
  have h16 := s16 k n b l
  cases hv : validB n l with
  | false =>
    rw [hv] at h16
    have : holdI n l x = false := by unfold holdI; rw [hv]; rfl
    rw [this]
    exact f26e _ _ n b l c x h16
  | true =>
    rw [hv] at h16
    obtain ⟨n, l, rfl, rfl, h⟩ := valid_vb hv
    rw [holdI_nb h]
    refine f26 _ _ n b l c x h16 ?_ ?_
    · exact s42 (k + 4) 43 [] (fun v => !smB v) c x hx (fun v _ => s43 (k + 2) v)
    · intro hn hsm
      have := s38' (k + 4) 45 [bxD (si c x)] (fun q => brkB x (nat3 q)) b (nbL l) (by have := h.len; simp; omega) (fun q hq => by
        unfold nbL at hq
        obtain ⟨q, hq', rfl⟩ := List.mem_map.1 hq
        have hv := h.ok q hq'
        rw [S, sem_succ (mf := c45) rfl]
        have e : nat3 ((q.1 : Int), (q.2.1 : Int), q.2.2) = q := by simp [nat3]
        rw [e]
        exact f45 _ _ c x (any_small hsm) q (by omega) (by omega))
      rw [any_nb] at this
      exact this
theorem s27 (k : Nat) (n : Int) (b : Bool) (l : List (Int × Int × Int)) (hl : l.length ≤ 1000) (c : Bool) (x : List Int) : S (k + 4) 27 [nV n, sd b l, si c x] = some (bV (holdI n l x)) := by
  rw [S, sem_succ (mf := c27) rfl]
  have h17 := s17 k n b l hl
  cases hv : validB n l with
  | false =>
    rw [hv] at h17
    have : holdI n l x = false := by unfold holdI; rw [hv]; rfl
    rw [this]
    exact f27e _ _ n b l c x h17
  | true =>
    rw [hv] at h17
    obtain ⟨n, l, rfl, rfl, h⟩ := valid_vb hv
    rw [holdI_nb h]
    exact f27 _ _ (by decide) n b l h c x h17 (fun v => s41 (k + 2) v 1000000000 (by decide))
def cycI (n : Int) (l : List (Int × Int × Int)) (x : List Int) : Bool := if validB n l = true then cyI (l.map nat3) x else false
theorem cycI_nb {n : Nat} {l : List Bn} (h : VB n l) (x : List Int) : cycI (n : Int) (nbL l) x = cyI l x := by
  unfold cycI
  rw [if_pos (vb_valid h), nat3_nb]
theorem s28 (k : Nat) (n : Int) (b : Bool) (l : List (Int × Int × Int)) (c : Bool) (x : List Int) (hx : x.length ≤ 40) : S (k + 7) 28 [nV n, sd b l, si c x] = some (bV (cycI n l x)) := by
  rw [S, sem_succB (mf := c28) rfl]
  have h16 := s16 k n b l
  cases hv : validB n l with
  | false =>
    rw [hv] at h16
    have : cycI n l x = false := by unfold cycI; rw [hv]; rfl
    rw [this]
    exact f28e _ _ n b l c x h16
  | true =>
    rw [hv] at h16
    obtain ⟨n, l, rfl, rfl, h⟩ := valid_vb hv
    rw [cycI_nb h]
    refine f28 _ _ (by decide) n b l h c x hx h16 ?_
    refine s42 (k + 4) 46 [bxD (sd b (nbL l))] (outB l.length) c x (by omega) (fun v _ => ?_)
    rw [S, sem_succ (mf := c46) rfl, f46, nb_len]
    rfl
theorem s29 (k : Nat) (n : Int) (b : Bool) (l : List (Int × Int × Int)) (hl : l.length ≤ 1000) (c : Bool) (x : List Int) (hx : x.length ≤ 40) : S (k + 4) 29 [nV n, sd b l, si c x] = some (bV (cycI n l x)) := by
  rw [S, sem_succ (mf := c29) rfl]
  have h17 := s17 k n b l hl
  cases hv : validB n l with
  | false =>
    rw [hv] at h17
    have : cycI n l x = false := by unfold cycI; rw [hv]; rfl
    rw [this]
    exact f29e _ _ n b l c x h17
  | true =>
    rw [hv] at h17
    obtain ⟨n, l, rfl, rfl, h⟩ := valid_vb hv
    rw [cycI_nb h]
    refine f29 _ _ (by decide) n b l h c x hx h17 fun v => ?_
    refine (s33 (k + 2) v 0 ((l.length : Int) - 1)).trans (congrArg (fun q => some (bV q)) ?_)
    unfold outB
    rw [Bool.eq_iff_iff]
    simp
    omega

theorem f10 (call : Oracle) (fuel : Nat) (n : Int) (b : Bool) (l : List (Int × Int × Int)) (c : Bool) (x : List Int) (h12 : call 12 [] = some (bV true)) (h13 : call 13 [sd b l] = some (bV (decide (l.length ≤ 90)))) (p q : Bool)
    (h26 : x.length ≤ 40 → call 26 [nV n, sd b l, si c x] = some (bV p)) (h27 : l.length ≤ 90 → call 27 [nV n, sd b l, si c x] = some (bV p))
    (h28 : x.length ≤ 40 → call 28 [nV n, sd b l, si c x] = some (bV q)) (h29 : l.length ≤ 90 → x.length ≤ 40 → call 29 [nV n, sd b l, si c x] = some (bV q)) :
    callF call fuel c10 [nV n, sd b l, si c x] = some (bV true) := by
  rw [callF_tab call fuel c10 7 _ (by exact Nat.le_of_ble_eq_true rfl) (by exact Nat.le_of_ble_eq_true rfl)]
  by_cases hl : l.length ≤ 90
  · by_cases hx : x.length ≤ 40
    · have hx' : ¬ (40 : Int) < (x.length : Int) := by omega
      have h26 := h26 hx
      have h27 := h27 hl
      have h28 := h28 hx
      have h29 := h29 hl hx
      cases p <;> cases q <;> simp [c10, h12, h13, hl, hx', h26, h27, h28, h29]
    · have hx' : (40 : Int) < (x.length : Int) := by omega
      simp [c10, h12, h13, hl, hx']
  · simp [c10, h12, h13, hl]
theorem law10 (n : Int) (b : Bool) (l : List (Int × Int × Int)) (c : Bool) (x : List Int) : S 10 10 [nV n, sd b l, si c x] = some (bV true) := by
  rw [S, sem_succ (mf := c10) rfl]
  exact f10 _ _ n b l c x (s12 1) (s13 8 b l) _ _ (fun hx => s26 2 n b l c x (by omega)) (fun hl => s27 5 n b l (by omega) c x) (fun hx => s28 2 n b l c x hx) (fun hl hx => s29 5 n b l (by omega) c x hx)
end Go.Mx
