import Derived.Test.YtldfddgdcjaogaaDiQ
/-
  Refute at its depth; the fixed calls.
-/
namespace Go.Mx
set_option linter.unusedVariables false
set_option linter.unusedSimpArgs false
set_option linter.unusedSectionVars false
open Go

theorem sol_W {n : Nat} {b : List Bn} (hb : OkB n b) {g : MM} (hg : Sol n b g) {l : List Bn} (hl : ∀ c ∈ l, c ∈ b) {to : Nat} (hto : to < n) : ∀ (k : Nat) {v : Nat} {x : Int}, v < n → W l to k v = some x → lle (g v to) (some x)
  | 0, v, x, hv, h => by
    unfold W at h
    split at h
    · rename_i e; subst e; cases h; rw [hg.dg v hv]; simp
    · cases h
  | k + 1, v, x, hv, h => by
    obtain ⟨c, hc, rfl, y, hy, rfl⟩ := wS_some h
    have hcb := hl c hc
    have h1 := sol_W hb hg hl hto k (hb c hcb).2.1 hy
    have h2 := plus_mono (hg.le c hcb) h1
    rw [plus_some] at h2
    exact lle_trans (hg.cl c.2.1 (hb c hcb).2.1 c.1 hv to hto) h2
theorem sol_ng {n : Nat} {l : List Bn} (hb : OkB n l) {g : MM} (hg : Sol n l g) {s len : Nat} (hs : s < l.length) : ngC l s len = false := by
  cases h : ngC l s len with
  | false => rfl
  | true =>
    exfalso
    unfold ngC at h
    have hc := nth_mem zN hs
    have hv := hb _ hc
    cases e : wC l s (len - 1) (nth l zN s).2.1 with
    | none => rw [e] at h; cases h
    | some r =>
      rw [e] at h
      have h0 : (nth l zN s).2.2 + r < 0 := of_decide_eq_true h
      have h1 := sol_W hb hg (l := l.drop (s + 1)) (fun c hc => List.mem_of_mem_drop hc) hv.1 (len - 1) hv.2.1 e
      have h2 := plus_mono (hg.le _ hc) h1
      have h3 := lle_trans (hg.cl _ hv.2.1 _ hv.1 _ hv.1) h2
      rw [hg.dg _ hv.1, plus_some, lle_some] at h3
      omega
theorem sr_good {n : Nat} {l : List Bn} (h : VB n l) (hb : bad n l = false) : srD n l = slD nilI 7 := by
  have hg := sol_of h.ok hb
  have : cF n l = none := by
    unfold cF
    rw [List.find?_eq_none]
    intro i _
    have : cS l (i + 2) = none := by
      unfold cS
      rw [List.find?_eq_none]
      intro s hs
      rw [sol_ng h.ok hg (List.mem_range.1 hs)]; simp
    rw [this]; simp
  unfold srD
  rw [this]
theorem ref_eq {n : Nat} {l : List Bn} (h : VB n l) : refD n l = srD n l := by
  unfold refD
  cases hb : bad n l with
  | true => simp
  | false => rw [sr_good h hb]; simp

theorem s50 (k : Nat) (n : Nat) (l : List Bn) (h : VB n l) (b : Bool) (from' to len : Nat) (hft : from' ≤ l.length) (hto : to < n) (hln : len ≤ 16) : S (k + 2) 50 [nV n, sd b (nbL l), nV from', nV to, nV len] = some (wT (len + 1) n (l.drop from') to) := by
  rw [S, sem_succ (mf := c50) rfl]
  exact f50 _ _ (by decide) n l b from' to len hft hto h.ok h.len h.n16 hln h.c (s47 k) (s48 k)
theorem s39 (k : Nat) (n : Nat) (l : List Bn) (h : VB n l) (b : Bool) (s len : Nat) (hs : s < l.length) (h2 : 2 ≤ len) (h16 : len ≤ 16) : S (k + 3) 39 [nV n, sd b (nbL l), nV s, nV len] = some (cycD l s len) := by
  rw [S, sem_succ (mf := c39) rfl]
  exact f39 _ _ (by decide) n l h b s len hs h2 h16 (s50 k n l h b (s + 1) _ (len - 1) (by omega) (h.at hs).1 (by omega))
theorem s40 (k : Nat) (n : Nat) (l : List Bn) (h : VB n l) (b : Bool) (s m : Nat) (hs : s < l.length) (hm : m ≤ 16) : S (k + 1) 40 [nV n, sd b (nbL l), nV s, nV m] = some (zT (m + 1) n (l.drop (s + 1)) (nth l zN s).1) := by
  rw [S, sem_succ (mf := c40) rfl]
  exact f40 _ _ (by decide) n l h b s m hm hs
/-- What Refute gives. -/
def refI (n : Int) (l : List (Int × Int × Int)) : D := if validB n l = true then srD n.toNat (l.map nat3) else slD nilI 1
theorem refI_nb {n : Nat} {l : List Bn} (h : VB n l) : refI (n : Int) (nbL l) = srD n l := by
  unfold refI
  rw [if_pos (vb_valid h), nat3_nb]; rfl
theorem s21 (k : Nat) (n : Int) (b : Bool) (l : List (Int × Int × Int)) : S (k + 7) 21 [nV n, sd b l] = some (refI n l) := by
  rw [S, sem_succ (mf := c21) rfl]
  have h16 := s16 k n b l
  cases hv : validB n l with
  | false =>
    rw [hv] at h16
    unfold refI
    rw [hv, if_neg (by simp)]
    exact f21e _ _ n b l h16
  | true =>
    rw [hv] at h16
    obtain ⟨n, l, rfl, rfl, h⟩ := valid_vb hv
    rw [refI_nb h, ← ref_eq h]
    exact f21 _ _ (by decide) n l h b h16 (s32 (k + 4) n b l h) (fun s len hs h2 h16 => s39 (k + 3) n l h b s len hs h2 h16)
theorem s22 (k : Nat) (n : Int) (b : Bool) (l : List (Int × Int × Int)) (hl : l.length ≤ 1000) : S (k + 4) 22 [nV n, sd b l] = some (refI n l) := by
  rw [S, sem_succ (mf := c22) rfl]
  have h17 := s17 k n b l hl
  cases hv : validB n l with
  | false =>
    rw [hv] at h17
    unfold refI
    rw [hv, if_neg (by simp)]
    exact f22e _ _ n b l h17
  | true =>
    rw [hv] at h17
    obtain ⟨n, l, rfl, rfl, h⟩ := valid_vb hv
    rw [refI_nb h]
    exact f22 _ _ (by decide) n l h b h17 (fun s len hs h2 h16 => s40 (k + 2) n l h b s (len - 1) hs (by omega))

/-! ### the fixed calls -/
def aw2 : List (Int × Int × Int) := [(0, 1, 5), (1, 2, -2)]
def aw3 : List (Int × Int × Int) := [(0, 1, 5), (1, 2, -2), (2, 0, -4)]
theorem aw_sol : solI 3 aw2 = slD (si false [0, 5, 3]) 0 := rfl
theorem aw_tig : tigI 3 aw2 0 2 = tgD 3 true 0 := rfl
theorem aw_ref : refI 3 aw3 = slD (si false [0, 1, 2]) 0 := rfl
theorem f12 (call : Oracle) (fuel : Nat) (h18 : call 18 [nV 3, sd false aw2] = some (slD (si false [0, 5, 3]) 0)) (h14 : call 14 [nV 3, sd false aw2, nV 0, nV 2] = some (tgD 3 true 0))
    (h21 : call 21 [nV 3, sd false aw3] = some (slD (si false [0, 1, 2]) 0)) (h20 : ∀ l : List Int, l = [0, 5, 3] ∨ l = [0, 1, 2] → call 20 [si false l, si false l] = some (bV true)) :
    callF call fuel c12 [] = some (bV true) := by
  rw [callF_tab call fuel c12 24 _ (by exact Nat.le_of_ble_eq_true rfl) (by exact Nat.le_of_ble_eq_true rfl)]
  have e2 : T.nd (K.sl false 3 2) [T.v (Value.int .i64 0), T.v (Value.int .i64 1), T.v (Value.int .i64 5), T.v (Value.int .i64 1), T.v (Value.int .i64 2), T.v (Value.int .i64 (-2))] = sd false aw2 := rfl
  have e3 : aw2 ++ [(2, 0, -4)] = aw3 := rfl
  have e4 : T.nd (K.sl false 1 3) [T.v (Value.int .i64 0), T.v (Value.int .i64 5), T.v (Value.int .i64 3)] = si false [0, 5, 3] := rfl
  have e5 : T.nd (K.sl false 1 3) [T.v (Value.int .i64 0), T.v (Value.int .i64 1), T.v (Value.int .i64 2)] = si false [0, 1, 2] := rfl
  have hl : aw2.length + 1 ≤ most := by unfold most; decide
  have a1 := h20 _ (.inl rfl)
  have a2 := h20 _ (.inr rfl)
  generalize aw3 = q3 at *
  generalize aw2 = q2 at *
  generalize ([0, 5, 3] : List Int) = p1 at *
  generalize ([0, 1, 2] : List Int) = p2 at *
  simp [c12, e2, h18, h14, hl, e3, h21, e4, e5, a1, a2]
theorem s12 (k : Nat) : S (k + 8) 12 [] = some (bV true) := by
  rw [S, sem_succ (mf := c12) rfl]
  refine f12 _ _ ?_ ?_ ?_ ?_
  · rw [← aw_sol]; exact s18 k 3 false aw2
  · rw [← aw_tig]; exact s14 k 3 false aw2 0 2
  · rw [← aw_ref]; exact s21 k 3 false aw3
  · intro l hl
    have e := s20 (k + 6) false false l l (by rcases hl with rfl | rfl <;> simp)
    exact e.trans (by simp)
end Go.Mx
