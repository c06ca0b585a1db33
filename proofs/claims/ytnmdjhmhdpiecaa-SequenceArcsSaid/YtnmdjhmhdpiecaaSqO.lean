import Derived.Test.YtnmdjhmhdpiecaaSqN
/-
  Sequences: how many orders have a vertex at a place, of the program.
-/
namespace Go.Mx
set_option linter.unusedVariables false
set_option linter.unusedSimpArgs false
set_option linter.unusedSectionVars false
open Go

theorem updF_id (g : Nat → Nat) (q : Nat) : updF g q (g q) = g := by
  funext j
  unfold updF
  split
  · rename_i h; rw [h]
  · rfl
/-- How many vertices the sets have that were reached. -/
def zU (a : NA) (k : Nat) (z : Nat → Nat) (s : Nat) : Nat → Nat → Nat
  | 0 => z
  | u + 1 => if rdy a s u = true ∧ 0 < k then updF (zU a k z s u) (s ||| pw u) (z s + 1) else zU a k z s u
def zJ (n : Nat) (a : NA) : Nat → Nat → Nat
  | 0 => fun _ => 0
  | s + 1 => zU a (frF n a s) (zJ n a s) s n
theorem zU_below (a : NA) (k : Nat) (z : Nat → Nat) (s : Nat) : ∀ (u t : Nat), t ≤ s → zU a k z s u t = z t
  | 0, _, _ => rfl
  | u + 1, t, h => by
    simp only [zU]
    split
    · rename_i hr
      have := or_gt (rdy_bit hr.1)
      unfold updF
      rw [if_neg (by omega)]
      exact zU_below a k z s u t h
    · exact zU_below a k z s u t h
theorem zU_le {a : NA} {k : Nat} {z : Nat → Nat} {s B : Nat} (h : ∀ t, z t ≤ B) : ∀ (u t : Nat), zU a k z s u t ≤ B + 1
  | 0, t => by have := h t; simp only [zU]; omega
  | u + 1, t => by
    simp only [zU]
    split
    · unfold updF
      split
      · have := h s; omega
      · exact zU_le h u t
    · exact zU_le h u t
theorem zJ_le (n : Nat) (a : NA) : ∀ s t, zJ n a s t ≤ s
  | 0, _ => Nat.le_refl _
  | s + 1, t => zU_le (zJ_le n a s) n t
theorem zJ_done (n : Nat) (a : NA) (t : Nat) : ∀ s, t ≤ s → zJ n a s t = zJ n a t t
  | 0, h => by have : t = 0 := by omega
               subst this; rfl
  | s + 1, h => by
    by_cases ht : t = s + 1
    · subst ht; rfl
    · show zU a (frF n a s) (zJ n a s) s n t = _
      rw [zU_below a _ _ s n t (by omega)]
      exact zJ_done n a t s (by omega)
theorem zU_cnt {n : Nat} {a : NA} {g z : Nat → Nat} {s : Nat} (h : ∀ t, s ≤ t → 0 < g t → z t = cnB n t) : ∀ u, u ≤ n → ∀ t, s < t → 0 < frU a g s u t → zU a (g s) z s u t = cnB n t
  | 0, _, t, ht, hp => h t (by omega) hp
  | u + 1, hu, t, ht, hp => by
    have ih := zU_cnt (a := a) h u (by omega)
    simp only [zU]
    simp only [frU] at hp
    by_cases hr : rdy a s u = true
    · rw [if_pos hr] at hp
      have hc := cnB_or (n := n) (show u < n by omega) (rdy_bit hr)
      by_cases hk : 0 < g s
      · rw [if_pos ⟨hr, hk⟩]
        by_cases hq : t = s ||| pw u
        · unfold updF
          rw [if_pos hq, hq, hc, h s (Nat.le_refl _) hk]
        · unfold updF at hp ⊢
          rw [if_neg hq] at hp ⊢
          exact ih t ht hp
      · rw [if_neg (fun hh => hk hh.2)]
        refine ih t ht ?_
        unfold updF at hp
        split at hp
        · rename_i hq; subst hq; omega
        · exact hp
    · rw [if_neg hr] at hp
      rw [if_neg (fun hh => hr hh.1)]
      exact ih t ht hp
theorem zJ_cnt {n : Nat} {a : NA} : ∀ s, ∀ t, s ≤ t → 0 < frJ n a s t → zJ n a s t = cnB n t
  | 0, t, _, hp => by
    have : t = 0 := by
      simp only [frJ, updF] at hp
      split at hp
      · assumption
      · omega
    subst this
    rw [cnB_zero]; rfl
  | s + 1, t, ht, hp => zU_cnt (n := n) (a := a) (g := frJ n a s) (z := zJ n a s) (s := s) (zJ_cnt s) n (Nat.le_refl _) t (by omega) hp
theorem zJ_fin {n : Nat} {a : NA} {s : Nat} (h : 0 < frF n a s) (hs : s < pw n) : zJ n a (pw n) s = cnB n s := by
  rw [zJ_done n a s _ (by omega)]
  exact zJ_cnt s s (Nat.le_refl _) h

theorem loop32_1 (call : Oracle) (fuel : Nat) (n : Nat) (hn : n ≤ 10) (a : NA) (need : List Int) (w o : Nat → Nat) (h43 : ∀ s v : Nat, s < pw n → v < n → call 43 [tbD n false false need (zr (pw n) w), nV s, nV v] = some (bV (rdy a s v))) (i : Nat) (s : Nat) (hs : s < pw n) (k : Nat) (hk : k = frF n a s) (fu : Nat) (hf : 1100 < fu) (st : St)
    (h0 : drops st h32_1 = L32_1 (ii n) (ii i) (.own (bxT n need (zr (pw n) w))) (.own (sz (pw n) (frJ n a s))) (.own (sz (pw n) (zJ n a s))) (.own (sz n o)) (ii s) (ii k) (.ref 10 []) (ii (pw n)) (ii s) (ii n) (ii 0)) :
    run.loopN (run call fuel b32_1) fu st = some (.ex 2, X32_2 (ii n) (ii i) (.own (bxT n need (zr (pw n) w))) (.own (sz (pw n) (frJ n a (s + 1)))) (.own (sz (pw n) (zJ n a (s + 1)))) (.own (sz n o)) (.ref 10 []) (ii (pw n)) (ii s)) := by
  refine loop_cnt call fuel h32_1 _ n (fun u => L32_1 (ii n) (ii i) (.own (bxT n need (zr (pw n) w))) (.own (sz (pw n) (frU a (frJ n a s) s u))) (.own (sz (pw n) (zU a k (zJ n a s) s u))) (.own (sz n o)) (ii s) (ii k) (.ref 10 []) (ii (pw n)) (ii s) (ii n) (ii u)) _ (by simp) ?_ (by simp [frJ, zJ, hk]) fu st (by rw [h0]; rfl) (by omega)
  intro u hu
  have hwu := wrap_succ (i := u) (by omega)
  have hN := pw_le10 hn
  have hor := or_lt hs hu
  have kk := h43 s u hs hu
  have e1 := bits_shl1 .i64 (t := u) (by show u < 63; omega)
  have e2 : intBin .or .i64 (s : Int) ((pw u : Nat) : Int) = some (.int .i64 ((s ||| pw u : Nat) : Int)) := by
    have hpv : pw u < pw n := Nat.pow_lt_pow_right (by decide) hu
    exact bits_or .i64 (show s < 2 ^ 63 by omega) (show pw u < 2 ^ 63 by omega)
  have b1 := frU_bd hn a (s := s) (u := u + 1) (by omega) hor
  have b0 : frJ n a s s = k := hk.symm
  have z0 : zU a k (zJ n a s) s u s = zJ n a s s := zU_below a k _ s u s (Nat.le_refl _)
  have z1 := zJ_le n a s s
  simp only [frU, zU] at b1 ⊢
  cases hr : rdy a s u with
  | false =>
    rw [hr] at kk
    generalize frU a (frJ n a s) s u = g at *
    generalize zU a k (zJ n a s) s u = z at *
    simp [hu, hwu, kk]
  | true =>
    rw [hr] at kk b1
    rw [if_pos rfl, b0] at b1
    rw [b0]
    rw [← z0] at z1 ⊢
    clear hk b0 z0 h0
    generalize frU a (frJ n a s) s u = g at *
    generalize zU a k (zJ n a s) s u = z at *
    generalize s ||| pw u = q at *
    have h5 : updF g q (g q + k) q = g q + k := by unfold updF; rw [if_pos rfl]
    rw [h5] at b1
    by_cases hk0 : 0 < k
    · have n2 := zr_nth (pw n) g hor
      have n3 := zr_nth (pw n) z hs
      obtain ⟨y, hy⟩ : ∃ y, y = g q + k := ⟨_, rfl⟩
      have e5 : IntKind.i64.wrap (((g q : Nat) : Int) + (k : Int)) = (y : Int) := by rw [wrapI (by omega) (by omega)]; omega
      obtain ⟨x, hx⟩ : ∃ x, x = z s + 1 := ⟨_, rfl⟩
      have e6 : IntKind.i64.wrap (((z s : Nat) : Int) + 1) = (x : Int) := by rw [wrapI (by omega) (by omega)]; omega
      have e7 : (0 : Int) < (k : Int) := by omega
      rw [← hy, ← hx]
      simp [hu, hwu, kk, e1, e2, hs, hor, n2, n3, e5, e6, e7, hk0]
    · have hk1 : k = 0 := by omega
      subst hk1
      have e8 : updF g q (g q + 0) = g := updF_id g q
      rw [e8]
      simp [hu, hwu, kk]
theorem loop32_0 (call : Oracle) (fuel : Nat) (hF : 1100 < fuel) (n : Nat) (hn : n ≤ 10) (a : NA) (need : List Int) (w : Nat → Nat) (h43 : ∀ s v : Nat, s < pw n → v < n → call 43 [tbD n false false need (zr (pw n) w), nV s, nV v] = some (bV (rdy a s v))) (i : Nat) (o : Nat → Nat) (fu : Nat) (hf : 1100 < fu) (st : St)
    (h0 : drops st h32_0 = L32_0 (ii n) (ii i) (.own (bxT n need (zr (pw n) w))) (.own (sz (pw n) (frJ n a 0))) (.own (sz (pw n) fun _ => 0)) (.own (sz n o)) (.ref 10 []) (ii (pw n)) (ii 0)) :
    run.loopN (run call fuel b32_0) fu st = some (.ex 0, X32_0 (ii i) (.own (bxT n need (zr (pw n) w))) (.own (sz (pw n) (frJ n a (pw n)))) (.own (sz (pw n) (zJ n a (pw n)))) (.own (sz n o))) := by
  have hN := pw_le10 hn
  refine loop_cnt call fuel h32_0 _ (pw n) (fun s => L32_0 (ii n) (ii i) (.own (bxT n need (zr (pw n) w))) (.own (sz (pw n) (frJ n a s))) (.own (sz (pw n) (zJ n a s))) (.own (sz n o)) (.ref 10 []) (ii (pw n)) (ii s)) _ (by simp) ?_ (by simp) fu st (by rw [h0]; rfl) (by omega)
  intro s hs
  have hws := wrap_succ (i := s) (by omega)
  have hL := loop32_1 call fuel n hn a need w o h43 i s hs _ rfl fuel hF
  have n1 : nth (zr (pw n) (frJ n a s)) 0 s = ((frF n a s : Nat) : Int) := zr_nth (pw n) (frJ n a s) hs
  generalize frF n a s = k at *
  generalize frJ n a (s + 1) = g' at *
  generalize frJ n a s = g at *
  generalize zJ n a (s + 1) = z' at *
  generalize zJ n a s = z at *
  simp [hs, n1]
  rw [hL _ (by simp)]
  simp [hws]
theorem loop32_2 (call : Oracle) (fuel : Nat) (n : Nat) (hn : n ≤ 10) (a : NA) (need : List Int) (w : Nat → Nat) (hw : w = wyG n a) (h43 : ∀ s v : Nat, s < pw n → v < n → call 43 [tbD n false false need (zr (pw n) w), nV s, nV v] = some (bV (rdy a s v))) (i : Nat) (hi : i < n) (g z : Nat → Nat) (hg : ∀ s, s < pw n → g s = frF n a s) (hz : ∀ s, s < pw n → 0 < g s → z s = cnB n s) (fu : Nat) (hf : 1100 < fu) (st : St)
    (h0 : drops st h32_2 = L32_2 (ii i) (.own (bxT n need (zr (pw n) w))) (.own (sz (pw n) g)) (.own (sz (pw n) z)) (.own (sz n (outJ n a w i 0))) (.ref 10 []) (ii (pw n)) (ii 0)) :
    run.loopN (run call fuel b32_2) fu st = some (.ex 4, X32_4 (.own (sz n (outJ n a w i (pw n))))) := by
  have hN := pw_le10 hn
  refine loop_cnt call fuel h32_2 _ (pw n) (fun s => L32_2 (ii i) (.own (bxT n need (zr (pw n) w))) (.own (sz (pw n) g)) (.own (sz (pw n) z)) (.own (sz n (outJ n a w i s))) (.ref 10 []) (ii (pw n)) (ii s)) _ (by simp) ?_ (by simp) fu st (by rw [h0]; rfl) (by omega)
  intro s hs
  have hws := wrap_succ (i := s) (by omega)
  have kk := h43 s i hs hi
  have hor := or_lt hs hi
  have b1 := outJ_le hn a hi (s := s + 1) (p := cnB n s) (by omega)
  have f1 : frF n a s ≤ 10000000000 := frF_le hn a (Nat.le_refl s) hs
  have f2 := wy_lt hn a (s ||| pw i)
  rw [← hw] at b1 f2
  have e2 := bits_shl1 .i64 (t := i) (by show i < 63; omega)
  have e3 : intBin .or .i64 (s : Int) ((pw i : Nat) : Int) = some (.int .i64 ((s ||| pw i : Nat) : Int)) := by
    have hpv : pw i < pw n := Nat.pow_lt_pow_right (by decide) hi
    exact bits_or .i64 (show s < 2 ^ 63 by omega) (show pw i < 2 ^ 63 by omega)
  have n1 := zr_nth (pw n) g hs
  have n4 := zr_nth (pw n) z hs
  have hz := hz s hs
  rw [hg s hs] at n1 hz
  simp only [outJ] at b1 ⊢
  generalize outJ n a w i s = o at *
  generalize frF n a s = k at *
  cases hr : rdy a s i with
  | false =>
    rw [hr] at kk
    by_cases hk : (0 : Int) < (k : Int)
    · have hk' : 0 < k := by omega
      simp [hs, n1, hk, hk', kk, hws]
    · have hk' : k = 0 := by omega
      subst hk'
      simp [hs, n1, hws]
  | true =>
    have hc := cnB_lt hi (rdy_bit hr)
    have b1 := b1 hc
    rw [hr] at kk b1
    rw [if_pos rfl] at b1
    generalize s ||| pw i = q at *
    have h5 : updF o (cnB n s) (o (cnB n s) + k * w q) (cnB n s) = o (cnB n s) + k * w q := by unfold updF; rw [if_pos rfl]
    rw [h5] at b1
    by_cases hk : 0 < k
    · have hk' : (0 : Int) < (k : Int) := by omega
      have hz := hz hk
      rw [← hz] at b1 hc ⊢
      generalize hzs : z s = c at *
      have n2 := zr_nth (pw n) w hor
      have n3 := zr_nth n o hc
      obtain ⟨x, hx⟩ : ∃ x, x = k * w q := ⟨_, rfl⟩
      rw [← hx] at b1 ⊢
      have e5 : IntKind.i64.wrap ((k : Int) * ((w q : Nat) : Int)) = (x : Int) := by rw [← Int.natCast_mul, ← hx, wrapI (by omega) (by omega)]
      obtain ⟨y, hy⟩ : ∃ y, y = o c + x := ⟨_, rfl⟩
      have e6 : IntKind.i64.wrap (((o c : Nat) : Int) + (x : Int)) = (y : Int) := by rw [wrapI (by omega) (by omega)]; omega
      rw [← hy]
      simp [hs, n1, hk, hk', kk, hws, e2, e3, hor, hc, n2, n3, n4, e5, e6]
    · have hk' : k = 0 := by omega
      subst hk'
      have e8 : updF o (cnB n s) (o (cnB n s) + 0 * w q) = o := by rw [Nat.zero_mul]; exact updF_id o _
      rw [e8]
      simp [hs, n1, hws]
theorem f32 (call : Oracle) (fuel : Nat) (hF : 1100 < fuel) (n : Nat) (b : Bool) (a : NA) (e i : Int) (hE : e = 0 → n ≤ 10)
    (h35 : call 35 [nV n, sa b (arcsZ a)] = some (nV e)) (h36 : e = 0 → call 36 [nV n, sa b (arcsZ a)] = some (tbW n a))
    (h43 : e = 0 → ∀ s v : Nat, s < pw n → v < n → call 43 [tbW n a, nV s, nV v] = some (bV (rdy a s v))) :
    callF call fuel c32 [nV n, sa b (arcsZ a), nV i] = some (plD n a e i) := by
  rw [callF_tab call fuel c32 89 _ (by exact Nat.le_of_ble_eq_true rfl) (by exact Nat.le_of_ble_eq_true rfl)]
  unfold plD
  by_cases he : e = 0
  · subst he
    have hn := hE rfl
    have h36 := h36 rfl
    rw [if_pos rfl]
    by_cases h1 : i < 0
    · rw [if_neg (by omega)]
      simp [c32, h35, h1]
      rfl
    · by_cases h2 : i < n
      · obtain ⟨k, rfl⟩ : ∃ m : Nat, i = (m : Int) := ⟨i.toNat, by omega⟩
        have hk : k < n := by omega
        have hN := pw_le10 hn
        have hL := loop32_0 call fuel hF n hn a _ _ (h43 rfl) k (fun _ => 0) fuel hF
        have hL2 := loop32_2 call fuel n hn a _ _ rfl (h43 rfl) k hk (frJ n a (pw n)) (zJ n a (pw n)) (fun s hs => frJ_done n a s _ (by omega)) (fun s hs hp => zJ_fin (by rw [← frJ_done n a s (pw n) (by omega)]; exact hp) hs) fuel hF
        have e1 := bits_shl1 .i64 (t := n) (by show n < 63; omega)
        have hm : pw n ≤ most := by unfold most; omega
        have hm' : n ≤ most := by unfold most; omega
        have hr : List.replicate (pw n) (0 : Int) = zr (pw n) fun _ => 0 := row_rep _ _
        have hr' : List.replicate n (0 : Int) = zr n fun _ => 0 := row_rep _ _
        have hs : (zr (pw n) fun _ => 0).set 0 1 = zr (pw n) (frJ n a 0) := zr_set (pw n) (fun _ => 0) 0 1
        have hp : 0 < pw n := by omega
        have h3 : ¬ n ≤ k := by omega
        have ho : outJ n a (wyG n a) k 0 = fun _ => 0 := rfl
        rw [ho] at hL2
        rw [if_pos (by omega), Int.toNat_natCast]
        generalize outJ n a (wyG n a) k (pw n) = o at *
        generalize frJ n a (pw n) = g at *
        generalize zJ n a (pw n) = z at *
        simp [c32, h35, h36, h3, e1, hm, hm', hr, hr', hs, hp]
        rw [hL _ (by simp)]
        simp
        rw [hL2 _ (by simp)]
        simp
      · have h3 : (n : Int) ≤ i := by omega
        rw [if_neg (by omega)]
        simp [c32, h35, h1, h3]
        rfl
  · rw [if_neg he]
    simp [c32, h35, he]
    rfl
end Go.Mx
