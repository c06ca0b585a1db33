import Derived.Test.YtohmmlgnjiolfaaFrQ
/-
  Frames: the laws of changes, integers and strings.
-/
namespace Go.Mx
set_option linter.unusedVariables false
set_option linter.unusedSimpArgs false
set_option linter.unusedSectionVars false
open Go

@[simp] theorem zl_set (l : List Nat) (i v : Nat) : (zl l).set i (v : Int) = zl (l.set i v) := by simp [zl, List.map_set]

theorem f7 (call : Oracle) (fuel : Nat) (k x : Nat) (b : Bool) (d : List Nat) (h10 : call 10 [] = some (.v (.bool true))) (hx : x < 4294967296)
    (h14 : d.length ≤ 8192 → call 14 [.v (.int .u8 (k : Int)), gsl (eI .u8) b (zl d)] = some (sealD k d)) (hk : k < 256) (hb : By d)
    (h17 : ∀ i v, v < 256 → d.length ≤ 8192 → call 16 [gsl (eI .u8) false (zl ((sealL k d).set i v))] = some (opnD ((sealL k d).set i v))) :
    callF call fuel c7 [.v (.int .u8 (k : Int)), gsl (eI .u8) b (zl d), .v (.int .u32 (x : Int))] = some (.v (.bool true)) := by
  rw [callF_tab call fuel c7 56 _ (by exact Nat.le_of_ble_eq_true rfl) (by exact Nat.le_of_ble_eq_true rfl)]
  by_cases g1 : d.length ≤ 8192
  rotate_left
  · have i1 : (8192 : Int) < (d.length : Int) := by omega
    simp [c7, h10, i1]
  have i1 : ¬ (8192 : Int) < (d.length : Int) := by omega
  have e0 : (x : Int).tmod 256 = ((x % 256 : Nat) : Int) := tmod_nat _ 256
  have e1 : (x : Int).tdiv 256 = ((x / 256 : Nat) : Int) := tdiv_nat _ 256
  have hy : x / 256 < 16777216 := by omega
  have hz : x % 256 < 256 := by omega
  generalize x / 256 = y at *
  generalize x % 256 = z at *
  by_cases g2 : z = 0
  · subst g2
    simp [c7, h10, i1, e0]
  have g2' : ¬ (z : Int) = 0 := by omega
  have h14 := h14 g1
  rw [sealD, if_pos g1] at h14
  obtain ⟨n, hn⟩ : ∃ n, n = d.length + 9 := ⟨_, rfl⟩
  obtain ⟨m, hm⟩ : ∃ m, m = d.length + 6 := ⟨_, rfl⟩
  have hl : (sealL k d).length = n := by rw [seal_len, hn]
  have e2 : IntKind.i64.wrap ((n : Int) - 3) = (m : Int) := by rw [wrapI (by omega) (by omega)]; omega
  have m0 : ¬ m = 0 := by omega
  have e3 : IntKind.i64.wrap (y : Int) = (y : Int) := wrapI (by omega) (by omega)
  have e4 : (y : Int).tmod (m : Int) = ((y % m : Nat) : Int) := tmod_nat _ _
  have hc : y % m < m := Nat.mod_lt _ (by omega)
  have e5 : IntKind.u8.wrap (z : Int) = (z : Int) := wrap_nat .u8 (by show _ < 2 ^ 8; omega)
  have hu : IntKind.u32.wrap (y : Int) = (y : Int) := wrap_nat .u32 (by show _ < 2 ^ 32; omega)
  generalize y % m = c at *
  obtain ⟨i, hi⟩ : ∃ i, i = if 2 ≤ c then c + 3 else c := ⟨_, rfl⟩
  have hB := (By.sealL hk hb).nth i
  have hw : IntKind.u8.wrap (((nth (sealL k d) 0 i : Nat) : Int) + (z : Int)) = (((nth (sealL k d) 0 i + z) % 256 : Nat) : Int) := by
    rw [← Int.natCast_add]; exact wrap_u8 _
  have hv : (nth (sealL k d) 0 i + z) % 256 < 256 := Nat.mod_lt _ (by decide)
  have hne : (nth (sealL k d) 0 i + z) % 256 ≠ nth (sealL k d) 0 i := by omega
  generalize (nth (sealL k d) 0 i + z) % 256 = v at *
  have h17 := h17 i v hv g1
  have hin : i < n := by subst hi; split <;> omega
  have hi2 : i < 2 ∨ 5 ≤ i := by subst hi; split <;> omega
  rw [open_set k d hk hb g1 i v (by omega) hv hne hi2] at h17
  by_cases q : 2 ≤ c
  · rw [if_pos q] at hi
    have j1 : (2 : Int) ≤ (c : Int) := by omega
    have j2 : IntKind.i64.wrap ((c : Int) + 3) = (i : Int) := by rw [wrapI (by omega) (by omega)]; omega
    have j3 : ¬ i = 0 := by omega
    have j4 : ¬ (i : Int) = 0 := by omega
    rw [if_neg j3, oE] at h17
    simp [c7, h10, i1, e0, g2, g2', h14, hl, e1, e2, m0, e3, e4, j1, j2, hin, hw, h17, j3, j4, e5, hu]
  · rw [if_neg q] at hi
    subst hi
    have j1 : ¬ (2 : Int) ≤ (i : Int) := by omega
    by_cases j3 : i = 0
    · subst j3
      rw [if_pos rfl, oE] at h17
      simp [c7, h10, i1, e0, g2, g2', h14, hl, e1, e2, m0, e3, e4, j1, hin, hw, h17, e5, hu]
    · have j4 : ¬ (i : Int) = 0 := by omega
      rw [if_neg j3, oE] at h17
      simp [c7, h10, i1, e0, g2, g2', h14, hl, e1, e2, m0, e3, e4, j1, hin, hw, h17, j3, j4, e5, hu]
theorem law7 (k x : Nat) (hk : k < 256) (hx : x < 4294967296) (b : Bool) (d : List Nat) (hd : By d) : S 7 7 [.v (.int .u8 (k : Int)), gsl (eI .u8) b (zl d), .v (.int .u32 (x : Int))] = some (.v (.bool true)) := by
  rw [S, sem_succ (mf := c7) rfl]
  refine f7 _ _ k x b d s10 hx (fun h => s14 4 b k d hk hd (by omega)) hk hd (fun i v hv h => ?_)
  refine s16 4 false _ ?_ (by rw [List.length_set, seal_len]; omega) (by simp)
  intro y hy
  rcases List.mem_or_eq_of_mem_set hy with h | h
  · exact By.sealL hk hd y h
  · omega
/-- Integers. -/
theorem f8 (call : Oracle) (fuel : Nat) (n : Int) (hn : I64 n) (b : Bool) (r : List Nat) (h10 : call 10 [] = some (.v (.bool true)))
    (h18 : call 18 [.v (.int .i64 n)] = some (gsl (eI .u8) false (zl (bigL (tou n) 8))))
    (h21 : call 21 [.v (.int .i64 n)] = some (gsl (eI .u8) false (zl (bigL (tou n) 8))))
    (h15n : call 15 [nilB, nilB] = some (.v (.bool true)))
    (h15 : ∀ b c m, m = bigL (tou n) 8 ∨ m = r ∨ m = r.drop 8 → call 15 [gsl (eI .u8) b (zl m), gsl (eI .u8) c (zl m)] = some (.v (.bool true)))
    (h19 : r.length ≤ 100 → call 19 [gsl (eI .u8) b (zl r)] = some (rdI r))
    (h20 : r.length ≤ 100 → call 20 [gsl (eI .u8) b (zl r)] = some (rdI r))
    (h19' : r.length ≤ 100 → call 19 [gsl (eI .u8) false (zl (bigL (tou n) 8 ++ r))] = some (rdI (bigL (tou n) 8 ++ r))) :
    callF call fuel c8 [.v (.int .i64 n), gsl (eI .u8) b (zl r)] = some (.v (.bool true)) := by
  rw [callF_tab call fuel c8 42 _ (by exact Nat.le_of_ble_eq_true rfl) (by exact Nat.le_of_ble_eq_true rfl)]
  by_cases g1 : r.length ≤ 100
  rotate_left
  · have i1 : (100 : Int) < (r.length : Int) := by omega
    simp [c8, h10, i1]
  have i1 : ¬ (100 : Int) < (r.length : Int) := by omega
  have h19 := h19 g1
  have h20 := h20 g1
  have h19' := h19' g1
  rw [rdI_int hn] at h19'
  have hl : (bigL (tou n) 8).length = 8 := big_len _ _
  have a1 := h15 false false _ (.inl rfl)
  have a2 := h15 false b r (.inr (.inl rfl))
  have a3 := h15 false false _ (.inr (.inr rfl))
  generalize bigL (tou n) 8 = q at *
  have hm : 8 ≤ most := by unfold most; omega
  have hm2 : 8 + r.length ≤ most := by unfold most; omega
  have eA : T.nd (K.sl false 1 8) (gk (eI .u8) (zl q)) = gsl (eI .u8) false (zl q) := by rw [gsl, zl_len, hl]; rfl
  by_cases g2 : r.length < 8
  · rw [rdI, if_pos g2] at h19 h20
    simp [c8, h10, i1, h18, h21, h19, h20, h19', hl, hm, hm2, a1, a2, h15n, eA]
  · rw [rdI, if_neg g2] at h19 h20
    generalize IntKind.i64.wrap ((valF (r.take 8) : Nat) : Int) = w at *
    simp [c8, h10, i1, h18, h21, h19, h20, h19', hl, hm, hm2, a1, a2, a3, eA]
theorem law8 (n : Int) (hn : I64 n) (b : Bool) (r : List Nat) (hr : By r) (hbl : b = true → r = []) : S 7 8 [.v (.int .i64 n), gsl (eI .u8) b (zl r)] = some (.v (.bool true)) := by
  rw [S, sem_succ (mf := c8) rfl]
  refine f8 _ _ n hn b r s10 (s18 4 n) (s21 4 n) ?_ ?_ (fun h => s19 4 b r hr (by omega) hbl) (fun h => s20 4 b r hr (by omega) hbl) (fun h => s19 4 false _ ((By.big _ _).app hr) (by simp; omega) (by simp))
  · exact s15 4 true true [] [] (fun x h => by cases h) (fun x h => by cases h)
  · intro b c m h
    have hm : By m := by
      rcases h with rfl | rfl | rfl
      · exact By.big _ _
      · exact hr
      · exact hr.drop _
    exact (s15 4 b c m m hm hm).trans (by simp)

/-- Strings. -/
theorem rdS_shape (r : List Nat) : ∃ c1 l1 c2 l2 e, rdS r = .nd .tu [gsl (eI .u8) c1 (zl l1), gsl (eI .u8) c2 (zl l2), errD e] ∧ (l1 = [] ∨ l1 = (r.drop 2).take (valF (r.take 2))) ∧ (l2 = [] ∨ l2 = r.drop (valF (r.take 2) + 2)) := by
  unfold rdS
  split
  · exact ⟨true, [], true, [], _, rfl, .inl rfl, .inl rfl⟩
  split
  · exact ⟨true, [], true, [], _, rfl, .inl rfl, .inl rfl⟩
  split
  · exact ⟨true, [], true, [], _, rfl, .inl rfl, .inl rfl⟩
  · exact ⟨false, _, false, _, _, rfl, .inr rfl, .inr rfl⟩
theorem f9 (call : Oracle) (fuel : Nat) (a b : Bool) (s r : List Nat) (h10 : call 10 [] = some (.v (.bool true)))
    (h22 : s.length ≤ 5000 → call 22 [gsl (eI .u8) a (zl s)] = some (strD s))
    (h23 : s.length ≤ 5000 → call 23 [gsl (eI .u8) a (zl s)] = some (strD s))
    (h15n : call 15 [nilB, nilB] = some (.v (.bool true)))
    (h15 : ∀ b c m, m = strL s ∨ m = s ∨ m = r ∨ m = (r.drop 2).take (valF (r.take 2)) ∨ m = r.drop (valF (r.take 2) + 2) ∨ m = [] → call 15 [gsl (eI .u8) b (zl m), gsl (eI .u8) c (zl m)] = some (.v (.bool true)))
    (h24 : r.length ≤ 5000 → call 24 [gsl (eI .u8) b (zl r)] = some (rdS r))
    (h25 : r.length ≤ 5000 → call 25 [gsl (eI .u8) b (zl r)] = some (rdS r))
    (h24n : r.length ≤ 5000 → ∃ b1 m1 b2 m2 e, call 24 [gsl (eI .u8) false (zl r)] = some (.nd .tu [gsl (eI .u8) b1 (zl m1), gsl (eI .u8) b2 (zl m2), errD e]))
    (h24' : s.length ≤ 4096 → r.length ≤ 5000 → call 24 [gsl (eI .u8) false (zl (strL s ++ r))] = some (rdS (strL s ++ r))) :
    callF call fuel c9 [gsl (eI .u8) a (zl s), gsl (eI .u8) b (zl r)] = some (.v (.bool true)) := by
  rw [callF_tab call fuel c9 80 _ (by exact Nat.le_of_ble_eq_true rfl) (by exact Nat.le_of_ble_eq_true rfl)]
  by_cases g1 : s.length ≤ 5000
  rotate_left
  · have i1 : (5000 : Int) < (s.length : Int) := by omega
    simp [c9, h10, i1]
  have i1 : ¬ (5000 : Int) < (s.length : Int) := by omega
  by_cases g2 : r.length ≤ 5000
  rotate_left
  · have i2 : (5000 : Int) < (r.length : Int) := by omega
    simp [c9, h10, i1, i2]
  have i2 : ¬ (5000 : Int) < (r.length : Int) := by omega
  have h22 := h22 g1
  have h23 := h23 g1
  have h24 := h24 g2
  have h25 := h25 g2
  obtain ⟨b1, m1, b2, m2, e', h24n⟩ := h24n g2
  obtain ⟨c1, l1, c2, l2, e, hR, k1, k2⟩ := rdS_shape r
  have k1 := h15 c1 c1 l1 (by rcases k1 with rfl | rfl <;> simp)
  have k2 := h15 c2 c2 l2 (by rcases k2 with rfl | rfl <;> simp)
  rw [hR] at h24 h25
  have hm : r.length ≤ most := by unfold most; omega
  have a1 := h15 false false _ (.inl rfl)
  have a2 := h15 false a s (.inr (.inl rfl))
  have a3 := h15 false b r (.inr (.inr (.inl rfl)))
  by_cases g3 : s.length ≤ 4096
  · have h24' := h24' g3 g2
    rw [rdS_str g3] at h24'
    rw [strD, if_pos g3] at h22 h23
    have hl : (strL s).length ≤ most := by rw [str_len]; unfold most; omega
    have hl2 : (strL s).length + r.length ≤ most := by rw [str_len]; unfold most; omega
    have eA : T.nd (K.sl false 1 (strL s).length) (gk (eI .u8) (zl (strL s))) = gsl (eI .u8) false (zl (strL s)) := by rw [gsl, zl_len]; rfl
    simp [c9, h10, i1, i2, h22, h23, h24, h25, k1, k2, h24', hl, hl2, a1, a2, a3, eA]
  · rw [strD, if_neg g3] at h22 h23
    have eB : T.nd (K.sl false 1 0) (gk (eI .u8) []) = gsl (eI .u8) false (zl []) := rfl
    simp [c9, h10, i1, i2, h22, h23, h24, h25, k1, k2, h15n, hm, h24n, eB]
theorem law9 (a b : Bool) (s r : List Nat) (hs : By s) (hr : By r) (hbl : b = true → r = []) : S 7 9 [gsl (eI .u8) a (zl s), gsl (eI .u8) b (zl r)] = some (.v (.bool true)) := by
  rw [S, sem_succ (mf := c9) rfl]
  refine f9 _ _ a b s r s10 (fun h => s22 5 a s (by omega)) (fun h => s23 4 a s (by omega)) ?_ ?_ (fun h => s24 4 b r hr (by omega) hbl) (fun h => s25 4 b r hr (by omega) hbl) ?_ ?_
  · exact s15 4 true true [] [] (fun x h => by cases h) (fun x h => by cases h)
  · intro b c m h
    have hm : By m := by
      rcases h with rfl | rfl | rfl | rfl | rfl | rfl
      · exact By.strL hs
      · exact hs
      · exact hr
      · exact (hr.drop _).take _
      · exact hr.drop _
      · exact fun x h => by cases h
    exact (s15 4 b c m m hm hm).trans (by simp)
  · intro h
    obtain ⟨c1, l1, c2, l2, e, hR, _⟩ := rdS_shape r
    exact ⟨c1, l1, c2, l2, e, (s24 4 false r hr (by omega) (by simp)).trans (by rw [hR])⟩
  · intro h1 h2
    exact s24 4 false _ ((By.strL hs).app hr) (by rw [List.length_append, str_len]; omega) (by simp)
/-! ### arguments -/
theorem wf_nat {k : IntKind} {n : Int} (h : (Lit.int k n).wf = true) (hk : k.signed = false) : ∃ m : Nat, n = (m : Int) ∧ m < 2 ^ k.bits := by
  simp [Lit.wf, IntKind.min, IntKind.max, hk] at h
  refine ⟨n.toNat, by omega, ?_⟩
  have h1 : ((n.toNat : Nat) : Int) = n := by omega
  have h2 : n < ((2 ^ k.bits : Nat) : Int) := by
    rw [Int.natCast_pow]
    show n < (2 : Int) ^ k.bits
    omega
  omega
end Go.Mx
