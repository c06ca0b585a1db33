import Derived.Test.YtgbikojcpfdbiaaPoL
import Derived.Test.YtgbikojcpfdbiaaPoW
import Derived.Test.YtgbikojcpfdbiaaMxV
/-
  Posets: calls up to a depth; the laws on orders and on valid digraphs; arguments.
-/
namespace Go.Mx
set_option linter.unusedVariables false
set_option linter.unusedSimpArgs false
set_option linter.unusedSectionVars false
open Go

abbrev S (n : Nat) : Oracle := sem tbl 1100 n

theorem s9 : S 10 9 [] = some (.v (.bool true)) := awake_ok
theorem s10 (n : Nat) (b : Bool) (a : List (Int × Int)) : S (n + 1) 10 [sa b a] = some (.v (.bool (decide (a.length ≤ 150)))) := by rw [S, sem_succ (mf := c10) rfl]; exact f10 _ _ b a
theorem s15 (k : Nat) (b c : Bool) (l m : List Int) (hl : l.length ≤ 1000) : S (k + 1) 15 [si b l, si c m] = some (.v (.bool (l == m))) := by rw [S, sem_succ (mf := c15) rfl]; exact f15 _ _ (by decide) b c l m hl
theorem s19 (k : Nat) (b c : Bool) (l m : List (Int × Int)) (hl : l.length ≤ 1000) : S (k + 1) 19 [sa b l, sa c m] = some (.v (.bool (l == m))) := by rw [S, sem_succ (mf := c19) rfl]; exact f19 _ _ (by decide) b c l m hl
theorem s30 (k : Nat) : Has30 (S (k + 1)) := by
  intro b l v hl
  rw [S, sem_succ (mf := c30) rfl, f30 _ _ (by decide) b (zl l) (by simpa using hl), zl_any]
theorem s20 (k : Nat) (b : Bool) (n : Int) (a : List (Int × Int)) (hl : a.length ≤ 1000) : S (k + 1) 20 [.v (.int .i64 n), sa b a] = some (.v (.bool (validB n a))) := by
  rw [S, sem_succ (mf := c20) rfl]; exact f20 _ _ (by decide) b n a hl
theorem s33 (k : Nat) (b : Bool) (n : Int) (a : List (Int × Int)) (hl : a.length ≤ 1000) : S (k + 1) 33 [.v (.int .i64 n), sa b a] = some (.v (.bool (validB n a))) := by
  rw [S, sem_succ (mf := c33) rfl]; exact f33 _ _ (by decide) b n a hl
theorem s21 (k : Nat) (b : Bool) (n : Int) (a : List (Int × Int)) (hl : a.length ≤ 1000) : S (k + 2) 21 [.v (.int .i64 n), sa b a] = some (.v (.bool (validB n a))) := by
  rw [S, sem_succ (mf := c21) rfl]; exact f21 _ _ b n a (s33 k b n a hl)
theorem s28 (k : Nat) : Bit28 (S (k + 1)) := by
  intro s t hs ht
  rw [S, sem_succ (mf := c28) rfl]; exact f28 _ _ s t hs ht
theorem s29 (k : Nat) (b : Bool) (n : Int) (a : List (Int × Int)) (hv : validB n a = true) (hl : a.length ≤ 1000) : S (k + 1) 29 [.v (.int .i64 n), sa b a] = some (su n.toNat (nextG (natA a))) := by
  obtain ⟨m, rfl, hm, ha, hp⟩ := valid_nat hv
  have := f29 (S k) 1100 (by decide) b m hm (natA a) (fun p h => ⟨(hp p h).1, (hp p h).2.1⟩) (by simpa [natA] using hl)
  rw [← ha] at this
  rw [S, sem_succ (mf := c29) rfl]; exact this
theorem s31 (k : Nat) : Reach31 (S (k + 2)) := by
  intro b n a hv hl
  obtain ⟨m, rfl, hm, ha, hp⟩ := valid_nat hv
  have h29 := s29 k b m a hv hl
  have := f31 (S (k + 1)) 1100 (by decide) b m hm (natA a) (fun p h => ⟨(hp p h).1, (hp p h).2.1⟩) (s28 k) (by rw [← ha]; exact h29)
  rw [← ha] at this
  rw [S, sem_succ (mf := c31) rfl]; exact this
theorem s34 (k : Nat) (n : Nat) (g : Nat → Nat) (hn : n ≤ 24) (hg : ∀ i, g i < 2 ^ 32) : S (k + 2) 34 [su n g] = some (.v (.bool (!(List.range n).any (fun i => (g i).testBit i)))) := by
  rw [S, sem_succ (mf := c34) rfl]; exact f34 _ _ (by decide) n hn g hg (s28 k)
theorem s35 (k : Nat) (b : Bool) (n : Int) (a : List (Int × Int)) (hl : a.length ≤ 1000) (hv : validB n a = true) : S (k + 1) 35 [.v (.int .i64 n), sa b a] = some (tabD (rea n a)) := by
  obtain ⟨m, rfl, hm, ha, hp⟩ := valid_nat hv
  have := f35 (S k) 1100 (by decide) b m hm (natA a) (fun p h => ⟨(hp p h).1, (hp p h).2.1⟩) (by simpa [natA] using hl)
  rw [← ha] at this
  rw [S, sem_succ (mf := c35) rfl]; exact this
theorem s16 (k : Nat) (b : Bool) (n : Int) (a : List (Int × Int)) (hl : a.length ≤ 1000) (i j : Int) :
    S (k + 3) 16 [.v (.int .i64 n), sa b a, .v (.int .i64 i), .v (.int .i64 j)] = some (.v (.bool (reachZ n a i j))) := by
  rw [S, sem_succ (mf := c16) rfl]; exact f16 _ _ b n a hl i j (s20 (k + 1) b n a hl) (s28 (k + 1)) (s31 k)
theorem s22 (k : Nat) (b : Bool) (n : Int) (a : List (Int × Int)) (hl : a.length ≤ 1000) : S (k + 3) 22 [.v (.int .i64 n), sa b a] = some (.v (.bool (acyB n a))) := by
  rw [S, sem_succ (mf := c22) rfl]; exact f22 _ _ b n a hl (s20 (k + 1) b n a hl) (s31 k) (fun m g hm hg => s34 k m g hm hg)
theorem s23 (k : Nat) (b : Bool) (n : Int) (a : List (Int × Int)) (hl : a.length ≤ 1000) : S (k + 3) 23 [.v (.int .i64 n), sa b a] = some (.v (.bool (acyB n a))) := by
  rw [S, sem_succ (mf := c23) rfl]; exact f23 _ _ (by decide) b n a hl (s21 k b n a hl) (s35 (k + 1) b n a hl)
theorem s24 (k : Nat) (b : Bool) (n : Int) (a : List (Int × Int)) (hl : a.length ≤ 1000) (i j : Int) :
    S (k + 3) 24 [.v (.int .i64 n), sa b a, .v (.int .i64 i), .v (.int .i64 j)] = some (.v (.bool (reachZ n a i j))) := by
  rw [S, sem_succ (mf := c24) rfl]; exact f24 _ _ b n a i j (s21 k b n a hl) (s35 (k + 1) b n a hl)
theorem s11 (k : Nat) (b : Bool) (n : Int) (a : List (Int × Int)) (hl : a.length ≤ 1000) : S (k + 2) 11 [.v (.int .i64 n), sa b a] = some (ordD n a) := by
  rw [S, sem_succ (mf := c11) rfl]; exact f11 _ _ (by decide) b n a hl (s28 k) (s20 k b n a hl)
theorem s13 (k : Nat) (b : Bool) (n : Int) (a : List (Int × Int)) (hl : a.length ≤ 1000) : S (k + 3) 13 [.v (.int .i64 n), sa b a] = some (ordD n a) := by
  rw [S, sem_succ (mf := c13) rfl]; exact f13 _ _ (by decide) b n a hl (s30 (k + 1)) (s21 k b n a hl)
theorem s12 (k : Nat) (b : Bool) (n : Int) (a : List (Int × Int)) (hl : a.length ≤ 1000) : S (k + 3) 12 [.v (.int .i64 n), sa b a] = some (levelsD n a) := by
  rw [S, sem_succ (mf := c12) rfl]; exact f12 _ _ (by decide) b n a hl (s28 (k + 1)) (s11 k b n a hl) (fun hv => s29 (k + 1) b n a hv hl)
theorem s14 (k : Nat) (b : Bool) (n : Int) (a : List (Int × Int)) (hl : a.length ≤ 1000) : S (k + 4) 14 [.v (.int .i64 n), sa b a] = some (levelsR n a) := by
  rw [S, sem_succ (mf := c14) rfl]; exact f14 _ _ (by decide) b n a hl (s21 (k + 1) b n a hl) (s23 k b n a hl)

theorem f3 (call : Oracle) (fuel : Nat) (b : Bool) (n : Int) (a : List (Int × Int))
    (h9 : call 9 [] = some (.v (.bool true))) (h10 : call 10 [sa b a] = some (.v (.bool (decide (a.length ≤ 150)))))
    (h11 : a.length ≤ 150 → call 11 [.v (.int .i64 n), sa b a] = some (ordD n a)) (h12 : a.length ≤ 150 → call 12 [.v (.int .i64 n), sa b a] = some (levelsD n a))
    (h13 : a.length ≤ 150 → call 13 [.v (.int .i64 n), sa b a] = some (ordD n a)) (h14 : a.length ≤ 150 → call 14 [.v (.int .i64 n), sa b a] = some (levelsD n a))
    (h15 : ∀ (b c : Bool) (l m : List Int), l.length ≤ 1000 → call 15 [si b l, si c m] = some (.v (.bool (l == m)))) :
    callF call fuel c3 [.v (.int .i64 n), sa b a] = some (.v (.bool true)) := by
  rw [callF_tab call fuel c3 40 _ (by exact Nat.le_of_ble_eq_true rfl) (by exact Nat.le_of_ble_eq_true rfl)]
  by_cases hl : a.length ≤ 150
  · have e11 := h11 hl
    have e12 := h12 hl
    have e13 := h13 hl
    have e14 := h14 hl
    unfold ordD at e11 e13
    unfold levelsD at e12 e14
    have e0 := h15 true true [] [] (by simp)
    by_cases hv : validB n a = true
    · rw [if_pos hv] at e11 e12 e13 e14
      obtain ⟨k, rfl, hk, ha, hp⟩ := valid_nat hv
      simp only [Int.toNat_natCast] at e11 e12 e13 e14
      cases ho : ordR k (natA a) [] with
      | none =>
        rw [ho] at e11 e12 e13 e14
        simp only [levD] at e11 e12 e13 e14
        simp [c3, h9, h10, hl, e11, e12, e13, e14, e0]
      | some l =>
        rw [ho] at e11 e12 e13 e14
        simp only [levD] at e11 e12 e13 e14
        have hlen := (ordR_is ho).len
        have e1 := h15 l.isEmpty l.isEmpty (zl l) (zl l) (by simp; omega)
        have e2 := h15 false false (zr k (levP (nextG (natA a)) l)) (zr k (levP (nextG (natA a)) l)) (by simp; omega)
        simp [c3, h9, h10, hl, e11, e12, e13, e14, e1, e2]
    · rw [if_neg hv] at e11 e12 e13 e14
      simp [c3, h9, h10, hl, e11, e12, e13, e14, e0]
  · simp [c3, h9, h10, hl]

theorem law3 (b : Bool) (n : Int) (a : List (Int × Int)) : S 11 3 [.v (.int .i64 n), sa b a] = some (.v (.bool true)) := by
  rw [S, sem_succ (mf := c3) rfl]
  exact f3 _ _ b n a s9 (s10 9 b a) (fun h => s11 8 b n a (by omega)) (fun h => s12 7 b n a (by omega)) (fun h => s13 7 b n a (by omega)) (fun h => by rw [levels_same]; exact s14 6 b n a (by omega)) (fun b c l m h => s15 9 b c l m h)

theorem f6 (call : Oracle) (fuel : Nat) (b : Bool) (n : Int) (a : List (Int × Int)) (x y : Int)
    (h9 : call 9 [] = some (.v (.bool true))) (h10 : call 10 [sa b a] = some (.v (.bool (decide (a.length ≤ 150)))))
    (h20 : a.length ≤ 150 → ∀ c, call 20 [.v (.int .i64 n), sa c a] = some (.v (.bool (validB n a)))) (h21 : a.length ≤ 150 → ∀ c, call 21 [.v (.int .i64 n), sa c a] = some (.v (.bool (validB n a))))
    (h22 : a.length ≤ 150 → ∀ c, call 22 [.v (.int .i64 n), sa c a] = some (.v (.bool (acyB n a)))) (h23 : a.length ≤ 150 → ∀ c, call 23 [.v (.int .i64 n), sa c a] = some (.v (.bool (acyB n a))))
    (h16 : a.length ≤ 150 → ∀ c (i j : Int), call 16 [.v (.int .i64 n), sa c a, .v (.int .i64 i), .v (.int .i64 j)] = some (.v (.bool (reachZ n a i j))))
    (h24 : a.length ≤ 150 → ∀ c (i j : Int), call 24 [.v (.int .i64 n), sa c a, .v (.int .i64 i), .v (.int .i64 j)] = some (.v (.bool (reachZ n a i j))))
    (h19 : a.length ≤ 150 → ∀ (b c : Bool), call 19 [sa b a, sa c a] = some (.v (.bool (a == a)))) :
    callF call fuel c6 [.v (.int .i64 n), sa b a, .nd .ag [.v (.int .i64 x), .v (.int .i64 y)]] = some (.v (.bool true)) := by
  rw [callF_tab call fuel c6 8 _ (by exact Nat.le_of_ble_eq_true rfl) (by exact Nat.le_of_ble_eq_true rfl)]
  by_cases hl : a.length ≤ 150
  · have e20 := h20 hl false
    have e21 := h21 hl b
    have e22 := h22 hl false
    have e23 := h23 hl b
    have e16 := h16 hl false x y
    have e24 := h24 hl b x y
    have e19 := h19 hl false b
    have hm : a.length ≤ most := by unfold most; omega
    simp [c6, h9, h10, hl, hm, e20, e21, e22, e23, e16, e24, e19]
  · simp [c6, h9, h10, hl]

theorem law6 (b : Bool) (n : Int) (a : List (Int × Int)) (x y : Int) : S 11 6 [.v (.int .i64 n), sa b a, .nd .ag [.v (.int .i64 x), .v (.int .i64 y)]] = some (.v (.bool true)) := by
  rw [S, sem_succ (mf := c6) rfl]
  exact f6 _ _ b n a x y s9 (s10 9 b a) (fun h c => s20 9 c n a (by omega)) (fun h c => s21 8 c n a (by omega)) (fun h c => s22 7 c n a (by omega)) (fun h c => s23 7 c n a (by omega)) (fun h c i j => s16 7 c n a (by omega) i j) (fun h c i j => s24 7 c n a (by omega) i j) (fun h b c => s19 9 b c a a (by omega))

/-! ### arguments -/
abbrev tdArcs : TD := .sl (.st [.int .i64, .int .i64])

theorem rd_arcs {d : D} (h : tdArcs.rd [d]) : ∃ b a, d = sa b a ∧ ∀ p ∈ a, I64 p.1 ∧ I64 p.2 := by
  obtain ⟨b, kss, h1, _, _, h2⟩ := h
  have : ∀ kss : List (List D), (∀ ks ∈ kss, (TD.st [.int .i64, .int .i64]).rd ks) → ∃ a : List (Int × Int), kss.flatten = gk eA a ∧ a.length = kss.length ∧ ∀ p ∈ a, I64 p.1 ∧ I64 p.2 := by
    intro kss
    induction kss with
    | nil => intro _; exact ⟨[], rfl, rfl, by simp⟩
    | cons ks kss ih =>
      intro h
      obtain ⟨a, e1, e2, e3⟩ := ih fun k hk => h k (List.mem_cons_of_mem _ hk)
      obtain ⟨d1, d2, rfl, ⟨x, hx, rfl⟩, d3, d4, rfl, ⟨y, hy, rfl⟩, rfl⟩ := h ks (List.mem_cons_self ..)
      refine ⟨(x, y) :: a, by rw [List.flatten_cons, e1]; rfl, by simp [e2], ?_⟩
      intro p hp
      rcases List.mem_cons.1 hp with rfl | hp
      · exact ⟨wf_i64 hx, wf_i64 hy⟩
      · exact e3 p hp
  obtain ⟨a, e1, e2, e3⟩ := this kss h2
  refine ⟨b, a, ?_, e3⟩
  rw [e1, ← e2] at h1
  exact (List.cons.inj h1).1

theorem rd_nums {n : Nat} {ds : List D} (h : (TD.ar n (.int .i64)).rd ds) : ∃ l : List Int, l.length = n ∧ ds = l.map (fun x => .v (.int .i64 x)) ∧ ∀ x ∈ l, I64 x := by
  obtain ⟨dss, rfl, h1, h2⟩ := h
  subst h1
  induction dss with
  | nil => exact ⟨[], rfl, rfl, by simp⟩
  | cons d dss ih =>
    obtain ⟨l, e1, e2, e3⟩ := ih fun k hk => h2 k (List.mem_cons_of_mem _ hk)
    obtain ⟨x, hx, rfl⟩ := h2 d (List.mem_cons_self ..)
    refine ⟨x :: l, by simp [e1], by simp [e2], ?_⟩
    intro p hp
    rcases List.mem_cons.1 hp with rfl | hp
    · exact wf_i64 hx
    · exact e3 p hp

end Go.Mx
