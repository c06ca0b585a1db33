import Derived.Test.YtnmdjhmhdpiecaaSqO
import Derived.Test.YtnmdjhmhdpiecaaMxV
/-
  Sequences: calls up to a depth.
-/
namespace Go.Mx
set_option linter.unusedVariables false
set_option linter.unusedSimpArgs false
set_option linter.unusedSectionVars false
open Go

abbrev S (n : Nat) : Oracle := sem tbl 2100 n

theorem s17 (k : Nat) (b c : Bool) (l m : List Int) (hl : l.length ≤ 1000) : S (k + 1) 17 [si b l, si c m] = some (bV (l == m)) := by rw [S, sem_succ (mf := c17) rfl]; exact f17 _ _ (by decide) b c l m hl
theorem s44 (k : Nat) (b : Bool) (n : Int) (a : List (Int × Int)) (hl : a.length ≤ 1000) : S (k + 1) 44 [nV n, sa b a] = some (bV (validB n a)) := by
  rw [S, sem_succ (mf := c44) rfl]; exact f44 _ _ (by decide) b n a hl
theorem s46 (k : Nat) (b : Bool) (n : Int) (a : List (Int × Int)) (hl : a.length ≤ 1000) : S (k + 1) 46 [nV n, sa b a] = some (bV (validB n a)) := by
  rw [S, sem_succ (mf := c46) rfl]; exact f46 _ _ (by decide) b n a hl
theorem s38 (k : Nat) (b : Bool) (n : Int) (a : List (Int × Int)) (hl : a.length ≤ 1000) : S (k + 2) 38 [nV n, sa b a] = some (bV (validB n a)) := by
  rw [S, sem_succ (mf := c38) rfl]; exact f38 _ _ b n a (s46 k b n a hl)
theorem s50 (k : Nat) : Bit28 (S (k + 1)) := by
  intro s t hs ht
  rw [S, sem_succ (mf := c50) rfl]; exact f50 _ _ s t hs ht
theorem s51 (k : Nat) (b : Bool) (n : Int) (a : List (Int × Int)) (hv : validB n a = true) (hl : a.length ≤ 1000) : S (k + 1) 51 [nV n, sa b a] = some (su n.toNat (nextG (natA a))) := by
  obtain ⟨m, rfl, hm, ha, hp⟩ := valid_nat hv
  have := f51 (S k) 2100 (by decide) b m hm (natA a) (fun p h => ⟨(hp p h).1, (hp p h).2.1⟩) (by simpa [natA] using hl)
  rw [← ha] at this
  rw [S, sem_succ (mf := c51) rfl]; exact this
theorem s49 (k : Nat) : Reach31 (S (k + 2)) := by
  intro b n a hv hl
  obtain ⟨m, rfl, hm, ha, hp⟩ := valid_nat hv
  have h29 := s51 k b m a hv hl
  have := f49 (S (k + 1)) 2100 (by decide) b m hm (natA a) (fun p h => ⟨(hp p h).1, (hp p h).2.1⟩) (s50 k) (by rw [← ha]; exact h29)
  rw [← ha] at this
  rw [S, sem_succ (mf := c49) rfl]; exact this
theorem s48 (k : Nat) (n : Nat) (g : Nat → Nat) (hn : n ≤ 24) (hg : ∀ i, g i < 2 ^ 32) : S (k + 2) 48 [su n g] = some (bV (!(List.range n).any (fun i => (g i).testBit i))) := by
  rw [S, sem_succ (mf := c48) rfl]; exact f48 _ _ (by decide) n hn g hg (s50 k)
theorem s47 (k : Nat) (b : Bool) (n : Int) (a : List (Int × Int)) (hl : a.length ≤ 1000) (hv : validB n a = true) : S (k + 1) 47 [nV n, sa b a] = some (tabD (rea n a)) := by
  obtain ⟨m, rfl, hm, ha, hp⟩ := valid_nat hv
  have := f47 (S k) 2100 (by decide) b m hm (natA a) (fun p h => ⟨(hp p h).1, (hp p h).2.1⟩) (by simpa [natA] using hl)
  rw [← ha] at this
  rw [S, sem_succ (mf := c47) rfl]; exact this
theorem s45 (k : Nat) (b : Bool) (n : Int) (a : List (Int × Int)) (hl : a.length ≤ 1000) : S (k + 3) 45 [nV n, sa b a] = some (bV (acyB n a)) := by
  rw [S, sem_succ (mf := c45) rfl]; exact f45 _ _ b n a hl (s44 (k + 1) b n a hl) (s49 k) (fun m g hm hg => s48 k m g hm hg)
theorem s39 (k : Nat) (b : Bool) (n : Int) (a : List (Int × Int)) (hl : a.length ≤ 1000) : S (k + 3) 39 [nV n, sa b a] = some (bV (acyB n a)) := by
  rw [S, sem_succ (mf := c39) rfl]; exact f39 _ _ (by decide) b n a hl (s38 k b n a hl) (s47 (k + 1) b n a hl)
theorem s35 (k : Nat) (b : Bool) (n : Int) (a : List (Int × Int)) (hl : a.length ≤ 1000) : S (k + 4) 35 [nV n, sa b a] = some (nV (chkI n a)) := by
  rw [S, sem_succ (mf := c35) rfl]; exact f35 _ _ b n a (s44 (k + 2) b n a hl) (s45 k b n a hl)
theorem s15 (k : Nat) (b : Bool) (n : Int) (a : List (Int × Int)) (hl : a.length ≤ 1000) : S (k + 4) 15 [nV n, sa b a] = some (nV (chkI n a)) := by
  rw [S, sem_succ (mf := c15) rfl]; exact f15 _ _ b n a (s38 (k + 1) b n a hl) (s39 k b n a hl)

/-! ### digraphs that are checked -/
structure GoodA (n : Nat) (a : NA) : Prop where
  hn : n ≤ 10
  ha : ∀ p ∈ a, p.1 < n ∧ p.2 < n
  hl : a.length ≤ 1000
theorem chk_ok {n : Int} {a : List (Int × Int)} (h : chkI n a = 0) (hl : a.length ≤ 1000) : ∃ m : Nat, n = (m : Int) ∧ a = arcsZ (natA a) ∧ GoodA m (natA a) ∧ acyB n a = true ∧ validB n a = true := by
  unfold chkI at h
  by_cases hv : validB n a = false
  · rw [if_pos hv] at h; cases h
  · rw [if_neg hv] at h
    by_cases h10 : 10 < n
    · rw [if_pos h10] at h; cases h
    · rw [if_neg h10] at h
      have hv' : validB n a = true := by simpa using hv
      obtain ⟨m, rfl, hm, ha, hp⟩ := valid_nat hv'
      refine ⟨m, rfl, ha, ⟨by omega, fun p h => ⟨(hp p h).1, (hp p h).2.1⟩, by simpa [natA] using hl⟩, ?_, hv'⟩
      cases hac : acyB m a with
      | true => rfl
      | false => rw [hac, if_pos rfl] at h; cases h
theorem s43 (k : Nat) {n : Nat} {a : NA} (h : GoodA n a) (c d : Bool) (w : List Int) (s v : Nat) (hs : s < pw n) (hv : v < n) : S (k + 1) 43 [tbD n c d (zr n (needG a)) w, nV s, nV v] = some (bV (rdy a s v)) := by
  rw [S, sem_succB (mf := c43) rfl]; exact f43 _ _ n a c d w s v h.hn hv hs h.ha
theorem s42 (k : Nat) {n : Nat} {a : NA} (h : GoodA n a) (b : Bool) (s v : Nat) (hs : s < pw n) (hv : v < n) : S (k + 1) 42 [sa b (arcsZ a), nV s, nV v] = some (bV (rdy a s v)) := by
  rw [S, sem_succ (mf := c42) rfl]; exact f42 _ _ (by decide) b a h.hl s v n h.hn hv hs h.ha
theorem s41 (k : Nat) {n : Nat} {a : NA} (h : GoodA n a) (b : Bool) : S (k + 2) 41 [nV n, sa b (arcsZ a)] = some (sz (pw n) (wyG n a)) := by
  rw [S, sem_succ (mf := c41) rfl]; exact f41 _ _ (by decide) n h.hn a b (s42 k h b)
theorem s36 (k : Nat) {n : Nat} {a : NA} (h : GoodA n a) (b : Bool) : S (k + 2) 36 [nV n, sa b (arcsZ a)] = some (tbW n a) := by
  rw [S, sem_succ (mf := c36) rfl]; exact f36 _ _ (by decide) n h.hn a h.hl h.ha b (s43 k h false false)
theorem s37 (k : Nat) {n : Nat} {a : NA} (h : GoodA n a) (i : Nat) (hi : i < wyG n a 0) : S (k + 2) 37 [tbW n a, nV i] = some (so (atL n a i)) := by
  rw [S, sem_succB (mf := c37) rfl]; exact f37 _ _ (by decide) n h.hn a false false _ (s43 k h false false _) i hi
theorem s40 (k : Nat) {n : Nat} {a : NA} (h : GoodA n a) (b : Bool) (l : List Int) : S (k + 2) 40 [tbW n a, si b l] = some (nV (rkZ n a (wyG n a) l)) := by
  rw [S, sem_succB (mf := c40) rfl]; exact f40 _ _ (by decide) n h.hn a false false b _ (s43 k h false false _) l

/-! ### what is exported, for any digraph -/
def ctZ (n : Int) (a : List (Int × Int)) : D := ctD n.toNat (natA a) (chkI n a)
def atZ (n : Int) (a : List (Int × Int)) (k : Int) : D := atD n.toNat (natA a) (chkI n a) k
def alZ (n : Int) (a : List (Int × Int)) : D := alD n.toNat (natA a) (chkI n a)
def isZ (n : Int) (a : List (Int × Int)) (l : List Int) : Bool := decide (chkI n a = 0) && okB n.toNat (natA a) l
def rankZ (n : Int) (a : List (Int × Int)) (l : List Int) : D := rkD n.toNat (natA a) (chkI n a) l
def nextZ (n : Int) (a : List (Int × Int)) (l : List Int) : D := nxD n.toNat (natA a) (chkI n a) l
def plcZ (n : Int) (a : List (Int × Int)) (i : Int) : D := plD n.toNat (natA a) (chkI n a) i
section
variable (call : Oracle) (fuel : Nat) (n : Int) (b b' : Bool) (a : List (Int × Int)) (l : List Int) (i e : Int) (he : e ≠ 0)
include he
theorem f14e (h : call 35 [nV n, sa b a] = some (nV e)) : callF call fuel c14 [nV n, sa b a] = some (.nd .tu [nV 0, nV e]) := by
  rw [callF_tab call fuel c14 7 _ (by exact Nat.le_of_ble_eq_true rfl) (by exact Nat.le_of_ble_eq_true rfl)]; simp [c14, h, he]
theorem f22e (h : call 15 [nV n, sa b a] = some (nV e)) : callF call fuel c22 [nV n, sa b a] = some (.nd .tu [nV 0, nV e]) := by
  rw [callF_tab call fuel c22 7 _ (by exact Nat.le_of_ble_eq_true rfl) (by exact Nat.le_of_ble_eq_true rfl)]; simp [c22, h, he]
theorem f31e (h : call 35 [nV n, sa b a] = some (nV e)) : callF call fuel c31 [nV n, sa b a, nV i] = some (.nd .tu [si true [], nV e]) := by
  rw [callF_tab call fuel c31 9 _ (by exact Nat.le_of_ble_eq_true rfl) (by exact Nat.le_of_ble_eq_true rfl)]; simp [c31, h, he]; rfl
theorem f33e (h : call 22 [nV n, sa b a] = some (.nd .tu [nV 0, nV e])) : callF call fuel c33 [nV n, sa b a, nV i] = some (.nd .tu [si true [], nV e]) := by
  rw [callF_tab call fuel c33 15 _ (by exact Nat.le_of_ble_eq_true rfl) (by exact Nat.le_of_ble_eq_true rfl)]; simp [c33, h, he]; rfl
theorem f32e (h : call 35 [nV n, sa b a] = some (nV e)) : callF call fuel c32 [nV n, sa b a, nV i] = some (.nd .tu [si true [], nV e]) := by
  rw [callF_tab call fuel c32 89 _ (by exact Nat.le_of_ble_eq_true rfl) (by exact Nat.le_of_ble_eq_true rfl)]; simp [c32, h, he]; rfl
theorem f34e (h : call 15 [nV n, sa b a] = some (nV e)) : callF call fuel c34 [nV n, sa b a, nV i] = some (.nd .tu [si true [], nV e]) := by
  rw [callF_tab call fuel c34 15 _ (by exact Nat.le_of_ble_eq_true rfl) (by exact Nat.le_of_ble_eq_true rfl)]; simp [c34, h, he]; rfl
theorem f20e (h : call 35 [nV n, sa b a] = some (nV e)) : callF call fuel c20 [nV n, sa b a, si b' l] = some (bV false) := by
  rw [callF_tab call fuel c20 7 _ (by exact Nat.le_of_ble_eq_true rfl) (by exact Nat.le_of_ble_eq_true rfl)]; simp [c20, h, he]
theorem f30e (h : call 15 [nV n, sa b a] = some (nV e)) : callF call fuel c30 [nV n, sa b a, si b' l] = some (bV false) := by
  rw [callF_tab call fuel c30 9 _ (by exact Nat.le_of_ble_eq_true rfl) (by exact Nat.le_of_ble_eq_true rfl)]; simp [c30, h, he]
theorem f27e (h : call 35 [nV n, sa b a] = some (nV e)) : callF call fuel c27 [nV n, sa b a, si b' l] = some (.nd .tu [nV 0, nV e]) := by
  rw [callF_tab call fuel c27 10 _ (by exact Nat.le_of_ble_eq_true rfl) (by exact Nat.le_of_ble_eq_true rfl)]; simp [c27, h, he]
theorem f29e (h : call 15 [nV n, sa b a] = some (nV e)) : callF call fuel c29 [nV n, sa b a, si b' l] = some (.nd .tu [nV 0, nV e]) := by
  rw [callF_tab call fuel c29 14 _ (by exact Nat.le_of_ble_eq_true rfl) (by exact Nat.le_of_ble_eq_true rfl)]; simp [c29, h, he]
theorem f26e (h : call 27 [nV n, sa b a, si b' l] = some (.nd .tu [nV 0, nV e])) : callF call fuel c26 [nV n, sa b a, si b' l] = some (.nd .tu [si true [], nV e]) := by
  rw [callF_tab call fuel c26 11 _ (by exact Nat.le_of_ble_eq_true rfl) (by exact Nat.le_of_ble_eq_true rfl)]; simp [c26, h, he]; rfl
theorem f28e (h : call 29 [nV n, sa b a, si b' l] = some (.nd .tu [nV 0, nV e])) : callF call fuel c28 [nV n, sa b a, si b' l] = some (.nd .tu [si true [], nV e]) := by
  rw [callF_tab call fuel c28 11 _ (by exact Nat.le_of_ble_eq_true rfl) (by exact Nat.le_of_ble_eq_true rfl)]; simp [c28, h, he]; rfl
theorem f13e (h : call 35 [nV n, sa b a] = some (nV e)) : callF call fuel c13 [nV n, sa b a] = some (.nd .tu [gsl eII true [], nV e]) := by
  rw [callF_tab call fuel c13 29 _ (by exact Nat.le_of_ble_eq_true rfl) (by exact Nat.le_of_ble_eq_true rfl)]; simp [c13, h, he]; rfl
theorem f24e (h : call 22 [nV n, sa b a] = some (.nd .tu [nV 0, nV e])) : callF call fuel c24 [nV n, sa b a] = some (.nd .tu [gsl eII true [], nV e]) := by
  rw [callF_tab call fuel c24 29 _ (by exact Nat.le_of_ble_eq_true rfl) (by exact Nat.le_of_ble_eq_true rfl)]; simp [c24, h, he]; rfl
end
theorem atD_err' (n : Nat) (a : NA) {e : Int} (k : Int) (h : e ≠ 0) : atD n a e k = .nd .tu [si true [], nV e] := atD_err n a k h

section
variable (k : Nat) (n : Int) (b b' : Bool) (a : List (Int × Int)) (hl : a.length ≤ 1000) (l : List Int) (i : Int)
include hl
theorem s14 : S (k + 5) 14 [nV n, sa b a] = some (ctZ n a) := by
  have h := s35 k b n a hl
  rw [S, sem_succ (mf := c14) rfl]
  unfold ctZ
  by_cases he : chkI n a = 0
  · obtain ⟨m, rfl, h1, h2, _⟩ := chk_ok he hl
    have := f14 (S (k + 4)) 2100 m b (natA a) (chkI m a) (by rw [← h1]; exact h) (fun _ => s36 (k + 2) h2 b)
    rw [← h1] at this
    exact this
  · rw [ctD_err _ _ he]; exact f14e _ _ n b a _ he h
theorem s22 : S (k + 5) 22 [nV n, sa b a] = some (ctZ n a) := by
  have h := s15 k b n a hl
  rw [S, sem_succ (mf := c22) rfl]
  unfold ctZ
  by_cases he : chkI n a = 0
  · obtain ⟨m, rfl, h1, h2, _⟩ := chk_ok he hl
    have := f22 (S (k + 4)) 2100 m b (natA a) (chkI m a) (by rw [← h1]; exact h) (fun _ => s41 (k + 2) h2 b)
    rw [← h1] at this
    exact this
  · rw [ctD_err _ _ he]; exact f22e _ _ n b a _ he h
theorem s31 : S (k + 5) 31 [nV n, sa b a, nV i] = some (atZ n a i) := by
  have h := s35 k b n a hl
  rw [S, sem_succ (mf := c31) rfl]
  unfold atZ
  by_cases he : chkI n a = 0
  · obtain ⟨m, rfl, h1, h2, _⟩ := chk_ok he hl
    have := f31 (S (k + 4)) 2100 m b (natA a) (chkI m a) i (by rw [← h1]; exact h) (fun _ => s36 (k + 2) h2 b) (fun _ => s37 (k + 2) h2)
    rw [← h1] at this
    exact this
  · rw [atD_err _ _ _ he]; exact f31e _ _ n b a i _ he h
theorem s33 : S (k + 6) 33 [nV n, sa b a, nV i] = some (atZ n a i) := by
  have h := s22 k n b a hl
  rw [S, sem_succ (mf := c33) rfl]
  unfold atZ
  by_cases he : chkI n a = 0
  · obtain ⟨m, rfl, h1, h2, _⟩ := chk_ok he hl
    have := f33 (S (k + 5)) 2100 (by decide) m b (natA a) (chkI m a) i (fun _ => h2.hn) (by rw [← h1]; exact h) (fun _ => s41 (k + 3) h2 b) (fun _ => s42 (k + 4) h2 b)
    rw [← h1] at this
    exact this
  · rw [atD_err _ _ _ he]
    unfold ctZ at h
    rw [ctD_err _ _ he] at h
    exact f33e _ _ n b a i _ he h
theorem s32 : S (k + 5) 32 [nV n, sa b a, nV i] = some (plcZ n a i) := by
  have h := s35 k b n a hl
  rw [S, sem_succ (mf := c32) rfl]
  unfold plcZ
  by_cases he : chkI n a = 0
  · obtain ⟨m, rfl, h1, h2, _⟩ := chk_ok he hl
    have := f32 (S (k + 4)) 2100 (by decide) m b (natA a) (chkI m a) i (fun _ => h2.hn) (by rw [← h1]; exact h) (fun _ => s36 (k + 2) h2 b) (fun _ => s43 (k + 3) h2 false false _)
    rw [← h1] at this
    exact this
  · unfold plD; rw [if_neg he]; exact f32e _ _ n b a i _ he h
theorem s34 : S (k + 5) 34 [nV n, sa b a, nV i] = some (plcZ n a i) := by
  have h := s15 k b n a hl
  rw [S, sem_succ (mf := c34) rfl]
  unfold plcZ
  by_cases he : chkI n a = 0
  · obtain ⟨m, rfl, h1, h2, _⟩ := chk_ok he hl
    have := f34 (S (k + 4)) 2100 (by decide) m b (natA a) (chkI m a) i (fun _ => h2.hn) (by rw [← h1]; exact h) (fun _ => s41 (k + 2) h2 b) (fun _ => s42 (k + 3) h2 b)
    rw [← h1] at this
    exact this
  · unfold plD; rw [if_neg he]; exact f34e _ _ n b a i _ he h
theorem s20 : S (k + 5) 20 [nV n, sa b a, si b' l] = some (bV (isZ n a l)) := by
  have h := s35 k b n a hl
  rw [S, sem_succ (mf := c20) rfl]
  unfold isZ
  by_cases he : chkI n a = 0
  · obtain ⟨m, rfl, h1, h2, _⟩ := chk_ok he hl
    have := f20 (S (k + 4)) 2100 m b b' (natA a) l (chkI m a) (by rw [← h1]; exact h) (fun _ => s36 (k + 2) h2 b) (fun _ => s40 (k + 2) h2 b' l)
    rw [← h1] at this
    exact this
  · rw [f20e _ _ n b b' a l _ he h]; simp [he]
theorem s30 (hl' : l.length ≤ 1000) : S (k + 5) 30 [nV n, sa b a, si b' l] = some (bV (isZ n a l)) := by
  have h := s15 k b n a hl
  rw [S, sem_succ (mf := c30) rfl]
  unfold isZ
  by_cases he : chkI n a = 0
  · obtain ⟨m, rfl, h1, h2, _⟩ := chk_ok he hl
    have h16 : S (k + 4) 16 [si b' l, nV m] = some (bV (ordB m l)) := by rw [S, sem_succ (mf := c16) rfl]; exact f16 _ _ (by decide) b' l m hl'
    have := f30 (S (k + 4)) 2100 (by decide) m (natA a) b' b l (chkI m a) (fun _ => h2.hn) (by rw [← h1]; exact h) h16 (fun _ => s42 (k + 3) h2 b)
    rw [← h1] at this
    exact this
  · rw [f30e _ _ n b b' a l _ he h]; simp [he]
theorem s27 : S (k + 5) 27 [nV n, sa b a, si b' l] = some (rankZ n a l) := by
  have h := s35 k b n a hl
  rw [S, sem_succ (mf := c27) rfl]
  unfold rankZ
  by_cases he : chkI n a = 0
  · obtain ⟨m, rfl, h1, h2, _⟩ := chk_ok he hl
    have := f27 (S (k + 4)) 2100 m b b' (natA a) l (chkI m a) (by rw [← h1]; exact h) (fun _ => s36 (k + 2) h2 b) (fun _ => s40 (k + 2) h2 b' l)
    rw [← h1] at this
    exact this
  · unfold rkD; rw [if_neg he]; exact f27e _ _ n b b' a l _ he h
theorem s29 (hl' : l.length ≤ 1000) : S (k + 6) 29 [nV n, sa b a, si b' l] = some (rankZ n a l) := by
  have h := s15 (k + 1) b n a hl
  have h30 := s30 k n b b' a hl l hl'
  rw [S, sem_succ (mf := c29) rfl]
  unfold rankZ
  unfold isZ at h30
  by_cases he : chkI n a = 0
  · obtain ⟨m, rfl, h1, h2, _⟩ := chk_ok he hl
    have := f29 (S (k + 5)) 2100 (by decide) m (natA a) b' b l (chkI m a) (fun _ => h2.hn) (by rw [← h1]; exact h) (by rw [← h1]; exact h30) (fun _ => s41 (k + 3) h2 b) (fun _ => s42 (k + 4) h2 b)
    rw [← h1] at this
    exact this
  · unfold rkD; rw [if_neg he]; exact f29e _ _ n b b' a l _ he h
theorem s26 : S (k + 6) 26 [nV n, sa b a, si b' l] = some (nextZ n a l) := by
  have h27 := s27 k n b b' a hl l
  have h31 := fun i => s31 k n b a hl i
  rw [S, sem_succ (mf := c26) rfl]
  unfold nextZ
  unfold rankZ at h27
  unfold atZ at h31
  by_cases he : chkI n a = 0
  · obtain ⟨m, rfl, h1, h2, _⟩ := chk_ok he hl
    have := f26 (S (k + 5)) 2100 m h2.hn b b' (natA a) l (chkI m a) (by rw [← h1]; exact h27) (fun h0 i => by rw [← h1, ← h0]; exact h31 i)
    rw [← h1] at this
    exact this
  · unfold nxD; rw [if_neg he]
    unfold rkD at h27; rw [if_neg he] at h27
    exact f26e _ _ n b b' a l _ he h27
theorem s28 (hl' : l.length ≤ 1000) : S (k + 7) 28 [nV n, sa b a, si b' l] = some (nextZ n a l) := by
  have h27 := s29 k n b b' a hl l hl'
  have h31 := fun i => s33 k n b a hl i
  rw [S, sem_succ (mf := c28) rfl]
  unfold nextZ
  unfold rankZ at h27
  unfold atZ at h31
  by_cases he : chkI n a = 0
  · obtain ⟨m, rfl, h1, h2, _⟩ := chk_ok he hl
    have := f28 (S (k + 6)) 2100 m h2.hn b b' (natA a) l (chkI m a) (by rw [← h1]; exact h27) (fun h0 i => by rw [← h1, ← h0]; exact h31 i)
    rw [← h1] at this
    exact this
  · unfold nxD; rw [if_neg he]
    unfold rkD at h27; rw [if_neg he] at h27
    exact f28e _ _ n b b' a l _ he h27
theorem s13 : S (k + 5) 13 [nV n, sa b a] = some (alZ n a) := by
  have h := s35 k b n a hl
  rw [S, sem_succ (mf := c13) rfl]
  unfold alZ
  by_cases he : chkI n a = 0
  · obtain ⟨m, rfl, h1, h2, _⟩ := chk_ok he hl
    have := f13 (S (k + 4)) 2100 (by decide) m b (natA a) (chkI m a) (by rw [← h1]; exact h) (fun _ => s36 (k + 2) h2 b) (fun _ => s37 (k + 2) h2)
    rw [← h1] at this
    exact this
  · unfold alD; rw [if_neg he]; exact f13e _ _ n b a _ he h
theorem s24 : S (k + 7) 24 [nV n, sa b a] = some (alZ n a) := by
  have h := s22 (k + 1) n b a hl
  have h33 := fun i => s33 k n b a hl i
  rw [S, sem_succ (mf := c24) rfl]
  unfold alZ
  unfold ctZ at h
  unfold atZ at h33
  by_cases he : chkI n a = 0
  · obtain ⟨m, rfl, h1, h2, _⟩ := chk_ok he hl
    have := f24 (S (k + 6)) 2100 (by decide) m b (natA a) (chkI m a) (by rw [← h1]; exact h) (fun h0 i => by rw [← h1, ← h0]; exact h33 i)
    rw [← h1] at this
    exact this
  · unfold alD; rw [if_neg he]
    rw [ctD_err _ _ he] at h
    exact f24e _ _ n b a _ he h
theorem s21 : S (k + 6) 21 [nV n, sa b a] = some (atZ n a 0) := by
  have h31 := s31 k n b a hl 0
  rw [S, sem_succ (mf := c21) rfl]
  obtain ⟨l, e', h⟩ := atD_eq n.toNat (natA a) (chkI n a) 0
  unfold atZ at h31 ⊢
  rw [h] at h31 ⊢
  rw [callF_tab _ _ c21 6 _ (by exact Nat.le_of_ble_eq_true rfl) (by exact Nat.le_of_ble_eq_true rfl)]
  simp [c21, h31]
theorem s23 : S (k + 7) 23 [nV n, sa b a] = some (atZ n a 0) := by
  have h31 := s33 k n b a hl 0
  rw [S, sem_succ (mf := c23) rfl]
  obtain ⟨l, e', h⟩ := atD_eq n.toNat (natA a) (chkI n a) 0
  unfold atZ at h31 ⊢
  rw [h] at h31 ⊢
  rw [callF_tab _ _ c23 6 _ (by exact Nat.le_of_ble_eq_true rfl) (by exact Nat.le_of_ble_eq_true rfl)]
  simp [c23, h31]
end
theorem s25 (k : Nat) (b c : Bool) (l m : List (Bool × List Int)) (hl : l.length ≤ 1000) (hr : ∀ x ∈ l, x.2.length ≤ 1000) : S (k + 2) 25 [gsl eII b l, gsl eII c m] = some (bV (listsB l m)) := by
  rw [S, sem_succ (mf := c25) rfl]
  exact f25 _ _ (by decide) b c l m hl (fun x hx y => s17 k x.1 y.1 x.2 y.2 (hr x hx))
def fewB (n : Int) (a : List (Int × Int)) : Bool := (decide (n ≤ 7) || decide (10 < n)) && decide (a.length ≤ 60)
theorem s12 (k : Nat) (n : Int) (b : Bool) (a : List (Int × Int)) : S (k + 1) 12 [nV n, sa b a] = some (bV (fewB n a)) := by
  rw [S, sem_succ (mf := c12) rfl]
  rw [callF_tab _ _ c12 5 _ (by exact Nat.le_of_ble_eq_true rfl) (by exact Nat.le_of_ble_eq_true rfl)]
  unfold fewB
  by_cases h1 : n ≤ 7
  · by_cases h2 : a.length ≤ 60
    · have : (a.length : Int) ≤ 60 := by omega
      simp [c12, h1, h2, this]
    · have : ¬ (a.length : Int) ≤ 60 := by omega
      simp [c12, h1, h2, this]
  · by_cases h3 : 10 < n
    · by_cases h2 : a.length ≤ 60
      · have : (a.length : Int) ≤ 60 := by omega
        simp [c12, h1, h2, h3, this]
      · have : ¬ (a.length : Int) ≤ 60 := by omega
        simp [c12, h1, h2, h3, this]
    · simp [c12, h1, h3]
theorem few_len {n : Int} {a : List (Int × Int)} (h : fewB n a = true) : a.length ≤ 1000 := by
  unfold fewB at h
  simp at h
  omega
end Go.Mx
