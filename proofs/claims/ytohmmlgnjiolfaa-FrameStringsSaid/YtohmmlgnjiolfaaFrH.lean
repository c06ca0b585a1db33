import Derived.Test.YtohmmlgnjiolfaaFrG
import Derived.Test.YtohmmlgnjiolfaaMxV
/-
  Frames: calls up to a depth.
-/
namespace Go.Mx
set_option linter.unusedVariables false
set_option linter.unusedSimpArgs false
set_option linter.unusedSectionVars false
open Go

abbrev S (n : Nat) : Oracle := sem tbl 21000 n

theorem s11 (k : Nat) (b : Bool) (l : List Nat) (hb : By l) (hl : l.length ≤ 20000) : S (k + 1) 11 [gsl (eI .u8) b (zl l)] = some (.v (.int .u32 ((adler l : Nat) : Int))) := by
  rw [S, sem_succ (mf := c11) rfl]; exact f11 _ _ (by decide) b l hb hl
theorem s12 (k : Nat) (b : Bool) (l : List Nat) (hb : By l) (hl : l.length ≤ 20000) : S (k + 1) 12 [gsl (eI .u8) b (zl l)] = some (.v (.int .u32 ((adler l : Nat) : Int))) := by
  rw [S, sem_succ (mf := c12) rfl]; exact f12 _ _ (by decide) b l hb hl
theorem s26 (k : Nat) (x n : Nat) (hn : n ≤ 8) : S (k + 1) 26 [.v (.int .u64 (x : Int)), .v (.int .i64 (n : Int))] = some (gsl (eI .u8) false (zl (bigL x n))) := by
  rw [S, sem_succ (mf := c26) rfl]; exact f26 _ _ (by decide) x n hn
theorem s27 (k : Nat) (x n : Nat) (hx : x < 18446744073709551616) (hn : n ≤ 8) : S (k + 1) 27 [.v (.int .u64 (x : Int)), .v (.int .i64 (n : Int))] = some (gsl (eI .u8) false (zl (bigL x n))) := by
  rw [S, sem_succ (mf := c27) rfl]; exact f27 _ _ (by decide) x n hx hn
theorem s29 (k : Nat) (b : Bool) (l : List Nat) (hb : By l) (hl : l.length ≤ 8) : S (k + 1) 29 [gsl (eI .u8) b (zl l)] = some (.v (.int .u64 ((valF l : Nat) : Int))) := by
  rw [S, sem_succ (mf := c29) rfl]; exact f29 _ _ (by decide) b l hb hl
theorem s31 (k : Nat) (b : Bool) (l : List Nat) (hb : By l) (hl : l.length ≤ 8) : S (k + 1) 31 [gsl (eI .u8) b (zl l)] = some (.v (.int .u64 ((valF l : Nat) : Int))) := by
  rw [S, sem_succ (mf := c31) rfl]; exact f31 _ _ (by decide) b l hb hl
theorem s30 (k : Nat) (l : List Nat) (hl : l.length ≤ 20000) : S (k + 1) 30 [gsl (eI .u8) false (zl l)] = some (gsl (eI .u8) false (zl l)) := by
  rw [S, sem_succ (mf := c30) rfl]; exact f30 _ _ false l (by simp) hl
theorem s28 (k : Nat) (b c : Bool) (l m : List Nat) (hl : By l) (hm : By m) : S (k + 1) 28 [gsl (eI .u8) b (zl l), gsl (eI .u8) c (zl m)] = some (.v (.bool (l == m))) := by
  rw [S, sem_succ (mf := c28) rfl]; exact f28 _ _ b c l m hl hm
theorem s15 (k : Nat) (b c : Bool) (l m : List Nat) (hl : By l) (hm : By m) : S (k + 2) 15 [gsl (eI .u8) b (zl l), gsl (eI .u8) c (zl m)] = some (.v (.bool (l == m))) := by
  rw [S, sem_succ (mf := c15) rfl]; exact f15 _ _ b c l m (s28 k b c l m hl hm)
theorem s16 (k : Nat) (b : Bool) (l : List Nat) (hb : By l) (hl : l.length ≤ 20000) (hbl : b = true → l = []) : S (k + 2) 16 [gsl (eI .u8) b (zl l)] = some (opnD l) := by
  rw [S, sem_succ (mf := c16) rfl]; exact f16 _ _ b l hb hl hbl (s11 k) (s29 k) (s30 k)
theorem s17 (k : Nat) (b : Bool) (l : List Nat) (hb : By l) (hl : l.length ≤ 20000) (hbl : b = true → l = []) : S (k + 2) 17 [gsl (eI .u8) b (zl l)] = some (opnD l) := by
  rw [S, sem_succ (mf := c17) rfl]; exact f17 _ _ b l hb hl hbl (s12 k) (s31 k)
theorem s13 (k : Nat) (b : Bool) (c : Nat) (d : List Nat) (hc : c < 256) (hb : By d) (hd : d.length ≤ 10000) : S (k + 2) 13 [.v (.int .u8 (c : Int)), gsl (eI .u8) b (zl d)] = some (sealD c d) := by
  rw [S, sem_succ (mf := c13) rfl]
  exact f13 _ _ b c d (by omega) (fun h => s11 k false _ (By.body hc hb) (by rw [body_len]; omega)) (s26 k _ 4 (by omega))
theorem s14 (k : Nat) (b : Bool) (c : Nat) (d : List Nat) (hc : c < 256) (hb : By d) (hd : d.length ≤ 10000) : S (k + 2) 14 [.v (.int .u8 (c : Int)), gsl (eI .u8) b (zl d)] = some (sealD c d) := by
  rw [S, sem_succ (mf := c14) rfl]
  exact f14 _ _ b c d (by omega) (fun h => s12 k false _ (By.body hc hb) (by rw [body_len]; omega)) (s27 k)
theorem s18 (k : Nat) (n : Int) : S (k + 2) 18 [.v (.int .i64 n)] = some (gsl (eI .u8) false (zl (bigL (tou n) 8))) := by
  rw [S, sem_succ (mf := c18) rfl]; exact f18 _ _ n (s26 k)
theorem s21 (k : Nat) (n : Int) : S (k + 2) 21 [.v (.int .i64 n)] = some (gsl (eI .u8) false (zl (bigL (tou n) 8))) := by
  rw [S, sem_succ (mf := c21) rfl]; exact f21 _ _ n (s27 k)
theorem s19 (k : Nat) (b : Bool) (l : List Nat) (hb : By l) (hl : l.length ≤ 20000) (hbl : b = true → l = []) : S (k + 2) 19 [gsl (eI .u8) b (zl l)] = some (rdI l) := by
  rw [S, sem_succ (mf := c19) rfl]; exact f19 _ _ b l hb hl hbl (s29 k) (s30 k)
theorem s20 (k : Nat) (b : Bool) (l : List Nat) (hb : By l) (hl : l.length ≤ 20000) (hbl : b = true → l = []) : S (k + 2) 20 [gsl (eI .u8) b (zl l)] = some (rdI l) := by
  rw [S, sem_succ (mf := c20) rfl]; exact f20 _ _ b l hb hl hbl (s31 k)
theorem s22 (k : Nat) (b : Bool) (d : List Nat) (hd : d.length ≤ 20000) : S (k + 1) 22 [gsl (eI .u8) b (zl d)] = some (strD d) := by
  rw [S, sem_succ (mf := c22) rfl]; exact f22 _ _ b d hd
theorem s23 (k : Nat) (b : Bool) (d : List Nat) (hd : d.length ≤ 20000) : S (k + 2) 23 [gsl (eI .u8) b (zl d)] = some (strD d) := by
  rw [S, sem_succ (mf := c23) rfl]; exact f23 _ _ b d hd (s27 k)
theorem s24 (k : Nat) (b : Bool) (l : List Nat) (hb : By l) (hl : l.length ≤ 20000) (hbl : b = true → l = []) : S (k + 2) 24 [gsl (eI .u8) b (zl l)] = some (rdS l) := by
  rw [S, sem_succ (mf := c24) rfl]; exact f24 _ _ b l hb hl hbl (s30 k)
theorem s25 (k : Nat) (b : Bool) (l : List Nat) (hb : By l) (hl : l.length ≤ 20000) (hbl : b = true → l = []) : S (k + 2) 25 [gsl (eI .u8) b (zl l)] = some (rdS l) := by
  rw [S, sem_succ (mf := c25) rfl]; exact f25 _ _ b l hb hl hbl (s31 k)
end Go.Mx
