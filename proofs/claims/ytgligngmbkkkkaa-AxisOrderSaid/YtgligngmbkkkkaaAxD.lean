import Derived.Test.YtgligngmbkkkkaaAxN
import Derived.Test.YtgligngmbkkkkaaAxW
/-
  The axis: calls up to a depth.
-/
namespace Go.Mx
set_option linter.unusedVariables false
set_option linter.unusedSimpArgs false
set_option linter.unusedSectionVars false
open Go

abbrev S (n : Nat) : Oracle := sem tbl 1000 n

theorem s31 (n : Nat) (a : Int) : S (n + 1) 31 [.v (.int .i64 a)] = some (.v (.bool (hourB a))) := by rw [S, sem_succ (mf := c31) rfl]; exact f31 _ _ a
theorem s41 (n : Nat) (a b : Int) : S (n + 1) 41 [.v (.int .i64 a), .v (.int .i64 b)] = some (.v (.int .i64 (turnZ a b))) := by rw [S, sem_succ (mf := c41) rfl]; exact f41 _ _ a b
theorem s32 (n : Nat) (a b : Int) : S (n + 2) 32 [.v (.int .i64 a), .v (.int .i64 b)] = some (.v (.int .i64 (distZ a b))) := by rw [S, sem_succ (mf := c32) rfl]; exact f32 _ _ (s41 n) a b
theorem s13 (n : Nat) (a b : Int) : S (n + 3) 13 [.v (.int .i64 a), .v (.int .i64 b)] = some (.v (.int .i64 (DistZ a b))) := by rw [S, sem_succ (mf := c13) rfl]; exact f13 _ _ (s31 (n + 1)) (s32 n) a b
theorem s15 (n : Nat) (a b : Int) (hb : b ≠ 0) : S (n + 1) 15 [.v (.int .i64 a), .v (.int .i64 b)] = some (.v (.int .i64 (modZ a b))) := by rw [S, sem_succ (mf := c15) rfl]; exact f15 _ _ a b hb
theorem s21 (n : Nat) (a b c : Int) : S (n + 1) 21 [.v (.int .i64 a), .v (.int .i64 b), .v (.int .i64 c)] = some (.v (.bool (inB a b c))) := by rw [S, sem_succ (mf := c21) rfl]; exact f21 _ _ a b c
theorem s14 (n : Nat) (a b : Int) : S (n + 2) 14 [.v (.int .i64 a), .v (.int .i64 b)] = some (.v (.int .i64 (rdistZ a b))) := by rw [S, sem_succ (mf := c14) rfl]; exact f14 _ _ (s21 n) (s15 n) a b
theorem s12 : S 10 12 [] = some (.v (.bool true)) := awake_ok

theorem law3 (a b c : Int) : S 11 3 [.v (.int .i64 a), .v (.int .i64 b), .v (.int .i64 c)] = some (.v (.bool true)) := by
  rw [S, sem_succ (mf := c3) rfl]; exact f3 _ _ s12 (s13 7) (s14 8) (s15 9) a b c

theorem s16 (n : Nat) (b : Bool) (l : List Int) : S (n + 1) 16 [sl b l] = some (.v (.bool (decide (l.length ≤ 80)))) := by rw [S, sem_succ (mf := c16) rfl]; exact f16 _ _ b l
theorem s34 (n : Nat) (b : Bool) (l : List Int) (hl : l.length ≤ 80) (f k : Int) : S (n + 2) 34 [sl b l, .v (.int .i64 f), .v (.int .i64 k)] = some (.v (.int .i64 (l.countP (withinP f k) : Nat))) := by rw [S, sem_succ (mf := c34) rfl]; exact f34 _ _ (s41 n) b l hl (by decide) f k
theorem s36 (n : Nat) (b : Bool) (l : List Int) (hl : l.length ≤ 80) (f k : Int) : S (n + 2) 36 [sl b l, .v (.int .i64 f), .v (.int .i64 k)] = some (.v (.int .i64 (l.countP (inP f k) : Nat))) := by rw [S, sem_succ (mf := c36) rfl]; exact f36 _ _ (s15 n) b l hl (by decide) f k
theorem s35 (n : Nat) (b : Bool) (l : List Int) (hl : l.length ≤ 80) : S (n + 2) 35 [sl b l] = some (.v (.int .i64 (checkZ l))) := by rw [S, sem_succ (mf := c35) rfl]; exact f35 _ _ (s21 n) b l hl (by decide)
theorem s43 (n : Nat) (x : Int) : S (n + 2) 43 [.v (.int .i64 x)] = some (.v (.bool (!hourB x))) := by rw [S, sem_succ (mf := c43) rfl]; exact f43 _ _ (s31 n) x
theorem s39 (n : Nat) (b : Bool) (l : List Int) (hl : l.length ≤ 80) : S (n + 5) 39 [sl b l] = some (.v (.int .i64 (checkZ l))) := by
  have h42 : S (n + 3) 42 [sl b l, .nd (.fn (.func 43) 0) []] = some (.v (.int .i64 (idxFrom (fun x => !hourB x) l 0))) := by
    rw [S, sem_succ (mf := c42) rfl]; exact f42 _ _ 43 [] (fun x => !hourB x) (s43 n) b l hl (by decide)
  have h37 : S (n + 4) 37 [sl b l, .nd (.fn (.func 43) 0) []] = some (.v (.bool (l.any fun x => !hourB x))) := by
    rw [S, sem_succ (mf := c37) rfl]; exact f37 _ _ 43 [] (fun x => !hourB x) b l h42
  rw [S, sem_succ (mf := c39) rfl]; exact f39 _ _ b l h37
theorem s33 (n : Nat) (b : Bool) (l : List Int) (hl : l.length ≤ 80) : S (n + 6) 33 [sl b l] = some (.v (.int .i64 (filledZ l))) := by rw [S, sem_succ (mf := c33) rfl]; exact f33 _ _ b l (s39 n b l hl)
theorem s17 (n : Nat) (b : Bool) (l : List Int) (hl : l.length ≤ 80) : S (n + 7) 17 [sl b l] = some (arcD (filledZ l) (fun n f => decide (l.countP (withinP (f : Nat) (n : Nat)) = l.length))) := by
  rw [S, sem_succ (mf := c17) rfl]; exact f17 _ _ b l _ (by decide) (s33 n b l hl) (fun f k => s34 (n + 4) b l hl f k)
theorem s18 (n : Nat) (b : Bool) (l : List Int) (hl : l.length ≤ 80) : S (n + 3) 18 [sl b l] = some (arcD (filledZ l) (fun n f => decide (l.countP (inP (f : Nat) (n : Nat)) = l.length))) := by
  rw [S, sem_succ (mf := c18) rfl]; exact f18 _ _ b l _ (by decide) (s35 n b l hl) (fun f k => s36 n b l hl f k)
theorem s19 (n : Nat) (b : Bool) (l : List Int) (hl : l.length ≤ 80) : S (n + 7) 19 [sl b l] = some (medD (filledZ l) (fun h => sumD (distZ (h : Nat)) l)) := by
  rw [S, sem_succ (mf := c19) rfl]; exact f19 _ _ b l hl (by decide) (s33 n b l hl) (s32 (n + 4))
theorem s20 (n : Nat) (b : Bool) (l : List Int) (hl : l.length ≤ 80) : S (n + 3) 20 [sl b l] = some (medD (filledZ l) (fun h => sumD (distZ (h : Nat)) l)) := by
  rw [S, sem_succ (mf := c20) rfl]; exact f20 _ _ b l hl (by decide) (s35 n b l hl) (s14 n)

theorem law4 (b : Bool) (l : List Int) : S 11 4 [sl b l] = some (.v (.bool true)) := by
  rw [S, sem_succ (mf := c4) rfl]; exact f4 _ _ b l s12 (s16 9 b l) (s17 3 b l) (s18 7 b l) (s19 3 b l) (s20 7 b l)
theorem law5 (b : Bool) (l : List Int) : S 11 5 [sl b l] = some (.v (.bool true)) := by
  rw [S, sem_succ (mf := c5) rfl]; exact f5 _ _ (by decide) b l s12 (s16 9 b l) (s13 7) (s21 9) (s19 3 b l)

theorem s23 (n : Nat) (b : Bool) (l : List Int) (hl : l.length ≤ 80) (k : Int) : S (n + 6) 23 [sl b l, .v (.int .i64 k)] = some (denD l k (fun f => l.countP (withinP (f : Nat) k))) := by
  rw [S, sem_succ (mf := c23) rfl]; exact f23 _ _ (by decide) b l k _ (s39 n b l hl) (fun f => s34 (n + 3) b l hl f k)
theorem law7 (b : Bool) (l : List Int) : S 11 7 [sl b l] = some (.v (.bool true)) := by
  rw [S, sem_succ (mf := c7) rfl]; exact f7 _ _ (by decide) b l s12 (s16 9 b l) (s15 9) (s21 9) (s17 3 b l) (s23 4 b l)

theorem s38 (n : Nat) (x h tol : Int) : S (n + 3) 38 [.v (.int .i64 x), bx h, bx tol] = some (.v (.bool (decide (tol < distZ h x)))) := by
  rw [S, sem_succ (mf := c38) rfl]; exact f38 _ _ (s32 n) x h tol
theorem s37c (n : Nat) (b : Bool) (l : List Int) (hl : l.length ≤ 80) (tol : Int) (h : Nat) : S (n + 5) 37 [sl b l, .nd (.fn (.func 38) 0) [bx (h : Nat), bx tol]] = some (.v (.bool (!nearB l tol h))) := by
  have h42 : S (n + 4) 42 [sl b l, .nd (.fn (.func 38) 0) [bx (h : Nat), bx tol]] = some (.v (.int .i64 (idxFrom (fun x => decide (tol < distZ (h : Nat) x)) l 0))) := by
    rw [S, sem_succ (mf := c42) rfl]; exact f42 _ _ 38 _ _ (fun x => s38 n x h tol) b l hl (by decide)
  rw [S, sem_succ (mf := c37) rfl, ← any_near]; exact f37 _ _ 38 _ _ b l h42
theorem s22 (n : Nat) (b : Bool) (l : List Int) (hl : l.length ≤ 80) (tol : Int) : S (n + 7) 22 [sl b l, .v (.int .i64 tol)] = some (.v (.bool (fixB l tol))) := by
  rw [S, sem_succ (mf := c22) rfl]; exact f22 _ _ b l tol (by decide) (s33 n b l hl) (fun h => s37c (n + 1) b l hl tol h)
theorem s25 (n : Nat) (b : Bool) (l : List Int) (hl : l.length ≤ 80) (tol : Int) : S (n + 3) 25 [sl b l, .v (.int .i64 tol)] = some (.v (.bool (fixB l tol))) := by
  rw [S, sem_succ (mf := c25) rfl]; exact f25 _ _ b l hl tol (by decide) (s35 n b l hl) (s14 n) (s21 (n + 1))
theorem s24 (n : Nat) (b : Bool) (l : List Int) (hl : l.length ≤ 80) (k : Int) : S (n + 3) 24 [sl b l, .v (.int .i64 k)] = some (denD l k (fun f => l.countP (inP (f : Nat) k))) := by
  rw [S, sem_succ (mf := c24) rfl]; exact f24 _ _ (by decide) b l k _ (s35 n b l hl) (s21 (n + 1)) (fun f => s36 n b l hl f k)
theorem law6 (b : Bool) (l : List Int) (t : Int) : S 11 6 [sl b l, .v (.int .i64 t)] = some (.v (.bool true)) := by
  rw [S, sem_succ (mf := c6) rfl]; exact f6 _ _ b l t s12 (s16 9 b l) (s15 9) (s17 3 b l) (s22 3 b l)
theorem law8 (b : Bool) (l : List Int) (k : Int) : S 11 8 [sl b l, .v (.int .i64 k)] = some (.v (.bool true)) := by
  rw [S, sem_succ (mf := c8) rfl]; exact f8 _ _ b l k s12 (s16 9 b l) (fun hl => s23 4 b l hl k) (fun hl => s24 7 b l hl k) (fun hl => s22 3 b l hl k) (fun hl => s25 7 b l hl k)

theorem s26 (n : Nat) (b : Bool) (l : List Int) (hl : l.length ≤ 80) : S (n + 6) 26 [sl b l] = some (cntD l) := by rw [S, sem_succ (mf := c26) rfl]; exact f26 _ _ (by decide) b l (s39 n b l hl)
theorem s27 (n : Nat) (b : Bool) (l : List Int) (hl : l.length ≤ 80) : S (n + 3) 27 [sl b l] = some (cntD l) := by rw [S, sem_succ (mf := c27) rfl]; exact f27 _ _ (by decide) b l (s35 n b l hl)
theorem s40 (n : Nat) (b : Bool) (l : List Int) (hb : b = true → l = []) (hl : l.length ≤ 80) : S (n + 1) 40 [sl b l] = some (sl b l) := by rw [S, sem_succ (mf := c40) rfl]; exact f40 _ _ b l hb hl
theorem s28 (n : Nat) (b : Bool) (l : List Int) (hb : b = true → l = []) (hl : l.length ≤ 80) (k : Int) : S (n + 6) 28 [sl b l, .v (.int .i64 k)] = some (turD b (fun x => turnZ x k) l) := by
  rw [S, sem_succ (mf := c28) rfl]; exact f28 _ _ (by decide) b l k (s39 n b l hl) (fun h => s40 (n + 4) b l hb h) (s41 (n + 4))
theorem s29 (n : Nat) (b : Bool) (l : List Int) (hl : l.length ≤ 80) (k : Int) : S (n + 3) 29 [sl b l, .v (.int .i64 k)] = some (turD l.isEmpty (rturn k) l) := by
  rw [S, sem_succ (mf := c29) rfl]; exact f29 _ _ (by decide) b l k (s35 n b l hl) (s15 (n + 1))
theorem s30 (n : Nat) (b1 b2 : Bool) (l1 l2 : List Int) (hl : l1.length ≤ 80) : S (n + 1) 30 [sl b1 l1, sl b2 l2] = some (.v (.bool (decide (l1 = l2)))) := by rw [S, sem_succ (mf := c30) rfl]; exact f30 _ _ (by decide) b1 b2 l1 l2 hl
theorem law10 (b : Bool) (l : List Int) (hb : b = true → l = []) (k : Int) : S 11 10 [sl b l, .v (.int .i64 k)] = some (.v (.bool true)) := by
  rw [S, sem_succ (mf := c10) rfl]; exact f10 _ _ b l k s12 (s16 9 b l) (s26 4 b l) (s27 7 b l) (fun hl => s28 4 b l hb hl k) (fun hl => s29 7 b l hl k) (s30 9)

end Go.Mx
