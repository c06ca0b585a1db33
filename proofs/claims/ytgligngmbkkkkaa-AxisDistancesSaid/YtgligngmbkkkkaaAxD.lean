import Derived.Test.YtgligngmbkkkkaaAxC
import Derived.Test.YtgligngmbkkkkaaAxW
/-
  The axis: calls up to a depth.
-/
namespace Go.Mx
open Go

abbrev S (n : Nat) : Oracle := sem tbl 1000 n

theorem s31 (n : Nat) (a : Int) : S (n + 1) 31 [.v (.int .i64 a)] = some (.v (.bool (hourB a))) := by rw [S, sem_succ (mf := c31) rfl]; exact f31 _ _ a
theorem s41 (n : Nat) (a b : Int) : S (n + 1) 41 [.v (.int .i64 a), .v (.int .i64 b)] = some (.v (.int .i64 (turnZ a b))) := by rw [S, sem_succ (mf := c41) rfl]; exact f41 _ _ a b
theorem s32 (n : Nat) (a b : Int) : S (n + 2) 32 [.v (.int .i64 a), .v (.int .i64 b)] = some (.v (.int .i64 (distZ a b))) := by rw [S, sem_succ (mf := c32) rfl]; exact f32 _ _ (s41 n) a b
theorem s13 (n : Nat) (a b : Int) : S (n + 3) 13 [.v (.int .i64 a), .v (.int .i64 b)] = some (.v (.int .i64 (DistZ a b))) := by rw [S, sem_succ (mf := c13) rfl]; exact f13 _ _ (s31 (n + 1)) (s32 n) a b
theorem s15 (n : Nat) (a b : Int) (hb : b ≠ 0) : S (n + 1) 15 [.v (.int .i64 a), .v (.int .i64 b)] = some (.v (.int .i64 (modZ a b))) := by rw [S, sem_succ (mf := c15) rfl]; exact f15 _ _ a b hb
theorem s21 (n : Nat) (a b c : Int) : S (n + 1) 21 [.v (.int .i64 a), .v (.int .i64 b), .v (.int .i64 c)] = some (.v (.bool (inB a b c))) := by rw [S, sem_succ (mf := c21) rfl]; exact f21 _ _ a b c
theorem s14 (n : Nat) (a b : Int) : S (n + 2) 14 [.v (.int .i64 a), .v (.int .i64 b)] = some (.v (.int .i64 (rdistZ a b))) := by rw [S, sem_succ (mf := c14) rfl]; exact f14 _ _ (s21 n) (s15 n) a b
theorem s12 : S 10 12 [] = some (.v (.bool true)) := awake_ok

theorem law3 (a b c : Int) : S 11 3 [.v (.int .i64 a), .v (.int .i64 b), .v (.int .i64 c)] = some (.v (.bool true)) := by
  rw [S, sem_succ (mf := c3) rfl]; exact f3 _ _ s12 (s13 7) (s14 8) (s15 9) a b c

end Go.Mx
