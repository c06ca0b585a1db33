import Derived.Test.YtgligngmbkkkkaaAxR
/-
  The axis: calls up to a depth, with the table for AxisTurns.
-/
namespace Go.Mx.Two
open Go

theorem awake_ok : sem tbl2 1000 10 12 [] = some (.v (.bool true)) := by kernel_rfl

abbrev S (n : Nat) : Oracle := sem tbl2 1000 n

theorem s31 (n : Nat) (a : Int) : S (n + 1) 31 [.v (.int .i64 a)] = some (.v (.bool (hourB a))) := by rw [S, sem_succ (mf := c31) rfl]; exact f31 _ _ a
theorem s41 (n : Nat) (a b : Int) : S (n + 1) 41 [.v (.int .i64 a), .v (.int .i64 b)] = some (.v (.int .i64 (turnZ a b))) := by rw [S, sem_succ (mf := c41) rfl]; exact f41 _ _ a b
theorem s32 (n : Nat) (a b : Int) : S (n + 2) 32 [.v (.int .i64 a), .v (.int .i64 b)] = some (.v (.int .i64 (distZ a b))) := by rw [S, sem_succ (mf := c32) rfl]; exact f32 _ _ (s41 n) a b
theorem s13 (n : Nat) (a b : Int) : S (n + 3) 13 [.v (.int .i64 a), .v (.int .i64 b)] = some (.v (.int .i64 (DistZ a b))) := by rw [S, sem_succ (mf := c13) rfl]; exact f13 _ _ (s31 (n + 1)) (s32 n) a b
theorem s15 (n : Nat) (a b : Int) (hb : b ≠ 0) : S (n + 1) 15 [.v (.int .i64 a), .v (.int .i64 b)] = some (.v (.int .i64 (modZ a b))) := by rw [S, sem_succ (mf := c15) rfl]; exact f15 _ _ a b hb
theorem s21 (n : Nat) (a b c : Int) : S (n + 1) 21 [.v (.int .i64 a), .v (.int .i64 b), .v (.int .i64 c)] = some (.v (.bool (inB a b c))) := by rw [S, sem_succ (mf := c21) rfl]; exact f21 _ _ a b c
theorem s14 (n : Nat) (a b : Int) : S (n + 2) 14 [.v (.int .i64 a), .v (.int .i64 b)] = some (.v (.int .i64 (rdistZ a b))) := by rw [S, sem_succ (mf := c14) rfl]; exact f14 _ _ (s21 n) (s15 n) a b
theorem s12 : S 10 12 [] = some (.v (.bool true)) := awake_ok


theorem s16 (n : Nat) (b : Bool) (l : List Int) : S (n + 1) 16 [sl b l] = some (.v (.bool (decide (l.length ≤ 80)))) := by rw [S, sem_succ (mf := c16) rfl]; exact f16 _ _ b l
theorem s34 (n : Nat) (b : Bool) (l : List Int) (hl : l.length ≤ 80) (f k : Int) : S (n + 2) 34 [sl b l, .v (.int .i64 f), .v (.int .i64 k)] = some (.v (.int .i64 (l.countP (withinP f k) : Nat))) := by rw [S, sem_succ (mf := c34) rfl]; exact f34 _ _ (s41 n) b l hl (by decide) f k
theorem s36 (n : Nat) (b : Bool) (l : List Int) (hl : l.length ≤ 80) (f k : Int) : S (n + 2) 36 [sl b l, .v (.int .i64 f), .v (.int .i64 k)] = some (.v (.int .i64 (l.countP (inP f k) : Nat))) := by rw [S, sem_succ (mf := c36) rfl]; exact f36 _ _ (s15 n) b l hl (by decide) f k
theorem s35 (n : Nat) (b : Bool) (l : List Int) (hl : l.length ≤ 80) : S (n + 2) 35 [sl b l] = some (.v (.int .i64 (checkZ l))) := by rw [S, sem_succ (mf := c35) rfl]; exact f35 _ _ (s21 n) b l hl (by decide)
theorem s43 (n : Nat) (x : Int) : S (n + 2) 43 [.v (.int .i64 x)] = some (.v (.bool (!hourB x))) := by rw [S, sem_succ (mf := c43) rfl]; exact f43 _ _ (s31 n) x
theorem s39 (n : Nat) (b : Bool) (l : List Int) (hl : l.length ≤ 80) : S (n + 5) 39 [sl b l] = some (.v (.int .i64 (checkZ l))) := by
  have h42 : S (n + 3) 42 [sl b l, .nd (.fn (.func 43) 0) []] = some (.v (.int .i64 (idxFrom (fun x => !hourB x) l 0))) := by
    rw [S, sem_succ (mf := c42) rfl]; exact f42 _ _ 43 [] (fun x => !hourB x) (s43 n) b l hl (by decide)
  have h37 : S (n + 4) 37 [sl b l, .nd (.fn (.func 43) 0) []] = some (.v (.bool (l.any fun x => !hourB x))) := by
    rw [S, sem_succ (mf := c37) rfl]; exact f37 _ _ 43 [] (fun x => !hourB x) b l h42
  rw [S, sem_succ (mf := c39) rfl]; exact f39 _ _ b l h37
theorem s33 (n : Nat) (b : Bool) (l : List Int) (hl : l.length ≤ 80) : S (n + 6) 33 [sl b l] = some (.v (.int .i64 (filledZ l))) := by rw [S, sem_succ (mf := c33) rfl]; exact f33 _ _ b l (s39 n b l hl)
theorem s17 (n : Nat) (b : Bool) (l : List Int) (hl : l.length ≤ 80) : S (n + 7) 17 [sl b l] = some (arcD (filledZ l) (fun n f => decide (l.countP (withinP (f : Nat) (n : Nat)) = l.length))) := by
  rw [S, sem_succ (mf := c17) rfl]; exact f17 _ _ b l _ (by decide) (s33 n b l hl) (fun f k => s34 (n + 4) b l hl f k)
theorem s18 (n : Nat) (b : Bool) (l : List Int) (hl : l.length ≤ 80) : S (n + 3) 18 [sl b l] = some (arcD (filledZ l) (fun n f => decide (l.countP (inP (f : Nat) (n : Nat)) = l.length))) := by
  rw [S, sem_succ (mf := c18) rfl]; exact f18 _ _ b l _ (by decide) (s35 n b l hl) (fun f k => s36 n b l hl f k)
theorem s19 (n : Nat) (b : Bool) (l : List Int) (hl : l.length ≤ 80) : S (n + 7) 19 [sl b l] = some (medD (filledZ l) (fun h => sumD (distZ (h : Nat)) l)) := by
  rw [S, sem_succ (mf := c19) rfl]; exact f19 _ _ b l hl (by decide) (s33 n b l hl) (s32 (n + 4))
theorem s20 (n : Nat) (b : Bool) (l : List Int) (hl : l.length ≤ 80) : S (n + 3) 20 [sl b l] = some (medD (filledZ l) (fun h => sumD (distZ (h : Nat)) l)) := by
  rw [S, sem_succ (mf := c20) rfl]; exact f20 _ _ b l hl (by decide) (s35 n b l hl) (s14 n)


theorem s23 (n : Nat) (b : Bool) (l : List Int) (hl : l.length ≤ 80) (k : Int) : S (n + 6) 23 [sl b l, .v (.int .i64 k)] = some (denD l k (fun f => l.countP (withinP (f : Nat) k))) := by
  rw [S, sem_succ (mf := c23) rfl]; exact f23 _ _ (by decide) b l k _ (s39 n b l hl) (fun f => s34 (n + 3) b l hl f k)

theorem s38 (n : Nat) (x h tol : Int) : S (n + 3) 38 [.v (.int .i64 x), bx h, bx tol] = some (.v (.bool (decide (tol < distZ h x)))) := by
  rw [S, sem_succ (mf := c38) rfl]; exact f38 _ _ (s32 n) x h tol
theorem s37c (n : Nat) (b : Bool) (l : List Int) (hl : l.length ≤ 80) (tol : Int) (h : Nat) : S (n + 5) 37 [sl b l, .nd (.fn (.func 38) 0) [bx (h : Nat), bx tol]] = some (.v (.bool (!nearB l tol h))) := by
  have h42 : S (n + 4) 42 [sl b l, .nd (.fn (.func 38) 0) [bx (h : Nat), bx tol]] = some (.v (.int .i64 (idxFrom (fun x => decide (tol < distZ (h : Nat) x)) l 0))) := by
    rw [S, sem_succ (mf := c42) rfl]; exact f42 _ _ 38 _ _ (fun x => s38 n x h tol) b l hl (by decide)
  rw [S, sem_succ (mf := c37) rfl, ← any_near]; exact f37 _ _ 38 _ _ b l h42
theorem s22 (n : Nat) (b : Bool) (l : List Int) (hl : l.length ≤ 80) (tol : Int) : S (n + 7) 22 [sl b l, .v (.int .i64 tol)] = some (.v (.bool (fixB l tol))) := by
  rw [S, sem_succ (mf := c22) rfl]; exact f22 _ _ b l tol (by decide) (s33 n b l hl) (fun h => s37c (n + 1) b l hl tol h)
theorem s25 (n : Nat) (b : Bool) (l : List Int) (hl : l.length ≤ 80) (tol : Int) : S (n + 3) 25 [sl b l, .v (.int .i64 tol)] = some (.v (.bool (fixB l tol))) := by
  rw [S, sem_succ (mf := c25) rfl]; exact f25 _ _ b l hl tol (by decide) (s35 n b l hl) (s14 n) (s21 (n + 1))
theorem s24 (n : Nat) (b : Bool) (l : List Int) (hl : l.length ≤ 80) (k : Int) : S (n + 3) 24 [sl b l, .v (.int .i64 k)] = some (denD l k (fun f => l.countP (inP (f : Nat) k))) := by
  rw [S, sem_succ (mf := c24) rfl]; exact f24 _ _ (by decide) b l k _ (s35 n b l hl) (s21 (n + 1)) (fun f => s36 n b l hl f k)

theorem s26 (n : Nat) (b : Bool) (l : List Int) (hl : l.length ≤ 80) : S (n + 6) 26 [sl b l] = some (cntD l) := by rw [S, sem_succ (mf := c26) rfl]; exact f26 _ _ (by decide) b l (s39 n b l hl)
theorem s27 (n : Nat) (b : Bool) (l : List Int) (hl : l.length ≤ 80) : S (n + 3) 27 [sl b l] = some (cntD l) := by rw [S, sem_succ (mf := c27) rfl]; exact f27 _ _ (by decide) b l (s35 n b l hl)
theorem s40 (n : Nat) (b : Bool) (l : List Int) (hb : b = true → l = []) (hl : l.length ≤ 80) : S (n + 1) 40 [sl b l] = some (sl b l) := by rw [S, sem_succ (mf := c40) rfl]; exact f40 _ _ b l hb hl
theorem s28 (n : Nat) (b : Bool) (l : List Int) (hb : b = true → l = []) (hl : l.length ≤ 80) (k : Int) : S (n + 6) 28 [sl b l, .v (.int .i64 k)] = some (turD b (fun x => turnZ x k) l) := by
  rw [S, sem_succ (mf := c28) rfl]; exact f28 _ _ (by decide) b l k (s39 n b l hl) (fun h => s40 (n + 4) b l hb h) (s41 (n + 4))
theorem s29 (n : Nat) (b : Bool) (l : List Int) (hl : l.length ≤ 80) (k : Int) : S (n + 3) 29 [sl b l, .v (.int .i64 k)] = some (turD l.isEmpty (rturn k) l) := by
  rw [S, sem_succ (mf := c29) rfl]; exact f29 _ _ (by decide) b l k (s35 n b l hl) (s15 (n + 1))
theorem s30 (n : Nat) (b1 b2 : Bool) (l1 l2 : List Int) (hl : l1.length ≤ 80) : S (n + 1) 30 [sl b1 l1, sl b2 l2] = some (.v (.bool (decide (l1 = l2)))) := by rw [S, sem_succ (mf := c30) rfl]; exact f30 _ _ (by decide) b1 b2 l1 l2 hl

set_option maxHeartbeats 40000000 in
set_option maxRecDepth 100000 in
theorem law11 (b : Bool) (l : List Int) (hb : b = true → l = []) (n k : Int) : S 11 11 [sl b l, .v (.int .i64 n), .v (.int .i64 k)] = some (.v (.bool true)) := by
  rw [S, sem_succ (mf := qc11) rfl]
  have h16 := s16 9 b l
  by_cases hl : l.length ≤ 80
  · simp only [hl, decide_true] at h16
    by_cases hc : checkZ l = 0
    · obtain ⟨r, hr, hm⟩ := mod12_nat n
      obtain ⟨kk, hkk, hk⟩ := mod12_nat k
      have t := turn_of hc hr hm
      have h28 := s28 4 b l hb hl n
      unfold turD at h28
      rw [if_pos hc] at h28
      generalize hl' : l.map (fun x => turnZ x n) = l' at *
      have hlen := t.len
      have hb' : b = true → l' = [] := fun h => by rw [← hl', hb h]; rfl
      have hc' := t.check hc
      obtain ⟨a1, a2, a3, a4, ha, ha'⟩ := arc_pair t hc
      obtain ⟨m1, m2, m3, m4, hm1, hm2⟩ := med_pair t hc
      obtain ⟨d1, d2, d3, d4, hd, hd'⟩ := den_pair t hc ((kk : Int) + 1)
      have h26 := s26 4 b l hl
      have h26' := s26 4 b l' (by omega)
      unfold cntD at h26 h26'
      rw [if_pos hc] at h26
      rw [if_pos hc'] at h26'
      have h28' := s28 4 b l' hb' (by omega) (IntKind.i64.wrap (-(r : Int)))
      unfold turD at h28'
      rw [if_pos hc', t.back] at h28'
      have h30 := s30 9 b b l l hl
      simp only [decide_true] at h30
      refine f11_ok _ _ (by decide) b l l' hl n k r kk hm t hk hkk _ rfl (wrap_eq (by unfold I64; omega) |>.trans (by omega)) (wrap_eq ?_) s12 h16 (s15 9) h28 a1 a2 a3 a4 ((s17 3 b l hl).trans (congrArg some ha)) ((s17 3 b l' (by omega)).trans (congrArg some ha'))
        m1 m2 m3 m4 ((s19 3 b l hl).trans (congrArg some hm1)) ((s19 3 b l' (by omega)).trans (congrArg some hm2)) d1 d2 d3 d4 ((s23 4 b l hl _).trans (congrArg some hd)) ((s23 4 b l' (by omega) _).trans (congrArg some hd')) (fixB l (((kk : Int) + 1).tdiv 2)) (s22 3 b l hl _) ((s22 3 b l' (by omega) _).trans (by rw [t.fix hc])) h26 h26' h28' h30
      have : ((kk : Int) + 1).tdiv 2 = ((kk : Int) + 1) / 2 := Int.tdiv_eq_ediv_of_nonneg (by omega)
      rw [this]
      unfold I64
      omega
    · have h28 := s28 4 b l hb hl n
      unfold turD at h28
      rw [if_neg hc] at h28
      have hc' : (checkZ l != 0) = true := by simpa using hc
      have h12 := s12
      unfold S at h12 h16 h28
      unfold sl pr at *
      simp (maxSteps := 100000000) [qc11, h12, h16, h28, hc']
  · simp only [hl, decide_false] at h16
    have h12 := s12
    unfold S at h12 h16
    unfold sl at *
    simp (maxSteps := 100000000) [qc11, h12, h16]

end Go.Mx.Two
