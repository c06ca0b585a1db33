import Derived.Test.YtgbikojcpfdbiaaPoG
import Derived.Test.YtgbikojcpfdbiaaPoW
import Derived.Test.YtgbikojcpfdbiaaMxV
/-
  Posets: calls up to a depth; the law on transitive paths.
-/
namespace Go.Mx
set_option linter.unusedVariables false
set_option linter.unusedSimpArgs false
set_option linter.unusedSectionVars false
open Go

abbrev S (n : Nat) : Oracle := sem tbl 1000 n

theorem s9 : S 10 9 [] = some (.v (.bool true)) := awake_ok
theorem s10 (n : Nat) (b : Bool) (a : List (Int × Int)) : S (n + 1) 10 [asl b a] = some (.v (.bool (decide (a.length ≤ 150)))) := by rw [S, sem_succ (mf := c10) rfl]; exact f10 _ _ b a
theorem s20 (k : Nat) (b : Bool) (n : Int) (a : List (Int × Int)) (hl : a.length ≤ 150) : S (k + 1) 20 [.v (.int .i64 n), asl b a] = some (.v (.bool (validB n a))) := by
  rw [S, sem_succ (mf := c20) rfl]; exact f20 _ _ (by decide) b n a hl
theorem s28 (k : Nat) (s t : Nat) (hs : s < 2 ^ 32) (ht : t < 32) : S (k + 1) 28 [.v (.int .u32 (s : Int)), .v (.int .i64 (t : Int))] = some (.v (.bool (s.testBit t))) := by
  rw [S, sem_succ (mf := c28) rfl]; exact f28 _ _ s t hs ht
theorem s29 (k : Nat) (b : Bool) (n : Nat) (hn : n ≤ 24) (a : NA) (hv : ∀ p ∈ a, p.1 < n ∧ p.2 < n) (hl : a.length ≤ 150) : S (k + 1) 29 [.v (.int .i64 (n : Int)), asl b (arcsZ a)] = some (rsl n (nextG a)) := by
  rw [S, sem_succ (mf := c29) rfl]; exact f29 _ _ (by decide) b n hn a hv hl
theorem s31 (k : Nat) (b : Bool) (n : Nat) (hn : n ≤ 24) (a : NA) (hv : ∀ p ∈ a, p.1 < n ∧ p.2 < n) (hl : a.length ≤ 150) : S (k + 2) 31 [.v (.int .i64 (n : Int)), asl b (arcsZ a)] = some (rsl n (warr (nextG a) n)) := by
  rw [S, sem_succ (mf := c31) rfl]; exact f31 _ _ (by decide) b n hn a hv (s28 k) (s29 k b n hn a hv hl)
theorem s16 (k : Nat) (b : Bool) (n : Int) (a : List (Int × Int)) (hl : a.length ≤ 150) (i j : Int) :
    S (k + 3) 16 [.v (.int .i64 n), asl b a, .v (.int .i64 i), .v (.int .i64 j)] = some (.v (.bool (reachZ n a i j))) := by
  rw [S, sem_succ (mf := c16) rfl]; exact f16 _ _ b n a hl i j (s20 (k + 1) b n a hl) (s28 (k + 1)) (fun m hm x hv hx => s31 k b m hm x hv hx)

theorem f4 (call : Oracle) (fuel : Nat) (b : Bool) (n : Int) (a : List (Int × Int)) (x y z : Int)
    (h9 : call 9 [] = some (.v (.bool true))) (h10 : call 10 [asl b a] = some (.v (.bool (decide (a.length ≤ 150)))))
    (h16 : a.length ≤ 150 → ∀ i j : Int, call 16 [.v (.int .i64 n), asl b a, .v (.int .i64 i), .v (.int .i64 j)] = some (.v (.bool (reachZ n a i j)))) :
    callF call fuel c4 [.v (.int .i64 n), asl b a, .nd .ag [.v (.int .i64 x), .v (.int .i64 y), .v (.int .i64 z)]] = some (.v (.bool true)) := by
  have ht := reachZ_trans n a x y z
  unfold asl at *
  by_cases hl : a.length ≤ 150
  · have e := h16 hl
    cases h1 : reachZ n a x y
    · simp [cellsOfD, flatOk, Value.oneCell', c4, h9, h10, hl, e, h1]
    · cases h2 : reachZ n a y z
      · simp [cellsOfD, flatOk, Value.oneCell', c4, h9, h10, hl, e, h1, h2]
      · simp [cellsOfD, flatOk, Value.oneCell', c4, h9, h10, hl, e, h1, h2, ht h1 h2]
  · simp [cellsOfD, flatOk, Value.oneCell', c4, h9, h10, hl]

theorem law4 (b : Bool) (n : Int) (a : List (Int × Int)) (x y z : Int) :
    S 11 4 [.v (.int .i64 n), asl b a, .nd .ag [.v (.int .i64 x), .v (.int .i64 y), .v (.int .i64 z)]] = some (.v (.bool true)) := by
  rw [S, sem_succ (mf := c4) rfl]; exact f4 _ _ b n a x y z s9 (s10 9 b a) (fun hl => s16 7 b n a hl)

/-! ### arguments -/
abbrev tdArcs : TD := .sl (.st [.int .i64, .int .i64])

theorem rd_arcs {d : D} (h : tdArcs.rd [d]) : ∃ b a, d = asl b a ∧ ∀ p ∈ a, I64 p.1 ∧ I64 p.2 := by
  obtain ⟨b, kss, h1, _, _, h2⟩ := h
  have : ∀ kss : List (List D), (∀ ks ∈ kss, (TD.st [.int .i64, .int .i64]).rd ks) → ∃ a : List (Int × Int), kss.flatten = a.flatMap arcD ∧ a.length = kss.length ∧ ∀ p ∈ a, I64 p.1 ∧ I64 p.2 := by
    intro kss
    induction kss with
    | nil => intro _; exact ⟨[], rfl, rfl, by simp⟩
    | cons ks kss ih =>
      intro h
      obtain ⟨a, e1, e2, e3⟩ := ih fun k hk => h k (List.mem_cons_of_mem _ hk)
      obtain ⟨d1, d2, rfl, ⟨x, hx, rfl⟩, d3, d4, rfl, ⟨y, hy, rfl⟩, rfl⟩ := h ks (List.mem_cons_self ..)
      refine ⟨(x, y) :: a, by simp [e1, arcD], by simp [e2], ?_⟩
      intro p hp
      rcases List.mem_cons.1 hp with rfl | hp
      · exact ⟨wf_i64 hx, wf_i64 hy⟩
      · exact e3 p hp
  obtain ⟨a, e1, e2, e3⟩ := this kss h2
  refine ⟨b, a, ?_, e3⟩
  rw [e1, ← e2] at h1
  exact (List.cons.inj h1).1

theorem rd_ints {n : Nat} {ds : List D} (h : (TD.ar n (.int .i64)).rd ds) : ∃ l : List Int, l.length = n ∧ ds = l.map (fun x => .v (.int .i64 x)) ∧ ∀ x ∈ l, I64 x := by
  obtain ⟨dss, rfl, h1, h2⟩ := h
  subst h1
  induction dss with
  | nil => exact ⟨[], rfl, rfl, by simp⟩
  | cons d dss ih =>
    obtain ⟨l, e1, e2, e3⟩ := ih fun k hk => h2 k (List.mem_cons_of_mem _ hk)
    obtain ⟨x, hx, rfl⟩ := h2 d (List.mem_cons_self ..)
    refine ⟨x :: l, by simp [e1], by simp [e2], ?_⟩
    intro p hp
    rcases List.mem_cons.1 hp with rfl | hp
    · exact wf_i64 hx
    · exact e3 p hp

theorem is22 : tdArcs.is Go.Proofs.Try.prog 22 := ⟨42, Go.Proofs.Try.underlying22, ⟨_, Go.Proofs.Try.underlying42, ⟨_, _, rfl, rfl, Go.Proofs.Try.underlying3, by kernel_rfl, ⟨_, _, rfl, rfl, Go.Proofs.Try.underlying3, by kernel_rfl, rfl⟩⟩, by kernel_rfl⟩, by kernel_rfl, by decide⟩
theorem is31 : (TD.ar 3 (.int .i64)).is Go.Proofs.Try.prog 31 := ⟨3, Go.Proofs.Try.underlying31, Go.Proofs.Try.underlying3, by kernel_rfl, by kernel_rfl⟩

end Go.Mx
