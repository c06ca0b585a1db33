import Derived.Test.YtgbikojcpfdbiaaDoorPdG
import Derived.Test.YtgbikojcpfdbiaaDoorPdW
import Derived.Test.YtgbikojcpfdbiaaDoorMxV
/-
  Posets behind the door: depths, the laws, arguments.
-/
namespace Go.Mx
set_option linter.unusedVariables false
set_option linter.unusedSimpArgs false
set_option linter.unusedSectionVars false
open Go

noncomputable abbrev S (n : Nat) : Oracle := semB baseT tbl 1100 n
abbrev nI (n : Int) : D := .v (.int .i64 n)

theorem s6 (n : Nat) (b : Bool) (a : List (Int × Int)) : S (n + 1) 6 [sa b a] = some (.v (.bool (decide (a.length ≤ 150)))) := by rw [S, semB_succ (mf := c6) rfl]; exact f6 _ _ b a
theorem s11 (k : Nat) (b c : Bool) (l m : List (Int × Int)) (hl : l.length ≤ 1000) : S (k + 1) 11 [sa b l, sa c m] = some (.v (.bool (l == m))) := by rw [S, semB_succ (mf := c11) rfl]; exact f11 _ _ (by decide) b c l m hl
theorem s12 (k : Nat) (b : Bool) (n : Int) (a : List (Int × Int)) (hl : a.length ≤ 1000) : S (k + 1) 12 [nI n, sa b a] = some (.v (.bool (validB n a))) := by
  rw [S, semB_succ (mf := c12) rfl]; exact f12 _ _ (by decide) b n a hl
theorem s26 (k : Nat) (b : Bool) (n : Int) (a : List (Int × Int)) (hl : a.length ≤ 1000) : S (k + 1) 26 [nI n, sa b a] = some (.v (.bool (validB n a))) := by
  rw [S, semB_succ (mf := c26) rfl]; exact f26 _ _ (by decide) b n a hl
theorem s21 (k : Nat) (b : Bool) (n : Int) (a : List (Int × Int)) (hl : a.length ≤ 1000) : S (k + 2) 21 [nI n, sa b a] = some (.v (.bool (validB n a))) := by
  rw [S, semB_succ (mf := c21) rfl]; exact f21 _ _ b n a (s26 k b n a hl)
theorem s24 (k : Nat) : Bit24 (S (k + 1)) := by
  intro s t hs ht
  rw [S, semB_succ (mf := c24) rfl]; exact f24 _ _ s t hs ht
theorem s25 (k : Nat) (b : Bool) (n : Int) (a : List (Int × Int)) (hv : validB n a = true) (hl : a.length ≤ 1000) : S (k + 1) 25 [nI n, sa b a] = some (su n.toNat (nextG (natA a))) := by
  obtain ⟨m, rfl, hm, ha, hp⟩ := valid_nat hv
  have := f25 (S k) 1100 (by decide) b m hm (natA a) (fun p h => ⟨(hp p h).1, (hp p h).2.1⟩) (by simpa [natA] using hl)
  rw [← ha] at this
  rw [S, semB_succ (mf := c25) rfl]; exact this
theorem s18 (k : Nat) : Reach18 (S (k + 2)) := by
  intro b n a hv hl
  obtain ⟨m, rfl, hm, ha, hp⟩ := valid_nat hv
  have h25 := s25 k b m a hv hl
  have := f18 (S (k + 1)) 1100 (by decide) b m hm (natA a) (fun p h => ⟨(hp p h).1, (hp p h).2.1⟩) (s24 k) (by rw [← ha]; exact h25)
  rw [← ha] at this
  rw [S, semB_succ (mf := c18) rfl]; exact this
theorem s19 (k : Nat) (n : Nat) (g : Nat → Nat) (hn : n ≤ 24) (hg : ∀ i, g i < 2 ^ 32) : S (k + 2) 19 [su n g] = some (.v (.bool (!(List.range n).any (fun i => (g i).testBit i)))) := by
  rw [S, semB_succ (mf := c19) rfl]; exact f19 _ _ (by decide) n hn g hg (s24 k)
theorem s22 (k : Nat) (b : Bool) (n : Int) (a : List (Int × Int)) (hl : a.length ≤ 1000) (hv : validB n a = true) : S (k + 1) 22 [nI n, sa b a] = some (tabD (rea n a)) := by
  obtain ⟨m, rfl, hm, ha, hp⟩ := valid_nat hv
  have := f22 (S k) 1100 (by decide) b m hm (natA a) (fun p h => ⟨(hp p h).1, (hp p h).2.1⟩) (by simpa [natA] using hl)
  rw [← ha] at this
  rw [S, semB_succ (mf := c22) rfl]; exact this
theorem s13 (k : Nat) (b : Bool) (n : Int) (a : List (Int × Int)) (hl : a.length ≤ 1000) : S (k + 3) 13 [nI n, sa b a] = some (.v (.bool (acyB n a))) := by
  rw [S, semB_succ (mf := c13) rfl]; exact f13 _ _ b n a hl (s12 (k + 1) b n a hl) (s18 k) (fun m g hm hg => s19 k m g hm hg)
theorem s23 (k : Nat) (b : Bool) (n : Int) (a : List (Int × Int)) (hl : a.length ≤ 1000) : S (k + 3) 23 [nI n, sa b a] = some (.v (.bool (acyB n a))) := by
  rw [S, semB_succ (mf := c23) rfl]; exact f23 _ _ (by decide) b n a hl (s21 k b n a hl) (s22 (k + 1) b n a hl)
theorem s17 (k : Nat) : List17 (S (k + 2)) := by
  intro n g hn hg
  rw [S, semB_succ (mf := c17) rfl]; exact f17 _ _ (by decide) n hn g hg (s24 k)
theorem s20 (k : Nat) : Tz20 (S (k + 1)) := by
  intro x hx
  rw [S, semB_base rfl (by decide)]
  exact baseT_at x hx
theorem s7 (k : Nat) (b : Bool) (n : Int) (a : List (Int × Int)) (hl : a.length ≤ 1000) : S (k + 3) 7 [nI n, sa b a] = some (clD n a) := by
  rw [S, semB_succ (mf := c7) rfl]; exact f7 _ _ b n a hl (s12 (k + 1) b n a hl) (s18 k) (s17 k)
theorem s9 (k : Nat) (b : Bool) (n : Int) (a : List (Int × Int)) (hl : a.length ≤ 1000) : S (k + 3) 9 [nI n, sa b a] = some (clD n a) := by
  rw [S, semB_succ (mf := c9) rfl]; exact f9 _ _ (by decide) b n a (s21 k b n a hl) (s22 (k + 1) b n a hl)
theorem s10 (k : Nat) (b : Bool) (n : Int) (a : List (Int × Int)) (hl : a.length ≤ 1000) : S (k + 4) 10 [nI n, sa b a] = some (rdD n a) := by
  rw [S, semB_succ (mf := c10) rfl]; exact f10 _ _ (by decide) b n a (s21 (k + 1) b n a hl) (s23 k b n a hl) (s22 (k + 2) b n a hl)
theorem s8 (k : Nat) (b : Bool) (n : Int) (a : List (Int × Int)) (hl : a.length ≤ 1000) : S (k + 4) 8 [nI n, sa b a] = some (rdD n a) := by
  rw [S, semB_succ (mf := c8) rfl]
  refine (f8 _ _ (by decide) b n a hl (s12 (k + 2) b n a hl) (s18 (k + 1)) (fun hv => ?_) (s17 (k + 1)) (s20 (k + 2)) (fun hv => va_bit hv)).trans ?_
  · have := s19 (k + 1) n.toNat (rea n a) (va_24 hv) (rea_lt hv)
    rw [show acyB n a = !(List.range n.toNat).any (fun i => (rea n a i).testBit i) by unfold acyB; rw [hv, Bool.true_and]]
    exact this
  · unfold rdD
    by_cases hv : validB n a = true
    · rw [if_pos hv, if_pos hv]
      by_cases hac : acyB n a = true
      · rw [if_pos hac, if_pos hac, red_eq hv hac]
      · rw [if_neg hac, if_neg hac]
    · rw [if_neg hv, if_neg hv]

/-! ### closures -/
theorem cl_form (n : Int) (a : List (Int × Int)) : ∃ (C : List (Int × Int)) (e : Int), C.length ≤ 600 ∧ clD n a = .nd .tu [saE C, nI e] := by
  unfold clD
  split
  · rename_i hv
    exact ⟨_, _, cl_len n (va_24 hv) _, rfl⟩
  · exact ⟨[], 1, by simp, rfl⟩
theorem rd_form (n : Int) (a : List (Int × Int)) : ∃ (C : List (Int × Int)) (e : Int), C.length ≤ 600 ∧ rdD n a = .nd .tu [saE C, nI e] := by
  unfold rdD
  split
  · rename_i hv
    split
    · exact ⟨_, _, cl_len n (va_24 hv) _, rfl⟩
    · exact ⟨[], 11, by simp, rfl⟩
  · exact ⟨[], 1, by simp, rfl⟩
theorem f3 (call : Oracle) (fuel : Nat) (b : Bool) (n : Int) (a : List (Int × Int)) (h5 : call 5 [] = some (.v (.bool true))) (h6 : call 6 [sa b a] = some (.v (.bool (decide (a.length ≤ 150))))) (C R : List (Int × Int)) (e f : Int)
    (h : a.length ≤ 150 → call 7 [nI n, sa b a] = some (.nd .tu [saE C, nI e]) ∧ call 8 [nI n, sa b a] = some (.nd .tu [saE R, nI f]) ∧ call 9 [nI n, sa b a] = some (.nd .tu [saE C, nI e]) ∧ call 10 [nI n, sa b a] = some (.nd .tu [saE R, nI f]))
    (hC : call 11 [saE C, saE C] = some (.v (.bool true))) (hR : call 11 [saE R, saE R] = some (.v (.bool true))) : callF call fuel c3 [nI n, sa b a] = some (.v (.bool true)) := by
  rw [callF_tab call fuel c3 40 _ (by exact Nat.le_of_ble_eq_true rfl) (by exact Nat.le_of_ble_eq_true rfl)]
  by_cases hl : a.length ≤ 150
  · obtain ⟨h1, h2, h3, h4⟩ := h hl
    rw [decide_eq_true hl] at h6
    simp [c3, h5, h6, h1, h2, h3, h4, hC, hR]
  · rw [decide_eq_false hl] at h6
    simp [c3, h5, h6]
theorem law3 (b : Bool) (n : Int) (a : List (Int × Int)) : S 11 3 [nI n, sa b a] = some (.v (.bool true)) := by
  rw [S, semB_succ (mf := c3) rfl]
  obtain ⟨C, e, c1, c2⟩ := cl_form n a
  obtain ⟨R, f, r1, r2⟩ := rd_form n a
  refine f3 _ _ b n a awake_ok (s6 9 b a) C R e f (fun hl => ?_) ?_ ?_
  · rw [← c2, ← r2]
    exact ⟨s7 7 b n a (by omega), s8 6 b n a (by omega), s9 7 b n a (by omega), s10 6 b n a (by omega)⟩
  · have := s11 9 (C.length == 0) (C.length == 0) C C (by omega)
    simpa using this
  · have := s11 9 (R.length == 0) (R.length == 0) R R (by omega)
    simpa using this

/-! ### arguments -/
abbrev tdArcs : TD := .sl (.st [.int .i64, .int .i64])

theorem rd_arcs {d : D} (h : tdArcs.rd [d]) : ∃ b a, d = sa b a ∧ ∀ p ∈ a, I64 p.1 ∧ I64 p.2 := by
  obtain ⟨b, kss, h1, _, _, h2⟩ := h
  have : ∀ kss : List (List D), (∀ ks ∈ kss, (TD.st [.int .i64, .int .i64]).rd ks) → ∃ a : List (Int × Int), kss.flatten = gk eA a ∧ a.length = kss.length ∧ ∀ p ∈ a, I64 p.1 ∧ I64 p.2 := by
    intro kss
    induction kss with
    | nil => intro _; exact ⟨[], rfl, rfl, by simp⟩
    | cons ks kss ih =>
      intro h
      obtain ⟨a, e1, e2, e3⟩ := ih fun k hk => h k (List.mem_cons_of_mem _ hk)
      obtain ⟨d1, d2, rfl, ⟨x, hx, rfl⟩, d3, d4, rfl, ⟨y, hy, rfl⟩, rfl⟩ := h ks (List.mem_cons_self ..)
      refine ⟨(x, y) :: a, by rw [List.flatten_cons, e1]; rfl, by simp [e2], ?_⟩
      intro p hp
      rcases List.mem_cons.1 hp with rfl | hp
      · exact ⟨wf_i64 hx, wf_i64 hy⟩
      · exact e3 p hp
  obtain ⟨a, e1, e2, e3⟩ := this kss h2
  refine ⟨b, a, ?_, e3⟩
  rw [e1, ← e2] at h1
  exact (List.cons.inj h1).1

end Go.Mx
