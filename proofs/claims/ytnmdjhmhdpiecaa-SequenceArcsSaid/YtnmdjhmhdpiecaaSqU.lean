import Derived.Test.YtnmdjhmhdpiecaaSqT
/-
  Sequences: arguments.
-/
namespace Go.Mx
set_option linter.unusedVariables false
set_option linter.unusedSimpArgs false
set_option linter.unusedSectionVars false
open Go

abbrev tdArcs : TD := .sl (.st [.int .i64, .int .i64])

theorem rd_arcs {d : D} (h : tdArcs.rd [d]) : ∃ b a, d = sa b a ∧ ∀ p ∈ a, I64 p.1 ∧ I64 p.2 := by
  obtain ⟨b, kss, h1, _, _, h2⟩ := h
  have : ∀ kss : List (List D), (∀ ks ∈ kss, (TD.st [.int .i64, .int .i64]).rd ks) → ∃ a : List (Int × Int), kss.flatten = gk eA a ∧ a.length = kss.length ∧ ∀ p ∈ a, I64 p.1 ∧ I64 p.2 := by
    intro kss
    induction kss with
    | nil => intro _; exact ⟨[], rfl, rfl, by simp⟩
    | cons ks kss ih =>
      intro h
      obtain ⟨a, e1, e2, e3⟩ := ih fun k hk => h k (List.mem_cons_of_mem _ hk)
      obtain ⟨d1, d2, rfl, ⟨x, hx, rfl⟩, d3, d4, rfl, ⟨y, hy, rfl⟩, rfl⟩ := h ks (List.mem_cons_self ..)
      refine ⟨(x, y) :: a, by rw [List.flatten_cons, e1]; rfl, by simp [e2], ?_⟩
      intro p hp
      rcases List.mem_cons.1 hp with rfl | hp
      · exact ⟨wf_i64 hx, wf_i64 hy⟩
      · exact e3 p hp
  obtain ⟨a, e1, e2, e3⟩ := this kss h2
  refine ⟨b, a, ?_, e3⟩
  rw [e1, ← e2] at h1
  exact (List.cons.inj h1).1

theorem rd_nums {n : Nat} {ds : List D} (h : (TD.ar n (.int .i64)).rd ds) : ∃ l : List Int, l.length = n ∧ ds = l.map (fun x => .v (.int .i64 x)) ∧ ∀ x ∈ l, I64 x := by
  obtain ⟨dss, rfl, h1, h2⟩ := h
  subst h1
  induction dss with
  | nil => exact ⟨[], rfl, rfl, by simp⟩
  | cons d dss ih =>
    obtain ⟨l, e1, e2, e3⟩ := ih fun k hk => h2 k (List.mem_cons_of_mem _ hk)
    obtain ⟨x, hx, rfl⟩ := h2 d (List.mem_cons_self ..)
    refine ⟨x :: l, by simp [e1], by simp [e2], ?_⟩
    intro p hp
    rcases List.mem_cons.1 hp with rfl | hp
    · exact wf_i64 hx
    · exact e3 p hp

theorem rd_ints {d : D} (h : (TD.sl (.int .i64)).rd [d]) : ∃ b l, d = si b l ∧ (b = true → l = []) ∧ ∀ x ∈ l, I64 x := by
  obtain ⟨b, kss, h1, hb, _, h2⟩ := h
  have : ∀ kss : List (List D), (∀ ks ∈ kss, (TD.int .i64).rd ks) → ∃ l : List Int, kss.flatten = gk (eI .i64) l ∧ l.length = kss.length ∧ ∀ x ∈ l, I64 x := by
    intro kss
    induction kss with
    | nil => intro _; exact ⟨[], rfl, rfl, by simp⟩
    | cons ks kss ih =>
      intro h
      obtain ⟨l, e1, e2, e3⟩ := ih fun k hk => h k (List.mem_cons_of_mem _ hk)
      obtain ⟨x, hx, rfl⟩ := h ks (List.mem_cons_self ..)
      refine ⟨x :: l, by rw [List.flatten_cons, e1]; rfl, by simp [e2], ?_⟩
      intro p hp
      rcases List.mem_cons.1 hp with rfl | hp
      · exact wf_i64 hx
      · exact e3 p hp
  obtain ⟨l, e1, e2, e3⟩ := this kss h2
  refine ⟨b, l, ?_, fun h => by rw [hb h] at e2; simpa using e2, e3⟩
  rw [e1, ← e2] at h1
  exact (List.cons.inj h1).1
theorem rd_u8s {n : Nat} {ds : List D} (h : (TD.ar n (.int .u8)).rd ds) : ∃ l : List Nat, l.length = n ∧ ds = l.map (fun (x : Nat) => .v (.int .u8 (x : Int))) ∧ ∀ x ∈ l, x < 256 := by
  obtain ⟨dss, rfl, h1, h2⟩ := h
  subst h1
  induction dss with
  | nil => exact ⟨[], rfl, rfl, by simp⟩
  | cons d dss ih =>
    obtain ⟨l, e1, e2, e3⟩ := ih fun k hk => h2 k (List.mem_cons_of_mem _ hk)
    obtain ⟨x, hx, rfl⟩ := h2 d (List.mem_cons_self ..)
    have hx' : 0 ≤ x ∧ x < 256 := by
      simp [Lit.wf, IntKind.min, IntKind.max, IntKind.signed, IntKind.bits] at hx
      omega
    refine ⟨x.toNat :: l, by simp [e1], ?_, ?_⟩
    · rw [List.flatten_cons, e2]
      simp [Int.toNat_of_nonneg hx'.1]
    · intro p hp
      rcases List.mem_cons.1 hp with rfl | hp
      · omega
      · exact e3 p hp

end Go.Mx
