import Derived.Test.YtigplgminjhgmaaJoP
import Derived.Test.YtigplgminjhgmaaMxV
/-
  Journals: the law of clones; arguments.
-/
namespace Go.Mx
set_option linter.unusedVariables false
set_option linter.unusedSimpArgs false
set_option linter.unusedSectionVars false
open Go

theorem law9 (b c : Bool) (l : List EN) (hb : ByE l) (k : Nat) (hk : k < 256) (d : List Nat) (hd : By d) : S 7 9 [sE b l, kV k, su8 c d] = some (bV true) := by
  rw [S, sem_succ (mf := c9) rfl]
  by_cases hf : fewB l = true
  · by_cases h5 : d.length ≤ 500
    · have hJ := okJ_es hb hf
      have hlen := few_len hf
      have h30 := (few_ok hf).1
      have hn : (l.length == 0) = true → esL l = [] := by
        intro h
        have : l = [] := by simpa using h
        rw [this]; rfl
      have hj1 : (jbL (esL l ++ [(k, d)])).length ≤ 1800 := by rw [jb_len_snoc]; dsimp only; omega
      have hok : OkJ (esL l ++ [(k, d)]) := by
        refine ⟨fun e he => ?_, by omega⟩
        rcases List.mem_append.1 he with he | he
        · exact hJ.by8 e he
        · rw [List.mem_singleton.1 he]; exact ⟨hk, hd, by dsimp only; omega⟩
      have hl1 : (esL l ++ [(k, d)]).length ≤ 31 := by rw [List.length_append, esL_len]; simp; omega
      have k14 := s14 3 (l.length == 0) false (esL l) k d (by omega) (by rw [esL_len]; omega) hk hd (by omega)
      have k15 := s15 2 (l.length == 0) c (esL l) k d hJ (by rw [esL_len]; omega) hk hd (by omega)
      rw [apJ_ok (by omega) (by omega)] at k14
      rw [apW_ok (by omega) (by omega)] at k15
      have k26 := s26 3 false (esL l ++ [(k, d)]) hok (by omega) (l.length : Int)
      have e1 : enD (esL l ++ [(k, d)]) (l.length : Int) = .nd .tu [kV k, su8 false d, nV 0] := by
        unfold enD
        rw [if_pos ⟨by omega, by rw [List.length_append, esL_len]; simp; omega⟩, Int.toNat_natCast]
        have : nth (esL l ++ [(k, d)]) (0, []) l.length = (k, d) := by
          rw [nth_get _ (by rw [List.length_append, esL_len]; simp), List.getElem_append_right (by simp)]
          simp
        rw [this]
      rw [e1] at k26
      exact f9 _ _ (by decide) awake_ok b c l k d h5 (by rw [← hf]; exact s11 5 b l) (l.length == 0) (esL l) (by omega) (esL_len l) (s17 1 b l hb hf) (s25 4 _ _ hn (by omega) (by rw [esL_len]; omega)) k14 k15
        (okJ_few hb hf 2) (s16 2 _ _ _ hok (by omega) (by omega)) (s18 4 _ _ (by omega)) k26
    · exact f9a _ _ awake_ok b c l k d (.inr (by omega)) (s11 5 b l)
  · exact f9a _ _ awake_ok b c l k d (.inl (by simpa using hf)) (s11 5 b l)

/-! ### arguments -/
theorem wf_u8 {n : Int} (h : (Lit.int .u8 n).wf = true) : 0 ≤ n ∧ n < 256 := by
  simp [Lit.wf, IntKind.min, IntKind.max, IntKind.signed, IntKind.bits] at h
  omega
theorem wf_i8 {n : Int} (h : (Lit.int .i8 n).wf = true) : -128 ≤ n ∧ n < 128 := by
  simp [Lit.wf, IntKind.min, IntKind.max, IntKind.signed, IntKind.bits] at h
  omega
theorem wf_nat {k : IntKind} {n : Int} (h : (Lit.int k n).wf = true) (hk : k.signed = false) : ∃ m : Nat, n = (m : Int) ∧ m < 2 ^ k.bits := by
  simp [Lit.wf, IntKind.min, IntKind.max, hk] at h
  refine ⟨n.toNat, by omega, ?_⟩
  have := h.2
  have h2 : (2 : Int) ^ k.bits = ((2 ^ k.bits : Nat) : Int) := by simp
  omega
theorem rd_bytes {d : D} (h : (TD.sl (.int .u8)).rd [d]) : ∃ b l, d = gsl (eI .u8) b (zl l) ∧ By l ∧ (b = true → l = []) := by
  obtain ⟨b, kss, h1, hb, _, h2⟩ := h
  have : ∀ kss : List (List D), (∀ ks ∈ kss, (TD.int .u8).rd ks) → ∃ l : List Nat, kss.flatten = gk (eI .u8) (zl l) ∧ l.length = kss.length ∧ By l := by
    intro kss
    induction kss with
    | nil => intro _; exact ⟨[], rfl, rfl, fun x hx => by cases hx⟩
    | cons ks kss ih =>
      intro h
      obtain ⟨l, e1, e2, e3⟩ := ih fun k hk => h k (List.mem_cons_of_mem _ hk)
      obtain ⟨n, hn, rfl⟩ := h ks (List.mem_cons_self ..)
      have hn' := wf_u8 hn
      refine ⟨n.toNat :: l, ?_, by simp [e2], ?_⟩
      · rw [List.flatten_cons, e1]
        show _ = [T.v (Value.int IntKind.u8 (n.toNat : Int))] ++ _
        rw [Int.toNat_of_nonneg hn'.1]
        rfl
      · intro x hx
        rcases List.mem_cons.1 hx with rfl | hx
        · omega
        · exact e3 x hx
  obtain ⟨l, e1, e2, e3⟩ := this kss h2
  refine ⟨b, l, ?_, e3, fun h => by rw [hb h] at e2; simpa using e2⟩
  simp only [List.cons.injEq, and_true] at h1
  rw [h1, e1, ← e2, gsl, zl_len]
  rfl
abbrev tdE : TD := .st [.int .u8, .sl (.int .u8)]
theorem rd_ent {ks : List D} (h : tdE.rd ks) : ∃ e : EN, ks = eE.enc e ∧ e.1 < 256 ∧ By e.2.2 := by
  obtain ⟨d1, d2, rfl, ⟨n, hn, rfl⟩, d3, d4, rfl, h3, h4⟩ := h
  obtain rfl : d4 = [] := h4
  have hn' := wf_u8 hn
  have h3' := h3
  obtain ⟨b, kss, rfl, hb, _, h2⟩ := h3
  obtain ⟨b, l, e1, e2, _⟩ := rd_bytes h3'
  refine ⟨(n.toNat, (b, l)), ?_, by dsimp only; omega, e2⟩
  rw [e1]
  show _ = [T.v (Value.int IntKind.u8 (n.toNat : Int)), su8 b l]
  rw [Int.toNat_of_nonneg hn'.1]
  rfl
theorem rd_ents {d : D} (h : (TD.sl tdE).rd [d]) : ∃ b l, d = sE b l ∧ ByE l := by
  obtain ⟨b, kss, h1, hb, _, h2⟩ := h
  have : ∀ kss : List (List D), (∀ ks ∈ kss, tdE.rd ks) → ∃ l : List EN, kss.flatten = gk eE l ∧ l.length = kss.length ∧ ByE l := by
    intro kss
    induction kss with
    | nil => intro _; exact ⟨[], rfl, rfl, by simp [ByE]⟩
    | cons ks kss ih =>
      intro h
      obtain ⟨l, e1, e2, e3⟩ := ih fun k hk => h k (List.mem_cons_of_mem _ hk)
      obtain ⟨e, rfl, h3, h4⟩ := rd_ent (h ks (List.mem_cons_self ..))
      refine ⟨e :: l, by rw [List.flatten_cons, e1]; rfl, by simp [e2], ?_⟩
      intro p hp
      rcases List.mem_cons.1 hp with rfl | hp
      · exact ⟨h3, h4⟩
      · exact e3 p hp
  obtain ⟨l, e1, e2, e3⟩ := this kss h2
  refine ⟨b, l, ?_, e3⟩
  rw [e1, ← e2] at h1
  exact (List.cons.inj h1).1
end Go.Mx
