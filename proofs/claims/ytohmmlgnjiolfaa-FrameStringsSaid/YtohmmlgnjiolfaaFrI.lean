import Derived.Test.YtohmmlgnjiolfaaFrH
import Derived.Test.YtohmmlgnjiolfaaFrW
/-
  Frames: the laws.
-/
namespace Go.Mx
set_option linter.unusedVariables false
set_option linter.unusedSimpArgs false
set_option linter.unusedSectionVars false
open Go
theorem s10 : S 6 10 [] = some (.v (.bool true)) := awake_ok
theorem f3 (call : Oracle) (fuel : Nat) (b : Bool) (l : List Nat) (h10 : call 10 [] = some (.v (.bool true)))
    (h11 : l.length ≤ 20000 → call 11 [gsl (eI .u8) b (zl l)] = some (.v (.int .u32 ((adler l : Nat) : Int))))
    (h12 : l.length ≤ 20000 → call 12 [gsl (eI .u8) b (zl l)] = some (.v (.int .u32 ((adler l : Nat) : Int)))) :
    callF call fuel c3 [gsl (eI .u8) b (zl l)] = some (.v (.bool true)) := by
  rw [callF_tab call fuel c3 3 _ (by exact Nat.le_of_ble_eq_true rfl) (by exact Nat.le_of_ble_eq_true rfl)]
  by_cases hl : l.length ≤ 20000
  · have e1 := h11 hl
    have e2 := h12 hl
    have hl2 : ¬ (20000 : Int) < (l.length : Int) := by omega
    simp [c3, h10, hl2, e1, e2]
  · have hl2 : (20000 : Int) < (l.length : Int) := by omega
    simp [c3, h10, hl2]
theorem law3 (b : Bool) (l : List Nat) (hb : By l) : S 7 3 [gsl (eI .u8) b (zl l)] = some (.v (.bool true)) := by
  rw [S, sem_succ (mf := c3) rfl]
  exact f3 _ _ b l s10 (fun h => s11 5 b l hb h) (fun h => s12 5 b l hb h)

/-! ### arguments -/
theorem wf_u8 {n : Int} (h : (Lit.int .u8 n).wf = true) : 0 ≤ n ∧ n < 256 := by
  simp [Lit.wf, IntKind.min, IntKind.max, IntKind.signed, IntKind.bits] at h
  omega
theorem rd_bytes {d : D} (h : (TD.sl (.int .u8)).rd [d]) : ∃ b l, d = gsl (eI .u8) b (zl l) ∧ By l ∧ (b = true → l = []) := by
  obtain ⟨b, kss, h1, hb, _, h2⟩ := h
  have : ∀ kss : List (List D), (∀ ks ∈ kss, (TD.int .u8).rd ks) → ∃ l : List Nat, kss.flatten = gk (eI .u8) (zl l) ∧ l.length = kss.length ∧ By l := by
    intro kss
    induction kss with
    | nil => intro _; exact ⟨[], rfl, rfl, fun x hx => by cases hx⟩
    | cons ks kss ih =>
      intro h
      obtain ⟨l, e1, e2, e3⟩ := ih fun k hk => h k (List.mem_cons_of_mem _ hk)
      obtain ⟨n, hn, rfl⟩ := h ks (List.mem_cons_self ..)
      have hn' := wf_u8 hn
      refine ⟨n.toNat :: l, ?_, by simp [e2], ?_⟩
      · rw [List.flatten_cons, e1]
        show _ = [T.v (Value.int IntKind.u8 (n.toNat : Int))] ++ _
        rw [Int.toNat_of_nonneg hn'.1]
        rfl
      · intro x hx
        rcases List.mem_cons.1 hx with rfl | hx
        · omega
        · exact e3 x hx
  obtain ⟨l, e1, e2, e3⟩ := this kss h2
  refine ⟨b, l, ?_, e3, fun h => by rw [hb h] at e2; simpa using e2⟩
  simp only [List.cons.injEq, and_true] at h1
  rw [h1, e1, ← e2, gsl, zl_len]
  rfl
end Go.Mx
