import Derived.Test.YtgligngmbkkkkaaAxB
/-
  AxisDistances: the law.
-/
namespace Go.Mx
set_option linter.unusedVariables false
set_option linter.unusedSimpArgs false
set_option linter.unusedSectionVars false
open Go

theorem hour_in (n : Int) : inB n 0 11 = hourB n := by
  unfold inB hourB
  congr 1
  simp only [decide_eq_decide]
  omega

theorem hour_fin {n : Int} (h : hourB n = true) : ∃ i : Fin 12, n = (i.val : Int) := by
  simp only [hourB, Bool.and_eq_true, decide_eq_true_eq] at h
  exact ⟨⟨n.toNat, by omega⟩, by simp; omega⟩

theorem tmod_range (a : Int) {b : Int} (hb : 0 < b) : -b < a.tmod b ∧ a.tmod b < b := by
  refine ⟨?_, Int.tmod_lt_of_pos a hb⟩
  rcases Int.le_total 0 a with h | h
  · have := Int.tmod_nonneg b h; omega
  · have h1 := Int.tmod_lt_of_pos (-a) hb
    rw [Int.neg_tmod] at h1
    omega

theorem mod12 (a : Int) : hourB (modZ a 12) = true := by
  have := tmod_range a (b := 12) (by decide)
  unfold modZ hourB
  split
  · rw [wrap_eq (by unfold I64; omega)]
    simp only [Bool.and_eq_true, decide_eq_true_eq]
    omega
  · simp only [Bool.and_eq_true, decide_eq_true_eq]
    omega

theorem fin_dist : ∀ a b : Fin 12, DistZ a.val b.val = rdistZ a.val b.val ∧ DistZ a.val b.val = DistZ b.val a.val ∧ (DistZ a.val b.val = 0 ↔ a = b) ∧ 0 ≤ DistZ a.val b.val ∧ DistZ a.val b.val ≤ 6 := by decide +kernel

theorem fin_tri : ∀ a b c : Fin 12, DistZ a.val c.val ≤ DistZ a.val b.val + DistZ b.val c.val := by decide +kernel

theorem dist_ref (a b : Int) : DistZ a b = rdistZ a b := by
  cases ha : hourB a
  · simp [DistZ, rdistZ, hour_in, ha]
  · cases hb : hourB b
    · simp [DistZ, rdistZ, hour_in, hb]
    · obtain ⟨i, rfl⟩ := hour_fin ha
      obtain ⟨j, rfl⟩ := hour_fin hb
      exact (fin_dist i j).1

theorem dist_symm (a b : Int) : DistZ a b = DistZ b a := by
  cases ha : hourB a
  · simp [DistZ, ha]
  · cases hb : hourB b
    · simp [DistZ, hb]
    · obtain ⟨i, rfl⟩ := hour_fin ha
      obtain ⟨j, rfl⟩ := hour_fin hb
      exact (fin_dist i j).2.1

theorem f3 (call : Oracle) (fuel : Nat) (h12 : call 12 [] = some (.v (.bool true))) (h13 : ∀ a b : Int, call 13 [.v (.int .i64 a), .v (.int .i64 b)] = some (.v (.int .i64 (DistZ a b))))
    (h14 : ∀ a b : Int, call 14 [.v (.int .i64 a), .v (.int .i64 b)] = some (.v (.int .i64 (rdistZ a b)))) (h15 : ∀ a b : Int, b ≠ 0 → call 15 [.v (.int .i64 a), .v (.int .i64 b)] = some (.v (.int .i64 (modZ a b)))) (a b c : Int) :
    callF call fuel c3 [.v (.int .i64 a), .v (.int .i64 b), .v (.int .i64 c)] = some (.v (.bool true)) := by
  obtain ⟨i, hi⟩ := hour_fin (mod12 a)
  obtain ⟨j, hj⟩ := hour_fin (mod12 b)
  obtain ⟨k, hk⟩ := hour_fin (mod12 c)
  have t := fin_tri i j k
  have d := fin_dist i j
  have d2 := fin_dist j k
  have w : IntKind.i64.wrap (DistZ i.val j.val + DistZ j.val k.val) = DistZ i.val j.val + DistZ j.val k.val := wrap_eq (by unfold I64; omega)
  have e : (DistZ i.val j.val == 0) = ((i.val : Int) == (j.val : Int)) := by
    rw [Bool.eq_iff_iff, beq_iff_eq, beq_iff_eq, d.2.2.1]
    constructor
    · rintro rfl; rfl
    · intro h; exact Fin.ext (by omega)
  have s := dist_symm b a
  have l := d.2.2.2.2
  simp [c3, h12, h13, h14, h15, ← dist_ref, s, hi, hj, hk, w, t, e, l]

end Go.Mx
