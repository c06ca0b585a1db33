import Derived.Test.YtohmmlgnjiolfaaFrF
/-
  Integers and strings are read.
-/
namespace Go.Mx
set_option linter.unusedVariables false
set_option linter.unusedSimpArgs false
set_option linter.unusedSectionVars false
open Go

def rdI (l : List Nat) : D := if l.length < 8 then .nd .tu [.v (.int .i64 0), nilB, errD 4] else .nd .tu [.v (.int .i64 (IntKind.i64.wrap ((valF (l.take 8) : Nat) : Int))), gsl (eI .u8) false (zl (l.drop 8)), errD 0]

theorem f19 (call : Oracle) (fuel : Nat) (b : Bool) (l : List Nat) (hb : By l) (hl : l.length ≤ 20000) (hbl : b = true → l = [])
    (h29 : ∀ b l, By l → l.length ≤ 8 → call 29 [gsl (eI .u8) b (zl l)] = some (.v (.int .u64 ((valF l : Nat) : Int))))
    (h30 : ∀ l, l.length ≤ 20000 → call 30 [gsl (eI .u8) false (zl l)] = some (gsl (eI .u8) false (zl l))) :
    callF call fuel c19 [gsl (eI .u8) b (zl l)] = some (rdI l) := by
  rw [callF_tab call fuel c19 5 _ (by exact Nat.le_of_ble_eq_true rfl) (by exact Nat.le_of_ble_eq_true rfl)]
  unfold rdI
  by_cases h0 : l.length < 8
  · rw [if_pos h0]
    have i0 : (l.length : Int) < 8 := by omega
    simp [c19, i0]
    rfl
  rw [if_neg h0]
  have hbf : b = false := by
    cases b with
    | false => rfl
    | true => rw [hbl rfl] at h0; exact absurd (by simp) h0
  subst hbf
  have i0 : ¬ (l.length : Int) < 8 := by omega
  have p0 : 8 ≤ l.length := by omega
  have k29 := h29 false (l.take 8) (hb.take 8) (by rw [List.length_take]; omega)
  have k30 := h30 (l.drop 8) (by rw [List.length_drop]; omega)
  have e7 : List.take (l.length - 8) (l.drop 8) = l.drop 8 := List.take_of_length_le (by simp)
  simp [c19, i0, p0, k29, k30, e7]

theorem f20 (call : Oracle) (fuel : Nat) (b : Bool) (l : List Nat) (hb : By l) (hl : l.length ≤ 20000) (hbl : b = true → l = [])
    (h31 : ∀ b l, By l → l.length ≤ 8 → call 31 [gsl (eI .u8) b (zl l)] = some (.v (.int .u64 ((valF l : Nat) : Int)))) :
    callF call fuel c20 [gsl (eI .u8) b (zl l)] = some (rdI l) := by
  rw [callF_tab call fuel c20 5 _ (by exact Nat.le_of_ble_eq_true rfl) (by exact Nat.le_of_ble_eq_true rfl)]
  unfold rdI
  by_cases h0 : l.length < 8
  · rw [if_pos h0]
    have i0 : (l.length : Int) < 8 := by omega
    simp [c20, i0]
    rfl
  rw [if_neg h0]
  have hbf : b = false := by
    cases b with
    | false => rfl
    | true => rw [hbl rfl] at h0; exact absurd (by simp) h0
  subst hbf
  have i0 : ¬ (l.length : Int) < 8 := by omega
  have p0 : 8 ≤ l.length := by omega
  have k31 := h31 false (l.take 8) (hb.take 8) (by rw [List.length_take]; omega)
  have e7 : List.take (l.length - 8) (l.drop 8) = l.drop 8 := List.take_of_length_le (by simp)
  simp [c20, i0, p0, k31, e7]
  unfold most; omega

def rdS (l : List Nat) : D := if l.length < 2 then .nd .tu [nilB, nilB, errD 4] else if 4096 < valF (l.take 2) then .nd .tu [nilB, nilB, errD 6] else if l.length < valF (l.take 2) + 2 then .nd .tu [nilB, nilB, errD 4]
  else .nd .tu [gsl (eI .u8) false (zl ((l.drop 2).take (valF (l.take 2)))), gsl (eI .u8) false (zl (l.drop (valF (l.take 2) + 2))), errD 0]

theorem val2_lt {l : List Nat} (h : By l) : valF (l.take 2) < 65536 := by
  have h1 := valF_lt _ (h.take 2)
  have h2 : (l.take 2).length ≤ 2 := by rw [List.length_take]; omega
  have h3 : 256 ^ (l.take 2).length ≤ 256 ^ 2 := Nat.pow_le_pow_right (by decide) h2
  omega

theorem f25 (call : Oracle) (fuel : Nat) (b : Bool) (l : List Nat) (hb : By l) (hl : l.length ≤ 20000) (hbl : b = true → l = [])
    (h31 : ∀ b l, By l → l.length ≤ 8 → call 31 [gsl (eI .u8) b (zl l)] = some (.v (.int .u64 ((valF l : Nat) : Int)))) :
    callF call fuel c25 [gsl (eI .u8) b (zl l)] = some (rdS l) := by
  rw [callF_tab call fuel c25 6 _ (by exact Nat.le_of_ble_eq_true rfl) (by exact Nat.le_of_ble_eq_true rfl)]
  unfold rdS
  by_cases h0 : l.length < 2
  · rw [if_pos h0]
    have i0 : (l.length : Int) < 2 := by omega
    simp [c25, i0]
    rfl
  rw [if_neg h0]
  have hbf : b = false := by
    cases b with
    | false => rfl
    | true => rw [hbl rfl] at h0; exact absurd (by simp) h0
  subst hbf
  have i0 : ¬ (l.length : Int) < 2 := by omega
  have p0 : 2 ≤ l.length := by omega
  have k31 := h31 false (l.take 2) (hb.take 2) (by rw [List.length_take]; omega)
  have hn := val2_lt hb
  generalize valF (l.take 2) = n at *
  have e1 : IntKind.i64.wrap (n : Int) = (n : Int) := wrapI (by omega) (by omega)
  by_cases h3 : 4096 < n
  · rw [if_pos h3]
    have i3 : (4096 : Int) < (n : Int) := by omega
    simp [c25, i0, p0, k31, e1, i3]
    rfl
  rw [if_neg h3]
  have i3 : ¬ (4096 : Int) < (n : Int) := by omega
  obtain ⟨q, hq⟩ : ∃ q, q = n + 2 := ⟨_, rfl⟩
  have e2 : IntKind.i64.wrap ((n : Int) + 2) = (q : Int) := by rw [wrapI (by omega) (by omega)]; omega
  by_cases h4 : l.length < n + 2
  · rw [if_pos h4]
    have i4 : l.length < q := by omega
    simp [c25, i0, p0, k31, e1, i3, e2, i4]
    rfl
  rw [if_neg h4, ← hq]
  have i4 : ¬ l.length < q := by omega
  have p4 : q ≤ l.length := by omega
  have p5 : 2 ≤ q := by omega
  have e5 : q - 2 = n := by omega
  have e7 : List.take (l.length - q) (l.drop q) = l.drop q := List.take_of_length_le (by simp)
  simp [c25, i0, p0, k31, e1, i3, e2, i4, p4, p5, e5, e7]
  refine ⟨by unfold most; omega, by unfold most; omega, ?_⟩
  rw [gsl, zl_len, List.length_drop]
  rfl

theorem f24 (call : Oracle) (fuel : Nat) (b : Bool) (l : List Nat) (hb : By l) (hl : l.length ≤ 20000) (hbl : b = true → l = [])
    (h30 : ∀ l, l.length ≤ 20000 → call 30 [gsl (eI .u8) false (zl l)] = some (gsl (eI .u8) false (zl l))) :
    callF call fuel c24 [gsl (eI .u8) b (zl l)] = some (rdS l) := by
  rw [callF_tab call fuel c24 23 _ (by exact Nat.le_of_ble_eq_true rfl) (by exact Nat.le_of_ble_eq_true rfl)]
  unfold rdS
  by_cases h0 : l.length < 2
  · rw [if_pos h0]
    have i0 : (l.length : Int) < 2 := by omega
    simp [c24, i0]
    rfl
  rw [if_neg h0]
  have hbf : b = false := by
    cases b with
    | false => rfl
    | true => rw [hbl rfl] at h0; exact absurd (by simp) h0
  subst hbf
  have i0 : ¬ (l.length : Int) < 2 := by omega
  have p0 : 0 < l.length := by omega
  have p1 : 1 < l.length := by omega
  have c0 := hb.nth 0
  have c1 := hb.nth 1
  have hn := val2_lt hb
  have hv : valF (l.take 2) = nth l 0 0 * 256 + nth l 0 1 := by
    match l, h0 with
    | a :: b :: m, _ => simp [valF, vaS, nth]
    | [_], h => simp at h
    | [], h => simp at h
  have w0 : IntKind.i64.wrap ((nth l 0 0 : Nat) : Int) = ((nth l 0 0 : Nat) : Int) := wrapI (by omega) (by omega)
  have w1 : IntKind.i64.wrap ((nth l 0 1 : Nat) : Int) = ((nth l 0 1 : Nat) : Int) := wrapI (by omega) (by omega)
  have s0 : shiftBin .shl .i64 ((nth l 0 0 : Nat) : Int) 8 = some (.int .i64 ((shn (nth l 0 0) 8 : Nat) : Int)) := bits_shl .i64 (t := 8) (by decide) (by show _ < 2 ^ 63; omega)
  have g1 : intBin .or .i64 ((shn (nth l 0 0) 8 : Nat) : Int) ((nth l 0 1 : Nat) : Int) = some (.int .i64 ((valF (l.take 2) : Nat) : Int)) := by
    have h1 : shn (nth l 0 0) 8 = nth l 0 0 * 256 := by rw [shn, Nat.shiftLeft_eq]
    rw [hv, ← shn_or (nth l 0 0) 8 (nth l 0 1) (by omega)]
    exact bits_or (k := .i64) (show shn (nth l 0 0) 8 < 2 ^ 63 by omega) (show nth l 0 1 < 2 ^ 63 by omega)
  generalize valF (l.take 2) = n at *
  by_cases h3 : 4096 < n
  · rw [if_pos h3]
    have i3 : (4096 : Int) < (n : Int) := by omega
    simp [c24, i0, p0, p1, w0, w1, s0, g1, i3]
    rfl
  rw [if_neg h3]
  have i3 : ¬ (4096 : Int) < (n : Int) := by omega
  obtain ⟨q, hq⟩ : ∃ q, q = n + 2 := ⟨_, rfl⟩
  have e2 : IntKind.i64.wrap (2 + (n : Int)) = (q : Int) := by rw [wrapI (by omega) (by omega)]; omega
  by_cases h4 : l.length < n + 2
  · rw [if_pos h4]
    have i4 : l.length < q := by omega
    simp [c24, i0, p0, p1, w0, w1, s0, g1, i3, e2, i4]
    rfl
  rw [if_neg h4, ← hq]
  have i4 : ¬ l.length < q := by omega
  have p4 : q ≤ l.length := by omega
  have p5 : 2 ≤ q := by omega
  have e5 : q - 2 = n := by omega
  have e7 : List.take (l.length - q) (l.drop q) = l.drop q := List.take_of_length_le (by simp)
  have k30 := h30 ((l.drop 2).take n) (by rw [List.length_take, List.length_drop]; omega)
  have k30' := h30 (l.drop q) (by rw [List.length_drop]; omega)
  simp [c24, i0, p0, p1, w0, w1, s0, g1, i3, e2, i4, p4, p5, e5, e7, k30, k30']
end Go.Mx
