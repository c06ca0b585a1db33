import Derived.Test.YtohmmlgnjiolfaaFrD
/-
  Frames are read.
-/
namespace Go.Mx
set_option linter.unusedVariables false
set_option linter.unusedSimpArgs false
set_option linter.unusedSectionVars false
open Go

@[simp] theorem natOf_1 : natOf 1 = some 1 := rfl
@[simp] theorem natOf_2 : natOf 2 = some 2 := rfl
@[simp] theorem natOf_3 : natOf 3 = some 3 := rfl
@[simp] theorem natOf_4 : natOf 4 = some 4 := rfl
@[simp] theorem natOf_5 : natOf 5 = some 5 := rfl
@[simp] theorem natOf_8 : natOf 8 = some 8 := rfl
abbrev nilB : D := gsl (eI .u8) true []
def oE (e : Int) : D := .nd .tu [.v (.int .u8 0), nilB, nilB, errD e]
def len3 (l : List Nat) : Nat := valF ((l.drop 2).take 3)
def okO (l : List Nat) (n : Nat) : D := .nd .tu [.v (.int .u8 ((nth l 0 1 : Nat) : Int)), gsl (eI .u8) false (zl ((l.drop 5).take n)), gsl (eI .u8) false (zl (l.drop (n + 9))), errD 0]
def opnD (l : List Nat) : D :=
  if l.length = 0 then oE 4 else if ¬ nth l 0 0 = 209 then oE 3 else if l.length < 5 then oE 4 else if 8192 < len3 l then oE 6 else if l.length < len3 l + 9 then oE 4
  else if ¬ valF ((l.drop (len3 l + 5)).take 4) = adler (l.take (len3 l + 5)) then oE 5 else okO l (len3 l)

theorem len3_lt {l : List Nat} (h : By l) : len3 l < 16777216 := by
  have h1 := valF_lt _ ((h.drop 2).take 3)
  have h2 : ((l.drop 2).take 3).length ≤ 3 := by rw [List.length_take]; omega
  have h3 : 256 ^ ((l.drop 2).take 3).length ≤ 256 ^ 3 := Nat.pow_le_pow_right (by decide) h2
  unfold len3; omega

/-- Open of the reference. -/
theorem f17 (call : Oracle) (fuel : Nat) (b : Bool) (l : List Nat) (hb : By l) (hl : l.length ≤ 20000) (hbl : b = true → l = [])
    (h12 : ∀ b l, By l → l.length ≤ 20000 → call 12 [gsl (eI .u8) b (zl l)] = some (.v (.int .u32 ((adler l : Nat) : Int))))
    (h31 : ∀ b l, By l → l.length ≤ 8 → call 31 [gsl (eI .u8) b (zl l)] = some (.v (.int .u64 ((valF l : Nat) : Int)))) :
    callF call fuel c17 [gsl (eI .u8) b (zl l)] = some (opnD l) := by
  rw [callF_tab call fuel c17 7 _ (by exact Nat.le_of_ble_eq_true rfl) (by exact Nat.le_of_ble_eq_true rfl)]
  unfold opnD
  by_cases h0 : l.length = 0
  · rw [if_pos h0]
    simp [c17, h0]
    rfl
  rw [if_neg h0]
  have hbf : b = false := by
    cases b with
    | false => rfl
    | true => rw [hbl rfl] at h0; exact absurd rfl h0
  subst hbf
  have i0 : ¬ l = [] := by rintro rfl; exact h0 rfl
  have p0 : 0 < l.length := by omega
  by_cases h1 : nth l 0 0 = 209
  rotate_left
  · rw [if_pos h1]
    have i1 : ¬ ((nth l 0 0 : Nat) : Int) = 209 := by omega
    simp [c17, i0, p0, i1]
    rfl
  rw [if_neg (by simpa using h1)]
  by_cases h2 : l.length < 5
  · rw [if_pos h2]
    have i2 : (l.length : Int) < 5 := by omega
    simp [c17, i0, p0, h1, i2]
    rfl
  rw [if_neg h2]
  have i2 : ¬ (l.length : Int) < 5 := by omega
  have p2 : 5 ≤ l.length := by omega
  have g31 : call 31 [gsl (eI .u8) false (zl ((l.drop 2).take 3))] = some (.v (.int .u64 ((len3 l : Nat) : Int))) := h31 _ _ ((hb.drop 2).take 3) (by rw [List.length_take]; omega)
  have hn := len3_lt hb
  generalize len3 l = n at *
  have e1 : IntKind.i64.wrap (n : Int) = (n : Int) := wrapI (by omega) (by omega)
  by_cases h3 : 8192 < n
  · rw [if_pos h3]
    have i3 : (8192 : Int) < (n : Int) := by omega
    simp [c17, i0, p0, h1, i2, p2, g31, e1, i3]
    rfl
  rw [if_neg h3]
  have i3 : ¬ (8192 : Int) < (n : Int) := by omega
  obtain ⟨q, hq⟩ : ∃ q, q = n + 9 := ⟨_, rfl⟩
  have e2 : IntKind.i64.wrap ((n : Int) + 9) = (q : Int) := by rw [wrapI (by omega) (by omega)]; omega
  by_cases h4 : l.length < n + 9
  · rw [if_pos h4]
    have i4 : l.length < q := by omega
    simp [c17, i0, p0, h1, i2, p2, g31, e1, i3, e2, i4]
    rfl
  rw [if_neg h4]
  have i4 : ¬ l.length < q := by omega
  have p4 : q ≤ l.length := by omega
  obtain ⟨p, hp⟩ : ∃ p, p = n + 5 := ⟨_, rfl⟩
  have e3 : IntKind.i64.wrap ((n : Int) + 5) = (p : Int) := by rw [wrapI (by omega) (by omega)]; omega
  have e4 : q - p = 4 := by omega
  have p5 : p ≤ q := by omega
  have p6 : p ≤ l.length := by omega
  have p7 : 5 ≤ p := by omega
  have e5 : p - 5 = n := by omega
  have k31 := h31 false ((l.drop p).take 4) ((hb.drop p).take 4) (by rw [List.length_take]; omega)
  have k12 := h12 false (l.take p) (hb.take p) (by rw [List.length_take]; omega)
  have e6 : IntKind.u64.wrap ((adler (l.take p) : Nat) : Int) = ((adler (l.take p) : Nat) : Int) := wrap_nat .u64 (by have := adler_lt (l.take p); show _ < 2 ^ 64; omega)
  have p8 : n + 5 = p := hp.symm
  rw [p8]
  by_cases h5 : valF ((l.drop p).take 4) = adler (l.take p)
  rotate_left
  · rw [if_pos h5]
    have i5 : ¬ ((valF ((l.drop p).take 4) : Nat) : Int) = ((adler (l.take p) : Nat) : Int) := by omega
    simp [c17, i0, p0, h1, i2, p2, g31, e1, i3, e2, i4, e3, e4, p5, p4, p6, k31, k12, e6, i5]
    rfl
  rw [if_neg (by simpa using h5)]
  unfold okO
  simp [c17, i0, p0, h1, i2, p2, g31, e1, i3, e2, i4, e3, e4, p5, p4, p6, k31, k12, e6, h5, p7, e5]
  refine ⟨by omega, by unfold most; omega, by unfold most; omega, ?_⟩
  rw [List.take_of_length_le (by simp), hq]

end Go.Mx
