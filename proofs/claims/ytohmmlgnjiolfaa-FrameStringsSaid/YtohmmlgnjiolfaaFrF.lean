import Derived.Test.YtohmmlgnjiolfaaFrE
/-
  Frames are read by the program.
-/
namespace Go.Mx
set_option linter.unusedVariables false
set_option linter.unusedSimpArgs false
set_option linter.unusedSectionVars false
open Go

theorem len3_eq {l : List Nat} (h : 5 ≤ l.length) : len3 l = nth l 0 2 * 65536 + nth l 0 3 * 256 + nth l 0 4 := by
  match l, h with
  | a :: b :: c :: d :: e :: m, _ => simp [len3, valF, vaS, nth]; omega

theorem or3 {a b c : Nat} (ha : a < 256) (hb : b < 256) (hc : c < 256) : ∃ o : Nat, o < 2 ^ 63 ∧ intBin .or .i64 ((shn a 16 : Nat) : Int) ((shn b 8 : Nat) : Int) = some (.int .i64 (o : Int)) ∧
    intBin .or .i64 (o : Int) (c : Int) = some (.int .i64 ((a * 65536 + b * 256 + c : Nat) : Int)) := by
  have h1 : shn b 8 = b * 256 := by rw [shn, Nat.shiftLeft_eq]
  have h2 : shn a 16 = a * 65536 := by rw [shn, Nat.shiftLeft_eq]
  have h3 : shn a 16 ||| shn b 8 = a * 65536 + b * 256 := by rw [shn_or a 16 (shn b 8) (by omega), h1]
  have h4 : (a * 65536 + b * 256) ||| c = a * 65536 + b * 256 + c := by
    have := shn_or (a * 256 + b) 8 c (by omega)
    rw [shn, Nat.shiftLeft_eq] at this
    rw [show a * 65536 + b * 256 = (a * 256 + b) * 2 ^ 8 by omega, this]
  refine ⟨a * 65536 + b * 256, by omega, ?_, ?_⟩
  · rw [← h3]
    exact bits_or (k := .i64) (show shn a 16 < 2 ^ 63 by omega) (show shn b 8 < 2 ^ 63 by omega)
  · rw [← h4]
    exact bits_or (k := .i64) (show a * 65536 + b * 256 < 2 ^ 63 by omega) (show c < 2 ^ 63 by omega)

/-- Open. -/
theorem f16 (call : Oracle) (fuel : Nat) (b : Bool) (l : List Nat) (hb : By l) (hl : l.length ≤ 20000) (hbl : b = true → l = [])
    (h11 : ∀ b l, By l → l.length ≤ 20000 → call 11 [gsl (eI .u8) b (zl l)] = some (.v (.int .u32 ((adler l : Nat) : Int))))
    (h29 : ∀ b l, By l → l.length ≤ 8 → call 29 [gsl (eI .u8) b (zl l)] = some (.v (.int .u64 ((valF l : Nat) : Int))))
    (h30 : ∀ l, l.length ≤ 20000 → call 30 [gsl (eI .u8) false (zl l)] = some (gsl (eI .u8) false (zl l))) :
    callF call fuel c16 [gsl (eI .u8) b (zl l)] = some (opnD l) := by
  rw [callF_tab call fuel c16 47 _ (by exact Nat.le_of_ble_eq_true rfl) (by exact Nat.le_of_ble_eq_true rfl)]
  unfold opnD
  by_cases h0 : l.length = 0
  · rw [if_pos h0]
    simp [c16, h0]
    rfl
  rw [if_neg h0]
  have hbf : b = false := by
    cases b with
    | false => rfl
    | true => rw [hbl rfl] at h0; exact absurd rfl h0
  subst hbf
  have i0 : ¬ l = [] := by rintro rfl; exact h0 rfl
  have p0 : 0 < l.length := by omega
  by_cases h1 : nth l 0 0 = 209
  rotate_left
  · rw [if_pos h1]
    have i1 : ¬ ((nth l 0 0 : Nat) : Int) = 209 := by omega
    simp [c16, i0, p0, i1]
    rfl
  rw [if_neg (by simpa using h1)]
  by_cases h2 : l.length < 5
  · rw [if_pos h2]
    have i2 : (l.length : Int) < 5 := by omega
    simp [c16, i0, p0, h1, i2]
    rfl
  rw [if_neg h2]
  have i2 : ¬ (l.length : Int) < 5 := by omega
  have p2 : 2 < l.length := by omega
  have p3 : 3 < l.length := by omega
  have p4' : 4 < l.length := by omega
  have hn := len3_lt hb
  have hn3 := len3_eq (l := l) (by omega)
  have c2 := hb.nth 2
  have c3 := hb.nth 3
  have c4 := hb.nth 4
  obtain ⟨o, ho, g1, g2⟩ := or3 c2 c3 c4
  rw [← hn3] at g2
  have w2 : IntKind.i64.wrap ((nth l 0 2 : Nat) : Int) = ((nth l 0 2 : Nat) : Int) := wrapI (by omega) (by omega)
  have w3 : IntKind.i64.wrap ((nth l 0 3 : Nat) : Int) = ((nth l 0 3 : Nat) : Int) := wrapI (by omega) (by omega)
  have w4 : IntKind.i64.wrap ((nth l 0 4 : Nat) : Int) = ((nth l 0 4 : Nat) : Int) := wrapI (by omega) (by omega)
  have s2 : shiftBin .shl .i64 ((nth l 0 2 : Nat) : Int) 16 = some (.int .i64 ((shn (nth l 0 2) 16 : Nat) : Int)) := bits_shl .i64 (t := 16) (by decide) (by show _ < 2 ^ 63; omega)
  have s3 : shiftBin .shl .i64 ((nth l 0 3 : Nat) : Int) 8 = some (.int .i64 ((shn (nth l 0 3) 8 : Nat) : Int)) := bits_shl .i64 (t := 8) (by decide) (by show _ < 2 ^ 63; omega)
  generalize len3 l = n at *
  by_cases h3 : 8192 < n
  · rw [if_pos h3]
    have i3 : (8192 : Int) < (n : Int) := by omega
    simp [c16, i0, p0, h1, i2, p2, p3, p4', w2, w3, w4, s2, s3, g1, g2, i3]
    rfl
  rw [if_neg h3]
  have i3 : ¬ (8192 : Int) < (n : Int) := by omega
  obtain ⟨q, hq⟩ : ∃ q, q = n + 9 := ⟨_, rfl⟩
  obtain ⟨p, hp⟩ : ∃ p, p = n + 5 := ⟨_, rfl⟩
  have e3 : IntKind.i64.wrap (5 + (n : Int)) = (p : Int) := by rw [wrapI (by omega) (by omega)]; omega
  have e2 : IntKind.i64.wrap ((p : Int) + 4) = (q : Int) := by rw [wrapI (by omega) (by omega)]; omega
  by_cases h4 : l.length < n + 9
  · rw [if_pos h4]
    have i4 : l.length < q := by omega
    simp [c16, i0, p0, h1, i2, p2, p3, p4', w2, w3, w4, s2, s3, g1, g2, i3, e3, e2, i4]
    rfl
  rw [if_neg h4]
  have i4 : ¬ l.length < q := by omega
  have p4 : q ≤ l.length := by omega
  have e4 : q - p = 4 := by omega
  have p5 : p ≤ q := by omega
  have p6 : p ≤ l.length := by omega
  have p7 : 5 ≤ p := by omega
  have p9 : 1 < l.length := by omega
  have e5 : p - 5 = n := by omega
  have k29 := h29 false ((l.drop p).take 4) ((hb.drop p).take 4) (by rw [List.length_take]; omega)
  have k11 := h11 false (l.take p) (hb.take p) (by rw [List.length_take]; omega)
  have k30 := h30 ((l.drop 5).take n) (by rw [List.length_take, List.length_drop]; omega)
  have k30' := h30 (l.drop q) (by rw [List.length_drop]; omega)
  have e6 : IntKind.u64.wrap ((adler (l.take p) : Nat) : Int) = ((adler (l.take p) : Nat) : Int) := wrap_nat .u64 (by have := adler_lt (l.take p); show _ < 2 ^ 64; omega)
  have e7 : List.take (l.length - q) (l.drop q) = l.drop q := List.take_of_length_le (by simp)
  have p8 : n + 5 = p := hp.symm
  rw [p8]
  by_cases h5 : valF ((l.drop p).take 4) = adler (l.take p)
  rotate_left
  · rw [if_pos h5]
    have i5 : ¬ ((valF ((l.drop p).take 4) : Nat) : Int) = ((adler (l.take p) : Nat) : Int) := by omega
    simp [c16, i0, p0, h1, i2, p2, p3, p4', w2, w3, w4, s2, s3, g1, g2, i3, e2, i4, e3, e4, p5, p4, p6, k29, k11, e6, i5]
    rfl
  rw [if_neg (by simpa using h5)]
  unfold okO
  rw [← hq]
  simp [c16, i0, p0, h1, i2, p2, p3, p4', w2, w3, w4, s2, s3, g1, g2, i3, e2, i4, e3, e4, p5, p4, p6, k29, k11, e6, h5, p7, e5, k30, k30', e7, p9]

end Go.Mx
