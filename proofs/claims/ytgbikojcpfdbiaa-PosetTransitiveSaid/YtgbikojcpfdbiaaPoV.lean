import Derived.Test.YtgbikojcpfdbiaaPoB
/-
  Sets of vertices as bits of a number.
-/
namespace Go.Mx
set_option linter.unusedVariables false
set_option linter.unusedSimpArgs false
set_option linter.unusedSectionVars false
open Go

/-- A slice of sets, as a tree. -/
def msl (b : Bool) (l : List Nat) : D := .nd (.sl b 1 l.length) (l.map fun (m : Nat) => .v (.int .u32 (m : Int)))

theorem msl_get {l : List Nat} {i x : Nat} (h : l[i]? = some x) : (l.map fun (m : Nat) => (T.v (.int .u32 (m : Int)) : D))[i]? = some (.v (.int .u32 (x : Int))) := by
  rw [List.getElem?_map, h]; rfl

theorem u32_ofInt (n : Nat) : BitVec.ofInt 32 (n : Int) = BitVec.ofNat 32 n := by simp

theorem u32_wrap {n : Nat} (h : n < 2 ^ 32) : IntKind.u32.wrap (n : Int) = (n : Int) := by
  unfold IntKind.wrap
  simp [IntKind.bits, IntKind.signed]
  omega

theorem u32_mask (b : BitVec 32) : mask .u32 b = .int .u32 (b.toNat : Int) := by
  unfold mask
  exact congrArg _ (u32_wrap b.isLt)

theorem u32_or {a b : Nat} (ha : a < 2 ^ 32) (hb : b < 2 ^ 32) : mask .u32 (BitVec.ofInt 32 (a : Int) ||| BitVec.ofInt 32 (b : Int)) = .int .u32 ((a ||| b : Nat) : Int) := by
  rw [u32_mask, u32_ofInt, u32_ofInt, BitVec.toNat_or, BitVec.toNat_ofNat, BitVec.toNat_ofNat, Nat.mod_eq_of_lt ha, Nat.mod_eq_of_lt hb]

theorem u32_orN {a b : Nat} (ha : a < 2 ^ 32) (hb : b < 2 ^ 32) : mask .u32 (BitVec.ofNat (IntKind.bits .u32) a ||| BitVec.ofNat (IntKind.bits .u32) b) = .int .u32 ((a ||| b : Nat) : Int) := by
  have := u32_or ha hb
  rw [u32_ofInt, u32_ofInt] at this
  exact this

theorem u32_shl {t : Nat} (h : t < 32) : shiftBin .shl .u32 1 (t : Int) = some (.int .u32 ((2 ^ t : Nat) : Int)) := by
  have h1 : ¬ (t : Int) < 0 := by omega
  have h2 : min (t : Int).toNat (IntKind.bits .u32) = t := by simp [IntKind.bits]; omega
  simp only [shiftBin, h1, if_false, h2]
  have : (1 * 2 ^ t : Int) = ((2 ^ t : Nat) : Int) := by simp
  rw [this, u32_wrap (Nat.pow_lt_pow_right (by omega) h)]

theorem u32_shr (s : Nat) {t : Nat} (h : t < 32) : shiftBin .shr .u32 (s : Int) (t : Int) = some (.int .u32 ((s >>> t : Nat) : Int)) := by
  have h1 : ¬ (t : Int) < 0 := by omega
  have h2 : min (t : Int).toNat (IntKind.bits .u32) = t := by simp [IntKind.bits]; omega
  simp only [shiftBin, h1, if_false, h2]
  rw [Int.fdiv_eq_ediv_of_nonneg _ (by exact Int.le_of_lt (Int.pow_pos (by decide))), Nat.shiftRight_eq_div_pow]
  simp

theorem u32_bit (s : Nat) (hs : s < 2 ^ 32) (t : Nat) : mask .u32 (BitVec.ofInt 32 ((s >>> t : Nat) : Int) &&& BitVec.ofInt 32 1) = .int .u32 (if s.testBit t then 1 else 0) := by
  have h : s >>> t < 2 ^ 32 := by
    rw [Nat.shiftRight_eq_div_pow]; exact Nat.lt_of_le_of_lt (Nat.div_le_self _ _) hs
  rw [u32_mask, u32_ofInt, BitVec.toNat_and, BitVec.toNat_ofNat, Nat.mod_eq_of_lt h]
  have : (BitVec.ofInt 32 1).toNat = 1 := by decide
  rw [this, Nat.testBit, Nat.and_comm]
  by_cases hb : 1 &&& s >>> t = 0
  · simp [hb]
  · have : 1 &&& s >>> t = 1 := by
      have := Nat.and_le_left (n := 1) (m := s >>> t); omega
    simp [this]

theorem f28 (call : Oracle) (fuel : Nat) (s t : Nat) (hs : s < 2 ^ 32) (ht : t < 32) : callF call fuel c28 [.v (.int .u32 (s : Int)), .v (.int .i64 (t : Int))] = some (.v (.bool (s.testBit t))) := by
  have h1 := u32_shr s ht
  have h2 := u32_bit s hs t
  rw [Int.natCast_shiftRight] at h1 h2
  have h3 : mask .u32 (BitVec.ofInt (IntKind.bits .u32) ((s : Int) >>> t) &&& BitVec.ofNat (IntKind.bits .u32) 1) = .int .u32 (if s.testBit t then 1 else 0) := h2
  simp [c28, h1, h3]
  cases s.testBit t <;> rfl

end Go.Mx
