import Derived.Test.YtohmmlgnjiolfaaFrC
/-
  Frames are made.
-/
namespace Go.Mx
set_option linter.unusedVariables false
set_option linter.unusedSimpArgs false
set_option linter.unusedSectionVars false
open Go

def bodyL (k : Nat) (d : List Nat) : List Nat := [209, k] ++ bigL d.length 3 ++ d
def sealL (k : Nat) (d : List Nat) : List Nat := bodyL k d ++ bigL (adler (bodyL k d)) 4
abbrev errD (n : Int) : D := .v (.int .i64 n)
def sealD (k : Nat) (d : List Nat) : D := if d.length ≤ 8192 then .nd .tu [gsl (eI .u8) false (zl (sealL k d)), errD 0] else .nd .tu [gsl (eI .u8) true [], errD 6]

theorem bt_lt (x k : Nat) : bt x k < 256 := Nat.mod_lt _ (by decide)
theorem By.big (x n : Nat) : By (bigL x n) := by
  intro y hy
  unfold bigL row at hy
  obtain ⟨j, _, rfl⟩ := List.mem_map.1 hy
  exact bt_lt _ _
theorem By.app {l m : List Nat} (hl : By l) (hm : By m) : By (l ++ m) := by
  intro x hx
  rcases List.mem_append.1 hx with h | h
  · exact hl x h
  · exact hm x h
theorem By.body {k : Nat} {d : List Nat} (hk : k < 256) (hd : By d) : By (bodyL k d) := by
  have h : By [209, k] := by
    intro x hx
    simp at hx
    omega
  exact By.app (By.app h (By.big _ _)) hd
theorem By.sealL {k : Nat} {d : List Nat} (hk : k < 256) (hd : By d) : By (sealL k d) := (By.body hk hd).app (By.big _ _)
@[simp] theorem big_len (x n : Nat) : (bigL x n).length = n := by simp [bigL]
theorem body_len (k : Nat) (d : List Nat) : (bodyL k d).length = d.length + 5 := by simp [bodyL]; omega
theorem seal_len (k : Nat) (d : List Nat) : (sealL k d).length = d.length + 9 := by simp [sealL, body_len]
theorem big3 (x : Nat) : bigL x 3 = [bt x 2, bt x 1, bt x 0] := rfl
theorem big2 (x : Nat) : bigL x 2 = [bt x 1, bt x 0] := rfl

@[simp] theorem zl_apD (b : Bool) (l d : List Nat) : apD 1 d.length (gk (eI .u8) (zl d)) (gsl (eI .u8) b (zl l)) = if l.length + d.length ≤ most then some (gsl (eI .u8) (b && d.length == 0) (zl (l ++ d))) else none := by
  have := I_apD (k := .u8) b (zl l) (zl d)
  rw [← zl_app, zl_len, zl_len] at this
  exact this
def hd5 (k n : Nat) : List Nat := [209, k, bt n 2, bt n 1, bt n 0]
def hd2 (k : Nat) : List Nat := [209, k]
theorem shr_bt (x k : Nat) (hk : 8 * k ≤ 64) : shiftBin .shr .i64 (x : Int) ((8 * k : Nat) : Int) = some (.int .i64 ((srn x (8 * k) : Nat) : Int)) := bits_shr .i64 x (8 * k) hk

/-- Seal. -/
theorem f13 (call : Oracle) (fuel : Nat) (b : Bool) (k : Nat) (d : List Nat) (hd : d.length ≤ 20000)
    (h11 : d.length ≤ 8192 → call 11 [gsl (eI .u8) false (zl (bodyL k d))] = some (.v (.int .u32 ((adler (bodyL k d) : Nat) : Int))))
    (h26 : call 26 [.v (.int .u64 ((adler (bodyL k d) : Nat) : Int)), .v (.int .i64 4)] = some (gsl (eI .u8) false (zl (bigL (adler (bodyL k d)) 4)))) :
    callF call fuel c13 [.v (.int .u8 (k : Int)), gsl (eI .u8) b (zl d)] = some (sealD k d) := by
  rw [callF_tab call fuel c13 8 _ (by exact Nat.le_of_ble_eq_true rfl) (by exact Nat.le_of_ble_eq_true rfl)]
  have hm : d.length ≤ most := by unfold most; omega
  have e1 : shiftBin .shr .i64 (d.length : Int) 16 = some (.int .i64 ((srn d.length 16 : Nat) : Int)) := shr_bt d.length 2 (by decide)
  have e2 : shiftBin .shr .i64 (d.length : Int) 8 = some (.int .i64 ((srn d.length 8 : Nat) : Int)) := shr_bt d.length 1 (by decide)
  have e3 : IntKind.u8.wrap ((srn d.length 16 : Nat) : Int) = ((bt d.length 2 : Nat) : Int) := by rw [← srn_bt]; exact wrap_u8 _
  have e4 : IntKind.u8.wrap ((srn d.length 8 : Nat) : Int) = ((bt d.length 1 : Nat) : Int) := by rw [← srn_bt]; exact wrap_u8 _
  have e5 : IntKind.u8.wrap ((d.length : Nat) : Int) = ((bt d.length 0 : Nat) : Int) := by rw [wrap_u8, bt]; simp
  have eA : T.nd (K.sl false 1 5) [T.v (Value.int IntKind.u8 209), T.v (Value.int IntKind.u8 ↑k), T.v (Value.int IntKind.u8 ↑(bt d.length 2)), T.v (Value.int IntKind.u8 ↑(bt d.length 1)), T.v (Value.int IntKind.u8 ↑(bt d.length 0))] = gsl (eI .u8) false (zl (hd5 k d.length)) := rfl
  have eB : hd5 k d.length ++ d = bodyL k d := rfl
  have eC : (hd5 k d.length).length = 5 := rfl
  have eD : bodyL k d ++ bigL (adler (bodyL k d)) 4 = sealL k d := rfl
  have e7 : IntKind.u64.wrap ((adler (bodyL k d) : Nat) : Int) = ((adler (bodyL k d) : Nat) : Int) := wrap_nat .u64 (by have := adler_lt (bodyL k d); show _ < 2 ^ 64; omega)
  have eE : 5 + d.length ≤ most := by unfold most; omega
  have eF : d.length + 5 + 4 ≤ most := by unfold most; omega
  have eG := zl_apD false (bodyL k d) (bigL (adler (bodyL k d)) 4)
  rw [big_len, body_len, if_pos eF, eD] at eG
  by_cases hl : d.length ≤ 8192
  · have hl2 : ¬ (8192 < (d.length : Int)) := by omega
    have h11 := h11 hl
    rw [sealD, if_pos hl]
    simp [c13, hl2, e1, e2, e3, e4, e5, eA, eB, eC, eE, e7, h11, h26, eG]
  · have hl2 : (8192 < (d.length : Int)) := by omega
    rw [sealD, if_neg hl]
    simp [c13, hl2, hm, e1, e2, e3, e4, e5, eA]
    rfl

/-- Seal of the reference. -/
theorem f14 (call : Oracle) (fuel : Nat) (b : Bool) (k : Nat) (d : List Nat) (hd : d.length ≤ 20000)
    (h12 : d.length ≤ 8192 → call 12 [gsl (eI .u8) false (zl (bodyL k d))] = some (.v (.int .u32 ((adler (bodyL k d) : Nat) : Int))))
    (h27 : ∀ x n : Nat, x < 18446744073709551616 → n ≤ 8 → call 27 [.v (.int .u64 (x : Int)), .v (.int .i64 (n : Int))] = some (gsl (eI .u8) false (zl (bigL x n)))) :
    callF call fuel c14 [.v (.int .u8 (k : Int)), gsl (eI .u8) b (zl d)] = some (sealD k d) := by
  rw [callF_tab call fuel c14 7 _ (by exact Nat.le_of_ble_eq_true rfl) (by exact Nat.le_of_ble_eq_true rfl)]
  have hm : d.length ≤ most := by unfold most; omega
  have hA := adler_lt (bodyL k d)
  have g1 : call 27 [.v (.int .u64 ((d.length : Nat) : Int)), .v (.int .i64 3)] = some (gsl (eI .u8) false (zl (bigL (d.length) 3))) := h27 d.length 3 (by omega) (by omega)
  have g2 : call 27 [.v (.int .u64 ((adler (bodyL k d) : Nat) : Int)), .v (.int .i64 4)] = some (gsl (eI .u8) false (zl (bigL (adler (bodyL k d)) 4))) := h27 _ 4 (by omega) (by omega)
  have e5 : IntKind.u64.wrap ((d.length : Nat) : Int) = ((d.length : Nat) : Int) := wrap_nat .u64 (by show _ < 2 ^ 64; omega)
  have eA : T.nd (K.sl false 1 2) [T.v (Value.int IntKind.u8 209), T.v (Value.int IntKind.u8 ↑k)] = gsl (eI .u8) false (zl (hd2 k)) := rfl
  have eB : hd2 k ++ bigL d.length 3 ++ d = bodyL k d := rfl
  have eC : (hd2 k).length = 2 := rfl
  have eD : bodyL k d ++ bigL (adler (bodyL k d)) 4 = sealL k d := rfl
  have e7 : IntKind.u64.wrap ((adler (bodyL k d) : Nat) : Int) = ((adler (bodyL k d) : Nat) : Int) := wrap_nat .u64 (by show _ < 2 ^ 64; omega)
  have eE : 2 + 3 + d.length ≤ most := by unfold most; omega
  have eF : d.length + 5 + 4 ≤ most := by unfold most; omega
  have eG := zl_apD false (bodyL k d) (bigL (adler (bodyL k d)) 4)
  rw [big_len, body_len, if_pos eF, eD] at eG
  have eH := zl_apD false (hd2 k) (bigL d.length 3)
  rw [big_len, eC, if_pos (by unfold most; omega)] at eH
  have eI' := zl_apD false (hd2 k ++ bigL d.length 3) d
  rw [List.length_append, eC, big_len, if_pos eE, eB] at eI'
  by_cases hl : d.length ≤ 8192
  · have hl2 : ¬ (8192 < (d.length : Int)) := by omega
    have h12 := h12 hl
    rw [sealD, if_pos hl]
    generalize hd2 k ++ bigL d.length 3 = q at *
    simp [c14, hl2, e5, g1, eA, eC, eE, e7, h12, g2, eG, eH, eI']
  · have hl2 : (8192 < (d.length : Int)) := by omega
    rw [sealD, if_neg hl]
    simp [c14, hl2]
    rfl

/-- A number's 64 bits. -/
def tou (n : Int) : Nat := (n % 18446744073709551616).toNat
theorem tou_lt (n : Int) : tou n < 18446744073709551616 := by unfold tou; omega
theorem wrap_tou (n : Int) : IntKind.u64.wrap n = ((tou n : Nat) : Int) := by
  simp [IntKind.wrap, IntKind.bits, IntKind.signed, tou]; omega
theorem wrap_of_tou {n : Int} (h : I64 n) : IntKind.i64.wrap ((tou n : Nat) : Int) = n := by
  rw [IntKind.wrap_i64]; unfold tou; unfold I64 at h; omega

/-- Int. -/
theorem f18 (call : Oracle) (fuel : Nat) (n : Int) (h26 : ∀ x n : Nat, n ≤ 8 → call 26 [.v (.int .u64 (x : Int)), .v (.int .i64 (n : Int))] = some (gsl (eI .u8) false (zl (bigL x n)))) :
    callF call fuel c18 [.v (.int .i64 n)] = some (gsl (eI .u8) false (zl (bigL (tou n) 8))) := by
  rw [callF_tab call fuel c18 3 _ (by exact Nat.le_of_ble_eq_true rfl) (by exact Nat.le_of_ble_eq_true rfl)]
  have e := wrap_tou n
  have g : call 26 [.v (.int .u64 ((tou n : Nat) : Int)), .v (.int .i64 8)] = some (gsl (eI .u8) false (zl (bigL (tou n) 8))) := h26 _ 8 (by omega)
  simp [c18, e, g]
theorem f21 (call : Oracle) (fuel : Nat) (n : Int) (h27 : ∀ x n : Nat, x < 18446744073709551616 → n ≤ 8 → call 27 [.v (.int .u64 (x : Int)), .v (.int .i64 (n : Int))] = some (gsl (eI .u8) false (zl (bigL x n)))) :
    callF call fuel c21 [.v (.int .i64 n)] = some (gsl (eI .u8) false (zl (bigL (tou n) 8))) := by
  rw [callF_tab call fuel c21 3 _ (by exact Nat.le_of_ble_eq_true rfl) (by exact Nat.le_of_ble_eq_true rfl)]
  have e := wrap_tou n
  have g : call 27 [.v (.int .u64 ((tou n : Nat) : Int)), .v (.int .i64 8)] = some (gsl (eI .u8) false (zl (bigL (tou n) 8))) := h27 _ 8 (tou_lt n) (by omega)
  simp [c21, e, g]

def strL (s : List Nat) : List Nat := bigL s.length 2 ++ s
def strD (s : List Nat) : D := if s.length ≤ 4096 then .nd .tu [gsl (eI .u8) false (zl (strL s)), errD 0] else .nd .tu [gsl (eI .u8) true [], errD 6]
theorem By.strL {s : List Nat} (hs : By s) : By (strL s) := (By.big _ _).app hs
theorem str_len (s : List Nat) : (strL s).length = s.length + 2 := by simp [strL]; omega

/-- Bytes. -/
theorem f22 (call : Oracle) (fuel : Nat) (b : Bool) (d : List Nat) (hd : d.length ≤ 20000) : callF call fuel c22 [gsl (eI .u8) b (zl d)] = some (strD d) := by
  rw [callF_tab call fuel c22 4 _ (by exact Nat.le_of_ble_eq_true rfl) (by exact Nat.le_of_ble_eq_true rfl)]
  have e2 : shiftBin .shr .i64 (d.length : Int) 8 = some (.int .i64 ((srn d.length 8 : Nat) : Int)) := shr_bt d.length 1 (by decide)
  have e4 : IntKind.u8.wrap ((srn d.length 8 : Nat) : Int) = ((bt d.length 1 : Nat) : Int) := by rw [← srn_bt]; exact wrap_u8 _
  have e5 : IntKind.u8.wrap ((d.length : Nat) : Int) = ((bt d.length 0 : Nat) : Int) := by rw [wrap_u8, bt]; simp
  have eA : T.nd (K.sl false 1 2) [T.v (Value.int IntKind.u8 ↑(bt d.length 1)), T.v (Value.int IntKind.u8 ↑(bt d.length 0))] = gsl (eI .u8) false (zl (bigL d.length 2)) := rfl
  have eG := zl_apD false (bigL d.length 2) d
  rw [big_len, if_pos (by unfold most; omega)] at eG
  by_cases hl : d.length ≤ 4096
  · have hl2 : ¬ (4096 < (d.length : Int)) := by omega
    rw [strD, if_pos hl]
    simp [c22, hl2, e2, e4, e5, eA, eG, strL]
  · have hl2 : (4096 < (d.length : Int)) := by omega
    rw [strD, if_neg hl]
    simp [c22, hl2]
    rfl
theorem f23 (call : Oracle) (fuel : Nat) (b : Bool) (d : List Nat) (hd : d.length ≤ 20000) (h27 : ∀ x n : Nat, x < 18446744073709551616 → n ≤ 8 → call 27 [.v (.int .u64 (x : Int)), .v (.int .i64 (n : Int))] = some (gsl (eI .u8) false (zl (bigL x n)))) :
    callF call fuel c23 [gsl (eI .u8) b (zl d)] = some (strD d) := by
  rw [callF_tab call fuel c23 4 _ (by exact Nat.le_of_ble_eq_true rfl) (by exact Nat.le_of_ble_eq_true rfl)]
  have g1 : call 27 [.v (.int .u64 ((d.length : Nat) : Int)), .v (.int .i64 2)] = some (gsl (eI .u8) false (zl (bigL (d.length) 2))) := h27 _ 2 (by omega) (by omega)
  have e5 : IntKind.u64.wrap ((d.length : Nat) : Int) = ((d.length : Nat) : Int) := wrap_nat .u64 (by show _ < 2 ^ 64; omega)
  have eG := zl_apD false (bigL d.length 2) d
  rw [big_len, if_pos (by unfold most; omega)] at eG
  by_cases hl : d.length ≤ 4096
  · have hl2 : ¬ (4096 < (d.length : Int)) := by omega
    rw [strD, if_pos hl]
    simp [c23, hl2, e5, g1, eG, strL]
  · have hl2 : (4096 < (d.length : Int)) := by omega
    rw [strD, if_neg hl]
    simp [c23, hl2]
    rfl
end Go.Mx
