import Derived.Test.YtigplgminjhgmaaJoB
/-
  Frames are made and read (chapter 7, anew).
-/
namespace Go.Mx
set_option linter.unusedVariables false
set_option linter.unusedSimpArgs false
set_option linter.unusedSectionVars false
open Go

def bodyL (k : Nat) (d : List Nat) : List Nat := [209, k] ++ bigL d.length 3 ++ d
def sealL (k : Nat) (d : List Nat) : List Nat := bodyL k d ++ bigL (adler (bodyL k d)) 4
abbrev errD (n : Int) : D := .v (.int .i64 n)
def sealD (k : Nat) (d : List Nat) : D := if d.length ≤ 8192 then .nd .tu [gsl (eI .u8) false (zl (sealL k d)), errD 0] else .nd .tu [gsl (eI .u8) true [], errD 6]

theorem bt_lt (x k : Nat) : bt x k < 256 := Nat.mod_lt _ (by decide)
theorem By.big (x n : Nat) : By (bigL x n) := by
  intro y hy
  unfold bigL row at hy
  obtain ⟨j, _, rfl⟩ := List.mem_map.1 hy
  exact bt_lt _ _
theorem By.app {l m : List Nat} (hl : By l) (hm : By m) : By (l ++ m) := by
  intro x hx
  rcases List.mem_append.1 hx with h | h
  · exact hl x h
  · exact hm x h
theorem By.body {k : Nat} {d : List Nat} (hk : k < 256) (hd : By d) : By (bodyL k d) := by
  have h : By [209, k] := by
    intro x hx
    simp at hx
    omega
  exact By.app (By.app h (By.big _ _)) hd
theorem By.sealL {k : Nat} {d : List Nat} (hk : k < 256) (hd : By d) : By (sealL k d) := (By.body hk hd).app (By.big _ _)
@[simp] theorem big_len (x n : Nat) : (bigL x n).length = n := by simp [bigL]
theorem body_len (k : Nat) (d : List Nat) : (bodyL k d).length = d.length + 5 := by simp [bodyL]; omega
theorem seal_len (k : Nat) (d : List Nat) : (sealL k d).length = d.length + 9 := by simp [sealL, body_len]
theorem big3 (x : Nat) : bigL x 3 = [bt x 2, bt x 1, bt x 0] := rfl
theorem big2 (x : Nat) : bigL x 2 = [bt x 1, bt x 0] := rfl

@[simp] theorem zl_apD (b : Bool) (l d : List Nat) : apD 1 d.length (gk (eI .u8) (zl d)) (gsl (eI .u8) b (zl l)) = if l.length + d.length ≤ most then some (gsl (eI .u8) (b && d.length == 0) (zl (l ++ d))) else none := by
  have := I_apD (k := .u8) b (zl l) (zl d)
  rw [← zl_app, zl_len, zl_len] at this
  exact this
def hd5 (k n : Nat) : List Nat := [209, k, bt n 2, bt n 1, bt n 0]
def hd2 (k : Nat) : List Nat := [209, k]
theorem shr_bt (x k : Nat) (hk : 8 * k ≤ 64) : shiftBin .shr .i64 (x : Int) ((8 * k : Nat) : Int) = some (.int .i64 ((srn x (8 * k) : Nat) : Int)) := bits_shr .i64 x (8 * k) hk

/-- Seal. -/
theorem f27 (call : Oracle) (fuel : Nat) (b : Bool) (k : Nat) (d : List Nat) (hd : d.length ≤ 20000)
    (h39 : d.length ≤ 8192 → call 39 [gsl (eI .u8) false (zl (bodyL k d))] = some (.v (.int .u32 ((adler (bodyL k d) : Nat) : Int))))
    (h38 : call 38 [.v (.int .u64 ((adler (bodyL k d) : Nat) : Int)), .v (.int .i64 4)] = some (gsl (eI .u8) false (zl (bigL (adler (bodyL k d)) 4)))) :
    callF call fuel c27 [.v (.int .u8 (k : Int)), gsl (eI .u8) b (zl d)] = some (sealD k d) := by
  rw [callF_tab call fuel c27 8 _ (by exact Nat.le_of_ble_eq_true rfl) (by exact Nat.le_of_ble_eq_true rfl)]
  have hm : d.length ≤ most := by unfold most; omega
  have e1 : shiftBin .shr .i64 (d.length : Int) 16 = some (.int .i64 ((srn d.length 16 : Nat) : Int)) := shr_bt d.length 2 (by decide)
  have e2 : shiftBin .shr .i64 (d.length : Int) 8 = some (.int .i64 ((srn d.length 8 : Nat) : Int)) := shr_bt d.length 1 (by decide)
  have e3 : IntKind.u8.wrap ((srn d.length 16 : Nat) : Int) = ((bt d.length 2 : Nat) : Int) := by rw [← srn_bt]; exact wrap_u8 _
  have e4 : IntKind.u8.wrap ((srn d.length 8 : Nat) : Int) = ((bt d.length 1 : Nat) : Int) := by rw [← srn_bt]; exact wrap_u8 _
  have e5 : IntKind.u8.wrap ((d.length : Nat) : Int) = ((bt d.length 0 : Nat) : Int) := by rw [wrap_u8, bt]; simp
  have eA : T.nd (K.sl false 1 5) [T.v (Value.int IntKind.u8 209), T.v (Value.int IntKind.u8 ↑k), T.v (Value.int IntKind.u8 ↑(bt d.length 2)), T.v (Value.int IntKind.u8 ↑(bt d.length 1)), T.v (Value.int IntKind.u8 ↑(bt d.length 0))] = gsl (eI .u8) false (zl (hd5 k d.length)) := rfl
  have eB : hd5 k d.length ++ d = bodyL k d := rfl
  have eC : (hd5 k d.length).length = 5 := rfl
  have eD : bodyL k d ++ bigL (adler (bodyL k d)) 4 = sealL k d := rfl
  have e7 : IntKind.u64.wrap ((adler (bodyL k d) : Nat) : Int) = ((adler (bodyL k d) : Nat) : Int) := wrap_nat .u64 (by have := adler_lt (bodyL k d); show _ < 2 ^ 64; omega)
  have eE : 5 + d.length ≤ most := by unfold most; omega
  have eF : d.length + 5 + 4 ≤ most := by unfold most; omega
  have eG := zl_apD false (bodyL k d) (bigL (adler (bodyL k d)) 4)
  rw [big_len, body_len, if_pos eF, eD] at eG
  by_cases hl : d.length ≤ 8192
  · have hl2 : ¬ (8192 < (d.length : Int)) := by omega
    have h39 := h39 hl
    rw [sealD, if_pos hl]
    simp [c27, hl2, e1, e2, e3, e4, e5, eA, eB, eC, eE, e7, h39, h38, eG]
  · have hl2 : (8192 < (d.length : Int)) := by omega
    rw [sealD, if_neg hl]
    simp [c27, hl2, hm, e1, e2, e3, e4, e5, eA]
    rfl

/-- Seal of the reference. -/
theorem f28 (call : Oracle) (fuel : Nat) (b : Bool) (k : Nat) (d : List Nat) (hd : d.length ≤ 20000)
    (h41 : d.length ≤ 8192 → call 41 [gsl (eI .u8) false (zl (bodyL k d))] = some (.v (.int .u32 ((adler (bodyL k d) : Nat) : Int))))
    (h40 : ∀ x n : Nat, x < 18446744073709551616 → n ≤ 8 → call 40 [.v (.int .u64 (x : Int)), .v (.int .i64 (n : Int))] = some (gsl (eI .u8) false (zl (bigL x n)))) :
    callF call fuel c28 [.v (.int .u8 (k : Int)), gsl (eI .u8) b (zl d)] = some (sealD k d) := by
  rw [callF_tab call fuel c28 7 _ (by exact Nat.le_of_ble_eq_true rfl) (by exact Nat.le_of_ble_eq_true rfl)]
  have hm : d.length ≤ most := by unfold most; omega
  have hA := adler_lt (bodyL k d)
  have g1 : call 40 [.v (.int .u64 ((d.length : Nat) : Int)), .v (.int .i64 3)] = some (gsl (eI .u8) false (zl (bigL (d.length) 3))) := h40 d.length 3 (by omega) (by omega)
  have g2 : call 40 [.v (.int .u64 ((adler (bodyL k d) : Nat) : Int)), .v (.int .i64 4)] = some (gsl (eI .u8) false (zl (bigL (adler (bodyL k d)) 4))) := h40 _ 4 (by omega) (by omega)
  have e5 : IntKind.u64.wrap ((d.length : Nat) : Int) = ((d.length : Nat) : Int) := wrap_nat .u64 (by show _ < 2 ^ 64; omega)
  have eA : T.nd (K.sl false 1 2) [T.v (Value.int IntKind.u8 209), T.v (Value.int IntKind.u8 ↑k)] = gsl (eI .u8) false (zl (hd2 k)) := rfl
  have eB : hd2 k ++ bigL d.length 3 ++ d = bodyL k d := rfl
  have eC : (hd2 k).length = 2 := rfl
  have eD : bodyL k d ++ bigL (adler (bodyL k d)) 4 = sealL k d := rfl
  have e7 : IntKind.u64.wrap ((adler (bodyL k d) : Nat) : Int) = ((adler (bodyL k d) : Nat) : Int) := wrap_nat .u64 (by show _ < 2 ^ 64; omega)
  have eE : 2 + 3 + d.length ≤ most := by unfold most; omega
  have eF : d.length + 5 + 4 ≤ most := by unfold most; omega
  have eG := zl_apD false (bodyL k d) (bigL (adler (bodyL k d)) 4)
  rw [big_len, body_len, if_pos eF, eD] at eG
  have eH := zl_apD false (hd2 k) (bigL d.length 3)
  rw [big_len, eC, if_pos (by unfold most; omega)] at eH
  have eI' := zl_apD false (hd2 k ++ bigL d.length 3) d
  rw [List.length_append, eC, big_len, if_pos eE, eB] at eI'
  by_cases hl : d.length ≤ 8192
  · have hl2 : ¬ (8192 < (d.length : Int)) := by omega
    have h41 := h41 hl
    rw [sealD, if_pos hl]
    generalize hd2 k ++ bigL d.length 3 = q at *
    simp [c28, hl2, e5, g1, eA, eC, eE, e7, h41, g2, eG, eH, eI']
  · have hl2 : (8192 < (d.length : Int)) := by omega
    rw [sealD, if_neg hl]
    simp [c28, hl2]
    rfl

/-- A number's 64 bits. -/
def tou (n : Int) : Nat := (n % 18446744073709551616).toNat
theorem tou_lt (n : Int) : tou n < 18446744073709551616 := by unfold tou; omega
theorem wrap_tou (n : Int) : IntKind.u64.wrap n = ((tou n : Nat) : Int) := by
  simp [IntKind.wrap, IntKind.bits, IntKind.signed, tou]; omega
theorem wrap_of_tou {n : Int} (h : I64 n) : IntKind.i64.wrap ((tou n : Nat) : Int) = n := by
  rw [IntKind.wrap_i64]; unfold tou; unfold I64 at h; omega


@[simp] theorem natOf_1 : natOf 1 = some 1 := rfl
@[simp] theorem natOf_2 : natOf 2 = some 2 := rfl
@[simp] theorem natOf_3 : natOf 3 = some 3 := rfl
@[simp] theorem natOf_4 : natOf 4 = some 4 := rfl
@[simp] theorem natOf_5 : natOf 5 = some 5 := rfl
@[simp] theorem natOf_8 : natOf 8 = some 8 := rfl
abbrev nilB : D := gsl (eI .u8) true []
def oE (e : Int) : D := .nd .tu [.v (.int .u8 0), nilB, nilB, errD e]
def len3 (l : List Nat) : Nat := valF ((l.drop 2).take 3)
def okO (l : List Nat) (n : Nat) : D := .nd .tu [.v (.int .u8 ((nth l 0 1 : Nat) : Int)), gsl (eI .u8) false (zl ((l.drop 5).take n)), gsl (eI .u8) false (zl (l.drop (n + 9))), errD 0]
def opnD (l : List Nat) : D :=
  if l.length = 0 then oE 4 else if ¬ nth l 0 0 = 209 then oE 3 else if l.length < 5 then oE 4 else if 8192 < len3 l then oE 6 else if l.length < len3 l + 9 then oE 4
  else if ¬ valF ((l.drop (len3 l + 5)).take 4) = adler (l.take (len3 l + 5)) then oE 5 else okO l (len3 l)

theorem len3_lt {l : List Nat} (h : By l) : len3 l < 16777216 := by
  have h1 := valF_lt _ ((h.drop 2).take 3)
  have h2 : ((l.drop 2).take 3).length ≤ 3 := by rw [List.length_take]; omega
  have h3 : 256 ^ ((l.drop 2).take 3).length ≤ 256 ^ 3 := Nat.pow_le_pow_right (by decide) h2
  unfold len3; omega

/-- Open of the reference. -/
theorem f35 (call : Oracle) (fuel : Nat) (b : Bool) (l : List Nat) (hb : By l) (hl : l.length ≤ 20000) (hbl : b = true → l = [])
    (h41 : ∀ b l, By l → l.length ≤ 20000 → call 41 [gsl (eI .u8) b (zl l)] = some (.v (.int .u32 ((adler l : Nat) : Int))))
    (h44 : ∀ b l, By l → l.length ≤ 8 → call 44 [gsl (eI .u8) b (zl l)] = some (.v (.int .u64 ((valF l : Nat) : Int)))) :
    callF call fuel c35 [gsl (eI .u8) b (zl l)] = some (opnD l) := by
  rw [callF_tab call fuel c35 7 _ (by exact Nat.le_of_ble_eq_true rfl) (by exact Nat.le_of_ble_eq_true rfl)]
  unfold opnD
  by_cases h0 : l.length = 0
  · rw [if_pos h0]
    simp [c35, h0]
    rfl
  rw [if_neg h0]
  have hbf : b = false := by
    cases b with
    | false => rfl
    | true => rw [hbl rfl] at h0; exact absurd rfl h0
  subst hbf
  have i0 : ¬ l = [] := by rintro rfl; exact h0 rfl
  have p0 : 0 < l.length := by omega
  by_cases h1 : nth l 0 0 = 209
  rotate_left
  · rw [if_pos h1]
    have i1 : ¬ ((nth l 0 0 : Nat) : Int) = 209 := by omega
    simp [c35, i0, p0, i1]
    rfl
  rw [if_neg (by simpa using h1)]
  by_cases h2 : l.length < 5
  · rw [if_pos h2]
    have i2 : (l.length : Int) < 5 := by omega
    simp [c35, i0, p0, h1, i2]
    rfl
  rw [if_neg h2]
  have i2 : ¬ (l.length : Int) < 5 := by omega
  have p2 : 5 ≤ l.length := by omega
  have g31 : call 44 [gsl (eI .u8) false (zl ((l.drop 2).take 3))] = some (.v (.int .u64 ((len3 l : Nat) : Int))) := h44 _ _ ((hb.drop 2).take 3) (by rw [List.length_take]; omega)
  have hn := len3_lt hb
  generalize len3 l = n at *
  have e1 : IntKind.i64.wrap (n : Int) = (n : Int) := wrapI (by omega) (by omega)
  by_cases h3 : 8192 < n
  · rw [if_pos h3]
    have i3 : (8192 : Int) < (n : Int) := by omega
    simp [c35, i0, p0, h1, i2, p2, g31, e1, i3]
    rfl
  rw [if_neg h3]
  have i3 : ¬ (8192 : Int) < (n : Int) := by omega
  obtain ⟨q, hq⟩ : ∃ q, q = n + 9 := ⟨_, rfl⟩
  have e2 : IntKind.i64.wrap ((n : Int) + 9) = (q : Int) := by rw [wrapI (by omega) (by omega)]; omega
  by_cases h4 : l.length < n + 9
  · rw [if_pos h4]
    have i4 : l.length < q := by omega
    simp [c35, i0, p0, h1, i2, p2, g31, e1, i3, e2, i4]
    rfl
  rw [if_neg h4]
  have i4 : ¬ l.length < q := by omega
  have p4 : q ≤ l.length := by omega
  obtain ⟨p, hp⟩ : ∃ p, p = n + 5 := ⟨_, rfl⟩
  have e3 : IntKind.i64.wrap ((n : Int) + 5) = (p : Int) := by rw [wrapI (by omega) (by omega)]; omega
  have e4 : q - p = 4 := by omega
  have p5 : p ≤ q := by omega
  have p6 : p ≤ l.length := by omega
  have p7 : 5 ≤ p := by omega
  have e5 : p - 5 = n := by omega
  have k31 := h44 false ((l.drop p).take 4) ((hb.drop p).take 4) (by rw [List.length_take]; omega)
  have k12 := h41 false (l.take p) (hb.take p) (by rw [List.length_take]; omega)
  have e6 : IntKind.u64.wrap ((adler (l.take p) : Nat) : Int) = ((adler (l.take p) : Nat) : Int) := wrap_nat .u64 (by have := adler_lt (l.take p); show _ < 2 ^ 64; omega)
  have p8 : n + 5 = p := hp.symm
  rw [p8]
  by_cases h5 : valF ((l.drop p).take 4) = adler (l.take p)
  rotate_left
  · rw [if_pos h5]
    have i5 : ¬ ((valF ((l.drop p).take 4) : Nat) : Int) = ((adler (l.take p) : Nat) : Int) := by omega
    simp [c35, i0, p0, h1, i2, p2, g31, e1, i3, e2, i4, e3, e4, p5, p4, p6, k31, k12, e6, i5]
    rfl
  rw [if_neg (by simpa using h5)]
  unfold okO
  simp [c35, i0, p0, h1, i2, p2, g31, e1, i3, e2, i4, e3, e4, p5, p4, p6, k31, k12, e6, h5, p7, e5]
  refine ⟨by omega, by unfold most; omega, by unfold most; omega, ?_⟩
  rw [List.take_of_length_le (by simp), hq]



theorem len3_eq {l : List Nat} (h : 5 ≤ l.length) : len3 l = nth l 0 2 * 65536 + nth l 0 3 * 256 + nth l 0 4 := by
  match l, h with
  | a :: b :: c :: d :: e :: m, _ => simp [len3, valF, vaS, nth]; omega

theorem or3 {a b c : Nat} (ha : a < 256) (hb : b < 256) (hc : c < 256) : ∃ o : Nat, o < 2 ^ 63 ∧ intBin .or .i64 ((shn a 16 : Nat) : Int) ((shn b 8 : Nat) : Int) = some (.int .i64 (o : Int)) ∧
    intBin .or .i64 (o : Int) (c : Int) = some (.int .i64 ((a * 65536 + b * 256 + c : Nat) : Int)) := by
  have h1 : shn b 8 = b * 256 := by rw [shn, Nat.shiftLeft_eq]
  have h2 : shn a 16 = a * 65536 := by rw [shn, Nat.shiftLeft_eq]
  have h3 : shn a 16 ||| shn b 8 = a * 65536 + b * 256 := by rw [shn_or a 16 (shn b 8) (by omega), h1]
  have h4 : (a * 65536 + b * 256) ||| c = a * 65536 + b * 256 + c := by
    have := shn_or (a * 256 + b) 8 c (by omega)
    rw [shn, Nat.shiftLeft_eq] at this
    rw [show a * 65536 + b * 256 = (a * 256 + b) * 2 ^ 8 by omega, this]
  refine ⟨a * 65536 + b * 256, by omega, ?_, ?_⟩
  · rw [← h3]
    exact bits_or (k := .i64) (show shn a 16 < 2 ^ 63 by omega) (show shn b 8 < 2 ^ 63 by omega)
  · rw [← h4]
    exact bits_or (k := .i64) (show a * 65536 + b * 256 < 2 ^ 63 by omega) (show c < 2 ^ 63 by omega)

/-- Open. -/
theorem f34 (call : Oracle) (fuel : Nat) (b : Bool) (l : List Nat) (hb : By l) (hl : l.length ≤ 20000) (hbl : b = true → l = [])
    (h39 : ∀ b l, By l → l.length ≤ 20000 → call 39 [gsl (eI .u8) b (zl l)] = some (.v (.int .u32 ((adler l : Nat) : Int))))
    (h43 : ∀ b l, By l → l.length ≤ 8 → call 43 [gsl (eI .u8) b (zl l)] = some (.v (.int .u64 ((valF l : Nat) : Int))))
    (h32 : ∀ l, l.length ≤ 20000 → call 32 [gsl (eI .u8) false (zl l)] = some (gsl (eI .u8) false (zl l))) :
    callF call fuel c34 [gsl (eI .u8) b (zl l)] = some (opnD l) := by
  rw [callF_tab call fuel c34 47 _ (by exact Nat.le_of_ble_eq_true rfl) (by exact Nat.le_of_ble_eq_true rfl)]
  unfold opnD
  by_cases h0 : l.length = 0
  · rw [if_pos h0]
    simp [c34, h0]
    rfl
  rw [if_neg h0]
  have hbf : b = false := by
    cases b with
    | false => rfl
    | true => rw [hbl rfl] at h0; exact absurd rfl h0
  subst hbf
  have i0 : ¬ l = [] := by rintro rfl; exact h0 rfl
  have p0 : 0 < l.length := by omega
  by_cases h1 : nth l 0 0 = 209
  rotate_left
  · rw [if_pos h1]
    have i1 : ¬ ((nth l 0 0 : Nat) : Int) = 209 := by omega
    simp [c34, i0, p0, i1]
    rfl
  rw [if_neg (by simpa using h1)]
  by_cases h2 : l.length < 5
  · rw [if_pos h2]
    have i2 : (l.length : Int) < 5 := by omega
    simp [c34, i0, p0, h1, i2]
    rfl
  rw [if_neg h2]
  have i2 : ¬ (l.length : Int) < 5 := by omega
  have p2 : 2 < l.length := by omega
  have p3 : 3 < l.length := by omega
  have p4' : 4 < l.length := by omega
  have hn := len3_lt hb
  have hn3 := len3_eq (l := l) (by omega)
  have c2 := hb.nth 2
  have c3 := hb.nth 3
  have c4 := hb.nth 4
  obtain ⟨o, ho, g1, g2⟩ := or3 c2 c3 c4
  rw [← hn3] at g2
  have w2 : IntKind.i64.wrap ((nth l 0 2 : Nat) : Int) = ((nth l 0 2 : Nat) : Int) := wrapI (by omega) (by omega)
  have w3 : IntKind.i64.wrap ((nth l 0 3 : Nat) : Int) = ((nth l 0 3 : Nat) : Int) := wrapI (by omega) (by omega)
  have w4 : IntKind.i64.wrap ((nth l 0 4 : Nat) : Int) = ((nth l 0 4 : Nat) : Int) := wrapI (by omega) (by omega)
  have s2 : shiftBin .shl .i64 ((nth l 0 2 : Nat) : Int) 16 = some (.int .i64 ((shn (nth l 0 2) 16 : Nat) : Int)) := bits_shl .i64 (t := 16) (by decide) (by show _ < 2 ^ 63; omega)
  have s3 : shiftBin .shl .i64 ((nth l 0 3 : Nat) : Int) 8 = some (.int .i64 ((shn (nth l 0 3) 8 : Nat) : Int)) := bits_shl .i64 (t := 8) (by decide) (by show _ < 2 ^ 63; omega)
  generalize len3 l = n at *
  by_cases h3 : 8192 < n
  · rw [if_pos h3]
    have i3 : (8192 : Int) < (n : Int) := by omega
    simp [c34, i0, p0, h1, i2, p2, p3, p4', w2, w3, w4, s2, s3, g1, g2, i3]
    rfl
  rw [if_neg h3]
  have i3 : ¬ (8192 : Int) < (n : Int) := by omega
  obtain ⟨q, hq⟩ : ∃ q, q = n + 9 := ⟨_, rfl⟩
  obtain ⟨p, hp⟩ : ∃ p, p = n + 5 := ⟨_, rfl⟩
  have e3 : IntKind.i64.wrap (5 + (n : Int)) = (p : Int) := by rw [wrapI (by omega) (by omega)]; omega
  have e2 : IntKind.i64.wrap ((p : Int) + 4) = (q : Int) := by rw [wrapI (by omega) (by omega)]; omega
  by_cases h4 : l.length < n + 9
  · rw [if_pos h4]
    have i4 : l.length < q := by omega
    simp [c34, i0, p0, h1, i2, p2, p3, p4', w2, w3, w4, s2, s3, g1, g2, i3, e3, e2, i4]
    rfl
  rw [if_neg h4]
  have i4 : ¬ l.length < q := by omega
  have p4 : q ≤ l.length := by omega
  have e4 : q - p = 4 := by omega
  have p5 : p ≤ q := by omega
  have p6 : p ≤ l.length := by omega
  have p7 : 5 ≤ p := by omega
  have p9 : 1 < l.length := by omega
  have e5 : p - 5 = n := by omega
  have k29 := h43 false ((l.drop p).take 4) ((hb.drop p).take 4) (by rw [List.length_take]; omega)
  have k11 := h39 false (l.take p) (hb.take p) (by rw [List.length_take]; omega)
  have k30 := h32 ((l.drop 5).take n) (by rw [List.length_take, List.length_drop]; omega)
  have k30' := h32 (l.drop q) (by rw [List.length_drop]; omega)
  have e6 : IntKind.u64.wrap ((adler (l.take p) : Nat) : Int) = ((adler (l.take p) : Nat) : Int) := wrap_nat .u64 (by have := adler_lt (l.take p); show _ < 2 ^ 64; omega)
  have e7 : List.take (l.length - q) (l.drop q) = l.drop q := List.take_of_length_le (by simp)
  have p8 : n + 5 = p := hp.symm
  rw [p8]
  by_cases h5 : valF ((l.drop p).take 4) = adler (l.take p)
  rotate_left
  · rw [if_pos h5]
    have i5 : ¬ ((valF ((l.drop p).take 4) : Nat) : Int) = ((adler (l.take p) : Nat) : Int) := by omega
    simp [c34, i0, p0, h1, i2, p2, p3, p4', w2, w3, w4, s2, s3, g1, g2, i3, e2, i4, e3, e4, p5, p4, p6, k29, k11, e6, i5]
    rfl
  rw [if_neg (by simpa using h5)]
  unfold okO
  rw [← hq]
  simp [c34, i0, p0, h1, i2, p2, p3, p4', w2, w3, w4, s2, s3, g1, g2, i3, e2, i4, e3, e4, p5, p4, p6, k29, k11, e6, h5, p7, e5, k30, k30', e7, p9]


end Go.Mx
