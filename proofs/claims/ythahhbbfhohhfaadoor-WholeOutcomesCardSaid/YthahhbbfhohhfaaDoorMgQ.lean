import Derived.Test.YthahhbbfhohhfaaDoorMgM
import Derived.Test.YthahhbbfhohhfaaDoorMgP
import Derived.Lib.Strings
import Derived.Test.YthahhbbfhohhfaaDoorMgA
import Derived.KernelRfl
import Derived.Test.YthahhbbfhohhfaaDoorTgA0
import Derived.Test.YthahhbbfhohhfaaDoorTgA1
import Derived.Test.YthahhbbfhohhfaaDoorTgA2
import Derived.Test.YthahhbbfhohhfaaDoorTgB0
import Derived.Test.YthahhbbfhohhfaaDoorTgB1
import Derived.Test.YthahhbbfhohhfaaDoorTgB2
import Derived.Test.YthahhbbfhohhfaaDoorTgB3
import Derived.Test.YthahhbbfhohhfaaDoorTgB4
/-
  Fractions: Sub, Text.
-/
namespace Go.Mx
set_option linter.unusedVariables false
set_option linter.unusedSimpArgs false
set_option linter.unusedSectionVars false
open Go

@[simp] theorem bnd_sadd (st : St) (a b : ByteArray) : bnd .num st .add (.sc (.string a)) (.sc (.string b)) = if a.size + b.size ≤ 65536 then some (.sc (.string (a ++ b))) else none := by
  unfold bnd
  simp only [bin, strBin]
  by_cases h : a.size + b.size ≤ 65536
  · simp only [if_pos h]
  · simp only [if_neg h]
theorem neg_mk (b : Rat) : mkRat (sg (!decide (b.num < 0)) b.num.natAbs) b.den = -b := by
  have e : sg (!decide (b.num < 0)) b.num.natAbs = -(sg (decide (b.num < 0)) b.num.natAbs) := by
    cases decide (b.num < 0) <;> simp [sg]
  rw [e, sg_self, ← Rat.neg_mkRat, Rat.mkRat_self]
theorem SZ.neg {k : Nat} {q : Rat} (h : SZ k q) : SZ k (-q) := by
  constructor
  · rw [Rat.neg_num, Int.natAbs_neg]; exact h.1
  · rw [Rat.neg_den]; exact h.2
def Add22 (call : Oracle) : Prop := ∀ a b : Rat, SZ 20000 a → SZ 20000 b → call 22 [frD a, frD b] = some (frD (a + b))
theorem f26 (call : Oracle) (fuel : Nat) (h58 : Neg58 call) (h22 : Add22 call) (a b : Rat) (ha : SZ 20000 a) (hb : SZ 20000 b) :
    callB call fuel c26 [frD a, frD b] = some (frD (a - b)) := by
  have e1 := h58 (decide (b.num < 0)) b.num.natAbs b.den (by have := hb.1; omega) (by have := hb.2; omega)
  rw [neg_mk] at e1
  have e2 := h22 a (-b) ha hb.neg
  rw [← Rat.sub_eq_add_neg] at e2
  generalize a - b = q at *
  generalize -b = nb at *
  unfold frD fr at *
  rw [callB_tab call fuel c26 K26 _ rfl (by exact Nat.le_of_ble_eq_true rfl) (by exact Nat.le_of_ble_eq_true rfl)]
  clear ha hb h58 h22
  generalize (a.num.natAbs == 0) = z3 at *
  generalize (a.den == 0) = z4 at *
  generalize (b.num.natAbs == 0) = z5 at *
  generalize (b.den == 0) = z6 at *
  generalize (nb.num.natAbs == 0) = y5 at *
  generalize (nb.den == 0) = y6 at *
  generalize (q.num.natAbs == 0) = z1 at *
  generalize (q.den == 0) = z2 at *
  generalize decide (a.num < 0) = z7 at *
  generalize decide (b.num < 0) = z8 at *
  generalize decide (nb.num < 0) = y8 at *
  generalize decide (q.num < 0) = z9 at *
  generalize dg a.num.natAbs = l3 at *
  generalize dg a.den = l4 at *
  generalize dg b.num.natAbs = l5 at *
  generalize dg b.den = l6 at *
  generalize dg nb.num.natAbs = m5 at *
  generalize dg nb.den = m6 at *
  generalize dg q.num.natAbs = l1 at *
  generalize dg q.den = l2 at *
  simp (config := {maxSteps := 2000000}) [c26, K26, e1, e2]
/-- The text of a small positive fraction. -/
def bsL (l : List UInt8) : ByteArray := ⟨l.toArray⟩
def txQ (n d : Nat) : ByteArray := if d = 1 then bsL (txD n) else bsL (txD n) ++ (bsL [47] ++ bsL (txD d))
theorem bsL_size (l : List UInt8) : (bsL l).size = l.length := by
  show l.toArray.size = l.length
  simp
theorem bsL_list (l : List UInt8) : (bsL l).toList = l := by
  rw [Lib.toList_data]
  simp [bsL]
set_option maxHeartbeats 1000000 in
theorem f28 (call : Oracle) (fuel : Nat) (h52 : Nrm52 call) (h59 : Txt59 call) (q : Rat) (n d : Nat) (hn : q.num = n) (hd : q.den = d) (h1 : 1 ≤ n) (h2 : n < 100) (h3 : d < 100) :
    callF call fuel c28 [frD q] = some (.v (.string (txQ n d))) := by
  have hd0 : 1 ≤ d := by rw [← hd]; exact q.den_pos
  have e1 := h52 (decide (q.num < 0)) q.num.natAbs q.den (by rw [hn, Int.natAbs_natCast, dg_one' h1 h2]; simp) (by rw [hd, dg_one' hd0 h3]; simp)
  rw [mkRat_sg] at e1
  have e2 := h59 n h1 h2
  have e3 := h59 d hd0 h3
  unfold frD fr nz at *
  rw [hn, hd] at e1 ⊢
  rw [Int.natAbs_natCast] at e1 ⊢
  have z1 : (n == 0) = false := by simp; omega
  have z2 : (d == 0) = false := by simp; omega
  have z3 : decide ((n : Int) < 0) = false := by simp
  rw [z1] at e1 e2 ⊢
  rw [z2] at e1 e3 ⊢
  rw [z3] at e1 ⊢
  rw [callF_tab call fuel c28 K28 _ (by exact Nat.le_of_ble_eq_true rfl) (by exact Nat.le_of_ble_eq_true rfl)]
  change call 59 [.nd .ag [ul false (dg n)]] = some (.v (.string (bsL (txD n)))) at e2
  change call 59 [.nd .ag [ul false (dg d)]] = some (.v (.string (bsL (txD d)))) at e3
  have hl1 := (txD_len n).1
  have hl2 := (txD_len d).1
  have hs1 : (bsL (txD n)).size = (txD n).length := bsL_size _
  have hs2 : (bsL (txD d)).size = (txD d).length := bsL_size _
  have hs3 : (⟨#[47]⟩ : ByteArray).size = 1 := rfl
  have hs4 : ((⟨#[47]⟩ : ByteArray) ++ bsL (txD d)).size ≤ 3 := by rw [ByteArray.size_append, hs2, hs3]; omega
  have hq : (⟨#[47]⟩ : ByteArray) = bsL [47] := rfl
  have ho : ((bsL (txD d)).toList == (⟨#[49]⟩ : ByteArray).toList) = decide (d = 1) := by
    have : (⟨#[49]⟩ : ByteArray) = bsL [49] := rfl
    rw [this, bsL_list, bsL_list]
    by_cases h : d = 1
    · subst h; rfl
    · rw [decide_eq_false h]
      unfold txD
      split
      · rename_i h10
        have : ∀ k : Nat, k < 10 → k ≠ 1 → ([UInt8.ofNat (48 + k)] == ([49] : List UInt8)) = false := by decide
        exact this d h10 h
      · rename_i h10; simp
  generalize hA : bsL (txD n) = A at *
  generalize hB : bsL (txD d) = B at *
  unfold txQ
  rw [hA, hB]
  clear hA hB h52 h59 hn
  generalize dg n = ln at *
  generalize dg d = ld at *
  by_cases h : d = 1
  · rw [if_pos h]
    rw [decide_eq_true h] at ho
    have ho' : B.toList = [49] := by
      have h' := eq_of_beq ho
      have e : (⟨#[49]⟩ : ByteArray).toList = [49] := bsL_list [49]
      rw [h', e]
    clear hd
    simp (config := {maxSteps := 2000000}) [c28, K28, e1, e2, e3, ho']
  · rw [if_neg h]
    rw [decide_eq_false h] at ho
    have ho' : ¬ B.toList = [49] := by
      intro hc
      have e : (⟨#[49]⟩ : ByteArray).toList = [49] := bsL_list [49]
      rw [hc, e] at ho
      simp at ho
    have hc1 : 1 + B.size ≤ 65536 := by omega
    have hc2 : A.size + ((⟨#[47]⟩ : ByteArray) ++ B).size ≤ 65536 := by omega
    rw [← hq]
    have hc3 : A.size + (1 + B.size) ≤ 65536 := by omega
    clear hd
    simp (config := {maxSteps := 2000000}) [c28, K28, e1, e2, e3, ho']
    rw [hs3]
    exact ⟨hc1, hc3⟩
end Go.Mx
namespace Go.Mx
set_option linter.unusedVariables false
set_option linter.unusedSimpArgs false
set_option linter.unusedSectionVars false
open Go

@[simp] theorem aggV_3 (r : Nat) (p : List Nat) (x y z : Value) : aggV r p [.v x, .v y, .v z] 0 3 = some (.ro (.nd .ag [.v x, .v y, .v z])) := by
  rw [aggV_eq]; rfl
/-- Blocks of the fit. -/
def eD : En (Int × Int × Int) where
  es := 3
  enc p := [.v (.int .i64 p.1), .v (.int .i64 p.2.1), .v (.int .i64 p.2.2)]
  d := (0, 0, 0)
  pos := by decide
  len _ := rfl
  flat _ := rfl
abbrev sd (b : Bool) (l : List (Int × Int × Int)) : D := gsl eD b l
abbrev z3 : Int × Int × Int := (0, 0, 0)
abbrev bD (c : Int × Int × Int) : D := .nd .ag [.v (.int .i64 c.1), .v (.int .i64 c.2.1), .v (.int .i64 c.2.2)]
section
variable (l : List (Int × Int × Int)) (i : Nat)
@[simp] theorem D_elP (r : Nat) (p : List Nat) (b : Bool) : elP r p 3 i (gsl eD b l) = if i < l.length then some (.ad r p (i * 3)) else none := elP_ge eD r p i b l
@[simp] theorem D_elR (b : Bool) : elR 3 i (gsl eD b l) = if i < l.length then some (.rad (gk eD l) (i * 3)) else none := elR_ge eD i b l
@[simp high] theorem D_cell0 : (gk eD l)[i * 3]? = if i < l.length then some (.v (.int .i64 (nth l z3 i).1)) else none := gk_cell eD l i 0 (by decide)
@[simp high] theorem D_cell1 : (gk eD l)[i * 3 + 1]? = if i < l.length then some (.v (.int .i64 (nth l z3 i).2.1)) else none := gk_cell eD l i 1 (by decide)
@[simp high] theorem D_cell2 : (gk eD l)[i * 3 + 2]? = if i < l.length then some (.v (.int .i64 (nth l z3 i).2.2)) else none := gk_cell eD l i 2 (by decide)
@[simp] theorem D_aggR : aggR (gk eD l) (i * 3) 3 = if i < l.length then some (.ro (bD (nth l z3 i))) else none := aggR_ge eD i l
@[simp] theorem D_aggV (r : Nat) (p : List Nat) : aggV r p (gk eD l) (i * 3) 3 = if i < l.length then some (.ro (bD (nth l z3 i))) else none := agg_ge eD r p i l rfl
@[simp] theorem D_slR (lo hi : Option Nat) (b : Bool) : slR 3 lo hi (gsl eD b l) = if lo.getD 0 ≤ hi.getD l.length ∧ hi.getD l.length ≤ l.length then some (.ro (gsl eD b ((l.drop (lo.getD 0)).take (hi.getD l.length - lo.getD 0)))) else none := slR_ge eD lo hi b l
@[simp] theorem D_slP (r : Nat) (p : List Nat) (lo hi : Option Nat) (b : Bool) : slP r p 3 lo hi (gsl eD b l) = if lo.getD 0 ≤ hi.getD l.length ∧ hi.getD l.length ≤ l.length then some (if b then .ro (.nd (.sl true 3 0) []) else .sub r p (lo.getD 0 * 3) 3 (hi.getD l.length - lo.getD 0)) else none := slP_ge eD r p lo hi b l
@[simp] theorem D_subD (n : Nat) : subD (i * 3) 3 n (gsl eD false l) = if i + n ≤ l.length then some (gsl eD false ((l.drop i).take n)) else none := subD_ge eD i n l
@[simp] theorem D_subD0 (n : Nat) : subD 0 3 n (gsl eD false l) = if n ≤ l.length then some (gsl eD false (l.take n)) else none := by
  have := subD_ge eD 0 n l
  simp only [Nat.zero_mul, Nat.zero_add, List.drop_zero] at this
  exact this
@[simp] theorem D_apD1 (b : Bool) (x y z : Int) : apD 3 1 [.v (.int .i64 x), .v (.int .i64 y), .v (.int .i64 z)] (gsl eD b l) = if l.length + 1 ≤ most then some (gsl eD false (l ++ [(x, y, z)])) else none := by
  show apD eD.es [(x, y, z)].length (gk eD [(x, y, z)]) (gsl eD b l) = _
  rw [apD_ge]; simp
end
theorem sc_D (l : List (Int × Int × Int)) : (gk eD l).all isSc = true := by
  induction l with
  | nil => rfl
  | cons a l ih => exact ih
@[simp] theorem D_apS (st : St) (v : V) (b : Bool) (l : List (Int × Int × Int)) : apS st 3 v (gsl eD b l) = some (l.length, gk eD l, st) := apS_ge eD st v b l (sc_D l)
@[simp] theorem D_fold (b : Bool) (l : List (Int × Int × Int)) : T.nd (K.sl b 3 l.length) (gk eD l) = gsl eD b l := rfl
/-- Fractions: their parts by name, so that simp leaves them alone. -/
def qs (q : Rat) : Bool := decide (q.num < 0)
def qz (q : Rat) : Bool := q.num.natAbs == 0
def ql (q : Rat) : List Int := zl (dg q.num.natAbs)
def qm (q : Rat) : List Int := zl (dg q.den)
abbrev frX (q : Rat) : D := .nd .ag [.v (.bool (qs q)), gsl (eI .u32) (qz q) (ql q), gsl (eI .u32) false (qm q)]
theorem frD_X (q : Rat) : frD q = frX q := by
  have h := den_z q
  show fr (decide (q.num < 0)) q.num.natAbs q.den = _
  unfold fr
  rw [h]
  rfl
abbrev frK (q : Rat) : List D := [.v (.bool (qs q)), gsl (eI .u32) (qz q) (ql q), gsl (eI .u32) false (qm q)]
/-- A fraction in a variable. -/
abbrev bxQ (q : Rat) : V := .own (.nd (.bx false) (frK q))
def eF : En Rat where
  es := 3
  enc q := frK q
  d := 0
  pos := by decide
  len _ := rfl
  flat _ := rfl
  im _ := by simp
abbrev sf (b : Bool) (l : List Rat) : D := gsl eF b l
section
variable (l : List Rat) (i : Nat)
@[simp] theorem F_elP (r : Nat) (p : List Nat) (b : Bool) : elP r p 3 i (gsl eF b l) = if i < l.length then some (.ad r p (i * 3)) else none := elP_ge eF r p i b l
@[simp] theorem F_elR (b : Bool) : elR 3 i (gsl eF b l) = if i < l.length then some (.rad (gk eF l) (i * 3)) else none := elR_ge eF i b l
@[simp] theorem F_aggR : aggR (gk eF l) (i * 3) 3 = if i < l.length then some (.ro (frX (nth l 0 i))) else none := aggR_ge eF i l
@[simp high] theorem F_cell0 : (gk eF l)[i * 3]? = if i < l.length then some (.v (.bool (qs (nth l 0 i)))) else none := gk_cell eF l i 0 (by decide)
@[simp high] theorem F_cell1 : (gk eF l)[i * 3 + 1]? = if i < l.length then some (gsl (eI .u32) (qz (nth l 0 i)) (ql (nth l 0 i))) else none := gk_cell eF l i 1 (by decide)
@[simp high] theorem F_cell2 : (gk eF l)[i * 3 + 2]? = if i < l.length then some (gsl (eI .u32) false (qm (nth l 0 i))) else none := gk_cell eF l i 2 (by decide)
theorem F_aggV0 (r : Nat) (p : List Nat) (h : i < l.length) : aggV r p (gk eF l) (i * 3) 3 = some (.vn .ag [.sc (.bool (qs (nth l 0 i))), .ref r (p ++ [i * 3 + 1]), .ref r (p ++ [i * 3 + 2])]) := by
  have hlen : i * 3 + 3 ≤ (gk eF l).length := by rw [gk_len]; show _ ≤ _ * 3; omega
  have e0 := F_cell0 l i
  have e1 := F_cell1 l i
  have e2 := F_cell2 l i
  rw [if_pos h] at e0 e1 e2
  unfold aggV
  rw [if_pos hlen]
  have hp : ((gk eF l).drop (i * 3)).take 3 = frK (nth l 0 i) := gk_part eF l i h
  simp only [hp]
  have hs : (frK (nth l 0 i)).all isSc = false := rfl
  rw [hs]
  simp only [Bool.false_eq_true, if_false]
  have hr : List.range 3 = [0, 1, 2] := rfl
  rw [hr]
  simp only [List.map_cons, List.map_nil, cellV, Nat.add_zero, e0, e1, e2]
  rfl
@[simp] theorem F_aggV (r : Nat) (p : List Nat) : aggV r p (gk eF l) (i * 3) 3 = if i < l.length then some (.vn .ag [.sc (.bool (qs (nth l 0 i))), .ref r (p ++ [i * 3 + 1]), .ref r (p ++ [i * 3 + 2])]) else none := by
  by_cases h : i < l.length
  · rw [if_pos h]; exact F_aggV0 l i r p h
  · rw [if_neg h]
    unfold aggV
    rw [if_neg]
    rw [gk_len]; show ¬ _ ≤ _ * 3; omega
@[simp] theorem F_apD1 (b : Bool) (q : Rat) : apD 3 1 [.v (.bool (qs q)), gsl (eI .u32) (qz q) (ql q), gsl (eI .u32) false (qm q)] (gsl eF b l) = if l.length + 1 ≤ most then some (gsl eF false (l ++ [q])) else none := by
  have h : apD eF.es [q].length (gk eF [q]) (gsl eF b l) = _ := apD_ge eF b l [q]
  have e : gk eF [q] = frK q := by simp [gk, eF]
  rw [e] at h
  have h' : apD eF.es 1 (frK q) (gsl eF b l) = if l.length + 1 ≤ most then some (gsl eF false (l ++ [q])) else none := by simpa only [List.length_singleton, Nat.reduceBEq, Bool.and_false] using h
  exact h'
@[simp] theorem F_fold (b : Bool) : T.nd (K.sl b 3 l.length) (gk eF l) = gsl eF b l := rfl
end

/-! ### weights -/
end Go.Mx
namespace Go.Mx
set_option linter.unusedVariables false
set_option linter.unusedSimpArgs false
set_option linter.unusedSectionVars false
open Go

def Of7 (call : Oracle) : Prop := ∀ (n : Int) (d : Nat), -9223372036854775808 ≤ n → n < 9223372036854775808 → 0 < d → d < 9223372036854775808 → call 7 [.v (.int .i64 n), .v (.int .i64 d)] = some (frX (mkRat n d))
theorem of_eq (n : Int) (d : Nat) : mdF (!(decide (n < 0) == decide ((d : Int) < 0))) n.natAbs (d : Int).natAbs = frD (mkRat n d) := by
  have h1 : decide ((d : Int) < 0) = false := by simp
  rw [h1, mdF_eq, Int.natAbs_natCast]
  have : sg (!(decide (n < 0) == false)) n.natAbs = n := by
    have e : (!(decide (n < 0) == false)) = decide (n < 0) := by cases decide (n < 0) <;> rfl
    rw [e]
    unfold sg
    split
    · rename_i h; have := of_decide_eq_true h; omega
    · rename_i h; have : ¬ n < 0 := fun h' => h (decide_eq_true h'); omega
  rw [this]
theorem take_snocI {α : Type} (d : α) (l : List α) {k : Nat} (h : k < l.length) : l.take (k + 1) = l.take k ++ [nth l d k] := take_succ_nth d h
/-! ### isotonic.check -/
end Go.Mx
namespace Go.Mx
set_option linter.unusedVariables false
set_option linter.unusedSimpArgs false
set_option linter.unusedSectionVars false
open Go

def Cmp11 (call : Oracle) : Prop := ∀ a b : Rat, SZ 20000 a → SZ 20000 b → call 11 [frX a, frX b] = some (.v (.int .i64 (cmpR a b)))
def Sub26 (call : Oracle) : Prop := ∀ a b : Rat, SZ 20000 a → SZ 20000 b → call 26 [frX a, frX b] = some (frX (a - b))
def AddX (call : Oracle) : Prop := ∀ a b : Rat, SZ 20000 a → SZ 20000 b → call 22 [frX a, frX b] = some (frX (a + b))
def MulX (call : Oracle) : Prop := ∀ a b : Rat, SZ 20000 a → SZ 20000 b → call 27 [frX a, frX b] = some (frX (a * b))
theorem SZ.mul {k m : Nat} {a b : Rat} (ha : SZ k a) (hb : SZ m b) (h : 0 < k + m) : SZ (k + m) (a * b) := by
  rw [Rat.mul_def]
  refine SZ.mono (k := k + m) ?_ (Nat.le_refl _)
  rw [Rat.normalize_eq_mkRat]
  refine SZ.mk h ?_ (dg_mul_len ha.2 hb.2)
  rw [Int.natAbs_mul]
  exact dg_mul_len ha.1 hb.1
theorem SZ.add {k m : Nat} {a b : Rat} (ha : SZ k a) (hb : SZ m b) : SZ (k + m + 1) (a + b) := by
  rw [Rat.add_def, Rat.normalize_eq_mkRat]
  refine SZ.mk (by omega) ?_ (Nat.le_trans (dg_mul_len ha.2 hb.2) (by omega))
  refine Nat.le_trans (dg_len_mono (Int.natAbs_add_le _ _)) ?_
  rw [Int.natAbs_mul, Int.natAbs_mul, Int.natAbs_natCast, Int.natAbs_natCast]
  exact dg_add_len (dg_mul_len ha.1 hb.2) (by rw [Nat.add_comm k m]; exact dg_mul_len hb.1 ha.2)
theorem SZ.sub {k m : Nat} {a b : Rat} (ha : SZ k a) (hb : SZ m b) : SZ (k + m + 1) (a - b) := by
  rw [Rat.sub_eq_add_neg]; exact ha.add hb.neg
theorem SZ.int {n : Int} (h1 : -1000000000 < n) (h2 : n < 1000000000) : SZ 1 (mkRat n 1) := by
  refine SZ.mk (by omega) (dg_len_le.2 ?_) (by decide)
  unfold BB; omega
theorem SZ.zero : SZ 1 (0 : Rat) := ⟨by decide, by decide⟩
theorem SZ.rat {n : Int} {d : Nat} (h1 : -1000000000000000000 < n) (h2 : n < 1000000000000000000) (h3 : d < 1000000000000000000) : SZ 2 (mkRat n d) :=
  SZ.mk (by omega) (dg_len_le.2 (by unfold BB; omega)) (dg_len_le.2 (by unfold BB; omega))
theorem mk1 (n : Int) : mkRat n 1 = (n : Rat) := by rw [Rat.mkRat_one]
/-! ### Falling -/
/-! ### Cost -/
end Go.Mx
namespace Go.Mx
set_option linter.unusedVariables false
set_option linter.unusedSimpArgs false
set_option linter.unusedSectionVars false
open Go

/-! ### blocks -/
abbrev T3 := Int × Int × Int
def mrg (a b : T3) : T3 := (a.1 + b.1, a.2.1 + b.2.1, a.2.2 + b.2.2)
structure Ok3 (e : T3) : Prop where
  s1 : 1 ≤ e.1
  w1 : e.1 ≤ e.2.2
  w2 : e.2.2 ≤ 1000 * e.1
  v1 : -1000000000 * e.1 ≤ e.2.1
  v2 : e.2.1 ≤ 1000000000 * e.1
theorem Ok3.mrg {a b : T3} (ha : Ok3 a) (hb : Ok3 b) : Ok3 (mrg a b) := by
  obtain ⟨a1, a2, a3, a4, a5⟩ := ha
  obtain ⟨b1, b2, b3, b4, b5⟩ := hb
  constructor <;> simp only [Mx.mrg] <;> omega
def tot3 : List T3 → Int
  | [] => 0
  | e :: l => e.1 + tot3 l
structure In3 (q : List T3 × T3) : Prop where
  ok : ∀ e ∈ q.2 :: q.1, Ok3 e
  tot : tot3 (q.2 :: q.1) ≤ 24
theorem In3.step {a b : T3} {r : List T3} (h : In3 (a :: r, b)) : In3 (r, mrg a b) := by
  obtain ⟨h1, h2⟩ := h
  refine ⟨fun e he => ?_, ?_⟩
  · rcases List.mem_cons.1 he with rfl | he
    · exact (h1 a (by simp)).mrg (h1 b (by simp))
    · exact h1 e (by simp [he])
  · simp only [tot3, Mx.mrg] at h2 ⊢
    omega
section
variable (l : List T3) (a b : T3)
end
def nlB (i : Nat) : Bool := decide (i = 0)
end Go.Mx
namespace Go.Mx
set_option linter.unusedVariables false
set_option linter.unusedSimpArgs false
set_option linter.unusedSectionVars false
open Go

/-! ### Fit -/
def neB (l : List Rat) : Bool := decide (l.length = 0)
theorem neB_snoc (l : List Rat) (q : Rat) : neB (l ++ [q]) = false := by simp [neB]
/-! ### Blocks -/
end Go.Mx
namespace Go.Mx
set_option linter.unusedVariables false
set_option linter.unusedSimpArgs false
set_option linter.unusedSectionVars false
open Go

abbrev u8l (b : Bool) (l : List Int) : D := gsl (eI .u8) b l
def wgt (x : Int) : Int := 1 + x.tmod 9
def vls (v : List Int) : List Int := v.map fun x => 1 + x
def wts (w : List Int) : List Int := w.map wgt
def fllB (v : List Int) (i : Nat) : Bool := (List.range i).all fun j => j == 0 || decide (nth v 0 j ≤ nth v 0 (j - 1))
theorem vls_succ (v : List Int) {i : Nat} (h : i < v.length) : vls (v.take (i + 1)) = vls (v.take i) ++ [1 + nth v 0 i] := by
  rw [take_snocI 0 v h]; simp [vls]
theorem wts_succ (v : List Int) {i : Nat} (h : i < v.length) : wts (v.take (i + 1)) = wts (v.take i) ++ [wgt (nth v 0 i)] := by
  rw [take_snocI 0 v h]; simp [wts]
theorem fll_succ (v : List Int) (i : Nat) : fllB v (i + 1) = (fllB v i && (i == 0 || decide (nth v 0 i ≤ nth v 0 (i - 1)))) := by
  simp [fllB, List.range_succ]
theorem loop3_0 (call : Oracle) (fuel : Nat) (b b' bf : Bool) (v w f : List Int) (hlw : w.length = v.length) (hl : v.length ≤ 8) (hv : ∀ x ∈ v, 0 ≤ x ∧ x < 256) (hw : ∀ x ∈ w, 0 ≤ x ∧ x < 256) (fu : Nat) (hfu : 1000 < fu) (st : St)
    (h0 : drops st h3_0 = L3_0 (.ro (u8l b v)) (.ro (u8l b' w)) (.ro (u8l bf f)) (ii v.length) (.own (si true [])) (.own (si true [])) (.own (si true [])) (bb true) (ii 0)) :
    run.loopN (run call fuel b3_0) fu st = some (.ex 0, X3_0 (.ro (u8l bf f)) (ii v.length) (.own (si (nlB v.length) (vls v))) (.own (si (nlB v.length) (wts w))) (.own (si (nlB v.length) (List.replicate v.length 1))) (bb (fllB v v.length))) := by
  have e1 : vls (v.take v.length) = vls v := by rw [List.take_length]
  have e2 : wts (w.take v.length) = wts w := by rw [← hlw, List.take_length]
  refine loop_cnt call fuel h3_0 _ v.length (fun i => L3_0 (.ro (u8l b v)) (.ro (u8l b' w)) (.ro (u8l bf f)) (ii v.length) (.own (si (nlB i) (vls (v.take i)))) (.own (si (nlB i) (wts (w.take i)))) (.own (si (nlB i) (List.replicate i 1))) (bb (fllB v i)) (ii i))
    (.ex 0, X3_0 (.ro (u8l bf f)) (ii v.length) (.own (si (nlB v.length) (vls v))) (.own (si (nlB v.length) (wts w))) (.own (si (nlB v.length) (List.replicate v.length 1))) (bb (fllB v v.length))) (by simp) ?_ (by rw [e1, e2]; simp) fu st (by rw [h0]; rfl) (by omega)
  intro i hi
  have hwr := wrap_succ (i := i) (by omega)
  have hi2 : i < w.length := by omega
  have bv := hv _ (nth_mem 0 hi)
  have bw := hw _ (nth_mem 0 hi2)
  have hnl : nlB (i + 1) = false := by simp [nlB]
  have w1 : IntKind.i64.wrap (nth v 0 i) = nth v 0 i := wrap_eq (by unfold I64; omega)
  have w2 : IntKind.i64.wrap (nth w 0 i) = nth w 0 i := wrap_eq (by unfold I64; omega)
  have w3 : IntKind.i64.wrap (1 + nth v 0 i) = 1 + nth v 0 i := wrap_eq (by unfold I64; omega)
  have hmod : 0 ≤ (nth w 0 i).tmod 9 ∧ (nth w 0 i).tmod 9 < 9 := by
    rw [Int.tmod_eq_emod_of_nonneg bw.1]; omega
  have w4 : IntKind.i64.wrap (1 + (nth w 0 i).tmod 9) = wgt (nth w 0 i) := wrap_eq (by unfold I64; omega)
  have hv' := vls_succ v hi
  have hw' := wts_succ w hi2
  have hf' := fll_succ v i
  have m1 : (vls (v.take i)).length + 1 ≤ most := by unfold vls most; simp; omega
  have m2 : (wts (w.take i)).length + 1 ≤ most := by unfold wts most; simp; omega
  have m3 : (List.replicate i (1 : Int)).length + 1 ≤ most := by unfold most; simp; omega
  have hr : List.replicate (i + 1) (1 : Int) = List.replicate i 1 ++ [1] := List.replicate_succ'
  rw [hv', hw', hf', hr, hnl]
  clear e1 e2 hv' hw' hf' hr hnl hv hw
  generalize vls (v.take i) = V at *
  generalize wts (w.take i) = W at *
  generalize List.replicate i (1 : Int) = O at *
  generalize nlB i = z at *
  generalize fllB v i = fl at *
  generalize wgt (nth w 0 i) = wg at *
  have hi0 : (i : Int) = 0 ↔ i = 0 := by omega
  cases i with
  | zero =>
    have wk : IntKind.i64.wrap 1 = 1 := by decide
    cases fl <;> simp [hi, hi2, wk, w1, w2, w3, w4, m1, m2, m3]
  | succ j =>
    have hj : j < v.length := by omega
    have wj : IntKind.i64.wrap (j : Int) = j := wrapI (by omega)
    have hz : ¬ (j : Int) + 1 = 0 := by omega
    have hji : (j : Int) + 1 < (v.length : Int) := by omega
    have wk : IntKind.i64.wrap ((j : Int) + 1 + 1) = (j : Int) + 1 + 1 := wrap_eq (by unfold I64; omega)
    cases fl
    · simp [hi, hi2, hji, wk, w1, w2, w3, w4, m1, m2, m3, hj, wj, hz]
    · by_cases h : nth v 0 (j + 1) ≤ nth v 0 j <;> simp [hi, hi2, hji, wk, w1, w2, w3, w4, m1, m2, m3, hj, wj, hz, h]
/-! ### the list that is tried -/
def lstM (f : List Int) : Nat → Int
  | 0 => 300
  | i + 1 => min (lstM f i) (nth f 0 i)
def lstF (f : List Int) (i : Nat) : List Rat := (List.range i).map fun j => ((lstM f (j + 1) : Int) : Rat)
theorem lstM_bnd {f : List Int} (hf : ∀ x ∈ f, 0 ≤ x ∧ x < 256) : ∀ i, i ≤ f.length → 0 ≤ lstM f i ∧ lstM f i ≤ 300
  | 0, _ => by simp [lstM]
  | i + 1, h => by
    have h1 := lstM_bnd hf i (by omega)
    have h2 := hf _ (nth_mem 0 (show i < f.length by omega))
    simp only [lstM]; omega
theorem lstF_succ (f : List Int) (i : Nat) : lstF f (i + 1) = lstF f i ++ [((lstM f (i + 1) : Int) : Rat)] := by
  simp [lstF, List.range_succ]
theorem lstF_len (f : List Int) (i : Nat) : (lstF f i).length = i := by simp [lstF]
theorem loop3_1 (call : Oracle) (fuel : Nat) (h7 : Of7 call) (bf : Bool) (f : List Int) (d8 d9 d10 : D) (fl : Bool) (hl : f.length ≤ 8) (hf : ∀ x ∈ f, 0 ≤ x ∧ x < 256) (fu : Nat) (hfu : 1000 < fu) (st : St)
    (h0 : drops st h3_1 = L3_1 (.ro (u8l bf f)) (ii f.length) (.own d8) (.own d9) (.own d10) (bb fl) (.own (sf true [])) (ii 300) (ii 0)) :
    run.loopN (run call fuel b3_1) fu st = some (.ex 2, X3_2 (ii f.length) (.own d8) (.own d9) (.own d10) (bb fl) (.own (sf (neB (lstF f f.length)) (lstF f f.length)))) := by
  refine loop_cnt call fuel h3_1 _ f.length (fun i => L3_1 (.ro (u8l bf f)) (ii f.length) (.own d8) (.own d9) (.own d10) (bb fl) (.own (sf (neB (lstF f i)) (lstF f i))) (ii (lstM f i)) (ii i))
    (.ex 2, X3_2 (ii f.length) (.own d8) (.own d9) (.own d10) (bb fl) (.own (sf (neB (lstF f f.length)) (lstF f f.length)))) (by simp) ?_ (by simp) fu st (by rw [h0]; rfl) (by omega)
  intro i hi
  have hwr := wrap_succ (i := i) (by omega)
  have bv := hf _ (nth_mem 0 hi)
  have w1 : IntKind.i64.wrap (nth f 0 i) = nth f 0 i := wrap_eq (by unfold I64; omega)
  have hb := lstM_bnd hf (i + 1) (by omega)
  have e := h7 (lstM f (i + 1)) 1 (by omega) (by omega) (by omega) (by omega)
  rw [mk1, show ((1 : Nat) : Int) = 1 from rfl] at e
  have hm : (lstF f i).length + 1 ≤ most := by rw [lstF_len]; unfold most; omega
  have hmin : lstM f (i + 1) = min (lstM f i) (nth f 0 i) := rfl
  rw [lstF_succ, neB_snoc]
  clear hf h7 hb bv
  generalize ((lstM f (i + 1) : Int) : Rat) = q at *
  generalize lstF f i = F at *
  generalize neB F = z at *
  rw [hmin] at e ⊢
  generalize lstM f i = m at *
  clear hmin
  simp [hi, hwr, w1, e, hm]
/-! ### the same lists -/
def samB (F L : List Rat) (i : Nat) : Bool := (List.range i).all fun j => decide (nth F 0 j = nth L 0 j)
theorem sam_succ (F L : List Rat) (i : Nat) : samB F L (i + 1) = (samB F L i && decide (nth F 0 i = nth L 0 i)) := by
  simp [samB, List.range_succ]
theorem cmpR_zero (a b : Rat) : cmpR a b = 0 ↔ a = b := by
  unfold cmpR
  constructor
  · intro h
    split at h
    · omega
    · rename_i h1
      split at h
      · omega
      · rename_i h2
        exact Rat.le_antisymm (Rat.not_lt.1 h2) (Rat.not_lt.1 h1)
  · rintro rfl
    simp [Rat.lt_irrefl]
theorem loop3_2 (call : Oracle) (fuel : Nat) (h11 : Cmp11 call) (F L : List Rat) (n : Nat) (hF : F.length = n) (hL : L.length = n) (hn : n ≤ 8) (sF : ∀ q ∈ F, SZ 20000 q) (sL : ∀ q ∈ L, SZ 20000 q) (zF zL fl : Bool) (d8 d10 d18 d20 : D) (fu : Nat) (hfu : 1000 < fu) (st : St)
    (h0 : drops st h3_2 = L3_2 (ii n) (.own d8) (.own d10) (bb fl) (.own (sf zL L)) (.own (sf zF F)) (.own d18) (.own d20) (bb true) (ii 0)) :
    run.loopN (run call fuel b3_2) fu st = some (.ex 4, X3_4 (ii n) (.own d8) (.own d10) (bb fl) (.own d18) (.own d20) (bb (samB F L n))) := by
  refine loop_cnt call fuel h3_2 _ n (fun i => L3_2 (ii n) (.own d8) (.own d10) (bb fl) (.own (sf zL L)) (.own (sf zF F)) (.own d18) (.own d20) (bb (samB F L i)) (ii i))
    (.ex 4, X3_4 (ii n) (.own d8) (.own d10) (bb fl) (.own d18) (.own d20) (bb (samB F L n))) (by simp) ?_ (by simp) fu st (by rw [h0]; rfl) (by omega)
  intro i hi
  have hwr := wrap_succ (i := i) (by omega)
  have i1 : i < F.length := by omega
  have i2 : i < L.length := by omega
  have e := h11 _ _ (sF _ (nth_mem 0 i1)) (sL _ (nth_mem 0 i2))
  have hc := cmpR_zero (nth F 0 i) (nth L 0 i)
  rw [sam_succ]
  generalize samB F L i = z at *
  generalize cmpR (nth F 0 i) (nth L 0 i) = c at *
  clear sF sL h11
  cases z
  · simp [hi, hwr, i1, i2]
  · by_cases h : nth F 0 i = nth L 0 i
    · have h' := hc.2 h
      subst h'
      rw [decide_eq_true h]
      clear h hc
      simp [hi, hwr, i1, i2, e]
    · have h' : ¬ c = 0 := fun x => h (hc.1 x)
      rw [decide_eq_false h]
      clear h hc
      have hcb : (c == 0) = false := by simpa using h'
      simp [hi, hwr, i1, i2, e, h', hcb]
end Go.Mx
namespace Go.Mx
set_option linter.unusedVariables false
set_option linter.unusedSimpArgs false
set_option linter.unusedSectionVars false
open Go

set_option maxHeartbeats 1000000 in
theorem loop3_3 (call : Oracle) (fuel : Nat) (h11 : Cmp11 call) (V B : List Int) (P : List Rat) (n m : Nat) (hV : V.length = n) (hP : P.length = n) (hB : B.length = m) (hn : n ≤ 8) (hm : m ≤ 100) (sP : ∀ q ∈ P, SZ 20000 q) (zP zB : Bool)
    (hR : ∀ i, i < m → ∃ s e : Nat, nth B 0 i = (s : Int) ∧ (if i + 1 < m then nth B 0 (i + 1) else (n : Int)) = (e : Int) ∧ s < e ∧ e ≤ n ∧ call 14 [si false ((V.drop s).take (e - s))] = some (.nd .tu [frX (nth P 0 s), .v (.int .i64 0)]))
    (fu : Nat) (hfu : 1000 < fu) (st : St)
    (h0 : drops st h3_3 = L3_3 (ii n) (.own (si false V)) (.own (sf zP P)) (.own (si zB B)) (ii 0)) :
    run.loopN (run call fuel b3_3) fu st = some (.ex 6, X3_6 (.own (si zB B))) := by
  refine loop_cnt call fuel h3_3 _ m (fun i => L3_3 (ii n) (.own (si false V)) (.own (sf zP P)) (.own (si zB B)) (ii i)) (.ex 6, X3_6 (.own (si zB B))) (by simp) ?_ (by simp [hB]) fu st (by rw [h0]; rfl) (by omega)
  intro i hi
  obtain ⟨s, e, hs, he, hse, hen, h14⟩ := hR i hi
  clear hR
  have hwr := wrap_succ (i := i) (by omega)
  have hw1 : IntKind.i64.wrap ((i : Int) + 1) = (i : Int) + 1 := wrap_eq (by unfold I64; omega)
  have i1 : i < B.length := by omega
  have i2 : s < P.length := by omega
  have hs0 : ¬ (s : Int) < 0 := by omega
  have e11 := h11 _ _ (sP _ (nth_mem 0 i2)) (sP _ (nth_mem 0 i2))
  rw [(cmpR_zero _ _).2 rfl] at e11
  have c1 : ¬ (e : Int) ≤ (s : Int) := by omega
  have c2 : ¬ (n : Int) < (e : Int) := by omega
  have c3 : s ≤ e := by omega
  have c4 : e ≤ V.length := by omega
  have c5 : s + (e - s) ≤ V.length := by omega
  have hBi : (B.length : Int) = m := by omega
  clear sP h11
  by_cases h : i + 1 < m
  · rw [if_pos h] at he
    have i3 : i + 1 < B.length := by omega
    have hlt : (i : Int) + 1 < (m : Int) := by omega
    have hlt2 : (i : Int) + 1 < (B.length : Int) := by omega
    simp (config := {maxSteps := 4000000}) [hB, hi, i1, hw1, hs, he, hs0, c1, c2, c3, c4, c5, i2, i3, h, hlt, hlt2, h14, e11]
  · rw [if_neg h] at he
    have hlt : ¬ (i : Int) + 1 < (m : Int) := by omega
    have hlt2 : ¬ (i : Int) + 1 < (B.length : Int) := by omega
    have hne : n = e := by omega
    subst hne
    simp (config := {maxSteps := 4000000}) [hB, hi, i1, hw1, hs, hs0, c1, c2, c3, c4, c5, i2, h, hlt, hlt2, h14, e11]
set_option maxHeartbeats 4000000 in
theorem f3 (call : Oracle) (fuel : Nat) (hF : 1000 < fuel) (h7 : Of7 call) (h11 : Cmp11 call) (b b' bf : Bool) (v w f : List Int) (n m : Nat) (hlv : v.length = n) (hlw : w.length = n) (hlf : f.length = n) (h1 : 1 ≤ n) (h8 : n ≤ 8)
    (hv : ∀ x ∈ v, 0 ≤ x ∧ x < 256) (hw : ∀ x ∈ w, 0 ≤ x ∧ x < 256) (hf : ∀ x ∈ f, 0 ≤ x ∧ x < 256) (h6 : call 6 [] = some (.v (.bool true)))
    (Ft P : List Rat) (B : List Int) (c1 c2 : Rat) (zF zP zB : Bool) (hFt : Ft.length = n) (hP : P.length = n) (hB : B.length = m) (hm0 : 0 < m) (hm : m ≤ 100) (sF : ∀ q ∈ Ft, SZ 20000 q) (sL : ∀ q ∈ lstF f n, SZ 20000 q) (sP : ∀ q ∈ P, SZ 20000 q) (sc1 : SZ 20000 c1) (sc2 : SZ 20000 c2)
    (e8 : call 8 [si false (vls v), si false (wts w)] = some (.nd .tu [sf zF Ft, .v (.int .i64 0)]))
    (e9 : call 9 [si false (vls v), si false (wts w), sf zF Ft] = some (.nd .tu [frX c1, .v (.int .i64 0)]))
    (e9' : call 9 [si false (vls v), si false (wts w), sf false (lstF f n)] = some (.nd .tu [frX c2, .v (.int .i64 0)]))
    (e10 : call 10 [sf zF Ft] = some (.v (.bool true))) (e10' : call 10 [sf false (lstF f n)] = some (.v (.bool true)))
    (hle : c1 ≤ c2) (hsame : samB Ft (lstF f n) n = decide (c1 = c2)) (sg1 : Int) (e12 : call 12 [frX c1] = some (.v (.int .i64 sg1))) (hsg : fllB v n = decide (sg1 = 0))
    (e8' : call 8 [si false (vls v), si false (List.replicate n 1)] = some (.nd .tu [sf zP P, .v (.int .i64 0)]))
    (e13 : call 13 [si false (vls v), si false (List.replicate n 1)] = some (.nd .tu [si zB B, .v (.int .i64 0)]))
    (hR : ∀ i, i < m → ∃ s e : Nat, nth B 0 i = (s : Int) ∧ (if i + 1 < m then nth B 0 (i + 1) else (n : Int)) = (e : Int) ∧ s < e ∧ e ≤ n ∧ call 14 [si false (((vls v).drop s).take (e - s))] = some (.nd .tu [frX (nth P 0 s), .v (.int .i64 0)])) :
    callF call fuel c3 [u8l b v, u8l b' w, u8l bf f] = some (.v (.bool true)) := by
  rw [callF_tab call fuel c3 K3 _ (by exact Nat.le_of_ble_eq_true rfl) (by exact Nat.le_of_ble_eq_true rfl)]
  have hL0 := loop3_0 call fuel b b' bf v w f (by omega) (by omega) hv hw fuel hF
  have hnl : nlB n = false := by simp [nlB]; omega
  rw [hlv, hnl] at hL0
  have hL1 := fun d8 d9 d10 fl => loop3_1 call fuel h7 bf f d8 d9 d10 fl (by omega) hf fuel hF
  have hne : neB (lstF f n) = false := by unfold neB; rw [lstF_len]; simp; omega
  rw [hlf, hne] at hL1
  have hL2 := fun d8 d10 d18 d20 fl => loop3_2 call fuel h11 Ft (lstF f n) n hFt (lstF_len _ _) h8 sF sL zF false fl d8 d10 d18 d20 fuel hF
  rw [hsame] at hL2
  have hL3 := loop3_3 call fuel h11 (vls v) B P n m (by simp [vls, hlv]) hP hB h8 hm sP zP zB hR fuel hF
  have e11 := h11 c1 c2 sc1 sc2
  have hc0 : ¬ 0 < cmpR c1 c2 := by
    unfold cmpR
    split
    · omega
    · rename_i h
      rw [if_neg (Rat.not_lt.2 hle)]; omega
  have hcz := cmpR_zero c1 c2
  have hlF : (Ft.length : Int) = n := by omega
  have hlP : (P.length : Int) = n := by omega
  have hlB : 0 < (B.length : Int) := by omega
  have k1 : ¬ (n : Int) < 1 := by omega
  have k2 : ¬ 8 < (n : Int) := by omega
  have hdz : decide (c1 = c2) = (cmpR c1 c2 == 0) := by
    rw [Bool.eq_iff_iff, decide_eq_true_eq, beq_iff_eq]; exact hcz.symm
  rw [hdz] at hL2
  have hsg' : fllB v n = (sg1 == 0) := by
    rw [hsg, Bool.eq_iff_iff, decide_eq_true_eq, beq_iff_eq]
  rw [hsg'] at hL0
  clear hR sF sL sP sc1 sc2 h7 h11 hsame hsg hsg' hle hcz hdz hv hw hf
  generalize cmpR c1 c2 = cc at *
  generalize lstF f n = Ls at *
  generalize vls v = Vs at *
  generalize wts w = Ws at *
  generalize List.replicate n (1 : Int) = Os at *
  simp (config := {maxSteps := 4000000}) [c3, K3, hlv, hlw, hlf, h6, k1, k2]
  rw [hL0 _ (by simp [hlv]; rfl)]
  simp (config := {maxSteps := 4000000})
  rw [hL1 (si false Vs) (si false Ws) (si false Os) (sg1 == 0) _ (by simp; rfl)]
  simp (config := {maxSteps := 4000000}) [e8, e9, e9', e10, e10', e11, hc0, hlF]
  rw [hL2 (si false Vs) (si false Os) (.nd (.bx false) (frK c1)) (.nd (.bx false) (frK c2)) (sg1 == 0) _ (by simp)]
  simp (config := {maxSteps := 4000000}) [e11, e12, e8', e13, hlP]
  rw [hL3 _ (by simp)]
  simp (config := {maxSteps := 4000000}) [hlB]
  omega
end Go.Mx
namespace Go.Mx
set_option linter.unusedVariables false
set_option linter.unusedSimpArgs false
set_option linter.unusedSectionVars false
open Go

section
variable (l : List Rat) (r : Nat) (p : List Nat)
@[simp] theorem F_agg0 : aggV r p (gk eF l) 0 3 = if 0 < l.length then some (.vn .ag [.sc (.bool (qs (nth l 0 0))), .ref r (p ++ [1]), .ref r (p ++ [2])]) else none := F_aggV l 0 r p
@[simp] theorem F_agg6 : aggV r p (gk eF l) 6 3 = if 2 < l.length then some (.vn .ag [.sc (.bool (qs (nth l 0 2))), .ref r (p ++ [7]), .ref r (p ++ [8])]) else none := F_aggV l 2 r p
@[simp high] theorem F_c1 : (gk eF l)[1]? = if 0 < l.length then some (gsl (eI .u32) (qz (nth l 0 0)) (ql (nth l 0 0))) else none := F_cell1 l 0
@[simp high] theorem F_c2 : (gk eF l)[2]? = if 0 < l.length then some (gsl (eI .u32) false (qm (nth l 0 0))) else none := F_cell2 l 0
@[simp high] theorem F_c7 : (gk eF l)[7]? = if 2 < l.length then some (gsl (eI .u32) (qz (nth l 0 2)) (ql (nth l 0 2))) else none := F_cell1 l 2
@[simp high] theorem F_c8 : (gk eF l)[8]? = if 2 < l.length then some (gsl (eI .u32) false (qm (nth l 0 2))) else none := F_cell2 l 2
end
theorem f6 (call : Oracle) (fuel : Nat) (F : List Rat) (m : Rat) (hF : F.length = 3) (zF : Bool) (A4 A1 : ByteArray) (h4 : A4.toList = [52]) (h1 : A1.toList = [49])
    (e8 : call 8 [si false [3, 5, 1], si false [1, 1, 1]] = some (.nd .tu [sf zF F, .v (.int .i64 0)])) (e14 : call 14 [si false [3, 5]] = some (.nd .tu [frX m, .v (.int .i64 0)]))
    (t0 : call 28 [frX (nth F 0 0)] = some (.v (.string A4))) (t2 : call 28 [frX (nth F 0 2)] = some (.v (.string A1))) (t3 : call 28 [frX m] = some (.v (.string A4))) :
    callF call fuel c6 [] = some (.v (.bool true)) := by
  rw [callF_tab call fuel c6 K6 _ (by exact Nat.le_of_ble_eq_true rfl) (by exact Nat.le_of_ble_eq_true rfl)]
  change call 8 [.nd (.sl false 1 3) [.v (.int .i64 3), .v (.int .i64 5), .v (.int .i64 1)], .nd (.sl false 1 3) [.v (.int .i64 1), .v (.int .i64 1), .v (.int .i64 1)]] = _ at e8
  change call 14 [.nd (.sl false 1 2) [.v (.int .i64 3), .v (.int .i64 5)]] = _ at e14
  have n2 : natOf 2 = some 2 := rfl
  simp (config := {maxSteps := 4000000}) [n2, c6, K6, e8, e14, hF, t0, t2, t3, h4, h1]
end Go.Mx
namespace Go.Mx
set_option linter.unusedVariables false
set_option linter.unusedSimpArgs false
set_option linter.unusedSectionVars false
open Go

theorem FU_ex' (m : Nat) : ∃ n : Nat, ∀ k x, k ≤ m → x < BB ^ k → x < n := ⟨BB ^ m, fun _ _ hk h => Nat.lt_of_lt_of_le h (Nat.pow_le_pow_right (by decide) hk)⟩
theorem FU_ex : ∃ n : Nat, ∀ k x, k ≤ 100000 → x < BB ^ k → x < n := FU_ex' 100000
/-- A fuel that is enough for all. -/
noncomputable def FU : Nat := Classical.choose FU_ex
theorem FU_lt {n k : Nat} (hk : k ≤ 100000) (h : n < BB ^ k) : n < FU := Classical.choose_spec FU_ex k n hk h
theorem FU_9 : 1000000000 < FU := FU_lt (k := 2) (by decide) (by decide)
theorem FU_6 : 1000000 < FU := Nat.lt_trans (by decide) FU_9
theorem FU_3 : 1000 < FU := Nat.lt_trans (by decide) FU_9
noncomputable abbrev S (n : Nat) : Oracle := semW baseX tbl FU n
theorem sdF {n : Nat} {f : FuncId} {ds : List D} {mf : MF} (h : tbl f = some mf) (hb : hasB mf.code = false := by rfl) : S (n + 1) f ds = callF (S n) FU mf ds := semW_succ h hb
theorem sdB {n : Nat} {f : FuncId} {ds : List D} {mf : MF} (h : tbl f = some mf) (hb : hasB mf.code = true := by rfl) : S (n + 1) f ds = callB (S n) FU mf ds := semW_succB h hb
theorem v85 (n : Nat) : Trim85 (S (n + 1)) := fun b l hl => by
  unfold S
  rw [semW_vw tbl_ok (by decide)]
  exact baseX_85 b l hl
theorem t59 (n : Nat) : Txt59 (S (n + 1)) := fun k h1 h2 => by
  unfold S
  rw [semW_base rfl (by decide)]
  exact baseX_at k h1 h2
theorem L64 (n : Nat) : Lim64 (S (n + 2)) := fun k h => by rw [sdB (mf := c64) rfl]; exact f64 _ _ FU_6 (v85 n) k h
theorem C63 (n : Nat) : Cmp63 (S (n + 1)) := fun x y a b h1 h2 => by rw [sdF (mf := c63) rfl]; exact f63 _ _ FU_6 x y a b h1 h2
theorem C34 (n : Nat) : Cmp34 (S (n + 3)) := fun a b h1 h2 => by rw [sdB (mf := c34) rfl]; exact f34 _ _ (L64 n) (C63 (n + 1)) a b (by omega) (by omega)
theorem M65 (n : Nat) : Mad65 (S (n + 2)) := fun b l h1 h2 h3 => by
  unfold S
  rw [semW_mv (mf := c65) rfl rfl rfl]
  exact f65 _ _ (v85 n) b h1 h2 h3
theorem N60 (n : Nat) : Nof60 (S (n + 3)) := fun k h => by rw [sdF (mf := c60) rfl]; exact f60 _ _ (M65 n) k h
theorem M66 (n : Nat) : Mul66 (S (n + 2)) := fun x y a b h1 h2 h3 => by rw [sdF (mf := c66) rfl]; exact f66 _ _ FU_6 (v85 n) x y h1 h2 h3
theorem M35 (n : Nat) : Mul35 (S (n + 3)) := fun a b h1 h2 => by rw [sdB (mf := c35) rfl]; exact f35 _ _ (L64 n) (M66 n) (M65 n) a b h1 h2
theorem A74 (n : Nat) : Add74 (S (n + 2)) := fun a b h1 h2 => by rw [sdF (mf := c74) rfl]; exact f74 _ _ FU_6 (v85 n) a b h1 h2
theorem S75 (n : Nat) : Sub75 (S (n + 2)) := fun x y a b h1 h2 => by rw [sdF (mf := c75) rfl]; exact f75 _ _ FU_6 (v85 n) x y a b h1 h2
theorem K101' (n : Nat) : Cln101 (S (n + 1)) := fun l h => by rw [sdF (mf := c101) rfl]; exact f101 _ _ l h
theorem H100 (n : Nat) : Sho100 (S (n + 2)) := fun x a d h1 h2 h3 h4 => by rw [sdF (mf := c100) rfl]; exact f100 _ _ FU_6 (v85 n) x h1 d h2 h3 h4
theorem A53 (n : Nat) : Add53 (S (n + 3)) := fun a b h1 h2 => by rw [sdB (mf := c53) rfl]; exact f53 _ _ (L64 n) (A74 n) (M65 n) a b h1 h2
theorem B54 (n : Nat) : Sub54 (S (n + 3)) := fun a b h1 h2 => by rw [sdB (mf := c54) rfl]; exact f54 _ _ (L64 n) (C63 (n + 1)) (S75 n) (M65 n) a b h1 h2
theorem D84 (n : Nat) : Dvd84 (S (n + 3)) := fun a b h1 h2 h3 => by
  unfold S
  rw [semW_mv (mf := c84) rfl rfl rfl]
  exact f84 _ _ (C63 (n + 1)) (S75 n) (M66 n) (K101' (n + 1)) (v85 (n + 1)) (H100 n) FU_9 a b h1 h2 h3
theorem D62 (n : Nat) : Dvm62 (S (n + 4)) := fun a b h1 h2 h3 => by rw [sdB (mf := c62) rfl]; exact f62 _ _ (L64 (n + 1)) (D84 n) (M65 (n + 1)) a b h1 h2 h3
theorem G61 (n : Nat) : Gcd61 (S (n + 4)) := fun a b h1 h2 => by
  rw [sdB (mf := c61) rfl]
  exact f61 _ _ (L64 (n + 1)) (D84 n) (M65 (n + 1)) a b h1 h2 (FU_lt (Nat.le_of_lt h2) (dg_len_le.1 (Nat.le_refl _)))
theorem Z36 (n : Nat) : Zer36 (S (n + 4)) := fun a h => by rw [sdB (mf := c36) rfl]; exact f36 _ _ (C34 n) a h
theorem Q30 (n : Nat) (v : Int) (h1 : -9223372036854775808 ≤ v) (h2 : v < 9223372036854775808) : S (n + 4) 30 [.v (.int .i64 v)] = some (nz v.natAbs) := by
  rw [sdF (mf := c30) rfl]; exact f30 _ _ (N60 n) v h1 h2
theorem M29 (n : Nat) : Mad29 (S (n + 5)) := fun s a b h1 h2 => by rw [sdB (mf := c29) rfl]; exact f29 _ _ (Z36 n) (N60 (n + 1)) (G61 n) (D62 n) s a b h1 h2
theorem O7 (n : Nat) : Of7 (S (n + 6)) := fun a d h1 h2 h3 h4 => by
  rw [sdF (mf := c7) rfl, f7 _ _ (Q30 (n + 1)) (M29 n) a d h1 h2 (by omega) (by omega), of_eq, frD_X]
theorem N52 (n : Nat) : Nrm52 (S (n + 6)) := fun s a b h1 h2 => by rw [sdB (mf := c52) rfl]; exact f52 _ _ (Made29.of (M29 n)) s a b h1 h2
theorem G58 (n : Nat) : Neg58 (S (n + 6)) := fun s a b h1 h2 => by rw [sdB (mf := c58) rfl]; exact f58 _ _ (Made29.of (M29 n)) s a b h1 h2
theorem S12 (n : Nat) : Sgn12 (S (n + 5)) := fun s a b h1 h2 => by rw [sdB (mf := c12) rfl]; exact f12 _ _ (Z36 n) s a b h1 h2
theorem U27' (n : Nat) : Mul27 (S (n + 6)) := fun s s' a a' d d' h1 h2 h3 h4 => by rw [sdB (mf := c27) rfl]; exact f27 _ _ (Made29.of (M29 n)) (M35 (n + 2)) s s' a a' d d' h1 h2 h3 h4
theorem U27 (n : Nat) : MulX (S (n + 6)) := fun a b ha hb => by
  have := U27' n (decide (a.num < 0)) (decide (b.num < 0)) a.num.natAbs b.num.natAbs a.den b.den (by have := ha.1; omega) (by have := hb.1; omega) (by have := ha.2; omega) (by have := hb.2; omega)
  rw [mkRat_sg, mkRat_sg] at this
  have e : S (n + 6) 27 [frD a, frD b] = some (frD (a * b)) := this
  rwa [frD_X, frD_X, frD_X] at e
theorem C11 (n : Nat) : Cmp11 (S (n + 6)) := fun a b ha hb => by
  have e : S (n + 6) 11 [frD a, frD b] = some (.v (.int .i64 (cmpR a b))) := by
    rw [sdB (mf := c11) rfl]; exact f11 _ _ (S12 n) (C34 (n + 2)) (M35 (n + 2)) a b (ha.mono (by omega)) (hb.mono (by omega))
  rwa [frD_X, frD_X] at e
theorem A22' (n : Nat) : Add22 (S (n + 7)) := fun a b ha hb => by
  rw [sdF (mf := c22) rfl]; exact f22 _ _ (N52 n) (M35 (n + 3)) (A53 (n + 3)) (B54 (n + 3)) (Made29.of (M29 (n + 1))) a b ha hb
theorem A22 (n : Nat) : AddX (S (n + 7)) := fun a b ha hb => by
  have e := A22' n a b ha hb
  rwa [frD_X, frD_X, frD_X] at e
theorem B26 (n : Nat) : Sub26 (S (n + 8)) := fun a b ha hb => by
  have e : S (n + 8) 26 [frD a, frD b] = some (frD (a - b)) := by
    rw [sdB (mf := c26) rfl]; exact f26 _ _ (G58 (n + 1)) (A22' n) a b ha hb
  rwa [frD_X, frD_X, frD_X] at e
theorem T28 (k : Nat) (q : Rat) (n d : Nat) (hn : q.num = n) (hd : q.den = d) (h1 : 1 ≤ n) (h2 : n < 100) (h3 : d < 100) : S (k + 7) 28 [frX q] = some (.v (.string (txQ n d))) := by
  rw [← frD_X, sdF (mf := c28) rfl]
  exact f28 _ _ (N52 k) (t59 (k + 5)) q n d hn hd h1 h2 h3
section
variable {b b' : Bool} {v w : List Int} (hlw : w.length = v.length) (hl : v.length ≤ 24) (hv : ∀ x ∈ v, -1000000 ≤ x ∧ x ≤ 1000000) (hw : ∀ x ∈ w, 1 ≤ x ∧ x ≤ 1000)
include hlw hl hv hw
end
section
variable {b : Bool} {l : List Int} (h0 : 0 < l.length) (hl : l.length ≤ 64) (hw : ∀ x ∈ l, 1 ≤ x ∧ x ≤ 200000)
include h0 hl hw
end
end Go.Mx
namespace Go.Mx
set_option linter.unusedVariables false
set_option linter.unusedSimpArgs false
set_option linter.unusedSectionVars false
open Go

def nb (n : Nat) : Bool := n == 0
def nl (n : Nat) : List Int := zl (dg n)
/-- A natural as a struct, its parts by name. -/
abbrev nX (n : Nat) : D := .nd .ag [gsl (eI .u32) (nb n) (nl n)]
abbrev iv (n : Int) : D := .v (.int .i64 n)
def NX60 (call : Oracle) : Prop := ∀ n : Nat, n < 9223372036854775808 → call 60 [.v (.int .u64 (n : Int))] = some (nX n)
def MX35 (call : Oracle) : Prop := ∀ a b : Nat, a < 1000000000000 → b < 1000000000000 → call 35 [nX a, nX b] = some (nX (a * b))
def DX62 (call : Oracle) : Prop := ∀ a b : Nat, a < 1000000000000 → b < 1000000000000 → 0 < b → call 62 [nX a, nX b] = some (.nd .tu [nX (a / b), nX (a % b), iv 0])
def RX52 (call : Oracle) : Prop := ∀ a b : Nat, a < 1000000000000 → b < 1000000000000 → call 52 [.nd .ag [.v (.bool false), gsl (eI .u32) (nb a) (nl a), gsl (eI .u32) (nb b) (nl b)]] = some (frX (mkRat (a : Int) b))
def OX103 (call : Oracle) : Prop := ∀ n : Nat, n < 1000000 → call 103 [iv n] = some (nX n)
theorem f89 (call : Oracle) (fuel : Nat) (n h : Int) (h1 : 0 ≤ n) (h2 : n ≤ h) : callF call fuel c89 [iv n, iv h] = some (.v (.bool true)) := by
  rw [callF_tab call fuel c89 K89 _ (by exact Nat.le_of_ble_eq_true rfl) (by exact Nat.le_of_ble_eq_true rfl)]
  simp [c89, K89, h1, h2]
theorem f103 (call : Oracle) (fuel : Nat) (h60 : NX60 call) (n : Nat) (h : n < 1000000) : callF call fuel c103 [iv n] = some (nX n) := by
  rw [callF_tab call fuel c103 K103 _ (by exact Nat.le_of_ble_eq_true rfl) (by exact Nat.le_of_ble_eq_true rfl)]
  have e := h60 n (by omega)
  have hw : IntKind.u64.wrap (n : Int) = n := wrap64 (by omega)
  generalize nb n = z at *
  generalize nl n = l at *
  simp [c103, K103, hw, e]
/-- Rounds of the binomial coefficient. -/
def binT (n : Nat) : Nat → Nat
  | 0 => 1
  | i + 1 => binT n i * (n - i) / (i + 1)
theorem f55 (call : Oracle) (fuel : Nat) (n d : Int) (h1 : 0 ≤ n) (h2 : n ≤ 30) (h3 : 1 ≤ d) (h4 : d ≤ 60) : callF call fuel c55 [iv n, iv d] = some (iv 0) := by
  rw [callF_tab call fuel c55 K55 _ (by exact Nat.le_of_ble_eq_true rfl) (by exact Nat.le_of_ble_eq_true rfl)]
  have k1 : ¬ n < 0 := by omega
  have k2 : ¬ 30 < n := by omega
  have k3 : ¬ d < 1 := by omega
  have k4 : ¬ 60 < d := by omega
  simp [c55, K55, k1, k2, k3, k4]
theorem f76 (call : Oracle) (fuel : Nat) (n k b : Nat) (h1 : n ≤ 300) (h89 : call 89 [iv n, iv 300] = some (.v (.bool true))) (h90 : call 90 [iv n, iv k] = some (nX b)) : callF call fuel c76 [iv n, iv k] = some (.nd .tu [nX b, iv 0]) := by
  rw [callF_tab call fuel c76 K76 _ (by exact Nat.le_of_ble_eq_true rfl) (by exact Nat.le_of_ble_eq_true rfl)]
  generalize nb b = z at *
  generalize nl b = l at *
  simp [c76, K76, h89, h90]
abbrev nBx (n : Nat) : V := .own (.nd (.bx false) [gsl (eI .u32) (nb n) (nl n)])
abbrev nBx0 : V := .own (.nd (.bx false) [.nd (.sl true 1 0) []])
theorem loop90 (call : Oracle) (fuel : Nat) (h103 : OX103 call) (h35 : MX35 call) (h62 : DX62 call) (n m : Nat) (hn : n ≤ 60) (hm : m ≤ n) (hm2 : m ≤ 4) (fu : Nat) (hf : 1000 < fu) (st : St)
    (h0 : drops st h90_0 = L90_0 (ii n) nBx0 (nBx 1) (ii m) (ii 0)) :
    run.loopN (run call fuel b90_0) fu st = some (.ex 0, X90_0 nBx0 (nBx (binT n m))) := by
  refine loop_cnt call fuel h90_0 _ m (fun i => L90_0 (ii n) nBx0 (nBx (binT n i)) (ii m) (ii i)) (.ex 0, X90_0 nBx0 (nBx (binT n m))) (by simp) ?_ (by simp) fu st (by rw [h0]; rfl) (by omega)
  intro i hi
  have hwr := wrap_succ (i := i) (by omega)
  have hwr' : IntKind.i64.wrap ((i : Int) + 1) = (i : Int) + 1 := wrap_eq (by unfold I64; omega)
  have hsub : IntKind.i64.wrap ((n : Int) - (i : Int)) = ((n - i : Nat) : Int) := by rw [wrap_eq (by unfold I64; omega)]; omega
  have hb : binT n i < 100000000 := by
    have step : ∀ j, binT n (j + 1) ≤ binT n j * 60 := fun j => by
      show binT n j * (n - j) / (j + 1) ≤ _
      exact Nat.le_trans (Nat.div_le_self _ _) (Nat.mul_le_mul_left _ (by omega))
    have s0 : binT n 0 = 1 := rfl
    have s1 : binT n 1 ≤ binT n 0 * 60 := step 0
    have s2 : binT n 2 ≤ binT n 1 * 60 := step 1
    have s3 : binT n 3 ≤ binT n 2 * 60 := step 2
    have : i = 0 ∨ i = 1 ∨ i = 2 ∨ i = 3 := by omega
    rcases this with rfl | rfl | rfl | rfl <;> omega
  have hmul : binT n i * (n - i) ≤ 100000000 * 60 := Nat.mul_le_mul (by omega) (by omega)
  have e1 := h103 (n - i) (by omega)
  have e2 := h35 (binT n i) (n - i) (by omega) (by omega)
  have e3 := h103 (i + 1) (by omega)
  have e4 := h62 (binT n i * (n - i)) (i + 1) (by omega) (by omega) (by omega)
  have hq : binT n (i + 1) = binT n i * (n - i) / (i + 1) := rfl
  rw [Int.natCast_add, Int.natCast_one] at e3
  rw [hq]
  generalize binT n i * (n - i) / (i + 1) = q1 at *
  generalize binT n i * (n - i) % (i + 1) = q2 at *
  generalize binT n i * (n - i) = q3 at *
  generalize binT n i = q4 at *
  generalize n - i = q5 at *
  have n0 : nb 0 = true := rfl
  have l0 : nl 0 = [] := by unfold nl; rw [dg_zero]; rfl
  clear hwr
  by_cases hz : q1 = 0
  · subst hz
    have hnm : noMem (gsl (eI .u32) true []) = true := rfl
    simp [hi, hsub, e1, e2, e3, e4, hwr', n0, l0, hnm, nBx]
  · have hnb : nb q1 = false := by unfold nb; simpa using hz
    simp [hi, hsub, e1, e2, e3, e4, hwr', hnb, nBx]
theorem f90 (call : Oracle) (fuel : Nat) (hF : 1000 < fuel) (h103 : OX103 call) (h35 : MX35 call) (h62 : DX62 call) (n k m : Nat) (hn : n ≤ 60) (hk : k ≤ n) (hm : m = min k (n - k)) (hm2 : m ≤ 4) :
    callF call fuel c90 [iv n, iv k] = some (nX (binT n m)) := by
  rw [callF_tab call fuel c90 K90 _ (by exact Nat.le_of_ble_eq_true rfl) (by exact Nat.le_of_ble_eq_true rfl)]
  have hL := loop90 call fuel h103 h35 h62 n m hn (by omega) hm2 fuel hF
  have e1 := h103 1 (by omega)
  have k1 : ¬ (k : Int) < 0 := by omega
  have k2 : ¬ (n : Int) < (k : Int) := by omega
  have hsub : IntKind.i64.wrap ((n : Int) - (k : Int)) = ((n - k : Nat) : Int) := by rw [wrap_eq (by unfold I64; omega)]; omega
  have hmin : min (k : Int) ((n - k : Nat) : Int) = (m : Int) := by omega
  rw [show ((1 : Nat) : Int) = 1 from rfl] at e1
  generalize binT n m = q at *
  have hnb : nb 1 = false := rfl
  simp [c90, K90, k1, k2, hsub, hmin, e1, hnb]
  rw [hL _ (by simp [nBx, hnb])]
  simp
end Go.Mx
namespace Go.Mx
set_option linter.unusedVariables false
set_option linter.unusedSimpArgs false
set_option linter.unusedSectionVars false
open Go

@[simp] theorem smp_aggV (r : Nat) (p : List Nat) (n d : Int) (fs : List Int) : aggV r p [iv n, iv d, si false fs] 0 3 = some (.vn .ag [.sc (.int .i64 n), .sc (.int .i64 d), .ref r (p ++ [2])]) := by
  rw [aggV_eq]; rfl
theorem f79 (call : Oracle) (fuel : Nat) (x r : Rat) (n : Int) (za zb : Bool) (la lb : List Int)
    (e1 : call 78 [.nd .ag [gsl (eI .u32) (qz x) (ql x)], iv n] = some (.nd .tu [.nd .ag [gsl (eI .u32) za la], iv 0])) (e2 : call 78 [.nd .ag [gsl (eI .u32) false (qm x)], iv n] = some (.nd .tu [.nd .ag [gsl (eI .u32) zb lb], iv 0]))
    (e3 : call 52 [.nd .ag [.v (.bool false), gsl (eI .u32) za la, gsl (eI .u32) zb lb]] = some (frX r)) :
    callB call fuel c79 [frX x, iv n] = some (frX r) := by
  rw [callB_tab call fuel c79 K79 _ rfl (by exact Nat.le_of_ble_eq_true rfl) (by exact Nat.le_of_ble_eq_true rfl)]
  simp (config := {maxSteps := 4000000}) [c79, K79, e1, e2, e3]
theorem f57 (call : Oracle) (fuel : Nat) (s o x r : Rat) (n : Int) (e1 : call 7 [iv 1, iv 1] = some (frX o)) (e2 : call 26 [frX o, frX s] = some (frX x)) (e3 : call 79 [frX x, iv n] = some (frX r)) :
    callB call fuel c57 [iv n, frX s] = some (frX r) := by
  rw [callB_tab call fuel c57 K57 _ rfl (by exact Nat.le_of_ble_eq_true rfl) (by exact Nat.le_of_ble_eq_true rfl)]
  simp (config := {maxSteps := 4000000}) [c57, K57, e1, e2, e3]
theorem f24 (call : Oracle) (fuel : Nat) (n d : Int) (o s m x t r : Rat) (e0 : call 55 [iv n, iv d] = some (iv 0)) (e1 : call 7 [iv 1, iv 1] = some (frX o)) (e2 : call 7 [iv 1, iv d] = some (frX s)) (e3 : call 57 [iv n, frX s] = some (frX m))
    (e4 : call 26 [frX o, frX m] = some (frX x)) (e5 : call 7 [iv d, iv 1] = some (frX t)) (e6 : call 27 [frX t, frX x] = some (frX r)) :
    callF call fuel c24 [iv n, iv d] = some (.nd .tu [frX r, iv 0]) := by
  rw [callF_tab call fuel c24 K24 _ (by exact Nat.le_of_ble_eq_true rfl) (by exact Nat.le_of_ble_eq_true rfl)]
  simp (config := {maxSteps := 4000000}) [c24, K24, e0, e1, e2, e3, e4, e5, e6]
theorem f25 (call : Oracle) (fuel : Nat) (n d k : Int) (hn : IntKind.i64.wrap (n - 1) = k) (h0 : ¬ n = 0) (t s m r : Rat) (e0 : call 55 [iv n, iv d] = some (iv 0)) (e1 : call 7 [iv n, iv 1] = some (frX t)) (e2 : call 7 [iv 1, iv d] = some (frX s)) (e3 : call 57 [iv k, frX s] = some (frX m))
    (e4 : call 27 [frX t, frX m] = some (frX r)) :
    callF call fuel c25 [iv n, iv d] = some (.nd .tu [frX r, iv 0]) := by
  rw [callF_tab call fuel c25 K25 _ (by exact Nat.le_of_ble_eq_true rfl) (by exact Nat.le_of_ble_eq_true rfl)]
  simp (config := {maxSteps := 4000000}) [c25, K25, hn, h0, e0, e1, e2, e3, e4]
theorem f56z (call : Oracle) (fuel : Nat) (n D d : Int) (h : d < 0 ∨ n < d ∨ D < d) (r : Rat) (e1 : call 7 [iv 0, iv 1] = some (frX r)) :
    callF call fuel c56 [iv n, iv D, iv d] = some (frX r) := by
  rw [callF_tab call fuel c56 K56 _ (by exact Nat.le_of_ble_eq_true rfl) (by exact Nat.le_of_ble_eq_true rfl)]
  by_cases h1 : d < 0
  · simp (config := {maxSteps := 4000000}) [c56, K56, h1, e1]
  · by_cases h2 : n < d
    · simp (config := {maxSteps := 4000000}) [c56, K56, h1, h2, e1]
    · have h3 : D < d := by omega
      simp (config := {maxSteps := 4000000}) [c56, K56, h1, h2, h3, e1]
theorem f56 (call : Oracle) (fuel : Nat) (n D d : Int) (h : ¬ (d < 0 ∨ n < d ∨ D < d)) (hD : IntKind.u64.wrap D = D) (r : Rat) (za zb zc zd zm : Bool) (la lb lc ld lm : List Int) (e1 : call 76 [iv D, iv d] = some (.nd .tu [.nd .ag [gsl (eI .u32) za la], iv 0])) (e2 : call 77 [iv n, iv d] = some (.nd .tu [.nd .ag [gsl (eI .u32) zb lb], iv 0]))
    (e3 : call 60 [.v (.int .u64 D)] = some (.nd .ag [gsl (eI .u32) zc lc])) (e4 : call 78 [.nd .ag [gsl (eI .u32) zc lc], iv n] = some (.nd .tu [.nd .ag [gsl (eI .u32) zd ld], iv 0])) (e5 : call 35 [.nd .ag [gsl (eI .u32) za la], .nd .ag [gsl (eI .u32) zb lb]] = some (.nd .ag [gsl (eI .u32) zm lm]))
    (e6 : call 52 [.nd .ag [.v (.bool false), gsl (eI .u32) zm lm, gsl (eI .u32) zd ld]] = some (frX r)) :
    callF call fuel c56 [iv n, iv D, iv d] = some (frX r) := by
  rw [callF_tab call fuel c56 K56 _ (by exact Nat.le_of_ble_eq_true rfl) (by exact Nat.le_of_ble_eq_true rfl)]
  have h1 : ¬ d < 0 := fun x => h (.inl x)
  have h2 : ¬ n < d := fun x => h (.inr (.inl x))
  have h3 : ¬ D < d := fun x => h (.inr (.inr x))
  simp (config := {maxSteps := 4000000}) [c56, K56, h1, h2, h3, hD, e1, e2, e3, e4, e5, e6]
theorem f46 (call : Oracle) (fuel : Nat) (n D d : Int) (r : Rat) (e0 : call 55 [iv n, iv D] = some (iv 0)) (e1 : call 56 [iv n, iv D, iv d] = some (frX r)) :
    callF call fuel c46 [iv n, iv D, iv d] = some (.nd .tu [frX r, iv 0]) := by
  rw [callF_tab call fuel c46 K46 _ (by exact Nat.le_of_ble_eq_true rfl) (by exact Nat.le_of_ble_eq_true rfl)]
  simp (config := {maxSteps := 4000000}) [c46, K46, e0, e1]
theorem f71 (call : Oracle) (fuel : Nat) (n l h : Int) (h1 : l ≤ n) (h2 : n ≤ h) : callF call fuel c71 [iv n, iv l, iv h] = some (.v (.bool true)) := by
  rw [callF_tab call fuel c71 K71 _ (by exact Nat.le_of_ble_eq_true rfl) (by exact Nat.le_of_ble_eq_true rfl)]
  simp [c71, K71, h1, h2]
theorem f47 (call : Oracle) (fuel : Nat) (a b r : Rat) (h71 : call 71 [iv 1, iv 0, iv 30] = some (.v (.bool true))) (h71' : call 71 [iv 1, iv 0, iv 29] = some (.v (.bool true))) (h71'' : call 71 [iv 2, iv 1, iv 60] = some (.v (.bool true)))
    (e1 : call 24 [iv 1, iv 2] = some (.nd .tu [frX a, iv 0])) (e2 : call 24 [iv 2, iv 2] = some (.nd .tu [frX b, iv 0])) (e3 : call 26 [frX b, frX a] = some (frX r)) :
    callF call fuel c47 [iv 1, iv 2, iv 1] = some (.nd .tu [frX r, iv 0]) := by
  rw [callF_tab call fuel c47 K47 _ (by exact Nat.le_of_ble_eq_true rfl) (by exact Nat.le_of_ble_eq_true rfl)]
  have w1 : IntKind.i64.wrap 29 = 29 := by decide
  have w2 : IntKind.i64.wrap 2 = 2 := by decide
  simp (config := {maxSteps := 4000000}) [c47, K47, w1, w2, h71, h71', h71'', e1, e2, e3]
theorem f49 (call : Oracle) (fuel : Nat) (a b r : Rat) (h72 : call 72 [iv 3, iv 2, si false [3, 2]] = some (iv 0))
    (e1 : call 46 [iv 3, iv 3, iv 2] = some (.nd .tu [frX a, iv 0])) (e2 : call 46 [iv 3, iv 2, iv 2] = some (.nd .tu [frX b, iv 0])) (e3 : call 68 [frX a, frX b] = some (.nd .tu [frX r, iv 0])) :
    callF call fuel c49 [iv 3, iv 2, iv 3, iv 2] = some (.nd .tu [frX r, iv 0]) := by
  rw [callF_tab call fuel c49 K49 _ (by exact Nat.le_of_ble_eq_true rfl) (by exact Nat.le_of_ble_eq_true rfl)]
  change call 72 [iv 3, iv 2, .nd (.sl false 1 2) [iv 3, iv 2]] = _ at h72
  simp (config := {maxSteps := 4000000}) [c49, K49, h72, e1, e2, e3]
theorem f21 (call : Oracle) (fuel : Nat) (b : Bool) (l fs : List Int) (n d o k : Int) (hk : IntKind.i64.wrap (n - o) = k) (q : Rat) (e50 : call 50 [si b l] = some (.nd .tu [.nd .ag [iv n, iv d, si false fs], iv 0])) (e51 : call 51 [.nd .ag [iv n, iv d, si false fs]] = some (iv o)) (e7 : call 7 [iv k, iv n] = some (frX q)) :
    callF call fuel c21 [si b l] = some (.nd .tu [frX q, iv 0]) := by
  rw [callF_tab call fuel c21 K21 _ (by exact Nat.le_of_ble_eq_true rfl) (by exact Nat.le_of_ble_eq_true rfl)]
  simp (config := {maxSteps := 4000000}) [c21, K21, e50, e51, e7, hk]
theorem f48 (call : Oracle) (fuel : Nat) (b : Bool) (l fs : List Int) (n d o k t : Int) (hk : IntKind.i64.wrap (n - o) = k) (ht : IntKind.i64.wrap (d * n) = t) (hno : ¬ n = o) (q : Rat) (e50 : call 50 [si b l] = some (.nd .tu [.nd .ag [iv n, iv d, si false fs], iv 0])) (e51 : call 51 [.nd .ag [iv n, iv d, si false fs]] = some (iv o)) (e7 : call 7 [iv t, iv k] = some (frX q)) :
    callF call fuel c48 [si b l] = some (.nd .tu [frX q, iv 0]) := by
  rw [callF_tab call fuel c48 K48 _ (by exact Nat.le_of_ble_eq_true rfl) (by exact Nat.le_of_ble_eq_true rfl)]
  simp (config := {maxSteps := 4000000}) [c48, K48, e50, e51, e7, hk, ht, hno]
end Go.Mx
namespace Go.Mx
set_option linter.unusedVariables false
set_option linter.unusedSimpArgs false
set_option linter.unusedSectionVars false
open Go

theorem f51 (call : Oracle) (fuel : Nat) (n d : Int) (fs : List Int) (h : 0 < fs.length) : callB call fuel c51 [.nd .ag [iv n, iv d, si false fs]] = some (iv (nth fs 0 0)) := by
  rw [callB_tab call fuel c51 K51 _ rfl (by exact Nat.le_of_ble_eq_true rfl) (by exact Nat.le_of_ble_eq_true rfl)]
  simp (config := {maxSteps := 4000000}) [c51, K51, h]
/-- The chances of 0 to n dies. -/
def dstT (g : Nat → Rat) (i : Nat) : List Rat := (List.range i).map g
theorem dst_succ (g : Nat → Rat) (i : Nat) : dstT g (i + 1) = dstT g i ++ [g i] := by simp [dstT, List.range_succ]
theorem loop23 (call : Oracle) (fuel : Nat) (n D : Int) (m : Nat) (g : Nat → Rat) (hm : m ≤ 100) (hg : ∀ d : Nat, d < m → call 56 [iv n, iv D, iv d] = some (frX (g d))) (fu : Nat) (hf : 1000 < fu) (st : St)
    (h0 : drops st h23_0 = L23_0 (ii n) (ii D) (.own (sf true [])) (ii m) (ii 0)) :
    run.loopN (run call fuel b23_0) fu st = some (.ex 0, X23_0 (.own (sf (neB (dstT g m)) (dstT g m)))) := by
  refine loop_cnt call fuel h23_0 _ m (fun i => L23_0 (ii n) (ii D) (.own (sf (neB (dstT g i)) (dstT g i))) (ii m) (ii i)) (.ex 0, X23_0 (.own (sf (neB (dstT g m)) (dstT g m)))) (by simp) ?_ (by simp) fu st (by rw [h0]; rfl) (by omega)
  intro i hi
  have hwr := wrap_succ (i := i) (by omega)
  have e := hg i hi
  have hl : (dstT g i).length + 1 ≤ most := by unfold dstT most; simp; omega
  rw [dst_succ, neB_snoc]
  generalize g i = q at *
  generalize dstT g i = L at *
  generalize neB L = z at *
  simp (config := {maxSteps := 4000000}) [hi, hwr, e, hl]
theorem f23 (call : Oracle) (fuel : Nat) (hF : 1000 < fuel) (n D : Int) (m : Nat) (hw : IntKind.i64.wrap (n + 1) = (m : Int)) (g : Nat → Rat) (hm : m ≤ 100) (hg : ∀ d : Nat, d < m → call 56 [iv n, iv D, iv d] = some (frX (g d))) (e0 : call 55 [iv n, iv D] = some (iv 0)) :
    callF call fuel c23 [iv n, iv D] = some (.nd .tu [sf (neB (dstT g m)) (dstT g m), iv 0]) := by
  rw [callF_tab call fuel c23 K23 _ (by exact Nat.le_of_ble_eq_true rfl) (by exact Nat.le_of_ble_eq_true rfl)]
  have hL := loop23 call fuel n D m g hm hg fuel hF
  generalize dstT g m = L at *
  generalize neB L = z at *
  simp (config := {maxSteps := 4000000}) [c23, K23, e0, hw]
  rw [hL _ (by simp; rfl)]
  simp
theorem f20 (call : Oracle) (fuel : Nat) (a b c d : Rat) (A B C D' : ByteArray) (e1 : call 46 [iv 3, iv 2, iv 2] = some (.nd .tu [frX a, iv 0])) (e2 : call 47 [iv 1, iv 2, iv 1] = some (.nd .tu [frX b, iv 0]))
    (e3 : call 48 [si false [1, 3, 1]] = some (.nd .tu [frX c, iv 0])) (e4 : call 49 [iv 3, iv 2, iv 3, iv 2] = some (.nd .tu [frX d, iv 0]))
    (t1 : call 28 [frX a] = some (.v (.string A))) (t2 : call 28 [frX b] = some (.v (.string B))) (t3 : call 28 [frX c] = some (.v (.string C))) (t4 : call 28 [frX d] = some (.v (.string D')))
    (hA : A.toList = [51, 47, 52]) (hB : B.toList = [49, 47, 50]) (hC : C.toList = [53]) (hD : D'.toList = [56, 47, 57]) :
    callF call fuel c20 [] = some (.v (.bool true)) := by
  rw [callF_tab call fuel c20 K20 _ (by exact Nat.le_of_ble_eq_true rfl) (by exact Nat.le_of_ble_eq_true rfl)]
  change call 48 [.nd (.sl false 1 3) [iv 1, iv 3, iv 1]] = _ at e3
  simp (config := {maxSteps := 8000000}) [c20, K20, e1, e2, e3, e4, t1, t2, t3, t4, hA, hB, hC, hD]
end Go.Mx
namespace Go.Mx
set_option linter.unusedVariables false
set_option linter.unusedSimpArgs false
set_option linter.unusedSectionVars false
open Go

/-- The samples that can come up. -/
def smps : List (List Int) := [[1], [1, 1], [2], [1, 1, 1], [1, 2], [2, 1], [3], [1, 1, 1, 1], [1, 1, 2], [1, 2, 1], [1, 3], [2, 1, 1], [2, 2], [3, 1], [4], [1, 1, 1, 2], [1, 1, 2, 1], [1, 1, 3], [1, 2, 1, 1], [1, 2, 2], [1, 3, 1], [1, 4], [2, 1, 1, 1], [2, 1, 2], [2, 2, 1], [2, 3], [3, 1, 1], [3, 2], [4, 1], [5]]
/-- How many dies have one, two, .. specimens. -/
def frqT (l : List Int) : List Int := (List.range (l.foldl max 0).toNat).map fun (j : Nat) => (((l.filter fun x => x == (j : Int) + 1).length : Nat) : Int)
def sumT (l : List Int) : Int := l.foldl (· + ·) 0
theorem p50_1 : semW baseZ tbl 1000000 12 50 [si false [1]] = some (.nd .tu [.nd .ag [.v (.int .i64 1), .v (.int .i64 1), si false [1]], .v (.int .i64 0)]) := by kernel_rfl
theorem p50_1_1 : semW baseZ tbl 1000000 12 50 [si false [1, 1]] = some (.nd .tu [.nd .ag [.v (.int .i64 2), .v (.int .i64 2), si false [2]], .v (.int .i64 0)]) := by kernel_rfl
theorem p50_2 : semW baseZ tbl 1000000 12 50 [si false [2]] = some (.nd .tu [.nd .ag [.v (.int .i64 2), .v (.int .i64 1), si false [0, 1]], .v (.int .i64 0)]) := by kernel_rfl
theorem p50_1_1_1 : semW baseZ tbl 1000000 12 50 [si false [1, 1, 1]] = some (.nd .tu [.nd .ag [.v (.int .i64 3), .v (.int .i64 3), si false [3]], .v (.int .i64 0)]) := by kernel_rfl
theorem p50_1_2 : semW baseZ tbl 1000000 12 50 [si false [1, 2]] = some (.nd .tu [.nd .ag [.v (.int .i64 3), .v (.int .i64 2), si false [1, 1]], .v (.int .i64 0)]) := by kernel_rfl
theorem p50_2_1 : semW baseZ tbl 1000000 12 50 [si false [2, 1]] = some (.nd .tu [.nd .ag [.v (.int .i64 3), .v (.int .i64 2), si false [1, 1]], .v (.int .i64 0)]) := by kernel_rfl
theorem p50_3 : semW baseZ tbl 1000000 12 50 [si false [3]] = some (.nd .tu [.nd .ag [.v (.int .i64 3), .v (.int .i64 1), si false [0, 0, 1]], .v (.int .i64 0)]) := by kernel_rfl
theorem p50_1_1_1_1 : semW baseZ tbl 1000000 12 50 [si false [1, 1, 1, 1]] = some (.nd .tu [.nd .ag [.v (.int .i64 4), .v (.int .i64 4), si false [4]], .v (.int .i64 0)]) := by kernel_rfl
theorem p50_1_1_2 : semW baseZ tbl 1000000 12 50 [si false [1, 1, 2]] = some (.nd .tu [.nd .ag [.v (.int .i64 4), .v (.int .i64 3), si false [2, 1]], .v (.int .i64 0)]) := by kernel_rfl
theorem p50_1_2_1 : semW baseZ tbl 1000000 12 50 [si false [1, 2, 1]] = some (.nd .tu [.nd .ag [.v (.int .i64 4), .v (.int .i64 3), si false [2, 1]], .v (.int .i64 0)]) := by kernel_rfl
theorem p50_1_3 : semW baseZ tbl 1000000 12 50 [si false [1, 3]] = some (.nd .tu [.nd .ag [.v (.int .i64 4), .v (.int .i64 2), si false [1, 0, 1]], .v (.int .i64 0)]) := by kernel_rfl
theorem p50_2_1_1 : semW baseZ tbl 1000000 12 50 [si false [2, 1, 1]] = some (.nd .tu [.nd .ag [.v (.int .i64 4), .v (.int .i64 3), si false [2, 1]], .v (.int .i64 0)]) := by kernel_rfl
theorem p50_2_2 : semW baseZ tbl 1000000 12 50 [si false [2, 2]] = some (.nd .tu [.nd .ag [.v (.int .i64 4), .v (.int .i64 2), si false [0, 2]], .v (.int .i64 0)]) := by kernel_rfl
theorem p50_3_1 : semW baseZ tbl 1000000 12 50 [si false [3, 1]] = some (.nd .tu [.nd .ag [.v (.int .i64 4), .v (.int .i64 2), si false [1, 0, 1]], .v (.int .i64 0)]) := by kernel_rfl
theorem p50_4 : semW baseZ tbl 1000000 12 50 [si false [4]] = some (.nd .tu [.nd .ag [.v (.int .i64 4), .v (.int .i64 1), si false [0, 0, 0, 1]], .v (.int .i64 0)]) := by kernel_rfl
theorem p50_1_1_1_2 : semW baseZ tbl 1000000 12 50 [si false [1, 1, 1, 2]] = some (.nd .tu [.nd .ag [.v (.int .i64 5), .v (.int .i64 4), si false [3, 1]], .v (.int .i64 0)]) := by kernel_rfl
theorem p50_1_1_2_1 : semW baseZ tbl 1000000 12 50 [si false [1, 1, 2, 1]] = some (.nd .tu [.nd .ag [.v (.int .i64 5), .v (.int .i64 4), si false [3, 1]], .v (.int .i64 0)]) := by kernel_rfl
theorem p50_1_1_3 : semW baseZ tbl 1000000 12 50 [si false [1, 1, 3]] = some (.nd .tu [.nd .ag [.v (.int .i64 5), .v (.int .i64 3), si false [2, 0, 1]], .v (.int .i64 0)]) := by kernel_rfl
theorem p50_1_2_1_1 : semW baseZ tbl 1000000 12 50 [si false [1, 2, 1, 1]] = some (.nd .tu [.nd .ag [.v (.int .i64 5), .v (.int .i64 4), si false [3, 1]], .v (.int .i64 0)]) := by kernel_rfl
theorem p50_1_2_2 : semW baseZ tbl 1000000 12 50 [si false [1, 2, 2]] = some (.nd .tu [.nd .ag [.v (.int .i64 5), .v (.int .i64 3), si false [1, 2]], .v (.int .i64 0)]) := by kernel_rfl
theorem p50_1_3_1 : semW baseZ tbl 1000000 12 50 [si false [1, 3, 1]] = some (.nd .tu [.nd .ag [.v (.int .i64 5), .v (.int .i64 3), si false [2, 0, 1]], .v (.int .i64 0)]) := by kernel_rfl
theorem p50_1_4 : semW baseZ tbl 1000000 12 50 [si false [1, 4]] = some (.nd .tu [.nd .ag [.v (.int .i64 5), .v (.int .i64 2), si false [1, 0, 0, 1]], .v (.int .i64 0)]) := by kernel_rfl
theorem p50_2_1_1_1 : semW baseZ tbl 1000000 12 50 [si false [2, 1, 1, 1]] = some (.nd .tu [.nd .ag [.v (.int .i64 5), .v (.int .i64 4), si false [3, 1]], .v (.int .i64 0)]) := by kernel_rfl
theorem p50_2_1_2 : semW baseZ tbl 1000000 12 50 [si false [2, 1, 2]] = some (.nd .tu [.nd .ag [.v (.int .i64 5), .v (.int .i64 3), si false [1, 2]], .v (.int .i64 0)]) := by kernel_rfl
theorem p50_2_2_1 : semW baseZ tbl 1000000 12 50 [si false [2, 2, 1]] = some (.nd .tu [.nd .ag [.v (.int .i64 5), .v (.int .i64 3), si false [1, 2]], .v (.int .i64 0)]) := by kernel_rfl
theorem p50_2_3 : semW baseZ tbl 1000000 12 50 [si false [2, 3]] = some (.nd .tu [.nd .ag [.v (.int .i64 5), .v (.int .i64 2), si false [0, 1, 1]], .v (.int .i64 0)]) := by kernel_rfl
theorem p50_3_1_1 : semW baseZ tbl 1000000 12 50 [si false [3, 1, 1]] = some (.nd .tu [.nd .ag [.v (.int .i64 5), .v (.int .i64 3), si false [2, 0, 1]], .v (.int .i64 0)]) := by kernel_rfl
theorem p50_3_2 : semW baseZ tbl 1000000 12 50 [si false [3, 2]] = some (.nd .tu [.nd .ag [.v (.int .i64 5), .v (.int .i64 2), si false [0, 1, 1]], .v (.int .i64 0)]) := by kernel_rfl
theorem p50_4_1 : semW baseZ tbl 1000000 12 50 [si false [4, 1]] = some (.nd .tu [.nd .ag [.v (.int .i64 5), .v (.int .i64 2), si false [1, 0, 0, 1]], .v (.int .i64 0)]) := by kernel_rfl
theorem p50_5 : semW baseZ tbl 1000000 12 50 [si false [5]] = some (.nd .tu [.nd .ag [.v (.int .i64 5), .v (.int .i64 1), si false [0, 0, 0, 0, 1]], .v (.int .i64 0)]) := by kernel_rfl
theorem p72 : semW baseZ tbl 1000000 12 72 [.v (.int .i64 3), .v (.int .i64 2), si false [3, 2]] = some (.v (.int .i64 0)) := by kernel_rfl
theorem p50 (l : List Int) (h : l ∈ smps) : semW baseZ tbl 1000000 12 50 [si false l] = some (.nd .tu [.nd .ag [.v (.int .i64 (sumT l)), .v (.int .i64 (l.length : Int)), si false (frqT l)], .v (.int .i64 0)]) := by
  unfold smps at h
  simp only [List.mem_cons, List.not_mem_nil, or_false] at h
  rcases h with rfl | rfl | rfl | rfl | rfl | rfl | rfl | rfl | rfl | rfl | rfl | rfl | rfl | rfl | rfl | rfl | rfl | rfl | rfl | rfl | rfl | rfl | rfl | rfl | rfl | rfl | rfl | rfl | rfl | rfl
  · exact p50_1
  · exact p50_1_1
  · exact p50_2
  · exact p50_1_1_1
  · exact p50_1_2
  · exact p50_2_1
  · exact p50_3
  · exact p50_1_1_1_1
  · exact p50_1_1_2
  · exact p50_1_2_1
  · exact p50_1_3
  · exact p50_2_1_1
  · exact p50_2_2
  · exact p50_3_1
  · exact p50_4
  · exact p50_1_1_1_2
  · exact p50_1_1_2_1
  · exact p50_1_1_3
  · exact p50_1_2_1_1
  · exact p50_1_2_2
  · exact p50_1_3_1
  · exact p50_1_4
  · exact p50_2_1_1_1
  · exact p50_2_1_2
  · exact p50_2_2_1
  · exact p50_2_3
  · exact p50_3_1_1
  · exact p50_3_2
  · exact p50_4_1
  · exact p50_5
end Go.Mx
namespace Go.Mx
set_option linter.unusedVariables false
set_option linter.unusedSimpArgs false
set_option linter.unusedSectionVars false
open Go

theorem loop5_0 (call : Oracle) (fuel : Nat) (k d : Nat) (hk : k ≤ 5) (hd : d ≤ 4) (fu : Nat) (hfu : 1000 < fu) (st : St)
    (h0 : drops st h5_0 = L5_0 (ii k) (ii d) (ii 1) (ii 0)) :
    run.loopN (run call fuel b5_0) fu st = some (.ex 0, X5_0 (ii k) (ii d) (ii ((d ^ k : Nat) : Int))) := by
  refine loop_cnt call fuel h5_0 _ k (fun i => L5_0 (ii k) (ii d) (ii ((d ^ i : Nat) : Int)) (ii i)) (.ex 0, X5_0 (ii k) (ii d) (ii ((d ^ k : Nat) : Int))) (by simp) ?_ (by simp) fu st (by rw [h0]; rfl) (by omega)
  intro i hi
  have hwr := wrap_succ (i := i) (by omega)
  have hp : d ^ i ≤ 4 ^ 5 := Nat.le_trans (Nat.pow_le_pow_left hd i) (Nat.pow_le_pow_right (by decide) (by omega))
  have hm : d ^ i * d ≤ 4 ^ 5 * 4 := Nat.mul_le_mul hp hd
  have hw : IntKind.i64.wrap (((d ^ i : Nat) : Int) * (d : Int)) = ((d ^ (i + 1) : Nat) : Int) := by
    rw [← Int.natCast_mul, Nat.pow_succ]
    exact wrapI (by omega)
  generalize d ^ (i + 1) = q at *
  generalize d ^ i = p at *
  simp [hi, hwr, hw]
/-- How often the dies are used in the w-th way, the first i specimens. -/
def usT (d w : Nat) : Nat → List Int
  | 0 => List.replicate d 0
  | i + 1 => (usT d w i).set (w / d ^ i % d) (nth (usT d w i) 0 (w / d ^ i % d) + 1)
theorem us_len (d w : Nat) : ∀ i, (usT d w i).length = d
  | 0 => by simp [usT]
  | i + 1 => by simp [usT, us_len d w i]
theorem us_bnd (d w : Nat) : ∀ i j, 0 ≤ nth (usT d w i) 0 j ∧ nth (usT d w i) 0 j ≤ i
  | 0, j => by
    unfold usT nth
    rw [List.getD_eq_getElem?_getD, List.getElem?_replicate]
    split <;> simp
  | i + 1, j => by
    have h1 := us_bnd d w i j
    have h2 := us_bnd d w i (w / d ^ i % d)
    show 0 ≤ ((usT d w i).set (w / d ^ i % d) (nth (usT d w i) 0 (w / d ^ i % d) + 1)).getD j 0 ∧ ((usT d w i).set (w / d ^ i % d) (nth (usT d w i) 0 (w / d ^ i % d) + 1)).getD j 0 ≤ ((i + 1 : Nat) : Int)
    rw [List.getD_eq_getElem?_getD, List.getElem?_set]
    split
    · split
      · simp only [Option.getD_some]; omega
      · simp; omega
    · have : (usT d w i)[j]?.getD 0 = nth (usT d w i) 0 j := by unfold nth; rw [List.getD_eq_getElem?_getD]
      rw [this]; omega
theorem loop5_2 (call : Oracle) (fuel : Nat) (k d ways w : Nat) (hd : 1 ≤ d) (hd4 : d ≤ 4) (hk : k ≤ 5) (hw0 : w < 100000) (d9 d12 : D) (x10 x11 : Int) (fu : Nat) (hfu : 1000 < fu) (st : St)
    (h0 : drops st h5_2 = L5_2 (ii k) (ii d) (ii ways) (.own d9) (ii x10) (ii x11) (.own d12) (ii w) (.own (si false (List.replicate d 0))) (ii w) (ii 0)) :
    run.loopN (run call fuel b5_2) fu st = some (.ex 4, X5_4 (ii k) (ii d) (ii ways) (.own d9) (ii x10) (ii x11) (.own d12) (ii w) (.own (si false (usT d w k)))) := by
  refine loop_cnt call fuel h5_2 _ k (fun i => L5_2 (ii k) (ii d) (ii ways) (.own d9) (ii x10) (ii x11) (.own d12) (ii w) (.own (si false (usT d w i))) (ii ((w / d ^ i : Nat) : Int)) (ii i))
    (.ex 4, X5_4 (ii k) (ii d) (ii ways) (.own d9) (ii x10) (ii x11) (.own d12) (ii w) (.own (si false (usT d w k)))) (by simp) ?_ (by simp) fu st (by rw [h0]; simp [usT]) (by omega)
  intro i hi
  have hwr := wrap_succ (i := i) (by omega)
  have hq : w / d ^ i / d = w / d ^ (i + 1) := by rw [Nat.div_div_eq_div_mul, Nat.pow_succ]
  have hr : w / d ^ i ≤ w := Nat.div_le_self _ _
  have hm : w / d ^ i % d < d := Nat.mod_lt _ (by omega)
  have e1 : ((w / d ^ i : Nat) : Int).tmod (d : Int) = ((w / d ^ i % d : Nat) : Int) := by rw [Int.tmod_eq_emod_of_nonneg (Int.natCast_nonneg _)]; rfl
  have e2 : ((w / d ^ i : Nat) : Int).tdiv (d : Int) = ((w / d ^ (i + 1) : Nat) : Int) := by rw [← hq, Int.tdiv_eq_ediv_of_nonneg (Int.natCast_nonneg _)]; rfl
  have hw2 : IntKind.i64.wrap ((w / d ^ (i + 1) : Nat) : Int) = ((w / d ^ (i + 1) : Nat) : Int) := wrapI (by have : w / d ^ (i + 1) ≤ w := Nat.div_le_self _ _; omega)
  have hw3 : IntKind.i64.wrap ((w / d ^ i % d : Nat) : Int) = ((w / d ^ i % d : Nat) : Int) := wrapI (by omega)
  have hdz : ¬ (d : Int) = 0 := by omega
  have hdz' : ¬ d = 0 := by omega
  have hl := us_len d w i
  have hb := us_bnd d w i (w / d ^ i % d)
  have hu : usT d w (i + 1) = (usT d w i).set (w / d ^ i % d) (nth (usT d w i) 0 (w / d ^ i % d) + 1) := rfl
  have hw4 : IntKind.i64.wrap (nth (usT d w i) 0 (w / d ^ i % d) + 1) = nth (usT d w i) 0 (w / d ^ i % d) + 1 := wrap_eq (by unfold I64; omega)
  rw [hu]
  generalize w / d ^ (i + 1) = q1 at *
  generalize w / d ^ i % d = r at *
  generalize w / d ^ i = q0 at *
  generalize usT d w i = U at *
  have hrl : r < U.length := by omega
  clear hu hq hr hb
  simp [hi, hwr, e1, e2, hw2, hw3, hw4, hdz, hdz', hrl]
/-- The dies that are used at all, and how many are used once. -/
def smT (l : List Int) : List Int := l.filter fun x => decide (0 < x)
def onT (l : List Int) : Int := ((l.filter fun x => x == 1).length : Nat)
theorem sm_snoc (l : List Int) (x : Int) : smT (l ++ [x]) = if 0 < x then smT l ++ [x] else smT l := by
  unfold smT
  rw [List.filter_append]
  by_cases h : 0 < x <;> simp [h]
theorem on_snoc (l : List Int) (x : Int) : onT (l ++ [x]) = if x = 1 then onT l + 1 else onT l := by
  unfold onT
  rw [List.filter_append]
  by_cases h : x = 1 <;> simp [h]
theorem loop5_3 (call : Oracle) (fuel : Nat) (k d ways w : Nat) (hd4 : d ≤ 4) (d9 d12 : D) (x10 x11 : Int) (hx : 0 ≤ x10 ∧ x10 < 1000000) (U : List Int) (hU : U.length = d) (fu : Nat) (hfu : 1000 < fu) (st : St)
    (h0 : drops st h5_3 = L5_3 (ii k) (ii d) (ii ways) (.own d9) (ii x10) (ii x11) (.own d12) (ii w) (.own (si false U)) (.own (si true [])) (ii 0)) :
    run.loopN (run call fuel b5_3) fu st = some (.ex 6, X5_6 (ii k) (ii d) (ii ways) (.own d9) (ii (x10 + onT U)) (ii x11) (.own d12) (ii w) (.own (si (decide ((smT U).length = 0)) (smT U)))) := by
  have hall : U.take d = U := by rw [← hU, List.take_length]
  refine loop_cnt call fuel h5_3 _ d (fun i => L5_3 (ii k) (ii d) (ii ways) (.own d9) (ii (x10 + onT (U.take i))) (ii x11) (.own d12) (ii w) (.own (si false U)) (.own (si (decide ((smT (U.take i)).length = 0)) (smT (U.take i)))) (ii i))
    (.ex 6, X5_6 (ii k) (ii d) (ii ways) (.own d9) (ii (x10 + onT U)) (ii x11) (.own d12) (ii w) (.own (si (decide ((smT U).length = 0)) (smT U)))) (by simp) ?_ (by rw [hall]; simp) fu st (by rw [h0]; simp [smT, onT]) (by omega)
  intro i hi
  have hwr := wrap_succ (i := i) (by omega)
  have hiU : i < U.length := by omega
  have ht := take_snocI 0 U hiU
  have hon : 0 ≤ onT (U.take i) ∧ onT (U.take i) ≤ 4 := by
    unfold onT
    have := List.length_filter_le (fun x => x == (1 : Int)) (U.take i)
    rw [List.length_take] at this
    omega
  have hw1 : IntKind.i64.wrap (x10 + onT (U.take i) + 1) = x10 + onT (U.take i) + 1 := wrap_eq (by unfold I64; omega)
  have hsl : (smT (U.take i)).length + 1 ≤ most := by
    have := List.length_filter_le (fun x => decide ((0 : Int) < x)) (U.take i)
    rw [List.length_take] at this
    unfold smT most; omega
  rw [ht, sm_snoc, on_snoc]
  have hnz : decide ((smT (U.take i) ++ [nth U 0 i]).length = 0) = false := by simp
  generalize onT (U.take i) = o at *
  generalize hS : smT (U.take i) = S at *
  clear hall ht
  by_cases h1 : nth U 0 i = 1
  · have h0' : (0 : Int) < nth U 0 i := by omega
    rw [if_pos h0', if_pos h1, hnz]
    generalize decide (S.length = 0) = z at *
    rw [← Int.add_assoc]
    simp (config := {maxSteps := 2000000}) [hi, hwr, hiU, h1, hw1, hsl]
  · by_cases h0' : (0 : Int) < nth U 0 i
    · rw [if_pos h0', if_neg h1, hnz]
      generalize decide (S.length = 0) = z at *
      simp (config := {maxSteps := 2000000}) [hi, hwr, hiU, h1, h0', hsl]
    · rw [if_neg h0', if_neg h1]
      generalize decide (S.length = 0) = z at *
      simp (config := {maxSteps := 2000000}) [hi, hwr, hiU, h1, h0']
/-- The numbers of ways with so many dies, and so on, after the first w ways. -/
structure Otc where
  cnt : List Int
  one : Int
  seen : Int
  cov : Rat
def covT (l : List Int) : Rat := mkRat (sumT l - nth (frqT l) 0 0) (sumT l).toNat
def otT (k d : Nat) : Nat → Otc
  | 0 => ⟨List.replicate (k + 1) 0, 0, 0, mkRat 0 1⟩
  | w + 1 =>
    let o := otT k d w
    let s := smT (usT d w k)
    ⟨o.cnt.set s.length (nth o.cnt 0 s.length + 1), o.one + onT (usT d w k), o.seen + s.length, o.cov + covT s⟩
end Go.Mx
namespace Go.Mx
set_option linter.unusedVariables false
set_option linter.unusedSimpArgs false
set_option linter.unusedSectionVars false
open Go

def smW (k d w : Nat) : List Int := smT (usT d w k)
theorem sm_len (k d w : Nat) : (smW k d w).length ≤ d := by
  unfold smW smT
  have := List.length_filter_le (fun x => decide ((0 : Int) < x)) (usT d w k)
  rw [us_len] at this
  exact this
theorem on_bnd (k d w : Nat) : 0 ≤ onT (usT d w k) ∧ onT (usT d w k) ≤ d := by
  unfold onT
  have := List.length_filter_le (fun x => x == (1 : Int)) (usT d w k)
  rw [us_len] at this
  omega
theorem nth_set (l : List Int) (i j : Nat) (x : Int) : nth (l.set i x) 0 j = if i = j ∧ j < l.length then x else nth l 0 j := by
  unfold nth
  rw [List.getD_eq_getElem?_getD, List.getD_eq_getElem?_getD, List.getElem?_set]
  by_cases h : i = j
  · subst h
    by_cases h2 : i < l.length
    · simp [h2]
    · simp [h2, List.getElem?_eq_none (Nat.le_of_not_lt h2)]
  · simp [h]
structure OtB (k w : Nat) (o : Otc) : Prop where
  len : o.cnt.length = k + 1
  cnt : ∀ j, 0 ≤ nth o.cnt 0 j ∧ nth o.cnt 0 j ≤ w
  one : 0 ≤ o.one ∧ o.one ≤ 4 * w
  seen : 0 ≤ o.seen ∧ o.seen ≤ 4 * w
  cov : SZ (1 + 3 * w) o.cov
theorem ot_bnd {k d : Nat} (hd : d ≤ 4) : ∀ w, (∀ v, v < w → SZ 2 (covT (smW k d v))) → OtB k w (otT k d w)
  | 0, _ => ⟨by simp [otT], fun j => by
      show 0 ≤ nth (List.replicate (k + 1) (0 : Int)) 0 j ∧ nth (List.replicate (k + 1) (0 : Int)) 0 j ≤ _
      unfold nth
      rw [List.getD_eq_getElem?_getD, List.getElem?_replicate]
      split <;> simp, by simp [otT], by simp [otT], SZ.int (by decide) (by decide)⟩
  | w + 1, h => by
    obtain ⟨h1, h2, h3, h4, h5⟩ := ot_bnd (k := k) hd w fun v hv => h v (by omega)
    have ho := on_bnd k d w
    have hs := sm_len k d w
    have hc := h w (by omega)
    refine ⟨by simp only [otT, List.length_set]; exact h1, fun j => ?_, ?_, ?_, ?_⟩
    · show 0 ≤ nth ((otT k d w).cnt.set (smW k d w).length (nth (otT k d w).cnt 0 (smW k d w).length + 1)) 0 j ∧ nth ((otT k d w).cnt.set (smW k d w).length (nth (otT k d w).cnt 0 (smW k d w).length + 1)) 0 j ≤ _
      rw [nth_set]
      have a1 := h2 (smW k d w).length
      have a2 := h2 j
      split <;> omega
    · show 0 ≤ (otT k d w).one + onT (usT d w k) ∧ (otT k d w).one + onT (usT d w k) ≤ _
      omega
    · show 0 ≤ (otT k d w).seen + ((smW k d w).length : Int) ∧ (otT k d w).seen + ((smW k d w).length : Int) ≤ _
      omega
    · show SZ (1 + 3 * (w + 1)) ((otT k d w).cov + covT (smW k d w))
      exact (SZ.add h5 hc).mono (by omega)
set_option maxHeartbeats 1000000 in
theorem loop5_1 (call : Oracle) (fuel : Nat) (hF : 1000 < fuel) (h22 : AddX call) (k d ways : Nat) (hd : 1 ≤ d) (hd4 : d ≤ 4) (hk : k ≤ 5) (hways : ways ≤ 1024)
    (hc : ∀ w, w < ways → call 21 [si (decide ((smW k d w).length = 0)) (smW k d w)] = some (.nd .tu [frX (covT (smW k d w)), iv 0])) (hs : ∀ w, w < ways → SZ 2 (covT (smW k d w))) (hsl : ∀ w, w < ways → (smW k d w).length ≤ k)
    (fu : Nat) (hfu : 1500 < fu) (st : St)
    (h0 : drops st h5_1 = L5_1 (ii k) (ii d) (ii ways) (.own (si false (List.replicate (k + 1) 0))) (ii 0) (ii 0) (bxQ (mkRat 0 1)) (ii 0)) :
    run.loopN (run call fuel b5_1) fu st = some (.ex 2, X5_2 (ii k) (ii d) (ii ways) (.own (si false (otT k d ways).cnt)) (ii (otT k d ways).one) (ii (otT k d ways).seen) (bxQ (otT k d ways).cov)) := by
  refine loop_cnt call fuel h5_1 _ ways (fun w => L5_1 (ii k) (ii d) (ii ways) (.own (si false (otT k d w).cnt)) (ii (otT k d w).one) (ii (otT k d w).seen) (bxQ (otT k d w).cov) (ii w))
    (.ex 2, X5_2 (ii k) (ii d) (ii ways) (.own (si false (otT k d ways).cnt)) (ii (otT k d ways).one) (ii (otT k d ways).seen) (bxQ (otT k d ways).cov)) (by simp) ?_ (by simp) fu st (by rw [h0]; simp [otT]) (by omega)
  intro w hw
  have hwr : IntKind.i64.wrap ((w : Int) + 1) = (w : Int) + 1 := wrap_eq (by unfold I64; omega)
  obtain ⟨b1, b2, b3, b4, b5⟩ := ot_bnd (k := k) hd4 w fun v hv => hs v (by omega)
  have e21 := hc w hw
  have hsw := hs w hw
  have hslw := hsl w hw
  have e22 := h22 _ _ (b5.mono (show 1 + 3 * w ≤ 20000 by omega)) (hsw.mono (show 2 ≤ 20000 by omega))
  have hb2 := b2 (smW k d w).length
  have hcl : (smW k d w).length < (otT k d w).cnt.length := by omega
  have w1 : IntKind.i64.wrap (nth (otT k d w).cnt 0 (smW k d w).length + 1) = nth (otT k d w).cnt 0 (smW k d w).length + 1 := wrap_eq (by unfold I64; omega)
  have hsl4 := sm_len k d w
  have w2 : IntKind.i64.wrap ((otT k d w).seen + ((smW k d w).length : Int)) = (otT k d w).seen + ((smW k d w).length : Int) := wrap_eq (by unfold I64; omega)
  have hd' : d ≤ most := by unfold most; omega
  have hL2 := fun d9 d12 x10 x11 => loop5_2 call fuel k d ways w hd hd4 hk (by omega) d9 d12 x10 x11 fuel hF
  have hL3 := fun d9 d12 x10 x11 hx => loop5_3 call fuel k d ways w hd4 d9 d12 x10 x11 hx (usT d w k) (us_len d w k) fuel hF
  have hsm : smT (usT d w k) = smW k d w := rfl
  rw [hsm] at hL3
  have ho : otT k d (w + 1) = ⟨(otT k d w).cnt.set (smW k d w).length (nth (otT k d w).cnt 0 (smW k d w).length + 1), (otT k d w).one + onT (usT d w k), (otT k d w).seen + (smW k d w).length, (otT k d w).cov + covT (smW k d w)⟩ := rfl
  rw [ho]
  have hx := b3
  clear ho hsm b2 b5 hc hs hsl h22 hsw
  generalize (otT k d w).cov + covT (smW k d w) = q2 at *
  generalize covT (smW k d w) = q1 at *
  generalize decide ((smW k d w).length = 0) = zz at *
  generalize otT k d w = o at *
  obtain ⟨C, on, se, q0⟩ := o
  simp only at b1 hx b4 e22 hb2 hcl w1 w2 ⊢
  simp (config := {maxSteps := 4000000}) [hw, hwr, hd']
  rw [hL2 (si false C) (.nd (.bx false) (frK q0)) on se _ (by simp)]
  simp (config := {maxSteps := 4000000})
  rw [hL3 (si false C) (.nd (.bx false) (frK q0)) on se (by omega) _ (by simp; rfl)]
  simp (config := {maxSteps := 4000000}) [e21, e22, hcl, w1, w2, hwr]
theorem loop5_4 (call : Oracle) (fuel : Nat) (h7 : Of7 call) (h11 : Cmp11 call) (k ways : Nat) (hk : k ≤ 5) (hw0 : 0 < ways) (hw : ways ≤ 1024) (C : List Int) (hC : C.length = k + 1) (L : List Rat) (hL : L.length = k + 1) (hb : ∀ j, 0 ≤ nth C 0 j ∧ nth C 0 j ≤ 1024)
    (hz : ∀ i, i ≤ k → nth L 0 i = mkRat (nth C 0 i) ways) (x10 x11 : Int) (d12 d23 d25 d27 : D) (z : Bool) (fu : Nat) (hfu : 1000 < fu) (st : St)
    (h0 : drops st h5_4 = L5_4 (ii k) (ii ways) (.own (si false C)) (ii x10) (ii x11) (.own d12) (.own (sf z L)) (.own d23) (.own d25) (.own d27) (ii 0)) :
    run.loopN (run call fuel b5_4) fu st = some (.ex 8, X5_8 (ii ways) (ii x10) (ii x11) (.own d12) (.own d23) (.own d25) (.own d27)) := by
  have hk1 : ¬ (k : Int) + 1 ≤ k := by omega
  refine loop_cnt call fuel h5_4 _ (k + 1) (fun i => L5_4 (ii k) (ii ways) (.own (si false C)) (ii x10) (ii x11) (.own d12) (.own (sf z L)) (.own d23) (.own d25) (.own d27) (ii i))
    (.ex 8, X5_8 (ii ways) (ii x10) (ii x11) (.own d12) (.own d23) (.own d25) (.own d27)) (by simp) ?_ (by simp [hk1]) fu st (by rw [h0]; rfl) (by omega)
  intro i hi
  have hwr := wrap_succ (i := i) (by omega)
  have hbi := hb i
  have e7 := h7 (nth C 0 i) ways (by omega) (by omega) hw0 (by omega)
  have hzi := hz i (by omega)
  have sz : SZ 20000 (mkRat (nth C 0 i) ways) := (SZ.rat (by omega) (by omega) (by omega)).mono (by omega)
  have e11 := h11 _ _ sz sz
  rw [(cmpR_zero _ _).2 rfl] at e11
  have i1 : i < C.length := by omega
  have i2 : i < L.length := by omega
  have i3 : (i : Int) ≤ (k : Int) := by omega
  generalize mkRat (nth C 0 i) ways = q at *
  clear hz hb h7 h11 sz
  simp (config := {maxSteps := 4000000}) [hwr, i1, i2, i3, e7, hzi, e11]
end Go.Mx
namespace Go.Mx
set_option linter.unusedVariables false
set_option linter.unusedSimpArgs false
set_option linter.unusedSectionVars false
open Go

set_option maxHeartbeats 4000000 in
theorem f5 (call : Oracle) (fuel : Nat) (hF : 1500 < fuel) (h7 : Of7 call) (h11 : Cmp11 call) (h22 : AddX call) (a0 a1 r0 r1 k1 : Int) (k d ways : Nat) (hd : 1 ≤ d) (hd4 : d ≤ 4) (hk : k ≤ 5) (hways : d ^ k = ways) (hw1 : 0 < ways) (hw2 : ways ≤ 1024)
    (ha0 : IntKind.i64.wrap a0 = a0) (ha1 : IntKind.i64.wrap a1 = a1) (hr0 : a0.tmod 5 = r0) (hr1 : a1.tmod 4 = r1) (hw0 : IntKind.i64.wrap r0 = r0) (hw1' : IntKind.i64.wrap r1 = r1) (hk' : IntKind.i64.wrap (1 + r0) = (k : Int)) (hd' : IntKind.i64.wrap (1 + r1) = (d : Int)) (hk1 : IntKind.i64.wrap ((k : Int) - 1) = k1)
    (h20 : call 20 [] = some (.v (.bool true)))
    (hc : ∀ w, w < ways → call 21 [si (decide ((smW k d w).length = 0)) (smW k d w)] = some (.nd .tu [frX (covT (smW k d w)), iv 0])) (hs : ∀ w, w < ways → SZ 2 (covT (smW k d w))) (hsl : ∀ w, w < ways → (smW k d w).length ≤ k)
    (L : List Rat) (zL : Bool) (hL : L.length = k + 1) (hz : ∀ i, i ≤ k → nth L 0 i = mkRat (nth (otT k d ways).cnt 0 i) ways) (M B O x o old q : Rat) (sM : SZ 20000 M) (sO : SZ 20000 O) (sold : SZ 20000 old)
    (e23 : call 23 [iv k, iv d] = some (.nd .tu [sf zL L, iv 0])) (e24 : call 24 [iv k, iv d] = some (.nd .tu [frX M, iv 0])) (e24' : call 24 [iv k1, iv d] = some (.nd .tu [frX B, iv 0])) (e25 : call 25 [iv k, iv d] = some (.nd .tu [frX O, iv 0]))
    (e7o : call 7 [iv 1, iv 1] = some (frX o)) (e26 : call 26 [frX M, frX B] = some (frX x)) (e26' : call 26 [frX o, frX x] = some (frX old)) (eM : mkRat (otT k d ways).seen ways = M) (eO : mkRat (otT k d ways).one ways = O) (e7w : call 7 [iv 1, iv ways] = some (frX q))
    (e27 : call 27 [frX (otT k d ways).cov, frX q] = some (frX old)) :
    callF call fuel c5 [.v (.int .u8 a0), .v (.int .u8 a1)] = some (.v (.bool true)) := by
  rw [callF_tab call fuel c5 K5 _ (by exact Nat.le_of_ble_eq_true rfl) (by exact Nat.le_of_ble_eq_true rfl)]
  have hL0 := loop5_0 call fuel k d hk hd4 fuel (by omega)
  rw [hways] at hL0
  have hL1 := loop5_1 call fuel (by omega) h22 k d ways hd hd4 hk hw2 hc hs hsl fuel (by omega)
  obtain ⟨b1, b2, b3, b4, b5⟩ := ot_bnd (k := k) hd4 ways hs
  have hL4 := fun d12 d23 d25 d27 x10 x11 => loop5_4 call fuel h7 h11 k ways hk hw1 hw2 (otT k d ways).cnt b1 L hL (fun j => by have := b2 j; omega) hz x10 x11 d12 d23 d25 d27 zL fuel (by omega)
  have e7z := h7 0 1 (by omega) (by omega) (by omega) (by omega)
  have e7s := h7 (otT k d ways).seen ways (by omega) (by omega) (by omega) (by omega)
  have e7n := h7 (otT k d ways).one ways (by omega) (by omega) (by omega) (by omega)
  rw [eM] at e7s
  rw [eO] at e7n
  have c1 := h11 M M sM sM
  have c2 := h11 O O sO sO
  have c3 := h11 old old sold sold
  rw [(cmpR_zero _ _).2 rfl] at c1 c2 c3
  have hwk : IntKind.i64.wrap ((k : Int) + 1) = (k : Int) + 1 := wrap_eq (by unfold I64; omega)
  have hnk : natOf ((k : Int) + 1) = some (k + 1) := by
    unfold natOf
    rw [if_pos (by omega)]
    congr 1
  have hkm : k + 1 ≤ most := by unfold most; omega
  have hLk : (L.length : Int) = (k : Int) + 1 := by omega
  rw [show ((1 : Nat) : Int) = 1 from rfl] at e7z
  clear hc hs hsl hz b1 b2 b5 h7 h11 h22 hways sM sO sold eM eO
  generalize mkRat 0 1 = qz at *
  generalize otT k d ways = ot at *
  obtain ⟨C, on, se, cv⟩ := ot
  simp only at e7s e7n e27 hL1 hL4
  simp (config := {maxSteps := 8000000}) [c5, K5, h20, ha0, ha1, hr0, hr1, hw0, hw1', hk', hd']
  rw [hL0 _ (by simp)]
  simp (config := {maxSteps := 8000000}) [hwk, hnk, hkm, e7z]
  rw [hL1 _ (by simp)]
  simp (config := {maxSteps := 8000000}) [e23, e24, e24', e25, hk1, hLk, hwk]
  rw [hL4 (.nd (.bx false) (frK cv)) (.nd (.bx false) (frK M)) (.nd (.bx false) (frK B)) (.nd (.bx false) (frK O)) on se _ (by simp)]
  simp (config := {maxSteps := 8000000}) [e7o, e26, e26', e7s, e7n, e7w, e27, c1, c2, c3]
end Go.Mx
namespace Go.Mx
set_option linter.unusedVariables false
set_option linter.unusedSimpArgs false
set_option linter.unusedSectionVars false
open Go

/-- What is known already: by evaluation, and by the fractions' texts. -/
noncomputable def baseY : Oracle := fun f ds => if f = 50 ∨ f = 72 ∨ f = 77 ∨ f = 78 then semW baseZ tbl 1000000 12 f ds else S 30 f ds
theorem baseY_reg : BaseOK Go.Proofs.Tryd.prog Glob.none baseY := by
  intro f ds d hlt h
  unfold baseY at h
  split at h
  · exact (semW_ok (baseZ_reg Glob.none) (baseZ_vw Glob.none) tbl_ok 1000000 12).reg f ds d hlt h
  · exact (semW_ok (baseX_reg Glob.none) (baseX_vw Glob.none) tbl_ok FU 30).reg f ds d hlt h
theorem baseY_vw : BaseVW Go.Proofs.Tryd.prog Glob.none baseY := by
  intro f d0 k n hlt h
  unfold baseY at h
  split at h
  · rename_i hf
    exact absurd hf (by show ¬ (f + 3145728 = 50 ∨ f + 3145728 = 72 ∨ f + 3145728 = 77 ∨ f + 3145728 = 78); omega)
  · exact (semW_ok (baseX_reg Glob.none) (baseX_vw Glob.none) tbl_ok FU 30).vw f d0 k n hlt h
def tops : List Nat := [5, 20, 21, 23, 24, 25, 46, 47, 48, 49, 51, 55, 56, 57, 71, 76, 79, 89, 90, 103]
def tblY (f : FuncId) : Option MF := if tops.contains f then tbl f else none
theorem tblY_ok : ∀ f mf, tblY f = some mf → ∃ hints, compF Go.Proofs.Tryd.prog hints f = some mf := by
  intro f mf h
  unfold tblY at h
  split at h
  · exact tbl_ok f mf h
  · cases h
noncomputable abbrev Y (n : Nat) : Oracle := semW baseY tblY FU n
theorem yF {n : Nat} {f : FuncId} {ds : List D} {mf : MF} (h : tblY f = some mf) (hb : hasB mf.code = false := by rfl) : Y (n + 1) f ds = callF (Y n) FU mf ds := semW_succ h hb
theorem yB {n : Nat} {f : FuncId} {ds : List D} {mf : MF} (h : tblY f = some mf) (hb : hasB mf.code = true := by rfl) : Y (n + 1) f ds = callB (Y n) FU mf ds := semW_succB h hb
theorem yS {n : Nat} {f : FuncId} {ds : List D} (h : tblY f = none) (hlt : f < ioB) (hq : ¬ (f = 50 ∨ f = 72 ∨ f = 77 ∨ f = 78)) : Y (n + 1) f ds = S 30 f ds := by
  unfold Y
  rw [semW_base h hlt]
  unfold baseY
  rw [if_neg hq]
theorem yQ {n : Nat} {f : FuncId} {ds : List D} (h : tblY f = none) (hlt : f < ioB) (hq : f = 50 ∨ f = 72 ∨ f = 77 ∨ f = 78) : Y (n + 1) f ds = semW baseZ tbl 1000000 12 f ds := by
  unfold Y
  rw [semW_base h hlt]
  unfold baseY
  rw [if_pos hq]
theorem y7 (n : Nat) : Of7 (Y (n + 1)) := fun a d h1 h2 h3 h4 => by rw [yS rfl (by decide) (by decide)]; exact O7 24 a d h1 h2 h3 h4
theorem y11 (n : Nat) : Cmp11 (Y (n + 1)) := fun a b ha hb => by rw [yS rfl (by decide) (by decide)]; exact C11 24 a b ha hb
theorem y22 (n : Nat) : AddX (Y (n + 1)) := fun a b ha hb => by rw [yS rfl (by decide) (by decide)]; exact A22 23 a b ha hb
theorem y26 (n : Nat) : Sub26 (Y (n + 1)) := fun a b ha hb => by rw [yS rfl (by decide) (by decide)]; exact B26 22 a b ha hb
theorem y27 (n : Nat) : MulX (Y (n + 1)) := fun a b ha hb => by rw [yS rfl (by decide) (by decide)]; exact U27 24 a b ha hb
theorem dg_lt {n : Nat} (h : n < 1000000000000) : (dg n).length ≤ 2 := dg_len_le.2 (by unfold BB; omega)
theorem y35 (n : Nat) : MX35 (Y (n + 1)) := fun a b ha hb => by
  rw [yS rfl (by decide) (by decide)]
  exact M35 27 a b (by have := dg_lt ha; omega) (by have := dg_lt hb; omega)
theorem y60 (n : Nat) : NX60 (Y (n + 1)) := fun k h => by
  rw [yS rfl (by decide) (by decide)]
  exact N60 27 k (by omega)
theorem y62 (n : Nat) : DX62 (Y (n + 1)) := fun a b ha hb h0 => by
  rw [yS rfl (by decide) (by decide)]
  exact D62 26 a b h0 (by have := dg_lt ha; omega) (by have := dg_lt hb; omega)
theorem y52 (n : Nat) : RX52 (Y (n + 1)) := fun a b ha hb => by
  rw [yS rfl (by decide) (by decide)]
  have := N52 24 false a b (by have := dg_lt ha; omega) (by have := dg_lt hb; omega)
  rw [frD_X] at this
  exact this
theorem y68 (n : Nat) (a b : Rat) (ha : SZ 20000 a) (hb : SZ 20000 b) (h0 : b.num ≠ 0) : Y (n + 1) 68 [frX a, frX b] = some (.nd .tu [frX (a / b), iv 0]) := by
  rw [yS rfl (by decide) (by decide)]
  have e : S 30 68 [frD a, frD b] = some (.nd .tu [frD (a / b), iv 0]) := by
    rw [sdB (mf := c68) rfl, f68 _ _ (S12 24) (U27' 23) a b (ha.mono (by omega)) (hb.mono (by omega)), if_neg h0]
  rwa [frD_X, frD_X, frD_X] at e
theorem y28 (k : Nat) (q : Rat) (n d : Nat) (hn : q.num = n) (hd : q.den = d) (h1 : 1 ≤ n) (h2 : n < 100) (h3 : d < 100) : Y (k + 1) 28 [frX q] = some (.v (.string (txQ n d))) := by
  rw [yS rfl (by decide) (by decide)]
  exact T28 23 q n d hn hd h1 h2 h3
/-! ### by evaluation -/
def litD (n : Nat) : D := if n = 0 then .nd .ag [.nd (.sl true 1 0) []] else .nd .ag [.nd (.sl false 1 1) [.v (.int .u32 n)]]
theorem nX_lit {n : Nat} (h : n < 1000000) : nX n = litD n := by
  unfold litD
  split
  · rename_i h0; subst h0; rfl
  · rename_i h0
    have e1 : nb n = false := by unfold nb; simpa using h0
    have e2 : nl n = [(n : Int)] := by
      unfold nl
      rw [dg_small (by unfold BB; omega), if_neg h0]; rfl
    show T.nd .ag [gsl (eI .u32) (nb n) (nl n)] = _
    rw [e1, e2]; rfl
theorem l78 {m a n r : Nat} (ha : a < 1000000) (hr : r < 1000000) (h : semW baseZ tbl 1000000 12 78 [litD a, iv n] = some (.nd .tu [litD r, iv 0])) : Y (m + 1) 78 [nX a, iv n] = some (.nd .tu [nX r, iv 0]) := by
  rw [yQ rfl (by decide) (by decide), nX_lit ha, nX_lit hr]; exact h
theorem l77 {m a n r : Nat} (hr : r < 1000000) (h : semW baseZ tbl 1000000 12 77 [iv a, iv n] = some (.nd .tu [litD r, iv 0])) : Y (m + 1) 77 [iv a, iv n] = some (.nd .tu [nX r, iv 0]) := by
  rw [yQ rfl (by decide) (by decide), nX_lit hr]; exact h
/-- How many functions are onto. -/
def surjN : Nat → Nat → Nat
  | 0, 0 => 1
  | 0, _ + 1 => 0
  | _ + 1, 0 => 0
  | n + 1, k + 1 => (k + 1) * (surjN n (k + 1) + surjN n k)
theorem y78 (m a n : Nat) (ha : a < 5) (hn : n < 6) : Y (m + 1) 78 [nX a, iv n] = some (.nd .tu [nX (a ^ n), iv 0]) := by
  match a, n, ha, hn with
  | 0, 0, _, _ => exact l78 (r := 1) (by decide) (by decide) p78_0_0
  | 0, 1, _, _ => exact l78 (r := 0) (by decide) (by decide) p78_0_1
  | 0, 2, _, _ => exact l78 (r := 0) (by decide) (by decide) p78_0_2
  | 0, 3, _, _ => exact l78 (r := 0) (by decide) (by decide) p78_0_3
  | 0, 4, _, _ => exact l78 (r := 0) (by decide) (by decide) p78_0_4
  | 0, 5, _, _ => exact l78 (r := 0) (by decide) (by decide) p78_0_5
  | 1, 0, _, _ => exact l78 (r := 1) (by decide) (by decide) p78_1_0
  | 1, 1, _, _ => exact l78 (r := 1) (by decide) (by decide) p78_1_1
  | 1, 2, _, _ => exact l78 (r := 1) (by decide) (by decide) p78_1_2
  | 1, 3, _, _ => exact l78 (r := 1) (by decide) (by decide) p78_1_3
  | 1, 4, _, _ => exact l78 (r := 1) (by decide) (by decide) p78_1_4
  | 1, 5, _, _ => exact l78 (r := 1) (by decide) (by decide) p78_1_5
  | 2, 0, _, _ => exact l78 (r := 1) (by decide) (by decide) p78_2_0
  | 2, 1, _, _ => exact l78 (r := 2) (by decide) (by decide) p78_2_1
  | 2, 2, _, _ => exact l78 (r := 4) (by decide) (by decide) p78_2_2
  | 2, 3, _, _ => exact l78 (r := 8) (by decide) (by decide) p78_2_3
  | 2, 4, _, _ => exact l78 (r := 16) (by decide) (by decide) p78_2_4
  | 2, 5, _, _ => exact l78 (r := 32) (by decide) (by decide) p78_2_5
  | 3, 0, _, _ => exact l78 (r := 1) (by decide) (by decide) p78_3_0
  | 3, 1, _, _ => exact l78 (r := 3) (by decide) (by decide) p78_3_1
  | 3, 2, _, _ => exact l78 (r := 9) (by decide) (by decide) p78_3_2
  | 3, 3, _, _ => exact l78 (r := 27) (by decide) (by decide) p78_3_3
  | 3, 4, _, _ => exact l78 (r := 81) (by decide) (by decide) p78_3_4
  | 3, 5, _, _ => exact l78 (r := 243) (by decide) (by decide) p78_3_5
  | 4, 0, _, _ => exact l78 (r := 1) (by decide) (by decide) p78_4_0
  | 4, 1, _, _ => exact l78 (r := 4) (by decide) (by decide) p78_4_1
  | 4, 2, _, _ => exact l78 (r := 16) (by decide) (by decide) p78_4_2
  | 4, 3, _, _ => exact l78 (r := 64) (by decide) (by decide) p78_4_3
  | 4, 4, _, _ => exact l78 (r := 256) (by decide) (by decide) p78_4_4
  | 4, 5, _, _ => exact l78 (r := 1024) (by decide) (by decide) p78_4_5
  | _ + 5, _, h, _ => omega
  | _, _ + 6, _, h => omega
theorem y77 (m n k : Nat) (h1 : 1 ≤ n) (h2 : n < 6) (hk : k ≤ n) (hk4 : k < 5) : Y (m + 1) 77 [iv n, iv k] = some (.nd .tu [nX (surjN n k), iv 0]) := by
  match n, k, h1, h2, hk, hk4 with
  | 1, 0, _, _, _, _ => exact l77 (r := 0) (by decide) p77_1_0
  | 1, 1, _, _, _, _ => exact l77 (r := 1) (by decide) p77_1_1
  | 2, 0, _, _, _, _ => exact l77 (r := 0) (by decide) p77_2_0
  | 2, 1, _, _, _, _ => exact l77 (r := 1) (by decide) p77_2_1
  | 2, 2, _, _, _, _ => exact l77 (r := 2) (by decide) p77_2_2
  | 3, 0, _, _, _, _ => exact l77 (r := 0) (by decide) p77_3_0
  | 3, 1, _, _, _, _ => exact l77 (r := 1) (by decide) p77_3_1
  | 3, 2, _, _, _, _ => exact l77 (r := 6) (by decide) p77_3_2
  | 3, 3, _, _, _, _ => exact l77 (r := 6) (by decide) p77_3_3
  | 4, 0, _, _, _, _ => exact l77 (r := 0) (by decide) p77_4_0
  | 4, 1, _, _, _, _ => exact l77 (r := 1) (by decide) p77_4_1
  | 4, 2, _, _, _, _ => exact l77 (r := 14) (by decide) p77_4_2
  | 4, 3, _, _, _, _ => exact l77 (r := 36) (by decide) p77_4_3
  | 4, 4, _, _, _, _ => exact l77 (r := 24) (by decide) p77_4_4
  | 5, 0, _, _, _, _ => exact l77 (r := 0) (by decide) p77_5_0
  | 5, 1, _, _, _, _ => exact l77 (r := 1) (by decide) p77_5_1
  | 5, 2, _, _, _, _ => exact l77 (r := 30) (by decide) p77_5_2
  | 5, 3, _, _, _, _ => exact l77 (r := 150) (by decide) p77_5_3
  | 5, 4, _, _, _, _ => exact l77 (r := 240) (by decide) p77_5_4
  | 1, 2, _, _, h, _ => omega
  | 1, 3, _, _, h, _ => omega
  | 1, 4, _, _, h, _ => omega
  | 2, 3, _, _, h, _ => omega
  | 2, 4, _, _, h, _ => omega
  | 3, 4, _, _, h, _ => omega
  | 0, _, h, _, _, _ => omega
  | _ + 6, _, _, h, _, _ => omega
  | _, _ + 5, _, _, _, h => omega
theorem y50 (m : Nat) (l : List Int) (h : l ∈ smps) : Y (m + 1) 50 [si false l] = some (.nd .tu [.nd .ag [iv (sumT l), iv (l.length : Int), si false (frqT l)], iv 0]) := by
  rw [yQ rfl (by decide) (by decide)]
  exact p50 l h
theorem y72 (m : Nat) : Y (m + 1) 72 [iv 3, iv 2, si false [3, 2]] = some (iv 0) := by
  rw [yQ rfl (by decide) (by decide)]
  exact p72
end Go.Mx
namespace Go.Mx
set_option linter.unusedVariables false
set_option linter.unusedSimpArgs false
set_option linter.unusedSectionVars false
open Go

def chT (n D d : Nat) : Rat := if n < d ∨ D < d then mkRat 0 1 else mkRat ((binT D (min d (D - d)) * surjN n d : Nat) : Int) (D ^ n)
def powQ (x : Rat) (n : Nat) : Rat := mkRat ((x.num.natAbs ^ n : Nat) : Int) (x.den ^ n)
def misT (n D : Nat) : Rat := powQ (mkRat 1 1 - mkRat 1 D) n
def meaT (n D : Nat) : Rat := mkRat D 1 * (mkRat 1 1 - misT n D)
def sinT (n D : Nat) : Rat := mkRat n 1 * misT (n - 1) D
def oldT (n D : Nat) : Rat := mkRat 1 1 - (meaT n D - meaT (n - 1) D)
def smlB (q : Rat) : Bool := decide (q.num.natAbs < 1000000000000) && decide (q.den < 1000000000000)
theorem smlB.sz {q : Rat} (h : smlB q = true) : SZ 20000 q := by
  unfold smlB at h
  rw [Bool.and_eq_true, decide_eq_true_eq, decide_eq_true_eq] at h
  have h1 := dg_lt h.1
  have h2 := dg_lt h.2
  exact ⟨by omega, by omega⟩
/-- In all ways, the sample is one of the known; the numbers are those that are said. -/
def allB (k d ways : Nat) : Bool :=
  ((List.range ways).all fun w => smps.contains (smW k d w) && decide ((smW k d w).length ≤ k)) && decide (mkRat (otT k d ways).seen ways = meaT k d) && decide (mkRat (otT k d ways).one ways = sinT k d) && decide ((otT k d ways).cov * mkRat 1 ways = oldT k d)
  && ((List.range (k + 1)).all fun i => decide (nth (dstT (chT k d) (k + 1)) 0 i = mkRat (nth (otT k d ways).cnt 0 i) ways)) && smlB (meaT k d) && smlB (sinT k d) && smlB (oldT k d) && smlB (meaT (k - 1) d) && smlB (meaT k d - meaT (k - 1) d)
theorem all_1_1 : allB 1 1 1 = true := by decide +kernel
theorem all_1_2 : allB 1 2 2 = true := by decide +kernel
theorem all_1_3 : allB 1 3 3 = true := by decide +kernel
theorem all_1_4 : allB 1 4 4 = true := by decide +kernel
theorem all_2_1 : allB 2 1 1 = true := by decide +kernel
theorem all_2_2 : allB 2 2 4 = true := by decide +kernel
theorem all_2_3 : allB 2 3 9 = true := by decide +kernel
theorem all_2_4 : allB 2 4 16 = true := by decide +kernel
theorem all_3_1 : allB 3 1 1 = true := by decide +kernel
theorem all_3_2 : allB 3 2 8 = true := by decide +kernel
theorem all_3_3 : allB 3 3 27 = true := by decide +kernel
theorem all_3_4 : allB 3 4 64 = true := by decide +kernel
theorem all_4_1 : allB 4 1 1 = true := by decide +kernel
theorem all_4_2 : allB 4 2 16 = true := by decide +kernel
theorem all_4_3 : allB 4 3 81 = true := by decide +kernel
theorem all_4_4 : allB 4 4 256 = true := by decide +kernel
theorem all_5_1 : allB 5 1 1 = true := by decide +kernel
theorem all_5_2 : allB 5 2 32 = true := by decide +kernel
theorem all_5_3 : allB 5 3 243 = true := by decide +kernel
theorem all_5_4 : allB 5 4 1024 = true := by decide +kernel
theorem smp_all : (smps.all fun l => decide (1 ≤ sumT l ∧ sumT l ≤ 5 ∧ 0 ≤ nth (frqT l) 0 0 ∧ nth (frqT l) 0 0 ≤ 5 ∧ 0 < (frqT l).length ∧ 0 < l.length)) = true := by decide +kernel
theorem mis_small : (List.range 5).all (fun D => (List.range 6).all fun n => smlB (misT n D) && smlB (mkRat 1 1 - misT n D) && smlB (mkRat 1 1 - mkRat 1 D) && decide ((mkRat 1 1 - mkRat 1 D).num.natAbs < 5) && decide ((mkRat 1 1 - mkRat 1 D).den < 5)) = true := by decide +kernel
end Go.Mx
namespace Go.Mx
set_option linter.unusedVariables false
set_option linter.unusedSimpArgs false
set_option linter.unusedSectionVars false
open Go

theorem FU_15 : 1500 < FU := Nat.lt_trans (by decide) FU_9
theorem y55 (m : Nat) (n d : Int) (h1 : 0 ≤ n) (h2 : n ≤ 30) (h3 : 1 ≤ d) (h4 : d ≤ 60) : Y (m + 1) 55 [iv n, iv d] = some (iv 0) := by
  rw [yF (mf := c55) rfl]; exact f55 _ _ n d h1 h2 h3 h4
theorem y89 (m : Nat) (n h : Int) (h1 : 0 ≤ n) (h2 : n ≤ h) : Y (m + 1) 89 [iv n, iv h] = some (.v (.bool true)) := by
  rw [yF (mf := c89) rfl]; exact f89 _ _ n h h1 h2
theorem y103 (m : Nat) : OX103 (Y (m + 2)) := fun n h => by
  rw [yF (mf := c103) rfl]; exact f103 _ _ (y60 m) n h
theorem y90 (m n k : Nat) (hn : n ≤ 4) (hk : k ≤ n) : Y (m + 3) 90 [iv n, iv k] = some (nX (binT n (min k (n - k)))) := by
  rw [yF (mf := c90) rfl]
  exact f90 _ _ FU_3 (y103 m) (y35 (m + 1)) (y62 (m + 1)) n k _ (by omega) hk rfl (by omega)
theorem y76 (m n k : Nat) (hn : n ≤ 4) (hk : k ≤ n) : Y (m + 4) 76 [iv n, iv k] = some (.nd .tu [nX (binT n (min k (n - k))), iv 0]) := by
  rw [yF (mf := c76) rfl]
  exact f76 _ _ n k _ (by omega) (y89 (m + 2) _ _ (by omega) (by omega)) (y90 m n k hn hk)
theorem den_nb (q : Rat) : nb q.den = false := by
  have := q.den_nz
  unfold nb; simpa using this
theorem y79 (m : Nat) (x : Rat) (n : Nat) (h1 : x.num.natAbs < 5) (h2 : x.den < 5) (hn : n < 6) : Y (m + 2) 79 [frX x, iv n] = some (frX (powQ x n)) := by
  rw [yB (mf := c79) rfl]
  have e1 := y78 m x.num.natAbs n h1 hn
  have e2 := y78 m x.den n h2 hn
  have p1 : x.num.natAbs ^ n ≤ 4 ^ 5 := Nat.le_trans (Nat.pow_le_pow_left (show _ ≤ 4 by omega) n) (Nat.pow_le_pow_right (by decide) (by omega))
  have p2 : x.den ^ n ≤ 4 ^ 5 := Nat.le_trans (Nat.pow_le_pow_left (show _ ≤ 4 by omega) n) (Nat.pow_le_pow_right (by decide) (by omega))
  have e3 := y52 m (x.num.natAbs ^ n) (x.den ^ n) (by omega) (by omega)
  have e2' : Y (m + 1) 78 [.nd .ag [gsl (eI .u32) false (qm x)], iv n] = some (.nd .tu [nX (x.den ^ n), iv 0]) := by
    have : nX x.den = .nd .ag [gsl (eI .u32) false (qm x)] := by
      show T.nd .ag [gsl (eI .u32) (nb x.den) (nl x.den)] = _
      rw [den_nb]; rfl
    rw [← this]; exact e2
  exact f79 _ _ x _ n _ _ _ _ e1 e2' e3
theorem mis_at {n D : Nat} (hD : D < 5) (hn : n < 6) : smlB (misT n D) = true ∧ smlB (mkRat 1 1 - misT n D) = true ∧ smlB (mkRat 1 1 - mkRat 1 D) = true ∧ (mkRat 1 1 - mkRat 1 D).num.natAbs < 5 ∧ (mkRat 1 1 - mkRat 1 D).den < 5 := by
  have h := mis_small
  rw [List.all_eq_true] at h
  have h := h D (List.mem_range.2 hD)
  rw [List.all_eq_true] at h
  have h := h n (List.mem_range.2 hn)
  simp only [Bool.and_eq_true, decide_eq_true_eq] at h
  exact ⟨h.1.1.1.1, h.1.1.1.2, h.1.1.2, h.1.2, h.2⟩
theorem sz1 {n : Int} {d : Nat} (h1 : -1000000 < n) (h2 : n < 1000000) (h3 : d < 1000000) : SZ 20000 (mkRat n d) := (SZ.rat (by omega) (by omega) (by omega)).mono (by omega)
theorem y57 (m n D : Nat) (h1 : 1 ≤ D) (hD : D < 5) (hn : n < 6) : Y (m + 3) 57 [iv n, frX (mkRat 1 D)] = some (frX (misT n D)) := by
  rw [yB (mf := c57) rfl]
  obtain ⟨_, _, _, h4, h5⟩ := mis_at hD hn
  exact f57 _ _ _ (mkRat 1 1) (mkRat 1 1 - mkRat 1 D) _ n (y7 (m + 1) 1 1 (by omega) (by omega) (by omega) (by omega)) (y26 (m + 1) _ _ (sz1 (by omega) (by omega) (by omega)) (sz1 (by omega) (by omega) (by omega))) (y79 m _ n h4 h5 hn)
theorem y24 (m n D : Nat) (h1 : 1 ≤ D) (hD : D < 5) (hn : n < 6) : Y (m + 4) 24 [iv n, iv D] = some (.nd .tu [frX (meaT n D), iv 0]) := by
  rw [yF (mf := c24) rfl]
  obtain ⟨h2, h3, _⟩ := mis_at hD hn
  exact f24 _ _ n D (mkRat 1 1) (mkRat 1 D) (misT n D) (mkRat 1 1 - misT n D) (mkRat D 1) _ (y55 (m + 2) _ _ (by omega) (by omega) (by omega) (by omega)) (y7 (m + 2) 1 1 (by omega) (by omega) (by omega) (by omega)) (y7 (m + 2) 1 D (by omega) (by omega) (by omega) (by omega)) (y57 m n D h1 hD hn)
    (y26 (m + 2) _ _ (sz1 (by omega) (by omega) (by omega)) (smlB.sz h2)) (y7 (m + 2) D 1 (by omega) (by omega) (by omega) (by omega)) (y27 (m + 2) _ _ (sz1 (by omega) (by omega) (by omega)) (smlB.sz h3))
theorem y25 (m n D : Nat) (h1 : 1 ≤ D) (hD : D < 5) (h0 : 1 ≤ n) (hn : n < 6) : Y (m + 4) 25 [iv n, iv D] = some (.nd .tu [frX (sinT n D), iv 0]) := by
  rw [yF (mf := c25) rfl]
  obtain ⟨h2, _⟩ := mis_at hD (show n - 1 < 6 by omega)
  have hw : IntKind.i64.wrap ((n : Int) - 1) = ((n - 1 : Nat) : Int) := by rw [wrap_eq (by unfold I64; omega)]; omega
  exact f25 _ _ n D _ hw (by omega) (mkRat n 1) (mkRat 1 D) (misT (n - 1) D) _ (y55 (m + 2) _ _ (by omega) (by omega) (by omega) (by omega)) (y7 (m + 2) n 1 (by omega) (by omega) (by omega) (by omega)) (y7 (m + 2) 1 D (by omega) (by omega) (by omega) (by omega)) (y57 m (n - 1) D h1 hD (by omega))
    (y27 (m + 2) _ _ (sz1 (by omega) (by omega) (by omega)) (smlB.sz h2))
theorem bin_small : (List.range 5).all (fun n => (List.range 5).all fun k => decide (binT n (min k (n - k)) < 1000)) = true := by decide +kernel
theorem sur_small : (List.range 6).all (fun n => (List.range 6).all fun k => decide (surjN n k < 1000)) = true := by decide +kernel
theorem y56 (m n D d : Nat) (h0 : 1 ≤ n) (hn : n < 6) (h1 : 1 ≤ D) (hD : D < 5) : Y (m + 5) 56 [iv n, iv D, iv d] = some (frX (chT n D d)) := by
  rw [yF (mf := c56) rfl]
  unfold chT
  by_cases h : n < d ∨ D < d
  · rw [if_pos h]
    exact f56z _ _ n D d (by omega) _ (y7 (m + 3) 0 1 (by omega) (by omega) (by omega) (by omega))
  · rw [if_neg h]
    have b1 : binT D (min d (D - d)) < 1000 := by
      have h := bin_small
      rw [List.all_eq_true] at h
      have h := h D (List.mem_range.2 hD)
      rw [List.all_eq_true] at h
      exact of_decide_eq_true (h d (List.mem_range.2 (by omega)))
    have b2 : surjN n d < 1000 := by
      have h := sur_small
      rw [List.all_eq_true] at h
      have h := h n (List.mem_range.2 hn)
      rw [List.all_eq_true] at h
      exact of_decide_eq_true (h d (List.mem_range.2 (by omega)))
    have b3 : binT D (min d (D - d)) * surjN n d ≤ 1000 * 1000 := Nat.mul_le_mul (by omega) (by omega)
    have p2 : D ^ n ≤ 4 ^ 5 := Nat.le_trans (Nat.pow_le_pow_left (show _ ≤ 4 by omega) n) (Nat.pow_le_pow_right (by decide) (by omega))
    exact f56 _ _ n D d (by omega) (wrap64 (by omega)) _ _ _ _ _ _ _ _ _ _ _ (y76 m D d (by omega) (by omega)) (y77 (m + 3) n d h0 hn (by omega) (by omega)) (y60 (m + 3) D (by omega)) (y78 (m + 3) D n hD hn) (y35 (m + 3) _ _ (by omega) (by omega)) (y52 (m + 3) _ _ (by omega) (by omega))
theorem y23 (m n D : Nat) (h0 : 1 ≤ n) (hn : n < 6) (h1 : 1 ≤ D) (hD : D < 5) : Y (m + 6) 23 [iv n, iv D] = some (.nd .tu [sf (neB (dstT (chT n D) (n + 1))) (dstT (chT n D) (n + 1)), iv 0]) := by
  rw [yF (mf := c23) rfl]
  exact f23 _ _ FU_3 n D (n + 1) (wrap_eq (by unfold I64; omega)) (chT n D) (by omega) (fun d _ => y56 m n D d h0 hn h1 hD) (y55 (m + 4) _ _ (by omega) (by omega) (by omega) (by omega))
theorem y46 (m D : Nat) (h1 : 1 ≤ D) (hD : D < 5) : Y (m + 6) 46 [iv 3, iv D, iv 2] = some (.nd .tu [frX (chT 3 D 2), iv 0]) := by
  rw [yF (mf := c46) rfl]
  exact f46 _ _ 3 D 2 _ (y55 (m + 4) _ _ (by omega) (by omega) (by omega) (by omega)) (y56 m 3 D 2 (by omega) (by omega) h1 hD)
theorem y71 (m : Nat) (n l h : Int) (h1 : l ≤ n) (h2 : n ≤ h) : Y (m + 1) 71 [iv n, iv l, iv h] = some (.v (.bool true)) := by
  rw [yF (mf := c71) rfl]; exact f71 _ _ n l h h1 h2
theorem mea_sml : smlB (meaT 1 2) = true ∧ smlB (meaT 2 2) = true ∧ smlB (chT 3 3 2) = true ∧ smlB (chT 3 2 2) = true := by decide +kernel
theorem y47 (m : Nat) : Y (m + 5) 47 [iv 1, iv 2, iv 1] = some (.nd .tu [frX (meaT 2 2 - meaT 1 2), iv 0]) := by
  rw [yF (mf := c47) rfl]
  exact f47 _ _ (meaT 1 2) (meaT 2 2) _ (y71 (m + 3) _ _ _ (by omega) (by omega)) (y71 (m + 3) _ _ _ (by omega) (by omega)) (y71 (m + 3) _ _ _ (by omega) (by omega)) (y24 m 1 2 (by omega) (by omega) (by omega)) (y24 m 2 2 (by omega) (by omega) (by omega)) (y26 (m + 3) _ _ (smlB.sz mea_sml.2.1) (smlB.sz mea_sml.1))
theorem smp_at {l : List Int} (h : l ∈ smps) : 1 ≤ sumT l ∧ sumT l ≤ 5 ∧ 0 ≤ nth (frqT l) 0 0 ∧ nth (frqT l) 0 0 ≤ 5 ∧ 0 < (frqT l).length ∧ 0 < l.length := by
  have h1 := smp_all
  rw [List.all_eq_true] at h1
  exact of_decide_eq_true (h1 l h)
theorem y51 (m : Nat) (n d : Int) (fs : List Int) (h : 0 < fs.length) : Y (m + 1) 51 [.nd .ag [iv n, iv d, si false fs]] = some (iv (nth fs 0 0)) := by
  rw [yB (mf := c51) rfl]; exact f51 _ _ n d fs h
theorem y21 (m : Nat) (l : List Int) (h : l ∈ smps) : Y (m + 2) 21 [si false l] = some (.nd .tu [frX (covT l), iv 0]) := by
  rw [yF (mf := c21) rfl]
  obtain ⟨h1, h2, h3, h4, h5, h6⟩ := smp_at h
  have e7 := y7 m (sumT l - nth (frqT l) 0 0) (sumT l).toNat (by omega) (by omega) (by omega) (by omega)
  rw [show (((sumT l).toNat : Nat) : Int) = sumT l by omega] at e7
  exact f21 _ _ false l (frqT l) (sumT l) l.length (nth (frqT l) 0 0) (sumT l - nth (frqT l) 0 0) (wrap_eq (by unfold I64; omega)) (covT l) (y50 m l h) (y51 m _ _ _ h5) e7
theorem y48 (m : Nat) : Y (m + 2) 48 [si false [1, 3, 1]] = some (.nd .tu [frX (mkRat 15 3), iv 0]) := by
  rw [yF (mf := c48) rfl]
  have h : ([1, 3, 1] : List Int) ∈ smps := by decide
  exact f48 _ _ false [1, 3, 1] [2, 0, 1] 5 3 2 3 15 (by decide) (by decide) (by decide) (mkRat 15 3) (y50 m [1, 3, 1] h) (y51 m 5 3 [2, 0, 1] (by decide)) (y7 m 15 3 (by omega) (by omega) (by omega) (by omega))
theorem y49 (m : Nat) : Y (m + 7) 49 [iv 3, iv 2, iv 3, iv 2] = some (.nd .tu [frX (chT 3 3 2 / chT 3 2 2), iv 0]) := by
  rw [yF (mf := c49) rfl]
  exact f49 _ _ (chT 3 3 2) (chT 3 2 2) _ (y72 (m + 5)) (y46 m 3 (by omega) (by omega)) (y46 m 2 (by omega) (by omega)) (y68 (m + 5) _ _ (smlB.sz mea_sml.2.2.1) (smlB.sz mea_sml.2.2.2) (by decide +kernel))
theorem tx_list2 (a b : Nat) (ha : a < 10) (hb : b < 10) (hb1 : b ≠ 1) : (txQ a b).toList = [UInt8.ofNat (48 + a), 47, UInt8.ofNat (48 + b)] := by
  have e : txQ a b = bsL [UInt8.ofNat (48 + a), 47, UInt8.ofNat (48 + b)] := by
    unfold txQ txD
    rw [if_neg hb1, if_pos ha, if_pos hb]
    apply ByteArray.ext
    simp [bsL]
  rw [e, bsL_list]
theorem y20 (m : Nat) : Y (m + 8) 20 [] = some (.v (.bool true)) := by
  rw [yF (mf := c20) rfl]
  refine f20 _ _ (chT 3 2 2) (meaT 2 2 - meaT 1 2) (mkRat 15 3) (chT 3 3 2 / chT 3 2 2) _ _ _ _ (y46 (m + 1) 2 (by omega) (by omega)) (y47 (m + 2)) (y48 (m + 5)) (y49 m)
    (y28 (m + 6) _ 3 4 (by decide +kernel) (by decide +kernel) (by decide) (by decide) (by decide)) (y28 (m + 6) _ 1 2 (by decide +kernel) (by decide +kernel) (by decide) (by decide) (by decide)) (y28 (m + 6) _ 5 1 (by decide +kernel) (by decide +kernel) (by decide) (by decide) (by decide)) (y28 (m + 6) _ 8 9 (by decide +kernel) (by decide +kernel) (by decide) (by decide) (by decide))
    (tx_list2 3 4 (by decide) (by decide) (by decide)) (tx_list2 1 2 (by decide) (by decide) (by decide)) ?_ (tx_list2 8 9 (by decide) (by decide) (by decide))
  rw [show txQ 5 1 = bsL [53] from rfl, bsL_list]
theorem outc (k d ways : Nat) (h0 : 1 ≤ k) (hk : k < 6) (h1 : 1 ≤ d) (hd : d < 5) (hways : d ^ k = ways) (hall : allB k d ways = true) (a0 a1 r0 r1 : Int)
    (ha0 : IntKind.i64.wrap a0 = a0) (ha1 : IntKind.i64.wrap a1 = a1) (hr0 : a0.tmod 5 = r0) (hr1 : a1.tmod 4 = r1) (hk' : 1 + r0 = (k : Int)) (hd' : 1 + r1 = (d : Int)) :
    Y 9 5 [.v (.int .u8 a0), .v (.int .u8 a1)] = some (.v (.bool true)) := by
  rw [yF (mf := c5) rfl]
  unfold allB at hall
  simp only [Bool.and_eq_true, decide_eq_true_eq, List.all_eq_true, List.mem_range, List.contains_iff_mem] at hall
  obtain ⟨⟨⟨⟨⟨⟨⟨⟨⟨g1, g2⟩, g3⟩, g4⟩, g5⟩, s1⟩, s2⟩, s3⟩, s4⟩, s5⟩ := hall
  have hp : d ^ k ≤ 4 ^ 5 := Nat.le_trans (Nat.pow_le_pow_left (show _ ≤ 4 by omega) k) (Nat.pow_le_pow_right (by decide) (by omega))
  have hp0 : 0 < d ^ k := Nat.pow_pos h1
  have hkk : IntKind.i64.wrap ((k : Int) - 1) = ((k - 1 : Nat) : Int) := by rw [wrap_eq (by unfold I64; omega)]; omega
  have hcs : ∀ w, w < ways → SZ 2 (covT (smW k d w)) := fun w hw => by
    obtain ⟨q1, q2, q3, q4, q5, q6⟩ := smp_at (g1 w hw).1
    unfold covT
    exact SZ.rat (by omega) (by omega) (by omega)
  obtain ⟨_, _, _, _, b5⟩ := ot_bnd (k := k) (show d ≤ 4 by omega) ways hcs
  have sq : SZ 20000 (mkRat 1 ways) := sz1 (by omega) (by omega) (by omega)
  have e27 := y27 7 (otT k d ways).cov (mkRat 1 ways) (b5.mono (by omega)) sq
  rw [g4] at e27
  refine f5 _ _ FU_15 (y7 7) (y11 7) (y22 7) a0 a1 r0 r1 _ k d ways h1 (by omega) (by omega) hways (by omega) (by omega) ha0 ha1 hr0 hr1 (wrap_eq (by unfold I64; omega)) (wrap_eq (by unfold I64; omega)) (by rw [hk']; exact wrap_eq (by unfold I64; omega)) (by rw [hd']; exact wrap_eq (by unfold I64; omega)) hkk (y20 0)
    (fun w hw => ?_) hcs (fun w hw => (g1 w hw).2) (dstT (chT k d) (k + 1)) _ (by simp [dstT]) (fun i hi => g5 i (by omega)) (meaT k d) (meaT (k - 1) d) (sinT k d) (meaT k d - meaT (k - 1) d) (mkRat 1 1) (oldT k d) (mkRat 1 ways) (smlB.sz s1) (smlB.sz s2) (smlB.sz s3)
    (y23 2 k d h0 hk h1 hd) (y24 4 k d h1 hd hk) (y24 4 (k - 1) d h1 hd (by omega)) (y25 4 k d h1 hd h0 hk) (y7 7 1 1 (by omega) (by omega) (by omega) (by omega)) (y26 7 _ _ (smlB.sz s1) (smlB.sz s4)) (y26 7 _ _ (sz1 (by omega) (by omega) (by omega)) (smlB.sz s5)) g2 g3 (y7 7 1 ways (by omega) (by omega) (by omega) (by omega)) e27
  obtain ⟨q1, q2, q3, q4, q5, q6⟩ := smp_at (g1 w hw).1
  rw [decide_eq_false (show ¬ (smW k d w).length = 0 by omega)]
  exact y21 6 _ (g1 w hw).1
theorem outcomesD (a0 : Int) (w0 : (Lit.int .u8 a0).wf = true) (a1 : Int) (w1 : (Lit.int .u8 a1).wf = true) : Y 9 5 [.v (.int .u8 a0), .v (.int .u8 a1)] = some (.v (.bool true)) := by
  have h0 : 0 ≤ a0 ∧ a0 < 256 := by
    simp [Lit.wf, IntKind.min, IntKind.max, IntKind.signed, IntKind.bits] at w0
    omega
  have h1 : 0 ≤ a1 ∧ a1 < 256 := by
    simp [Lit.wf, IntKind.min, IntKind.max, IntKind.signed, IntKind.bits] at w1
    omega
  have ha0 : IntKind.i64.wrap a0 = a0 := wrap_eq (by unfold I64; omega)
  have ha1 : IntKind.i64.wrap a1 = a1 := wrap_eq (by unfold I64; omega)
  have e0 : a0.tmod 5 = a0 % 5 := Int.tmod_eq_emod_of_nonneg h0.1
  have e1 : a1.tmod 4 = a1 % 4 := Int.tmod_eq_emod_of_nonneg h1.1
  have c0 : a0 % 5 = 0 ∨ a0 % 5 = 1 ∨ a0 % 5 = 2 ∨ a0 % 5 = 3 ∨ a0 % 5 = 4 := by omega
  have c1 : a1 % 4 = 0 ∨ a1 % 4 = 1 ∨ a1 % 4 = 2 ∨ a1 % 4 = 3 := by omega
  have go : ∀ (k d ways : Nat) (r0 r1 : Int), 1 ≤ k → k < 6 → 1 ≤ d → d < 5 → d ^ k = ways → allB k d ways = true → a0 % 5 = r0 → a1 % 4 = r1 → 1 + r0 = (k : Int) → 1 + r1 = (d : Int) → Y 9 5 [.v (.int .u8 a0), .v (.int .u8 a1)] = some (.v (.bool true)) :=
    fun k d ways r0 r1 g1 g2 g3 g4 g5 g6 g7 g8 g9 g10 => outc k d ways g1 g2 g3 g4 g5 g6 a0 a1 r0 r1 ha0 ha1 (by rw [e0, g7]) (by rw [e1, g8]) g9 g10
  rcases c0 with c0 | c0 | c0 | c0 | c0 <;> rcases c1 with c1 | c1 | c1 | c1
  · exact go 1 1 1 _ _ (by decide) (by decide) (by decide) (by decide) (by decide) all_1_1 c0 c1 rfl rfl
  · exact go 1 2 2 _ _ (by decide) (by decide) (by decide) (by decide) (by decide) all_1_2 c0 c1 rfl rfl
  · exact go 1 3 3 _ _ (by decide) (by decide) (by decide) (by decide) (by decide) all_1_3 c0 c1 rfl rfl
  · exact go 1 4 4 _ _ (by decide) (by decide) (by decide) (by decide) (by decide) all_1_4 c0 c1 rfl rfl
  · exact go 2 1 1 _ _ (by decide) (by decide) (by decide) (by decide) (by decide) all_2_1 c0 c1 rfl rfl
  · exact go 2 2 4 _ _ (by decide) (by decide) (by decide) (by decide) (by decide) all_2_2 c0 c1 rfl rfl
  · exact go 2 3 9 _ _ (by decide) (by decide) (by decide) (by decide) (by decide) all_2_3 c0 c1 rfl rfl
  · exact go 2 4 16 _ _ (by decide) (by decide) (by decide) (by decide) (by decide) all_2_4 c0 c1 rfl rfl
  · exact go 3 1 1 _ _ (by decide) (by decide) (by decide) (by decide) (by decide) all_3_1 c0 c1 rfl rfl
  · exact go 3 2 8 _ _ (by decide) (by decide) (by decide) (by decide) (by decide) all_3_2 c0 c1 rfl rfl
  · exact go 3 3 27 _ _ (by decide) (by decide) (by decide) (by decide) (by decide) all_3_3 c0 c1 rfl rfl
  · exact go 3 4 64 _ _ (by decide) (by decide) (by decide) (by decide) (by decide) all_3_4 c0 c1 rfl rfl
  · exact go 4 1 1 _ _ (by decide) (by decide) (by decide) (by decide) (by decide) all_4_1 c0 c1 rfl rfl
  · exact go 4 2 16 _ _ (by decide) (by decide) (by decide) (by decide) (by decide) all_4_2 c0 c1 rfl rfl
  · exact go 4 3 81 _ _ (by decide) (by decide) (by decide) (by decide) (by decide) all_4_3 c0 c1 rfl rfl
  · exact go 4 4 256 _ _ (by decide) (by decide) (by decide) (by decide) (by decide) all_4_4 c0 c1 rfl rfl
  · exact go 5 1 1 _ _ (by decide) (by decide) (by decide) (by decide) (by decide) all_5_1 c0 c1 rfl rfl
  · exact go 5 2 32 _ _ (by decide) (by decide) (by decide) (by decide) (by decide) all_5_2 c0 c1 rfl rfl
  · exact go 5 3 243 _ _ (by decide) (by decide) (by decide) (by decide) (by decide) all_5_3 c0 c1 rfl rfl
  · exact go 5 4 1024 _ _ (by decide) (by decide) (by decide) (by decide) (by decide) all_5_4 c0 c1 rfl rfl
end Go.Mx
