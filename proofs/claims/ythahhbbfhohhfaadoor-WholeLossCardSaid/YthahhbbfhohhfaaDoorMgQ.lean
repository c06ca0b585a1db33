import Derived.Test.YthahhbbfhohhfaaDoorMgM
import Derived.Test.YthahhbbfhohhfaaDoorMgP
import Derived.Lib.Strings
import Derived.Test.YthahhbbfhohhfaaDoorMgA
/-
  Fractions: Sub, Text.
-/
namespace Go.Mx
set_option linter.unusedVariables false
set_option linter.unusedSimpArgs false
set_option linter.unusedSectionVars false
open Go

@[simp] theorem bnd_sadd (st : St) (a b : ByteArray) : bnd .num st .add (.sc (.string a)) (.sc (.string b)) = if a.size + b.size ≤ 65536 then some (.sc (.string (a ++ b))) else none := by
  unfold bnd
  simp only [bin, strBin]
  by_cases h : a.size + b.size ≤ 65536
  · simp only [if_pos h]
  · simp only [if_neg h]
theorem neg_mk (b : Rat) : mkRat (sg (!decide (b.num < 0)) b.num.natAbs) b.den = -b := by
  have e : sg (!decide (b.num < 0)) b.num.natAbs = -(sg (decide (b.num < 0)) b.num.natAbs) := by
    cases decide (b.num < 0) <;> simp [sg]
  rw [e, sg_self, ← Rat.neg_mkRat, Rat.mkRat_self]
theorem SZ.neg {k : Nat} {q : Rat} (h : SZ k q) : SZ k (-q) := by
  constructor
  · rw [Rat.neg_num, Int.natAbs_neg]; exact h.1
  · rw [Rat.neg_den]; exact h.2
def Add22 (call : Oracle) : Prop := ∀ a b : Rat, SZ 20000 a → SZ 20000 b → call 22 [frD a, frD b] = some (frD (a + b))
theorem f26 (call : Oracle) (fuel : Nat) (h58 : Neg58 call) (h22 : Add22 call) (a b : Rat) (ha : SZ 20000 a) (hb : SZ 20000 b) :
    callB call fuel c26 [frD a, frD b] = some (frD (a - b)) := by
  have e1 := h58 (decide (b.num < 0)) b.num.natAbs b.den (by have := hb.1; omega) (by have := hb.2; omega)
  rw [neg_mk] at e1
  have e2 := h22 a (-b) ha hb.neg
  rw [← Rat.sub_eq_add_neg] at e2
  generalize a - b = q at *
  generalize -b = nb at *
  unfold frD fr at *
  rw [callB_tab call fuel c26 K26 _ rfl (by exact Nat.le_of_ble_eq_true rfl) (by exact Nat.le_of_ble_eq_true rfl)]
  clear ha hb h58 h22
  generalize (a.num.natAbs == 0) = z3 at *
  generalize (a.den == 0) = z4 at *
  generalize (b.num.natAbs == 0) = z5 at *
  generalize (b.den == 0) = z6 at *
  generalize (nb.num.natAbs == 0) = y5 at *
  generalize (nb.den == 0) = y6 at *
  generalize (q.num.natAbs == 0) = z1 at *
  generalize (q.den == 0) = z2 at *
  generalize decide (a.num < 0) = z7 at *
  generalize decide (b.num < 0) = z8 at *
  generalize decide (nb.num < 0) = y8 at *
  generalize decide (q.num < 0) = z9 at *
  generalize dg a.num.natAbs = l3 at *
  generalize dg a.den = l4 at *
  generalize dg b.num.natAbs = l5 at *
  generalize dg b.den = l6 at *
  generalize dg nb.num.natAbs = m5 at *
  generalize dg nb.den = m6 at *
  generalize dg q.num.natAbs = l1 at *
  generalize dg q.den = l2 at *
  simp (config := {maxSteps := 2000000}) [c26, K26, e1, e2]
/-- The text of a small positive fraction. -/
def bsL (l : List UInt8) : ByteArray := ⟨l.toArray⟩
def txQ (n d : Nat) : ByteArray := if d = 1 then bsL (txD n) else bsL (txD n) ++ (bsL [47] ++ bsL (txD d))
theorem bsL_size (l : List UInt8) : (bsL l).size = l.length := by
  show l.toArray.size = l.length
  simp
theorem bsL_list (l : List UInt8) : (bsL l).toList = l := by
  rw [Lib.toList_data]
  simp [bsL]
set_option maxHeartbeats 1000000 in
theorem f28 (call : Oracle) (fuel : Nat) (h52 : Nrm52 call) (h59 : Txt59 call) (q : Rat) (n d : Nat) (hn : q.num = n) (hd : q.den = d) (h1 : 1 ≤ n) (h2 : n < 100) (h3 : d < 100) :
    callF call fuel c28 [frD q] = some (.v (.string (txQ n d))) := by
  have hd0 : 1 ≤ d := by rw [← hd]; exact q.den_pos
  have e1 := h52 (decide (q.num < 0)) q.num.natAbs q.den (by rw [hn, Int.natAbs_natCast, dg_one' h1 h2]; simp) (by rw [hd, dg_one' hd0 h3]; simp)
  rw [mkRat_sg] at e1
  have e2 := h59 n h1 h2
  have e3 := h59 d hd0 h3
  unfold frD fr nz at *
  rw [hn, hd] at e1 ⊢
  rw [Int.natAbs_natCast] at e1 ⊢
  have z1 : (n == 0) = false := by simp; omega
  have z2 : (d == 0) = false := by simp; omega
  have z3 : decide ((n : Int) < 0) = false := by simp
  rw [z1] at e1 e2 ⊢
  rw [z2] at e1 e3 ⊢
  rw [z3] at e1 ⊢
  rw [callF_tab call fuel c28 K28 _ (by exact Nat.le_of_ble_eq_true rfl) (by exact Nat.le_of_ble_eq_true rfl)]
  change call 59 [.nd .ag [ul false (dg n)]] = some (.v (.string (bsL (txD n)))) at e2
  change call 59 [.nd .ag [ul false (dg d)]] = some (.v (.string (bsL (txD d)))) at e3
  have hl1 := (txD_len n).1
  have hl2 := (txD_len d).1
  have hs1 : (bsL (txD n)).size = (txD n).length := bsL_size _
  have hs2 : (bsL (txD d)).size = (txD d).length := bsL_size _
  have hs3 : (⟨#[47]⟩ : ByteArray).size = 1 := rfl
  have hs4 : ((⟨#[47]⟩ : ByteArray) ++ bsL (txD d)).size ≤ 3 := by rw [ByteArray.size_append, hs2, hs3]; omega
  have hq : (⟨#[47]⟩ : ByteArray) = bsL [47] := rfl
  have ho : ((bsL (txD d)).toList == (⟨#[49]⟩ : ByteArray).toList) = decide (d = 1) := by
    have : (⟨#[49]⟩ : ByteArray) = bsL [49] := rfl
    rw [this, bsL_list, bsL_list]
    by_cases h : d = 1
    · subst h; rfl
    · rw [decide_eq_false h]
      unfold txD
      split
      · rename_i h10
        have : ∀ k : Nat, k < 10 → k ≠ 1 → ([UInt8.ofNat (48 + k)] == ([49] : List UInt8)) = false := by decide
        exact this d h10 h
      · rename_i h10; simp
  generalize hA : bsL (txD n) = A at *
  generalize hB : bsL (txD d) = B at *
  unfold txQ
  rw [hA, hB]
  clear hA hB h52 h59 hn
  generalize dg n = ln at *
  generalize dg d = ld at *
  by_cases h : d = 1
  · rw [if_pos h]
    rw [decide_eq_true h] at ho
    have ho' : B.toList = [49] := by
      have h' := eq_of_beq ho
      have e : (⟨#[49]⟩ : ByteArray).toList = [49] := bsL_list [49]
      rw [h', e]
    clear hd
    simp (config := {maxSteps := 2000000}) [c28, K28, e1, e2, e3, ho']
  · rw [if_neg h]
    rw [decide_eq_false h] at ho
    have ho' : ¬ B.toList = [49] := by
      intro hc
      have e : (⟨#[49]⟩ : ByteArray).toList = [49] := bsL_list [49]
      rw [hc, e] at ho
      simp at ho
    have hc1 : 1 + B.size ≤ 65536 := by omega
    have hc2 : A.size + ((⟨#[47]⟩ : ByteArray) ++ B).size ≤ 65536 := by omega
    rw [← hq]
    have hc3 : A.size + (1 + B.size) ≤ 65536 := by omega
    clear hd
    simp (config := {maxSteps := 2000000}) [c28, K28, e1, e2, e3, ho']
    rw [hs3]
    exact ⟨hc1, hc3⟩
end Go.Mx
namespace Go.Mx
set_option linter.unusedVariables false
set_option linter.unusedSimpArgs false
set_option linter.unusedSectionVars false
open Go

@[simp] theorem aggV_3 (r : Nat) (p : List Nat) (x y z : Value) : aggV r p [.v x, .v y, .v z] 0 3 = some (.ro (.nd .ag [.v x, .v y, .v z])) := by
  rw [aggV_eq]; rfl
/-- Blocks of the fit. -/
def eD : En (Int × Int × Int) where
  es := 3
  enc p := [.v (.int .i64 p.1), .v (.int .i64 p.2.1), .v (.int .i64 p.2.2)]
  d := (0, 0, 0)
  pos := by decide
  len _ := rfl
  flat _ := rfl
abbrev sd (b : Bool) (l : List (Int × Int × Int)) : D := gsl eD b l
abbrev z3 : Int × Int × Int := (0, 0, 0)
abbrev bD (c : Int × Int × Int) : D := .nd .ag [.v (.int .i64 c.1), .v (.int .i64 c.2.1), .v (.int .i64 c.2.2)]
section
variable (l : List (Int × Int × Int)) (i : Nat)
@[simp] theorem D_elP (r : Nat) (p : List Nat) (b : Bool) : elP r p 3 i (gsl eD b l) = if i < l.length then some (.ad r p (i * 3)) else none := elP_ge eD r p i b l
@[simp] theorem D_elR (b : Bool) : elR 3 i (gsl eD b l) = if i < l.length then some (.rad (gk eD l) (i * 3)) else none := elR_ge eD i b l
@[simp high] theorem D_cell0 : (gk eD l)[i * 3]? = if i < l.length then some (.v (.int .i64 (nth l z3 i).1)) else none := gk_cell eD l i 0 (by decide)
@[simp high] theorem D_cell1 : (gk eD l)[i * 3 + 1]? = if i < l.length then some (.v (.int .i64 (nth l z3 i).2.1)) else none := gk_cell eD l i 1 (by decide)
@[simp high] theorem D_cell2 : (gk eD l)[i * 3 + 2]? = if i < l.length then some (.v (.int .i64 (nth l z3 i).2.2)) else none := gk_cell eD l i 2 (by decide)
@[simp] theorem D_aggR : aggR (gk eD l) (i * 3) 3 = if i < l.length then some (.ro (bD (nth l z3 i))) else none := aggR_ge eD i l
@[simp] theorem D_aggV (r : Nat) (p : List Nat) : aggV r p (gk eD l) (i * 3) 3 = if i < l.length then some (.ro (bD (nth l z3 i))) else none := agg_ge eD r p i l rfl
@[simp] theorem D_slR (lo hi : Option Nat) (b : Bool) : slR 3 lo hi (gsl eD b l) = if lo.getD 0 ≤ hi.getD l.length ∧ hi.getD l.length ≤ l.length then some (.ro (gsl eD b ((l.drop (lo.getD 0)).take (hi.getD l.length - lo.getD 0)))) else none := slR_ge eD lo hi b l
@[simp] theorem D_slP (r : Nat) (p : List Nat) (lo hi : Option Nat) (b : Bool) : slP r p 3 lo hi (gsl eD b l) = if lo.getD 0 ≤ hi.getD l.length ∧ hi.getD l.length ≤ l.length then some (if b then .ro (.nd (.sl true 3 0) []) else .sub r p (lo.getD 0 * 3) 3 (hi.getD l.length - lo.getD 0)) else none := slP_ge eD r p lo hi b l
@[simp] theorem D_subD (n : Nat) : subD (i * 3) 3 n (gsl eD false l) = if i + n ≤ l.length then some (gsl eD false ((l.drop i).take n)) else none := subD_ge eD i n l
@[simp] theorem D_subD0 (n : Nat) : subD 0 3 n (gsl eD false l) = if n ≤ l.length then some (gsl eD false (l.take n)) else none := by
  have := subD_ge eD 0 n l
  simp only [Nat.zero_mul, Nat.zero_add, List.drop_zero] at this
  exact this
@[simp] theorem D_apD1 (b : Bool) (x y z : Int) : apD 3 1 [.v (.int .i64 x), .v (.int .i64 y), .v (.int .i64 z)] (gsl eD b l) = if l.length + 1 ≤ most then some (gsl eD false (l ++ [(x, y, z)])) else none := by
  show apD eD.es [(x, y, z)].length (gk eD [(x, y, z)]) (gsl eD b l) = _
  rw [apD_ge]; simp
end
theorem sc_D (l : List (Int × Int × Int)) : (gk eD l).all isSc = true := by
  induction l with
  | nil => rfl
  | cons a l ih => exact ih
@[simp] theorem D_apS (st : St) (v : V) (b : Bool) (l : List (Int × Int × Int)) : apS st 3 v (gsl eD b l) = some (l.length, gk eD l, st) := apS_ge eD st v b l (sc_D l)
@[simp] theorem D_fold (b : Bool) (l : List (Int × Int × Int)) : T.nd (K.sl b 3 l.length) (gk eD l) = gsl eD b l := rfl
/-- Fractions: their parts by name, so that simp leaves them alone. -/
def qs (q : Rat) : Bool := decide (q.num < 0)
def qz (q : Rat) : Bool := q.num.natAbs == 0
def ql (q : Rat) : List Int := zl (dg q.num.natAbs)
def qm (q : Rat) : List Int := zl (dg q.den)
abbrev frX (q : Rat) : D := .nd .ag [.v (.bool (qs q)), gsl (eI .u32) (qz q) (ql q), gsl (eI .u32) false (qm q)]
theorem frD_X (q : Rat) : frD q = frX q := by
  have h := den_z q
  show fr (decide (q.num < 0)) q.num.natAbs q.den = _
  unfold fr
  rw [h]
  rfl
abbrev frK (q : Rat) : List D := [.v (.bool (qs q)), gsl (eI .u32) (qz q) (ql q), gsl (eI .u32) false (qm q)]
/-- A fraction in a variable. -/
abbrev bxQ (q : Rat) : V := .own (.nd (.bx false) (frK q))
def eF : En Rat where
  es := 3
  enc q := frK q
  d := 0
  pos := by decide
  len _ := rfl
  flat _ := rfl
  im _ := by simp
abbrev sf (b : Bool) (l : List Rat) : D := gsl eF b l
section
variable (l : List Rat) (i : Nat)
@[simp] theorem F_elP (r : Nat) (p : List Nat) (b : Bool) : elP r p 3 i (gsl eF b l) = if i < l.length then some (.ad r p (i * 3)) else none := elP_ge eF r p i b l
@[simp] theorem F_elR (b : Bool) : elR 3 i (gsl eF b l) = if i < l.length then some (.rad (gk eF l) (i * 3)) else none := elR_ge eF i b l
@[simp] theorem F_aggR : aggR (gk eF l) (i * 3) 3 = if i < l.length then some (.ro (frX (nth l 0 i))) else none := aggR_ge eF i l
@[simp high] theorem F_cell0 : (gk eF l)[i * 3]? = if i < l.length then some (.v (.bool (qs (nth l 0 i)))) else none := gk_cell eF l i 0 (by decide)
@[simp high] theorem F_cell1 : (gk eF l)[i * 3 + 1]? = if i < l.length then some (gsl (eI .u32) (qz (nth l 0 i)) (ql (nth l 0 i))) else none := gk_cell eF l i 1 (by decide)
@[simp high] theorem F_cell2 : (gk eF l)[i * 3 + 2]? = if i < l.length then some (gsl (eI .u32) false (qm (nth l 0 i))) else none := gk_cell eF l i 2 (by decide)
theorem F_aggV0 (r : Nat) (p : List Nat) (h : i < l.length) : aggV r p (gk eF l) (i * 3) 3 = some (.vn .ag [.sc (.bool (qs (nth l 0 i))), .ref r (p ++ [i * 3 + 1]), .ref r (p ++ [i * 3 + 2])]) := by
  have hlen : i * 3 + 3 ≤ (gk eF l).length := by rw [gk_len]; show _ ≤ _ * 3; omega
  have e0 := F_cell0 l i
  have e1 := F_cell1 l i
  have e2 := F_cell2 l i
  rw [if_pos h] at e0 e1 e2
  unfold aggV
  rw [if_pos hlen]
  have hp : ((gk eF l).drop (i * 3)).take 3 = frK (nth l 0 i) := gk_part eF l i h
  simp only [hp]
  have hs : (frK (nth l 0 i)).all isSc = false := rfl
  rw [hs]
  simp only [Bool.false_eq_true, if_false]
  have hr : List.range 3 = [0, 1, 2] := rfl
  rw [hr]
  simp only [List.map_cons, List.map_nil, cellV, Nat.add_zero, e0, e1, e2]
  rfl
@[simp] theorem F_aggV (r : Nat) (p : List Nat) : aggV r p (gk eF l) (i * 3) 3 = if i < l.length then some (.vn .ag [.sc (.bool (qs (nth l 0 i))), .ref r (p ++ [i * 3 + 1]), .ref r (p ++ [i * 3 + 2])]) else none := by
  by_cases h : i < l.length
  · rw [if_pos h]; exact F_aggV0 l i r p h
  · rw [if_neg h]
    unfold aggV
    rw [if_neg]
    rw [gk_len]; show ¬ _ ≤ _ * 3; omega
@[simp] theorem F_apD1 (b : Bool) (q : Rat) : apD 3 1 [.v (.bool (qs q)), gsl (eI .u32) (qz q) (ql q), gsl (eI .u32) false (qm q)] (gsl eF b l) = if l.length + 1 ≤ most then some (gsl eF false (l ++ [q])) else none := by
  have h : apD eF.es [q].length (gk eF [q]) (gsl eF b l) = _ := apD_ge eF b l [q]
  have e : gk eF [q] = frK q := by simp [gk, eF]
  rw [e] at h
  have h' : apD eF.es 1 (frK q) (gsl eF b l) = if l.length + 1 ≤ most then some (gsl eF false (l ++ [q])) else none := by simpa only [List.length_singleton, Nat.reduceBEq, Bool.and_false] using h
  exact h'
@[simp] theorem F_fold (b : Bool) : T.nd (K.sl b 3 l.length) (gk eF l) = gsl eF b l := rfl
end

/-! ### weights -/
abbrev fnV (f : FuncId) (kids : List D) : D := .nd (.fn (.func f) 0) kids
def isW (x : Int) : Bool := decide (1 ≤ x) && decide (x ≤ 200000)
theorem f88 (call : Oracle) (fuel : Nat) (x : Int) : callF call fuel c88 [.v (.int .i64 x)] = some (.v (.bool (isW x))) := by
  rw [callF_tab call fuel c88 K88 _ (by exact Nat.le_of_ble_eq_true rfl) (by exact Nat.le_of_ble_eq_true rfl)]
  by_cases h : 1 ≤ x <;> simp [c88, K88, isW, h]
theorem f87 (call : Oracle) (fuel : Nat) (x : Int) (h88 : call 88 [.v (.int .i64 x)] = some (.v (.bool (isW x)))) : callF call fuel c87 [.v (.int .i64 x)] = some (.v (.bool (!isW x))) := by
  rw [callF_tab call fuel c87 K87 _ (by exact Nat.le_of_ble_eq_true rfl) (by exact Nat.le_of_ble_eq_true rfl)]
  simp [c87, K87, h88]
def idxO (o : Option Nat) : Int := o.elim (-1) fun i => (i : Int)
theorem idxO_nonneg (o : Option Nat) : decide (0 ≤ idxO o) = o.isSome := by
  cases o <;> simp [idxO]
theorem find_some {n : Nat} {p : Nat → Bool} : ((List.range n).find? p).isSome = (List.range n).any p := by
  rw [Bool.eq_iff_iff, List.any_eq_true, List.find?_isSome]
theorem loop102 (call : Oracle) (fuel : Nat) (b : Bool) (l : List Int) (f : FuncId) (hfl : f < ioB) (kids : List D) (p : Int → Bool) (hp : ∀ c ∈ l, call f (.v (.int .i64 c) :: kids) = some (.v (.bool (p c))))
    (hl : l.length ≤ 1000) (fu : Nat) (hf : 1000 < fu) (st : St) (h0 : drops st h102_0 = L102_0 (.ro (si b l)) (.ro (fnV f kids)) (ii l.length) (ii 0)) :
    run.loopN (run call fuel b102_0) fu st = some (((List.range l.length).find? fun i => p (nth l 0 i)).elim (.ex 0, X102_0) fun i => (.ret, R102 (ii i))) := by
  refine loop_find call fuel h102_0 _ l.length (fun i => p (nth l 0 i)) (fun i => L102_0 (.ro (si b l)) (.ro (fnV f kids)) (ii l.length) (ii i)) (fun i => (.ret, R102 (ii i))) (.ex 0, X102_0) (by simp) (by simp) ?_ (by simp) fu st (by rw [h0]; rfl) (by omega)
  intro i hi _
  have hw := wrap_succ (i := i) (by omega)
  have e := hp (nth l 0 i) (nth_mem 0 hi)
  by_cases h : p (nth l 0 i) = true
  · rw [h] at e
    simp [hi, hw, e, h, hfl]
  · rw [Bool.not_eq_true] at h
    rw [h] at e
    simp [hi, hw, e, h, hfl]
theorem f102 (call : Oracle) (fuel : Nat) (hf : 1000 < fuel) (b : Bool) (l : List Int) (f : FuncId) (hfl : f < ioB) (kids : List D) (p : Int → Bool) (hp : ∀ c ∈ l, call f (.v (.int .i64 c) :: kids) = some (.v (.bool (p c)))) (hl : l.length ≤ 1000) :
    callF call fuel c102 [si b l, fnV f kids] = some (.v (.int .i64 (idxO ((List.range l.length).find? fun i => p (nth l 0 i))))) := by
  rw [callF_tab call fuel c102 9 _ (by exact Nat.le_of_ble_eq_true rfl) (by exact Nat.le_of_ble_eq_true rfl)]
  simp [c102]
  rw [loop102 call fuel b l f hfl kids p hp hl fuel hf _ (by simp)]
  cases (List.range l.length).find? fun i => p (nth l 0 i) <;> simp [idxO]
theorem f86 (call : Oracle) (fuel : Nat) (b : Bool) (l : List Int) (f : FuncId) (kids : List D) (p : Int → Bool)
    (h102 : call 102 [si b l, fnV f kids] = some (.v (.int .i64 (idxO ((List.range l.length).find? fun i => p (nth l 0 i)))))) :
    callF call fuel c86 [si b l, fnV f kids] = some (.v (.bool (l.any p))) := by
  rw [callF_tab call fuel c86 5 _ (by exact Nat.le_of_ble_eq_true rfl) (by exact Nat.le_of_ble_eq_true rfl)]
  have e := idxO_nonneg ((List.range l.length).find? fun i => p (nth l 0 i))
  rw [find_some, any_nth l 0 p] at e
  simp [c86, h102, e]
theorem f67 (call : Oracle) (fuel : Nat) (b : Bool) (l : List Int) (hl : l.length ≤ 64) (h86 : call 86 [si b l, fnV 87 []] = some (.v (.bool false))) :
    callF call fuel c67 [si b l] = some (.v (.int .i64 0)) := by
  rw [callF_tab call fuel c67 K67 _ (by exact Nat.le_of_ble_eq_true rfl) (by exact Nat.le_of_ble_eq_true rfl)]
  have : ¬ 64 < (l.length : Int) := by omega
  simp [c67, K67, h86, this]
theorem f37 (call : Oracle) (fuel : Nat) (b : Bool) (l : List Int) (hl : 0 < l.length) (h67 : call 67 [si b l] = some (.v (.int .i64 0))) :
    callF call fuel c37 [si b l] = some (.v (.int .i64 0)) := by
  rw [callF_tab call fuel c37 K37 _ (by exact Nat.le_of_ble_eq_true rfl) (by exact Nat.le_of_ble_eq_true rfl)]
  have : 0 < (l.length : Int) := by omega
  have hn : ¬ l = [] := by intro h; rw [h] at hl; simp at hl
  simp [c37, K37, h67, this, hn]
end Go.Mx
namespace Go.Mx
set_option linter.unusedVariables false
set_option linter.unusedSimpArgs false
set_option linter.unusedSectionVars false
open Go

def Of7 (call : Oracle) : Prop := ∀ (n : Int) (d : Nat), -9223372036854775808 ≤ n → n < 9223372036854775808 → 0 < d → d < 9223372036854775808 → call 7 [.v (.int .i64 n), .v (.int .i64 d)] = some (frX (mkRat n d))
theorem of_eq (n : Int) (d : Nat) : mdF (!(decide (n < 0) == decide ((d : Int) < 0))) n.natAbs (d : Int).natAbs = frD (mkRat n d) := by
  have h1 : decide ((d : Int) < 0) = false := by simp
  rw [h1, mdF_eq, Int.natAbs_natCast]
  have : sg (!(decide (n < 0) == false)) n.natAbs = n := by
    have e : (!(decide (n < 0) == false)) = decide (n < 0) := by cases decide (n < 0) <;> rfl
    rw [e]
    unfold sg
    split
    · rename_i h; have := of_decide_eq_true h; omega
    · rename_i h; have : ¬ n < 0 := fun h' => h (decide_eq_true h'); omega
  rw [this]
theorem f33 (call : Oracle) (fuel : Nat) (h7 : Of7 call) (a s : Int) (d : Nat) (h1 : -9223372036854775808 ≤ s) (h2 : s < 9223372036854775808) (h3 : 0 < d) (h4 : d < 9223372036854775808) :
    callF call fuel c33 [bD (a, s, (d : Int))] = some (frX (mkRat s d)) := by
  rw [callF_tab call fuel c33 K33 _ (by exact Nat.le_of_ble_eq_true rfl) (by exact Nat.le_of_ble_eq_true rfl)]
  have e := h7 s d h1 h2 h3 h4
  generalize mkRat s d = q at *
  simp [c33, K33, e]
def sumI : List Int → Int
  | [] => 0
  | x :: l => x + sumI l
theorem sumI_app (l m : List Int) : sumI (l ++ m) = sumI l + sumI m := by
  induction l with
  | nil => simp [sumI]
  | cons x l ih => simp only [List.cons_append, sumI, ih]; omega
theorem sumI_bound {l : List Int} {B : Int} (h : ∀ x ∈ l, 0 ≤ x ∧ x ≤ B) : 0 ≤ sumI l ∧ sumI l ≤ l.length * B := by
  induction l with
  | nil => simp [sumI]
  | cons x l ih =>
    have h1 := h x (by simp)
    have h2 := ih fun y hy => h y (by simp [hy])
    simp only [sumI, List.length_cons]
    have : ((l.length + 1 : Nat) : Int) * B = l.length * B + B := by
      rw [Int.natCast_add, Int.add_mul]; simp
    omega
theorem take_snocI {α : Type} (d : α) (l : List α) {k : Nat} (h : k < l.length) : l.take (k + 1) = l.take k ++ [nth l d k] := take_succ_nth d h
abbrev bxZ : V := .own (.nd (.bx false) [.v (.bool false), .nd (.sl true 1 0) [], .nd (.sl true 1 0) []])
theorem loop14 (call : Oracle) (fuel : Nat) (b : Bool) (l : List Int) (hl : l.length ≤ 64) (hw : ∀ x ∈ l, 0 ≤ x ∧ x ≤ 200000) (fu : Nat) (hf : 1000 < fu) (st : St)
    (h0 : drops st h14_0 = L14_0 (.ro (si b l)) bxZ (ii 0) (.ro (si b l)) (ii l.length) (ii 0)) :
    run.loopN (run call fuel b14_0) fu st = some (.ex 0, X14_0 (.ro (si b l)) bxZ (ii (sumI l))) := by
  refine loop_cnt call fuel h14_0 _ l.length (fun i => L14_0 (.ro (si b l)) bxZ (ii (sumI (l.take i))) (.ro (si b l)) (ii l.length) (ii i)) (.ex 0, X14_0 (.ro (si b l)) bxZ (ii (sumI l))) (by simp) ?_ (by simp) fu st h0 (by omega)
  intro i hi
  have hwr := wrap_succ (i := i) (by omega)
  have hs : sumI (l.take (i + 1)) = sumI (l.take i) + nth l 0 i := by
    rw [take_snocI 0 l hi, sumI_app]; simp [sumI]
  have hb := sumI_bound (l := l.take i) (B := 200000) fun x hx => hw x (List.mem_of_mem_take hx)
  have hx := hw _ (nth_mem 0 hi)
  have hlen : (l.take i).length ≤ 64 := by simp; omega
  have hadd : IntKind.i64.wrap (sumI (l.take i) + nth l 0 i) = sumI (l.take (i + 1)) := by
    rw [hs]
    refine wrap_eq ?_
    unfold I64
    have : ((l.take i).length : Int) * 200000 ≤ 64 * 200000 := by omega
    omega
  generalize sumI (l.take i) = s at *
  generalize sumI (l.take (i + 1)) = s' at *
  simp [hi, hwr, hadd]
theorem f14 (call : Oracle) (fuel : Nat) (hF : 1000 < fuel) (h7 : Of7 call) (b : Bool) (l : List Int) (h0 : 0 < l.length) (hl : l.length ≤ 64) (hw : ∀ x ∈ l, 0 ≤ x ∧ x ≤ 200000) (h37 : call 37 [si b l] = some (.v (.int .i64 0))) :
    callF call fuel c14 [si b l] = some (.nd .tu [frX (mkRat (sumI l) l.length), .v (.int .i64 0)]) := by
  rw [callF_tab call fuel c14 K14 _ (by exact Nat.le_of_ble_eq_true rfl) (by exact Nat.le_of_ble_eq_true rfl)]
  have hb := sumI_bound hw
  have hB : (l.length : Int) * 200000 ≤ 64 * 200000 := by omega
  have e := h7 (sumI l) l.length (by omega) (by omega) h0 (by omega)
  have hL := loop14 call fuel b l hl hw fuel hF
  generalize sumI l = s at *
  generalize mkRat s l.length = q at *
  clear h0 hl hw hb hB
  simp [c14, K14, h37]
  rw [hL _ (by simp)]
  simp [e]
/-! ### isotonic.check -/
theorem loop31 (call : Oracle) (fuel : Nat) (b b' : Bool) (v w : List Int) (hl : w.length = v.length) (hl2 : v.length ≤ 24) (hv : ∀ x ∈ v, -1000000 ≤ x ∧ x ≤ 1000000) (hw : ∀ x ∈ w, 1 ≤ x ∧ x ≤ 1000) (fu : Nat) (hf : 1000 < fu) (st : St)
    (h0 : drops st h31_0 = L31_0 (.ro (si b v)) (.ro (si b' w)) (ii v.length) (ii 0)) :
    run.loopN (run call fuel b31_0) fu st = some (.ex 0, X31_0) := by
  refine loop_cnt call fuel h31_0 _ v.length (fun i => L31_0 (.ro (si b v)) (.ro (si b' w)) (ii v.length) (ii i)) (.ex 0, X31_0) (by simp) ?_ (by simp) fu st h0 (by omega)
  intro i hi
  have hwr := wrap_succ (i := i) (by omega)
  have hi' : i < w.length := by omega
  have h1 := hv _ (nth_mem 0 hi)
  have h2 := hw _ (nth_mem 0 hi')
  have c1 : ¬ nth v 0 i < -1000000 := by omega
  have c2 : ¬ 1000000 < nth v 0 i := by omega
  have c3 : ¬ nth w 0 i < 1 := by omega
  have c4 : ¬ 1000 < nth w 0 i := by omega
  simp [hi, hi', hwr, c1, c2, c3, c4]
theorem f31 (call : Oracle) (fuel : Nat) (hF : 1000 < fuel) (b b' : Bool) (v w : List Int) (hl : w.length = v.length) (hl2 : v.length ≤ 24) (hv : ∀ x ∈ v, -1000000 ≤ x ∧ x ≤ 1000000) (hw : ∀ x ∈ w, 1 ≤ x ∧ x ≤ 1000) :
    callF call fuel c31 [si b v, si b' w] = some (.v (.int .i64 0)) := by
  rw [callF_tab call fuel c31 K31 _ (by exact Nat.le_of_ble_eq_true rfl) (by exact Nat.le_of_ble_eq_true rfl)]
  have hL := loop31 call fuel b b' v w hl hl2 hv hw fuel hF
  have c1 : ¬ 24 < (v.length : Int) := by omega
  simp [c31, K31, hl, c1]
  rw [hL _ (by simp)]
  simp
end Go.Mx
namespace Go.Mx
set_option linter.unusedVariables false
set_option linter.unusedSimpArgs false
set_option linter.unusedSectionVars false
open Go

def Cmp11 (call : Oracle) : Prop := ∀ a b : Rat, SZ 20000 a → SZ 20000 b → call 11 [frX a, frX b] = some (.v (.int .i64 (cmpR a b)))
def Sub26 (call : Oracle) : Prop := ∀ a b : Rat, SZ 20000 a → SZ 20000 b → call 26 [frX a, frX b] = some (frX (a - b))
def AddX (call : Oracle) : Prop := ∀ a b : Rat, SZ 20000 a → SZ 20000 b → call 22 [frX a, frX b] = some (frX (a + b))
def MulX (call : Oracle) : Prop := ∀ a b : Rat, SZ 20000 a → SZ 20000 b → call 27 [frX a, frX b] = some (frX (a * b))
theorem SZ.mul {k m : Nat} {a b : Rat} (ha : SZ k a) (hb : SZ m b) (h : 0 < k + m) : SZ (k + m) (a * b) := by
  rw [Rat.mul_def]
  refine SZ.mono (k := k + m) ?_ (Nat.le_refl _)
  rw [Rat.normalize_eq_mkRat]
  refine SZ.mk h ?_ (dg_mul_len ha.2 hb.2)
  rw [Int.natAbs_mul]
  exact dg_mul_len ha.1 hb.1
theorem SZ.add {k m : Nat} {a b : Rat} (ha : SZ k a) (hb : SZ m b) : SZ (k + m + 1) (a + b) := by
  rw [Rat.add_def, Rat.normalize_eq_mkRat]
  refine SZ.mk (by omega) ?_ (Nat.le_trans (dg_mul_len ha.2 hb.2) (by omega))
  refine Nat.le_trans (dg_len_mono (Int.natAbs_add_le _ _)) ?_
  rw [Int.natAbs_mul, Int.natAbs_mul, Int.natAbs_natCast, Int.natAbs_natCast]
  exact dg_add_len (dg_mul_len ha.1 hb.2) (by rw [Nat.add_comm k m]; exact dg_mul_len hb.1 ha.2)
theorem SZ.sub {k m : Nat} {a b : Rat} (ha : SZ k a) (hb : SZ m b) : SZ (k + m + 1) (a - b) := by
  rw [Rat.sub_eq_add_neg]; exact ha.add hb.neg
theorem SZ.int {n : Int} (h1 : -1000000000 < n) (h2 : n < 1000000000) : SZ 1 (mkRat n 1) := by
  refine SZ.mk (by omega) (dg_len_le.2 ?_) (by decide)
  unfold BB; omega
theorem SZ.zero : SZ 1 (0 : Rat) := ⟨by decide, by decide⟩
theorem SZ.rat {n : Int} {d : Nat} (h1 : -1000000000000000000 < n) (h2 : n < 1000000000000000000) (h3 : d < 1000000000000000000) : SZ 2 (mkRat n d) :=
  SZ.mk (by omega) (dg_len_le.2 (by unfold BB; omega)) (dg_len_le.2 (by unfold BB; omega))
theorem mk1 (n : Int) : mkRat n 1 = (n : Rat) := by rw [Rat.mkRat_one]
/-! ### Falling -/
def fallsB (l : List Rat) : Bool := !(List.range (l.length - 1)).any fun i => decide (nth l 0 i < nth l 0 (i + 1))
theorem fallsB_iff {l : List Rat} : fallsB l = true ↔ Falls l := by
  unfold fallsB Falls
  rw [Bool.not_eq_true', ← Bool.not_eq_true, List.any_eq_true]
  constructor
  · intro h
    induction l with
    | nil => exact List.Pairwise.nil
    | cons x l ih =>
      have ih := ih fun ⟨i, hi, hlt⟩ => h ⟨i + 1, by rw [List.mem_range] at hi ⊢; simp only [List.length_cons]; omega, hlt⟩
      rw [List.pairwise_cons]
      refine ⟨fun y hy => ?_, ih⟩
      cases l with
      | nil => simp at hy
      | cons z l =>
        have hz : z ≤ x := Rat.not_lt.1 fun hlt => h ⟨0, by simp, by simpa [nth] using hlt⟩
        rcases List.mem_cons.1 hy with rfl | hy
        · exact hz
        · exact Rat.le_trans ((List.pairwise_cons.1 ih).1 y hy) hz
  · rintro h ⟨i, hi, hlt⟩
    rw [List.mem_range] at hi
    have hlt := of_decide_eq_true hlt
    have h1 : i < l.length := by omega
    have h2 : i + 1 < l.length := by omega
    have := List.pairwise_iff_getElem.1 h i (i + 1) h1 h2 (by omega)
    unfold nth at hlt
    rw [List.getD_eq_getElem?_getD, List.getD_eq_getElem?_getD, List.getElem?_eq_getElem h1, List.getElem?_eq_getElem h2] at hlt
    exact Rat.not_lt.2 this hlt
theorem cmpR_neg (a b : Rat) : decide (cmpR a b < 0) = decide (a < b) := by
  unfold cmpR
  split
  · rename_i h; simp [h]
  · rename_i h; split <;> simp [h]
theorem loop10 (call : Oracle) (fuel : Nat) (h11 : Cmp11 call) (b : Bool) (l : List Rat) (hl : l.length ≤ 100) (hs : ∀ q ∈ l, SZ 20000 q) (fu : Nat) (hf : 1000 < fu) (st : St) (h0 : drops st h10_0 = L10_0 (.ro (sf b l)) (ii 1)) :
    run.loopN (run call fuel b10_0) fu st = some (if (List.range (l.length - 1)).any (fun i => decide (nth l 0 i < nth l 0 (i + 1))) = true then (.ret, R10 (bb false)) else (.ex 0, X10_0)) := by
  refine loop_any call fuel h10_0 _ (l.length - 1) (fun i => decide (nth l 0 i < nth l 0 (i + 1))) (fun i => L10_0 (.ro (sf b l)) (ii ((i : Int) + 1))) (.ret, R10 (bb false)) (.ex 0, X10_0) (by simp) (by simp) ?_ ?_ fu st (by rw [h0]; rfl) (by omega)
  · intro i hi _
    have h1 : i < l.length := by omega
    have h2 : i + 1 < l.length := by omega
    have hw : IntKind.i64.wrap ((i : Int) + 1 + 1) = (i : Int) + 1 + 1 := wrap_eq (by unfold I64; omega)
    have hw2 : IntKind.i64.wrap (i : Int) = (i : Int) := wrapI (by omega)
    have hlt : (i : Int) + 1 < (l.length : Int) := by omega
    have e := h11 _ _ (hs _ (nth_mem 0 h1)) (hs _ (nth_mem 0 h2))
    have hc := cmpR_neg (nth l 0 i) (nth l 0 (i + 1))
    generalize cmpR (nth l 0 i) (nth l 0 (i + 1)) = c at *
    by_cases h : nth l 0 i < nth l 0 (i + 1)
    · rw [decide_eq_true h] at hc ⊢
      have hc' : c < 0 := of_decide_eq_true hc
      simp [h1, h2, hw, hw2, hlt, e, hc']
    · rw [decide_eq_false h] at hc ⊢
      have hc' : ¬ c < 0 := of_decide_eq_false hc
      simp [h1, h2, hw, hw2, hlt, e, hc']
  · have hn : ¬ ((l.length - 1 : Nat) : Int) + 1 < (l.length : Int) := by omega
    simp [hn]
theorem f10 (call : Oracle) (fuel : Nat) (hF : 1000 < fuel) (h11 : Cmp11 call) (b : Bool) (l : List Rat) (hl : l.length ≤ 100) (hs : ∀ q ∈ l, SZ 20000 q) : callF call fuel c10 [sf b l] = some (.v (.bool (fallsB l))) := by
  rw [callF_tab call fuel c10 K10 _ (by exact Nat.le_of_ble_eq_true rfl) (by exact Nat.le_of_ble_eq_true rfl)]
  have hL := loop10 call fuel h11 b l hl hs fuel hF
  simp [c10, K10]
  rw [hL _ (by simp)]
  unfold fallsB
  cases (List.range (l.length - 1)).any fun i => decide (nth l 0 i < nth l 0 (i + 1)) <;> simp
/-! ### Cost -/
/-- The cost of the first places. -/
def cstL (v w : List Int) (f : List Rat) : Nat → Rat
  | 0 => 0
  | i + 1 => cstL v w f i + ((nth w 0 i : Int) : Rat) * ((((nth v 0 i : Int) : Rat) - nth f 0 i) * (((nth v 0 i : Int) : Rat) - nth f 0 i))
theorem cst_sz (v w : List Int) (f : List Rat) (hv : ∀ i, SZ 1 ((nth v 0 i : Int) : Rat)) (hw : ∀ i, SZ 1 ((nth w 0 i : Int) : Rat)) (hf : ∀ i, SZ 10 (nth f 0 i)) : ∀ i, SZ (1 + i * 30) (cstL v w f i)
  | 0 => SZ.zero
  | i + 1 => by
    have h1 := (hv i).sub (hf i)
    have h2 := h1.mul h1 (by omega)
    have h3 := (hw i).mul h2 (by omega)
    have h4 := (cst_sz v w f hv hw hf i).add h3
    exact h4.mono (by omega)
theorem loop9 (call : Oracle) (fuel : Nat) (h7 : Of7 call) (h26 : Sub26 call) (h27 : MulX call) (h22 : AddX call) (b b' bf : Bool) (v w : List Int) (f : List Rat) (hlw : w.length = v.length) (hlf : f.length = v.length) (hl : v.length ≤ 24)
    (hv : ∀ x ∈ v, -1000000 ≤ x ∧ x ≤ 1000000) (hw : ∀ x ∈ w, 1 ≤ x ∧ x ≤ 1000) (hf : ∀ q ∈ f, SZ 10 q) (fu : Nat) (hfu : 1000 < fu) (st : St)
    (h0 : drops st h9_0 = L9_0 (.ro (si b v)) (.ro (si b' w)) (.ro (sf bf f)) bxZ (bxQ 0) (.ro (sf bf f)) (ii f.length) (ii 0)) :
    run.loopN (run call fuel b9_0) fu st = some (.ex 0, X9_0 bxZ (bxQ (cstL v w f f.length))) := by
  have hn : ∀ {l : List Int} {B : Int}, (∀ x ∈ l, -B ≤ x ∧ x ≤ B) → 0 ≤ B → B < 1000000000 → ∀ i, SZ 1 ((nth l 0 i : Int) : Rat) := by
    intro l B hB h0 h1 i
    rw [← mk1]
    by_cases hi : i < l.length
    · have := hB _ (nth_mem 0 hi)
      exact SZ.int (by omega) (by omega)
    · have : nth l 0 i = 0 := by unfold nth; rw [List.getD_eq_getElem?_getD, List.getElem?_eq_none (by omega)]; rfl
      rw [this]; exact SZ.int (by omega) (by omega)
  have hv1 := hn (B := 1000000) hv (by omega) (by omega)
  have hw1 := hn (l := w) (B := 1000) (fun x hx => by have := hw x hx; omega) (by omega) (by omega)
  have hf1 : ∀ i, SZ 10 (nth f 0 i) := by
    intro i
    by_cases hi : i < f.length
    · exact hf _ (nth_mem 0 hi)
    · have : nth f 0 i = 0 := by unfold nth; rw [List.getD_eq_getElem?_getD, List.getElem?_eq_none (by omega)]; rfl
      rw [this]; exact SZ.zero.mono (by omega)
  refine loop_cnt call fuel h9_0 _ f.length (fun i => L9_0 (.ro (si b v)) (.ro (si b' w)) (.ro (sf bf f)) bxZ (bxQ (cstL v w f i)) (.ro (sf bf f)) (ii f.length) (ii i)) (.ex 0, X9_0 bxZ (bxQ (cstL v w f f.length))) (by simp) ?_ (by simp) fu st (by rw [h0]; rfl) (by omega)
  intro i hi
  have hwr := wrap_succ (i := i) (by omega)
  have hi1 : i < v.length := by omega
  have hi2 : i < w.length := by omega
  have bv := hv _ (nth_mem 0 hi1)
  have bw := hw _ (nth_mem 0 hi2)
  have e1 := h7 (nth v 0 i) 1 (by omega) (by omega) (by omega) (by omega)
  have e2 := h7 (nth w 0 i) 1 (by omega) (by omega) (by omega) (by omega)
  rw [mk1, show ((1 : Nat) : Int) = 1 from rfl] at e1 e2
  have s1 := (hv1 i).sub (hf1 i)
  have s2 := s1.mul s1 (by omega)
  have s3 := (hw1 i).mul s2 (by omega)
  have s4 := cst_sz v w f hv1 hw1 hf1 i
  have e3 := h26 _ _ ((hv1 i).mono (by omega)) ((hf1 i).mono (by omega))
  have e4 := h27 _ _ (s1.mono (by omega)) (s1.mono (by omega))
  have e5 := h27 _ _ ((hw1 i).mono (by omega)) (s2.mono (by omega))
  have e6 := h22 _ _ (s4.mono (by omega)) (s3.mono (by omega))
  have hc : cstL v w f (i + 1) = cstL v w f i + ((nth w 0 i : Int) : Rat) * ((((nth v 0 i : Int) : Rat) - nth f 0 i) * (((nth v 0 i : Int) : Rat) - nth f 0 i)) := rfl
  rw [← hc] at e6
  clear hc s1 s2 s3 s4 h7 h26 h27 h22 hv1 hw1 hf1 hv hw hf hn
  generalize cstL v w f (i + 1) = q7 at *
  generalize cstL v w f i = q6 at *
  generalize ((nth w 0 i : Int) : Rat) * ((((nth v 0 i : Int) : Rat) - nth f 0 i) * (((nth v 0 i : Int) : Rat) - nth f 0 i)) = q5 at *
  generalize (((nth v 0 i : Int) : Rat) - nth f 0 i) * (((nth v 0 i : Int) : Rat) - nth f 0 i) = q4 at *
  generalize ((nth v 0 i : Int) : Rat) - nth f 0 i = q3 at *
  generalize ((nth v 0 i : Int) : Rat) = q2 at *
  generalize ((nth w 0 i : Int) : Rat) = q1 at *
  simp (config := {maxSteps := 4000000}) [hi, hi1, hi2, hwr, e1, e2, e3, e4, e5, e6]
end Go.Mx
namespace Go.Mx
set_option linter.unusedVariables false
set_option linter.unusedSimpArgs false
set_option linter.unusedSectionVars false
open Go

theorem f9 (call : Oracle) (fuel : Nat) (hF : 1000 < fuel) (h7 : Of7 call) (h26 : Sub26 call) (h27 : MulX call) (h22 : AddX call) (b b' bf : Bool) (v w : List Int) (f : List Rat) (hlw : w.length = v.length) (hlf : f.length = v.length) (hl : v.length ≤ 24)
    (hv : ∀ x ∈ v, -1000000 ≤ x ∧ x ≤ 1000000) (hw : ∀ x ∈ w, 1 ≤ x ∧ x ≤ 1000) (hf : ∀ q ∈ f, SZ 10 q) (h31 : call 31 [si b v, si b' w] = some (.v (.int .i64 0))) :
    callF call fuel c9 [si b v, si b' w, sf bf f] = some (.nd .tu [frX (cstL v w f f.length), .v (.int .i64 0)]) := by
  rw [callF_tab call fuel c9 K9 _ (by exact Nat.le_of_ble_eq_true rfl) (by exact Nat.le_of_ble_eq_true rfl)]
  have e := h7 0 1 (by omega) (by omega) (by omega) (by omega)
  have e' : call 7 [.v (.int .i64 0), .v (.int .i64 1)] = some (frX 0) := e
  have hL := loop9 call fuel h7 h26 h27 h22 b b' bf v w f hlw hlf hl hv hw hf fuel hF
  have hlf' : (f.length : Int) = v.length := by omega
  generalize cstL v w f f.length = q at *
  clear h7 h26 h27 h22 hv hw hf e
  rw [hlf] at hL
  generalize (0 : Rat) = q0 at *
  simp [c9, K9, h31, hlf, e']
  rw [hL _ (by simp [hlf])]
  simp

/-! ### blocks -/
abbrev T3 := Int × Int × Int
def mrg (a b : T3) : T3 := (a.1 + b.1, a.2.1 + b.2.1, a.2.2 + b.2.2)
/-- Pooling, the last block first. -/
def poolR : List T3 → T3 → List T3
  | [], b => [b]
  | a :: r, b => if a.2.1 * b.2.2 ≤ b.2.1 * a.2.2 then poolR r (mrg a b) else b :: a :: r
structure Ok3 (e : T3) : Prop where
  s1 : 1 ≤ e.1
  w1 : e.1 ≤ e.2.2
  w2 : e.2.2 ≤ 1000 * e.1
  v1 : -1000000000 * e.1 ≤ e.2.1
  v2 : e.2.1 ≤ 1000000000 * e.1
theorem Ok3.mrg {a b : T3} (ha : Ok3 a) (hb : Ok3 b) : Ok3 (mrg a b) := by
  obtain ⟨a1, a2, a3, a4, a5⟩ := ha
  obtain ⟨b1, b2, b3, b4, b5⟩ := hb
  constructor <;> simp only [Mx.mrg] <;> omega
def tot3 : List T3 → Int
  | [] => 0
  | e :: l => e.1 + tot3 l
theorem tot3_nonneg {l : List T3} (h : ∀ e ∈ l, Ok3 e) : 0 ≤ tot3 l := by
  induction l with
  | nil => simp [tot3]
  | cons e l ih =>
    have h1 := (h e (by simp)).s1
    have h2 := ih fun x hx => h x (by simp [hx])
    simp only [tot3]; omega
theorem mulI {x y X Y : Int} (h1 : -X ≤ x) (h2 : x ≤ X) (h3 : 0 ≤ y) (h4 : y ≤ Y) : -(X * Y) ≤ x * y ∧ x * y ≤ X * Y := by
  have hX : 0 ≤ X := by omega
  have g1 : x * y ≤ X * y := Int.mul_le_mul_of_nonneg_right h2 h3
  have g2 : X * y ≤ X * Y := Int.mul_le_mul_of_nonneg_left h4 hX
  have g3 : (-X) * y ≤ x * y := Int.mul_le_mul_of_nonneg_right h1 h3
  rw [Int.neg_mul] at g3
  omega
structure In3 (q : List T3 × T3) : Prop where
  ok : ∀ e ∈ q.2 :: q.1, Ok3 e
  tot : tot3 (q.2 :: q.1) ≤ 24
theorem In3.step {a b : T3} {r : List T3} (h : In3 (a :: r, b)) : In3 (r, mrg a b) := by
  obtain ⟨h1, h2⟩ := h
  refine ⟨fun e he => ?_, ?_⟩
  · rcases List.mem_cons.1 he with rfl | he
    · exact (h1 a (by simp)).mrg (h1 b (by simp))
    · exact h1 e (by simp [he])
  · simp only [tot3, Mx.mrg] at h2 ⊢
    omega
theorem poolR_in {r : List T3} {b : T3} (h : In3 (r, b)) : (∀ e ∈ poolR r b, Ok3 e) ∧ tot3 (poolR r b) = tot3 (b :: r) := by
  induction r generalizing b with
  | nil => exact ⟨fun e he => h.ok e (by simpa [poolR] using he), rfl⟩
  | cons a r ih =>
    unfold poolR
    split
    · obtain ⟨h1, h2⟩ := ih h.step
      refine ⟨h1, ?_⟩
      rw [h2]
      simp only [tot3, mrg]; omega
    · exact ⟨h.ok, rfl⟩
section
variable (l : List T3) (a b : T3)
theorem nth_a : nth (l ++ [a, b]) z3 l.length = a := by simp [nth]
theorem nth_b : nth (l ++ [a, b]) z3 (l.length + 1) = b := by simp [nth]
end
set_option maxHeartbeats 1000000 in
theorem loop32_1 (call : Oracle) (fuel : Nat) (s0 s1 : D) (x11 x12 : Int) (q : List T3 × T3) (hq : In3 q) (fu : Nat) (hf : q.1.length < fu) (st : St)
    (h0 : drops st h32_1 = L32_1 (.ro s0) (.ro s1) (.own (sd false (q.1.reverse ++ [q.2]))) (ii q.1.length) (ii x11) (ii x12)) :
    run.loopN (run call fuel b32_1) fu st = some (.ex 2, X32_2 (.ro s0) (.ro s1) (.own (sd false (poolR q.1 q.2).reverse)) (ii x11) (ii x12)) := by
  refine loop_iter call fuel h32_1 _ In3 (fun q => L32_1 (.ro s0) (.ro s1) (.own (sd false (q.1.reverse ++ [q.2]))) (ii q.1.length) (ii x11) (ii x12)) (fun q => q.1.length)
    (fun q => match q with
      | ([], b) => .inr (.ex 2, X32_2 (.ro s0) (.ro s1) (.own (sd false (poolR [] b).reverse)) (ii x11) (ii x12))
      | (a :: r, b) => if a.2.1 * b.2.2 ≤ b.2.1 * a.2.2 then .inl (r, mrg a b) else .inr (.ex 2, X32_2 (.ro s0) (.ro s1) (.own (sd false (poolR (a :: r) b).reverse)) (ii x11) (ii x12)))
    (fun q => (.ex 2, X32_2 (.ro s0) (.ro s1) (.own (sd false (poolR q.1 q.2).reverse)) (ii x11) (ii x12))) ?_ ?_ ?_ fu q st hq h0 hf
  · rintro ⟨r, b⟩ hin
    cases r with
    | nil =>
      simp [poolR]
    | cons a r =>
      have e : (a :: r).reverse ++ [b] = r.reverse ++ [a, b] := by simp
      have hn : r.reverse.length = r.length := by simp
      have ea := nth_a r.reverse a b
      have eb := nth_b r.reverse a b
      have el : (r.reverse ++ [a, b]).length = r.length + 2 := by simp
      have et : (r.reverse ++ [a, b]).take r.length = r.reverse := by rw [← hn]; simp
      rw [hn] at ea eb
      obtain ⟨hok, htot⟩ := hin
      have oa := hok a (by simp)
      have ob := hok b (by simp)
      have hr0 := tot3_nonneg (l := r) fun x hx => hok x (by simp [hx])
      have hlen : (r.length : Int) ≤ tot3 r := by
        have : ∀ l : List T3, (∀ e ∈ l, Ok3 e) → (l.length : Int) ≤ tot3 l := by
          intro l h
          induction l with
          | nil => simp [tot3]
          | cons e l ih =>
            have h1 := (h e (by simp)).s1
            have h2 := ih fun x hx => h x (by simp [hx])
            simp only [tot3, List.length_cons]; omega
        exact this r fun x hx => hok x (by simp [hx])
      simp only [tot3] at htot
      obtain ⟨a1, a2, a3, a4, a5⟩ := oa
      obtain ⟨b1, b2, b3, b4, b5⟩ := ob
      have m1 := mulI (x := a.2.1) (y := b.2.2) (X := 24000000000) (Y := 24000) (by omega) (by omega) (by omega) (by omega)
      have m2 := mulI (x := b.2.1) (y := a.2.2) (X := 24000000000) (Y := 24000) (by omega) (by omega) (by omega) (by omega)
      have w1 : IntKind.i64.wrap (a.2.1 * b.2.2) = a.2.1 * b.2.2 := wrap_eq (by unfold I64; omega)
      have w2 : IntKind.i64.wrap (b.2.1 * a.2.2) = b.2.1 * a.2.2 := wrap_eq (by unfold I64; omega)
      have w3 : IntKind.i64.wrap (a.1 + b.1) = a.1 + b.1 := wrap_eq (by unfold I64; omega)
      have w4 : IntKind.i64.wrap (a.2.1 + b.2.1) = a.2.1 + b.2.1 := wrap_eq (by unfold I64; omega)
      have w5 : IntKind.i64.wrap (a.2.2 + b.2.2) = a.2.2 + b.2.2 := wrap_eq (by unfold I64; omega)
      have w6 : IntKind.i64.wrap (r.length : Int) = r.length := wrapI (by omega)
      have hm : r.length + 1 ≤ most := by unfold most; omega
      clear hok htot a1 a2 a3 a4 a5 b1 b2 b3 b4 b5 m1 m2 hr0 hlen
      rw [e]
      generalize hl : r.reverse = l at hn ea eb el et ⊢
      by_cases h : a.2.1 * b.2.2 ≤ b.2.1 * a.2.2
      · simp [h, ea, eb, el, et, hn, w1, w2, w3, w4, w5, w6, hm, mrg, hl]
      · simp [h, ea, eb, el, et, hn, w1, w2, w3, w4, w5, w6, hm, poolR, hl]
  · rintro ⟨r, b⟩ a' hin hst
    cases r with
    | nil => cases hst
    | cons a r =>
      simp only at hst
      split at hst
      · rename_i h
        simp only [Sum.inl.injEq] at hst
        subst hst
        refine ⟨hin.step, by simp, ?_⟩
        simp only [poolR, if_pos h]
      · cases hst
  · rintro ⟨r, b⟩ x hin hst
    cases r with
    | nil =>
      simp only [Sum.inr.injEq] at hst
      subst hst
      exact ⟨rfl, by intro h; cases h⟩
    | cons a r =>
      simp only at hst
      split at hst
      · cases hst
      · simp only [Sum.inr.injEq] at hst
        subst hst
        exact ⟨rfl, by intro h; cases h⟩
/-- The blocks of the first places, the last first. -/
def pavT (v w : List Int) : Nat → List T3
  | 0 => []
  | i + 1 => poolR (pavT v w i) (1, nth v 0 i * nth w 0 i, nth w 0 i)
theorem pavT_in {v w : List Int} (hv : ∀ x ∈ v, -1000000 ≤ x ∧ x ≤ 1000000) (hw : ∀ x ∈ w, 1 ≤ x ∧ x ≤ 1000) (hl : v.length ≤ 24) (hlw : w.length = v.length) : ∀ i, i ≤ v.length → (∀ e ∈ pavT v w i, Ok3 e) ∧ tot3 (pavT v w i) = i
  | 0, _ => ⟨fun e he => by simp [pavT] at he, rfl⟩
  | i + 1, hi => by
    obtain ⟨h1, h2⟩ := pavT_in hv hw hl hlw i (by omega)
    have bv := hv _ (nth_mem 0 (show i < v.length by omega))
    have bw := hw _ (nth_mem 0 (show i < w.length by omega))
    have m1 := mulI (x := nth v 0 i) (y := nth w 0 i) (X := 1000000) (Y := 1000) (by omega) (by omega) (by omega) (by omega)
    have hin : In3 (pavT v w i, (1, nth v 0 i * nth w 0 i, nth w 0 i)) := by
      refine ⟨fun e he => ?_, ?_⟩
      · rcases List.mem_cons.1 he with rfl | he
        · constructor <;> simp only <;> omega
        · exact h1 e he
      · simp only [tot3]; omega
    obtain ⟨h3, h4⟩ := poolR_in hin
    refine ⟨h3, ?_⟩
    show tot3 (poolR _ _) = _
    rw [h4]
    simp only [tot3]; omega
theorem len_tot {l : List T3} (h : ∀ e ∈ l, Ok3 e) : (l.length : Int) ≤ tot3 l := by
  induction l with
  | nil => simp [tot3]
  | cons e l ih =>
    have h1 := (h e (by simp)).s1
    have h2 := ih fun x hx => h x (by simp [hx])
    simp only [tot3, List.length_cons]; omega
def nlB (i : Nat) : Bool := decide (i = 0)
set_option maxHeartbeats 1000000 in
theorem loop32_0 (call : Oracle) (fuel : Nat) (b b' : Bool) (v w : List Int) (hlw : w.length = v.length) (hl : v.length ≤ 24) (hv : ∀ x ∈ v, -1000000 ≤ x ∧ x ≤ 1000000) (hw : ∀ x ∈ w, 1 ≤ x ∧ x ≤ 1000) (hF : 1000 < fuel) (fu : Nat) (hfu : 1000 < fu) (st : St)
    (h0 : drops st h32_0 = L32_0 (.ro (si b v)) (.ro (si b' w)) (.own (sd true [])) (ii v.length) (ii 0)) :
    run.loopN (run call fuel b32_0) fu st = some (.ex 0, X32_0 (.own (sd (nlB v.length) (pavT v w v.length).reverse))) := by
  refine loop_cnt call fuel h32_0 _ v.length (fun i => L32_0 (.ro (si b v)) (.ro (si b' w)) (.own (sd (nlB i) (pavT v w i).reverse)) (ii v.length) (ii i)) (.ex 0, X32_0 (.own (sd (nlB v.length) (pavT v w v.length).reverse))) (by simp) ?_ (by simp) fu st (by rw [h0]; rfl) (by omega)
  intro i hi
  have hwr := wrap_succ (i := i) (by omega)
  have hi2 : i < w.length := by omega
  obtain ⟨h1, h2⟩ := pavT_in hv hw hl hlw i (by omega)
  have bv := hv _ (nth_mem 0 hi)
  have bw := hw _ (nth_mem 0 hi2)
  have m1 := mulI (x := nth v 0 i) (y := nth w 0 i) (X := 1000000) (Y := 1000) (by omega) (by omega) (by omega) (by omega)
  have hin : In3 (pavT v w i, (1, nth v 0 i * nth w 0 i, nth w 0 i)) := by
    refine ⟨fun e he => ?_, ?_⟩
    · rcases List.mem_cons.1 he with rfl | he
      · constructor <;> simp only <;> omega
      · exact h1 e he
    · simp only [tot3]; omega
  have hlen := len_tot h1
  have w1 : IntKind.i64.wrap (nth v 0 i * nth w 0 i) = nth v 0 i * nth w 0 i := wrap_eq (by unfold I64; omega)
  have hL := fun (st : St) h => loop32_1 call fuel (si b v) (si b' w) (v.length : Int) (i : Int) (pavT v w i, (1, nth v 0 i * nth w 0 i, nth w 0 i)) hin fuel (by simp only; omega) st h
  have hp : pavT v w (i + 1) = poolR (pavT v w i) (1, nth v 0 i * nth w 0 i, nth w 0 i) := rfl
  have hnl : nlB (i + 1) = false := by simp [nlB]
  simp only at hL
  rw [← hp] at hL
  rw [hnl]
  have hm : (pavT v w i).length + 1 ≤ most := by unfold most; omega
  have w6 : IntKind.i64.wrap ((pavT v w i).length : Int) = (pavT v w i).length := wrapI (by omega)
  clear hp hin h1 h2 hlen hv hw m1 hnl
  generalize nlB i = z at *
  generalize pavT v w (i + 1) = P' at *
  generalize pavT v w i = P at *
  simp [hi, hi2, hwr, w1, hm]
  rw [hL _ (by simp [w6])]
  simp [hwr]
end Go.Mx
namespace Go.Mx
set_option linter.unusedVariables false
set_option linter.unusedSimpArgs false
set_option linter.unusedSectionVars false
open Go

theorem f32 (call : Oracle) (fuel : Nat) (b b' : Bool) (v w : List Int) (hlw : w.length = v.length) (hl : v.length ≤ 24) (hv : ∀ x ∈ v, -1000000 ≤ x ∧ x ≤ 1000000) (hw : ∀ x ∈ w, 1 ≤ x ∧ x ≤ 1000) (hF : 1000 < fuel) :
    callF call fuel c32 [si b v, si b' w] = some (sd (nlB v.length) (pavT v w v.length).reverse) := by
  rw [callF_tab call fuel c32 K32 _ (by exact Nat.le_of_ble_eq_true rfl) (by exact Nat.le_of_ble_eq_true rfl)]
  have hL := loop32_0 call fuel b b' v w hlw hl hv hw hF fuel hF
  generalize nlB v.length = z at *
  generalize pavT v w v.length = P at *
  simp [c32, K32]
  rw [hL _ (by simp; rfl)]
  simp
/-! ### Fit -/
def meanT (e : T3) : Rat := mkRat e.2.1 e.2.2.toNat
def Mean33 (call : Oracle) : Prop := ∀ e : T3, Ok3 e → e.1 ≤ 24 → call 33 [bD e] = some (frX (meanT e))
def neB (l : List Rat) : Bool := decide (l.length = 0)
theorem neB_snoc (l : List Rat) (q : Rat) : neB (l ++ [q]) = false := by simp [neB]
theorem loop8_1 (call : Oracle) (fuel : Nat) (h33 : Mean33 call) (zb : Bool) (L : List T3) (x19 x20 : Int) (e : T3) (he : Ok3 e) (h24 : e.1 ≤ 24) (out : List Rat) (ho : out.length ≤ 1000) (fu : Nat) (hfu : 1000 < fu) (st : St)
    (h0 : drops st h8_1 = L8_1 (.own (sf (neB out) out)) (.own (.nd (.bx false) [.v (.int .i64 e.1), .v (.int .i64 e.2.1), .v (.int .i64 e.2.2)])) (.own (sd zb L)) (ii x19) (ii x20) (ii e.1) (ii 0)) :
    run.loopN (run call fuel b8_1) fu st = some (.ex 2, X8_2 (.own (sf (neB (out ++ List.replicate e.1.toNat (meanT e))) (out ++ List.replicate e.1.toNat (meanT e)))) (.own (sd zb L)) (ii x19) (ii x20)) := by
  have hpos := he.s1
  refine loop_cnt call fuel h8_1 _ e.1.toNat (fun j => L8_1 (.own (sf (neB (out ++ List.replicate j (meanT e))) (out ++ List.replicate j (meanT e)))) (.own (.nd (.bx false) [.v (.int .i64 e.1), .v (.int .i64 e.2.1), .v (.int .i64 e.2.2)])) (.own (sd zb L)) (ii x19) (ii x20) (ii e.1) (ii j))
    (.ex 2, X8_2 (.own (sf (neB (out ++ List.replicate e.1.toNat (meanT e))) (out ++ List.replicate e.1.toNat (meanT e)))) (.own (sd zb L)) (ii x19) (ii x20)) (by simp) ?_ ?_ fu st (by rw [h0]; simp) (by omega)
  · intro j hj
    have hwr := wrap_succ (i := j) (by omega)
    have h1 := h33 e he h24
    have hlt : (j : Int) < e.1 := by omega
    have hs : out ++ List.replicate (j + 1) (meanT e) = (out ++ List.replicate j (meanT e)) ++ [meanT e] := by
      rw [List.replicate_succ', List.append_assoc]
    have hm : (out ++ List.replicate j (meanT e)).length + 1 ≤ most := by
      rw [List.length_append, List.length_replicate]; unfold most; omega
    rw [hs, neB_snoc]
    generalize out ++ List.replicate j (meanT e) = o at *
    generalize neB o = z at *
    generalize meanT e = q at *
    obtain ⟨a, s, d⟩ := e
    simp only at hlt h1 hm
    clear he h24 hpos hs h0
    simp [hwr, hlt, h1, hm]
  · have hn : ¬ (e.1.toNat : Int) < e.1 := by omega
    have hn' : ¬ max e.1 0 < e.1 := by omega
    have hmx : max e.1 0 = e.1 := by omega
    generalize out ++ List.replicate e.1.toNat (meanT e) = o at *
    generalize neB o = z at *
    simp [hn, hn']
/-- The fit of some blocks. -/
def fitT (l : List T3) : List Rat := l.flatMap fun e => List.replicate e.1.toNat (meanT e)
theorem fitT_snoc (l : List T3) (e : T3) : fitT (l ++ [e]) = fitT l ++ List.replicate e.1.toNat (meanT e) := by simp [fitT]
theorem fitT_len {l : List T3} (h : ∀ e ∈ l, Ok3 e) : ((fitT l).length : Int) = tot3 l := by
  induction l with
  | nil => rfl
  | cons e l ih =>
    have h1 := (h e (by simp)).s1
    have h2 := ih fun x hx => h x (by simp [hx])
    simp only [fitT, List.flatMap_cons, List.length_append, List.length_replicate, tot3] at *
    omega
theorem tot3_app (l m : List T3) : tot3 (l ++ m) = tot3 l + tot3 m := by
  induction l with
  | nil => simp [tot3]
  | cons e l ih => simp only [List.cons_append, tot3, ih]; omega
theorem tot3_mem {l : List T3} (h : ∀ e ∈ l, Ok3 e) {e : T3} (he : e ∈ l) : e.1 ≤ tot3 l := by
  induction l with
  | nil => simp at he
  | cons a l ih =>
    have h1 := (h a (by simp)).s1
    have h2 := tot3_nonneg (l := l) fun x hx => h x (by simp [hx])
    simp only [tot3]
    rcases List.mem_cons.1 he with rfl | he
    · omega
    · have := ih (fun x hx => h x (by simp [hx])) he; omega
theorem tot3_take {l : List T3} (h : ∀ e ∈ l, Ok3 e) (i : Nat) : tot3 (l.take i) ≤ tot3 l := by
  have e := tot3_app (l.take i) (l.drop i)
  rw [List.take_append_drop] at e
  have := tot3_nonneg (l := l.drop i) fun x hx => h x (List.mem_of_mem_drop hx)
  omega
theorem loop8_0 (call : Oracle) (fuel : Nat) (hF : 1000 < fuel) (h33 : Mean33 call) (zb : Bool) (L : List T3) (hL : ∀ e ∈ L, Ok3 e) (ht : tot3 L ≤ 24) (fu : Nat) (hfu : 1000 < fu) (st : St)
    (h0 : drops st h8_0 = L8_0 (.own (sf true [])) (.own (sd zb L)) (ii L.length) (ii 0)) :
    run.loopN (run call fuel b8_0) fu st = some (.ex 0, X8_0 (.own (sf (neB (fitT L)) (fitT L)))) := by
  have hlen := len_tot hL
  have e0 : fitT (L.take L.length) = fitT L := by rw [List.take_length]
  refine loop_cnt call fuel h8_0 _ L.length (fun i => L8_0 (.own (sf (neB (fitT (L.take i))) (fitT (L.take i)))) (.own (sd zb L)) (ii L.length) (ii i)) (.ex 0, X8_0 (.own (sf (neB (fitT L)) (fitT L)))) (by simp) ?_ (by rw [e0]; simp) fu st (by rw [h0]; rfl) (by omega)
  intro i hi
  have hwr := wrap_succ (i := i) (by omega)
  have hmem := nth_mem z3 hi
  have he := hL _ hmem
  have h24 : (nth L z3 i).1 ≤ 24 := Int.le_trans (tot3_mem hL hmem) ht
  have hs : L.take (i + 1) = L.take i ++ [nth L z3 i] := take_snocI z3 L hi
  have ho : (fitT (L.take i)).length ≤ 1000 := by
    have h1 := fitT_len (l := L.take i) fun x hx => hL x (List.mem_of_mem_take hx)
    have h2 := tot3_take hL i
    omega
  have hR := fun (st : St) h => loop8_1 call fuel h33 zb L (L.length : Int) (i : Int) (nth L z3 i) he h24 (fitT (L.take i)) ho fuel hF st h
  rw [← fitT_snoc, ← hs] at hR
  generalize fitT (L.take (i + 1)) = o' at *
  generalize fitT (L.take i) = o at *
  generalize neB o' = z' at *
  generalize neB o = z at *
  clear hs e0
  simp [hi, hwr]
  rw [hR _ (by simp)]
  simp [hwr]
theorem f8 (call : Oracle) (fuel : Nat) (hF : 1000 < fuel) (h33 : Mean33 call) (b b' zb : Bool) (v w : List Int) (L : List T3) (hL : ∀ e ∈ L, Ok3 e) (ht : tot3 L ≤ 24) (h31 : call 31 [si b v, si b' w] = some (.v (.int .i64 0))) (h32 : call 32 [si b v, si b' w] = some (sd zb L)) :
    callF call fuel c8 [si b v, si b' w] = some (.nd .tu [sf (neB (fitT L)) (fitT L), .v (.int .i64 0)]) := by
  rw [callF_tab call fuel c8 K8 _ (by exact Nat.le_of_ble_eq_true rfl) (by exact Nat.le_of_ble_eq_true rfl)]
  have hl := loop8_0 call fuel hF h33 zb L hL ht fuel hF
  generalize fitT L = o at *
  generalize neB o = z at *
  clear hL h33
  simp [c8, K8, h31, h32]
  rw [hl _ (by simp; rfl)]
  simp
/-! ### Blocks -/
def startsT (l : List T3) (i : Nat) : List Int := (List.range i).map fun j => tot3 (l.take j)
theorem starts_succ (l : List T3) (i : Nat) : startsT l (i + 1) = startsT l i ++ [tot3 (l.take i)] := by
  simp [startsT, List.range_succ]
theorem loop13 (call : Oracle) (fuel : Nat) (zb : Bool) (L : List T3) (hL : ∀ e ∈ L, Ok3 e) (ht : tot3 L ≤ 24) (fu : Nat) (hfu : 1000 < fu) (st : St)
    (h0 : drops st h13_0 = L13_0 (.own (si true [])) (ii 0) (.own (sd zb L)) (ii L.length) (ii 0)) :
    run.loopN (run call fuel b13_0) fu st = some (.ex 0, X13_0 (.own (si (nlB L.length) (startsT L L.length)))) := by
  have hlen := len_tot hL
  refine loop_cnt call fuel h13_0 _ L.length (fun i => L13_0 (.own (si (nlB i) (startsT L i))) (ii (tot3 (L.take i))) (.own (sd zb L)) (ii L.length) (ii i)) (.ex 0, X13_0 (.own (si (nlB L.length) (startsT L L.length)))) (by simp) ?_ (by simp) fu st (by rw [h0]; rfl) (by omega)
  intro i hi
  have hwr := wrap_succ (i := i) (by omega)
  have hs : L.take (i + 1) = L.take i ++ [nth L z3 i] := take_snocI z3 L hi
  have ht1 : tot3 (L.take (i + 1)) = tot3 (L.take i) + (nth L z3 i).1 := by rw [hs, tot3_app]; simp [tot3]
  have h1 := tot3_take hL i
  have h2 := tot3_nonneg (l := L.take i) fun x hx => hL x (List.mem_of_mem_take hx)
  have h3 := (hL _ (nth_mem z3 hi)).s1
  have h4 := tot3_mem hL (nth_mem z3 hi)
  have hw2 : IntKind.i64.wrap (tot3 (L.take i) + (nth L z3 i).1) = tot3 (L.take (i + 1)) := by rw [ht1]; exact wrap_eq (by unfold I64; omega)
  have hnl : nlB (i + 1) = false := by simp [nlB]
  have hm : (startsT L i).length + 1 ≤ most := by unfold startsT most; simp; omega
  rw [hnl, starts_succ]
  clear ht1 hs h1 h2 h3 h4
  generalize startsT L i = S at *
  generalize nlB i = z at *
  generalize tot3 (L.take (i + 1)) = t' at *
  generalize tot3 (L.take i) = t at *
  simp [hi, hwr, hw2, hm]
theorem f13 (call : Oracle) (fuel : Nat) (hF : 1000 < fuel) (b b' zb : Bool) (v w : List Int) (L : List T3) (hL : ∀ e ∈ L, Ok3 e) (ht : tot3 L ≤ 24) (h31 : call 31 [si b v, si b' w] = some (.v (.int .i64 0))) (h32 : call 32 [si b v, si b' w] = some (sd zb L)) :
    callF call fuel c13 [si b v, si b' w] = some (.nd .tu [si (nlB L.length) (startsT L L.length), .v (.int .i64 0)]) := by
  rw [callF_tab call fuel c13 K13 _ (by exact Nat.le_of_ble_eq_true rfl) (by exact Nat.le_of_ble_eq_true rfl)]
  have hl := loop13 call fuel zb L hL ht fuel hF
  generalize startsT L L.length = S at *
  generalize nlB L.length = z at *
  clear hL
  simp [c13, K13, h31, h32]
  rw [hl _ (by simp; rfl)]
  simp
end Go.Mx
namespace Go.Mx
set_option linter.unusedVariables false
set_option linter.unusedSimpArgs false
set_option linter.unusedSectionVars false
open Go

abbrev u8l (b : Bool) (l : List Int) : D := gsl (eI .u8) b l
def wgt (x : Int) : Int := 1 + x.tmod 9
def vls (v : List Int) : List Int := v.map fun x => 1 + x
def wts (w : List Int) : List Int := w.map wgt
def fllB (v : List Int) (i : Nat) : Bool := (List.range i).all fun j => j == 0 || decide (nth v 0 j ≤ nth v 0 (j - 1))
theorem vls_succ (v : List Int) {i : Nat} (h : i < v.length) : vls (v.take (i + 1)) = vls (v.take i) ++ [1 + nth v 0 i] := by
  rw [take_snocI 0 v h]; simp [vls]
theorem wts_succ (v : List Int) {i : Nat} (h : i < v.length) : wts (v.take (i + 1)) = wts (v.take i) ++ [wgt (nth v 0 i)] := by
  rw [take_snocI 0 v h]; simp [wts]
theorem fll_succ (v : List Int) (i : Nat) : fllB v (i + 1) = (fllB v i && (i == 0 || decide (nth v 0 i ≤ nth v 0 (i - 1)))) := by
  simp [fllB, List.range_succ]
theorem loop3_0 (call : Oracle) (fuel : Nat) (b b' bf : Bool) (v w f : List Int) (hlw : w.length = v.length) (hl : v.length ≤ 8) (hv : ∀ x ∈ v, 0 ≤ x ∧ x < 256) (hw : ∀ x ∈ w, 0 ≤ x ∧ x < 256) (fu : Nat) (hfu : 1000 < fu) (st : St)
    (h0 : drops st h3_0 = L3_0 (.ro (u8l b v)) (.ro (u8l b' w)) (.ro (u8l bf f)) (ii v.length) (.own (si true [])) (.own (si true [])) (.own (si true [])) (bb true) (ii 0)) :
    run.loopN (run call fuel b3_0) fu st = some (.ex 0, X3_0 (.ro (u8l bf f)) (ii v.length) (.own (si (nlB v.length) (vls v))) (.own (si (nlB v.length) (wts w))) (.own (si (nlB v.length) (List.replicate v.length 1))) (bb (fllB v v.length))) := by
  have e1 : vls (v.take v.length) = vls v := by rw [List.take_length]
  have e2 : wts (w.take v.length) = wts w := by rw [← hlw, List.take_length]
  refine loop_cnt call fuel h3_0 _ v.length (fun i => L3_0 (.ro (u8l b v)) (.ro (u8l b' w)) (.ro (u8l bf f)) (ii v.length) (.own (si (nlB i) (vls (v.take i)))) (.own (si (nlB i) (wts (w.take i)))) (.own (si (nlB i) (List.replicate i 1))) (bb (fllB v i)) (ii i))
    (.ex 0, X3_0 (.ro (u8l bf f)) (ii v.length) (.own (si (nlB v.length) (vls v))) (.own (si (nlB v.length) (wts w))) (.own (si (nlB v.length) (List.replicate v.length 1))) (bb (fllB v v.length))) (by simp) ?_ (by rw [e1, e2]; simp) fu st (by rw [h0]; rfl) (by omega)
  intro i hi
  have hwr := wrap_succ (i := i) (by omega)
  have hi2 : i < w.length := by omega
  have bv := hv _ (nth_mem 0 hi)
  have bw := hw _ (nth_mem 0 hi2)
  have hnl : nlB (i + 1) = false := by simp [nlB]
  have w1 : IntKind.i64.wrap (nth v 0 i) = nth v 0 i := wrap_eq (by unfold I64; omega)
  have w2 : IntKind.i64.wrap (nth w 0 i) = nth w 0 i := wrap_eq (by unfold I64; omega)
  have w3 : IntKind.i64.wrap (1 + nth v 0 i) = 1 + nth v 0 i := wrap_eq (by unfold I64; omega)
  have hmod : 0 ≤ (nth w 0 i).tmod 9 ∧ (nth w 0 i).tmod 9 < 9 := by
    rw [Int.tmod_eq_emod_of_nonneg bw.1]; omega
  have w4 : IntKind.i64.wrap (1 + (nth w 0 i).tmod 9) = wgt (nth w 0 i) := wrap_eq (by unfold I64; omega)
  have hv' := vls_succ v hi
  have hw' := wts_succ w hi2
  have hf' := fll_succ v i
  have m1 : (vls (v.take i)).length + 1 ≤ most := by unfold vls most; simp; omega
  have m2 : (wts (w.take i)).length + 1 ≤ most := by unfold wts most; simp; omega
  have m3 : (List.replicate i (1 : Int)).length + 1 ≤ most := by unfold most; simp; omega
  have hr : List.replicate (i + 1) (1 : Int) = List.replicate i 1 ++ [1] := List.replicate_succ'
  rw [hv', hw', hf', hr, hnl]
  clear e1 e2 hv' hw' hf' hr hnl hv hw
  generalize vls (v.take i) = V at *
  generalize wts (w.take i) = W at *
  generalize List.replicate i (1 : Int) = O at *
  generalize nlB i = z at *
  generalize fllB v i = fl at *
  generalize wgt (nth w 0 i) = wg at *
  have hi0 : (i : Int) = 0 ↔ i = 0 := by omega
  cases i with
  | zero =>
    have wk : IntKind.i64.wrap 1 = 1 := by decide
    cases fl <;> simp [hi, hi2, wk, w1, w2, w3, w4, m1, m2, m3]
  | succ j =>
    have hj : j < v.length := by omega
    have wj : IntKind.i64.wrap (j : Int) = j := wrapI (by omega)
    have hz : ¬ (j : Int) + 1 = 0 := by omega
    have hji : (j : Int) + 1 < (v.length : Int) := by omega
    have wk : IntKind.i64.wrap ((j : Int) + 1 + 1) = (j : Int) + 1 + 1 := wrap_eq (by unfold I64; omega)
    cases fl
    · simp [hi, hi2, hji, wk, w1, w2, w3, w4, m1, m2, m3, hj, wj, hz]
    · by_cases h : nth v 0 (j + 1) ≤ nth v 0 j <;> simp [hi, hi2, hji, wk, w1, w2, w3, w4, m1, m2, m3, hj, wj, hz, h]
/-! ### the list that is tried -/
def lstM (f : List Int) : Nat → Int
  | 0 => 300
  | i + 1 => min (lstM f i) (nth f 0 i)
def lstF (f : List Int) (i : Nat) : List Rat := (List.range i).map fun j => ((lstM f (j + 1) : Int) : Rat)
theorem lstM_bnd {f : List Int} (hf : ∀ x ∈ f, 0 ≤ x ∧ x < 256) : ∀ i, i ≤ f.length → 0 ≤ lstM f i ∧ lstM f i ≤ 300
  | 0, _ => by simp [lstM]
  | i + 1, h => by
    have h1 := lstM_bnd hf i (by omega)
    have h2 := hf _ (nth_mem 0 (show i < f.length by omega))
    simp only [lstM]; omega
theorem lstF_succ (f : List Int) (i : Nat) : lstF f (i + 1) = lstF f i ++ [((lstM f (i + 1) : Int) : Rat)] := by
  simp [lstF, List.range_succ]
theorem lstF_len (f : List Int) (i : Nat) : (lstF f i).length = i := by simp [lstF]
theorem loop3_1 (call : Oracle) (fuel : Nat) (h7 : Of7 call) (bf : Bool) (f : List Int) (d8 d9 d10 : D) (fl : Bool) (hl : f.length ≤ 8) (hf : ∀ x ∈ f, 0 ≤ x ∧ x < 256) (fu : Nat) (hfu : 1000 < fu) (st : St)
    (h0 : drops st h3_1 = L3_1 (.ro (u8l bf f)) (ii f.length) (.own d8) (.own d9) (.own d10) (bb fl) (.own (sf true [])) (ii 300) (ii 0)) :
    run.loopN (run call fuel b3_1) fu st = some (.ex 2, X3_2 (ii f.length) (.own d8) (.own d9) (.own d10) (bb fl) (.own (sf (neB (lstF f f.length)) (lstF f f.length)))) := by
  refine loop_cnt call fuel h3_1 _ f.length (fun i => L3_1 (.ro (u8l bf f)) (ii f.length) (.own d8) (.own d9) (.own d10) (bb fl) (.own (sf (neB (lstF f i)) (lstF f i))) (ii (lstM f i)) (ii i))
    (.ex 2, X3_2 (ii f.length) (.own d8) (.own d9) (.own d10) (bb fl) (.own (sf (neB (lstF f f.length)) (lstF f f.length)))) (by simp) ?_ (by simp) fu st (by rw [h0]; rfl) (by omega)
  intro i hi
  have hwr := wrap_succ (i := i) (by omega)
  have bv := hf _ (nth_mem 0 hi)
  have w1 : IntKind.i64.wrap (nth f 0 i) = nth f 0 i := wrap_eq (by unfold I64; omega)
  have hb := lstM_bnd hf (i + 1) (by omega)
  have e := h7 (lstM f (i + 1)) 1 (by omega) (by omega) (by omega) (by omega)
  rw [mk1, show ((1 : Nat) : Int) = 1 from rfl] at e
  have hm : (lstF f i).length + 1 ≤ most := by rw [lstF_len]; unfold most; omega
  have hmin : lstM f (i + 1) = min (lstM f i) (nth f 0 i) := rfl
  rw [lstF_succ, neB_snoc]
  clear hf h7 hb bv
  generalize ((lstM f (i + 1) : Int) : Rat) = q at *
  generalize lstF f i = F at *
  generalize neB F = z at *
  rw [hmin] at e ⊢
  generalize lstM f i = m at *
  clear hmin
  simp [hi, hwr, w1, e, hm]
/-! ### the same lists -/
def samB (F L : List Rat) (i : Nat) : Bool := (List.range i).all fun j => decide (nth F 0 j = nth L 0 j)
theorem sam_succ (F L : List Rat) (i : Nat) : samB F L (i + 1) = (samB F L i && decide (nth F 0 i = nth L 0 i)) := by
  simp [samB, List.range_succ]
theorem cmpR_zero (a b : Rat) : cmpR a b = 0 ↔ a = b := by
  unfold cmpR
  constructor
  · intro h
    split at h
    · omega
    · rename_i h1
      split at h
      · omega
      · rename_i h2
        exact Rat.le_antisymm (Rat.not_lt.1 h2) (Rat.not_lt.1 h1)
  · rintro rfl
    simp [Rat.lt_irrefl]
theorem loop3_2 (call : Oracle) (fuel : Nat) (h11 : Cmp11 call) (F L : List Rat) (n : Nat) (hF : F.length = n) (hL : L.length = n) (hn : n ≤ 8) (sF : ∀ q ∈ F, SZ 20000 q) (sL : ∀ q ∈ L, SZ 20000 q) (zF zL fl : Bool) (d8 d10 d18 d20 : D) (fu : Nat) (hfu : 1000 < fu) (st : St)
    (h0 : drops st h3_2 = L3_2 (ii n) (.own d8) (.own d10) (bb fl) (.own (sf zL L)) (.own (sf zF F)) (.own d18) (.own d20) (bb true) (ii 0)) :
    run.loopN (run call fuel b3_2) fu st = some (.ex 4, X3_4 (ii n) (.own d8) (.own d10) (bb fl) (.own d18) (.own d20) (bb (samB F L n))) := by
  refine loop_cnt call fuel h3_2 _ n (fun i => L3_2 (ii n) (.own d8) (.own d10) (bb fl) (.own (sf zL L)) (.own (sf zF F)) (.own d18) (.own d20) (bb (samB F L i)) (ii i))
    (.ex 4, X3_4 (ii n) (.own d8) (.own d10) (bb fl) (.own d18) (.own d20) (bb (samB F L n))) (by simp) ?_ (by simp) fu st (by rw [h0]; rfl) (by omega)
  intro i hi
  have hwr := wrap_succ (i := i) (by omega)
  have i1 : i < F.length := by omega
  have i2 : i < L.length := by omega
  have e := h11 _ _ (sF _ (nth_mem 0 i1)) (sL _ (nth_mem 0 i2))
  have hc := cmpR_zero (nth F 0 i) (nth L 0 i)
  rw [sam_succ]
  generalize samB F L i = z at *
  generalize cmpR (nth F 0 i) (nth L 0 i) = c at *
  clear sF sL h11
  cases z
  · simp [hi, hwr, i1, i2]
  · by_cases h : nth F 0 i = nth L 0 i
    · have h' := hc.2 h
      subst h'
      rw [decide_eq_true h]
      clear h hc
      simp [hi, hwr, i1, i2, e]
    · have h' : ¬ c = 0 := fun x => h (hc.1 x)
      rw [decide_eq_false h]
      clear h hc
      have hcb : (c == 0) = false := by simpa using h'
      simp [hi, hwr, i1, i2, e, h', hcb]
end Go.Mx
namespace Go.Mx
set_option linter.unusedVariables false
set_option linter.unusedSimpArgs false
set_option linter.unusedSectionVars false
open Go

set_option maxHeartbeats 1000000 in
theorem loop3_3 (call : Oracle) (fuel : Nat) (h11 : Cmp11 call) (V B : List Int) (P : List Rat) (n m : Nat) (hV : V.length = n) (hP : P.length = n) (hB : B.length = m) (hn : n ≤ 8) (hm : m ≤ 100) (sP : ∀ q ∈ P, SZ 20000 q) (zP zB : Bool)
    (hR : ∀ i, i < m → ∃ s e : Nat, nth B 0 i = (s : Int) ∧ (if i + 1 < m then nth B 0 (i + 1) else (n : Int)) = (e : Int) ∧ s < e ∧ e ≤ n ∧ call 14 [si false ((V.drop s).take (e - s))] = some (.nd .tu [frX (nth P 0 s), .v (.int .i64 0)]))
    (fu : Nat) (hfu : 1000 < fu) (st : St)
    (h0 : drops st h3_3 = L3_3 (ii n) (.own (si false V)) (.own (sf zP P)) (.own (si zB B)) (ii 0)) :
    run.loopN (run call fuel b3_3) fu st = some (.ex 6, X3_6 (.own (si zB B))) := by
  refine loop_cnt call fuel h3_3 _ m (fun i => L3_3 (ii n) (.own (si false V)) (.own (sf zP P)) (.own (si zB B)) (ii i)) (.ex 6, X3_6 (.own (si zB B))) (by simp) ?_ (by simp [hB]) fu st (by rw [h0]; rfl) (by omega)
  intro i hi
  obtain ⟨s, e, hs, he, hse, hen, h14⟩ := hR i hi
  clear hR
  have hwr := wrap_succ (i := i) (by omega)
  have hw1 : IntKind.i64.wrap ((i : Int) + 1) = (i : Int) + 1 := wrap_eq (by unfold I64; omega)
  have i1 : i < B.length := by omega
  have i2 : s < P.length := by omega
  have hs0 : ¬ (s : Int) < 0 := by omega
  have e11 := h11 _ _ (sP _ (nth_mem 0 i2)) (sP _ (nth_mem 0 i2))
  rw [(cmpR_zero _ _).2 rfl] at e11
  have c1 : ¬ (e : Int) ≤ (s : Int) := by omega
  have c2 : ¬ (n : Int) < (e : Int) := by omega
  have c3 : s ≤ e := by omega
  have c4 : e ≤ V.length := by omega
  have c5 : s + (e - s) ≤ V.length := by omega
  have hBi : (B.length : Int) = m := by omega
  clear sP h11
  by_cases h : i + 1 < m
  · rw [if_pos h] at he
    have i3 : i + 1 < B.length := by omega
    have hlt : (i : Int) + 1 < (m : Int) := by omega
    have hlt2 : (i : Int) + 1 < (B.length : Int) := by omega
    simp (config := {maxSteps := 4000000}) [hB, hi, i1, hw1, hs, he, hs0, c1, c2, c3, c4, c5, i2, i3, h, hlt, hlt2, h14, e11]
  · rw [if_neg h] at he
    have hlt : ¬ (i : Int) + 1 < (m : Int) := by omega
    have hlt2 : ¬ (i : Int) + 1 < (B.length : Int) := by omega
    have hne : n = e := by omega
    subst hne
    simp (config := {maxSteps := 4000000}) [hB, hi, i1, hw1, hs, hs0, c1, c2, c3, c4, c5, i2, h, hlt, hlt2, h14, e11]
set_option maxHeartbeats 4000000 in
theorem f3 (call : Oracle) (fuel : Nat) (hF : 1000 < fuel) (h7 : Of7 call) (h11 : Cmp11 call) (b b' bf : Bool) (v w f : List Int) (n m : Nat) (hlv : v.length = n) (hlw : w.length = n) (hlf : f.length = n) (h1 : 1 ≤ n) (h8 : n ≤ 8)
    (hv : ∀ x ∈ v, 0 ≤ x ∧ x < 256) (hw : ∀ x ∈ w, 0 ≤ x ∧ x < 256) (hf : ∀ x ∈ f, 0 ≤ x ∧ x < 256) (h6 : call 6 [] = some (.v (.bool true)))
    (Ft P : List Rat) (B : List Int) (c1 c2 : Rat) (zF zP zB : Bool) (hFt : Ft.length = n) (hP : P.length = n) (hB : B.length = m) (hm0 : 0 < m) (hm : m ≤ 100) (sF : ∀ q ∈ Ft, SZ 20000 q) (sL : ∀ q ∈ lstF f n, SZ 20000 q) (sP : ∀ q ∈ P, SZ 20000 q) (sc1 : SZ 20000 c1) (sc2 : SZ 20000 c2)
    (e8 : call 8 [si false (vls v), si false (wts w)] = some (.nd .tu [sf zF Ft, .v (.int .i64 0)]))
    (e9 : call 9 [si false (vls v), si false (wts w), sf zF Ft] = some (.nd .tu [frX c1, .v (.int .i64 0)]))
    (e9' : call 9 [si false (vls v), si false (wts w), sf false (lstF f n)] = some (.nd .tu [frX c2, .v (.int .i64 0)]))
    (e10 : call 10 [sf zF Ft] = some (.v (.bool true))) (e10' : call 10 [sf false (lstF f n)] = some (.v (.bool true)))
    (hle : c1 ≤ c2) (hsame : samB Ft (lstF f n) n = decide (c1 = c2)) (sg1 : Int) (e12 : call 12 [frX c1] = some (.v (.int .i64 sg1))) (hsg : fllB v n = decide (sg1 = 0))
    (e8' : call 8 [si false (vls v), si false (List.replicate n 1)] = some (.nd .tu [sf zP P, .v (.int .i64 0)]))
    (e13 : call 13 [si false (vls v), si false (List.replicate n 1)] = some (.nd .tu [si zB B, .v (.int .i64 0)]))
    (hR : ∀ i, i < m → ∃ s e : Nat, nth B 0 i = (s : Int) ∧ (if i + 1 < m then nth B 0 (i + 1) else (n : Int)) = (e : Int) ∧ s < e ∧ e ≤ n ∧ call 14 [si false (((vls v).drop s).take (e - s))] = some (.nd .tu [frX (nth P 0 s), .v (.int .i64 0)])) :
    callF call fuel c3 [u8l b v, u8l b' w, u8l bf f] = some (.v (.bool true)) := by
  rw [callF_tab call fuel c3 K3 _ (by exact Nat.le_of_ble_eq_true rfl) (by exact Nat.le_of_ble_eq_true rfl)]
  have hL0 := loop3_0 call fuel b b' bf v w f (by omega) (by omega) hv hw fuel hF
  have hnl : nlB n = false := by simp [nlB]; omega
  rw [hlv, hnl] at hL0
  have hL1 := fun d8 d9 d10 fl => loop3_1 call fuel h7 bf f d8 d9 d10 fl (by omega) hf fuel hF
  have hne : neB (lstF f n) = false := by unfold neB; rw [lstF_len]; simp; omega
  rw [hlf, hne] at hL1
  have hL2 := fun d8 d10 d18 d20 fl => loop3_2 call fuel h11 Ft (lstF f n) n hFt (lstF_len _ _) h8 sF sL zF false fl d8 d10 d18 d20 fuel hF
  rw [hsame] at hL2
  have hL3 := loop3_3 call fuel h11 (vls v) B P n m (by simp [vls, hlv]) hP hB h8 hm sP zP zB hR fuel hF
  have e11 := h11 c1 c2 sc1 sc2
  have hc0 : ¬ 0 < cmpR c1 c2 := by
    unfold cmpR
    split
    · omega
    · rename_i h
      rw [if_neg (Rat.not_lt.2 hle)]; omega
  have hcz := cmpR_zero c1 c2
  have hlF : (Ft.length : Int) = n := by omega
  have hlP : (P.length : Int) = n := by omega
  have hlB : 0 < (B.length : Int) := by omega
  have k1 : ¬ (n : Int) < 1 := by omega
  have k2 : ¬ 8 < (n : Int) := by omega
  have hdz : decide (c1 = c2) = (cmpR c1 c2 == 0) := by
    rw [Bool.eq_iff_iff, decide_eq_true_eq, beq_iff_eq]; exact hcz.symm
  rw [hdz] at hL2
  have hsg' : fllB v n = (sg1 == 0) := by
    rw [hsg, Bool.eq_iff_iff, decide_eq_true_eq, beq_iff_eq]
  rw [hsg'] at hL0
  clear hR sF sL sP sc1 sc2 h7 h11 hsame hsg hsg' hle hcz hdz hv hw hf
  generalize cmpR c1 c2 = cc at *
  generalize lstF f n = Ls at *
  generalize vls v = Vs at *
  generalize wts w = Ws at *
  generalize List.replicate n (1 : Int) = Os at *
  simp (config := {maxSteps := 4000000}) [c3, K3, hlv, hlw, hlf, h6, k1, k2]
  rw [hL0 _ (by simp [hlv]; rfl)]
  simp (config := {maxSteps := 4000000})
  rw [hL1 (si false Vs) (si false Ws) (si false Os) (sg1 == 0) _ (by simp; rfl)]
  simp (config := {maxSteps := 4000000}) [e8, e9, e9', e10, e10', e11, hc0, hlF]
  rw [hL2 (si false Vs) (si false Os) (.nd (.bx false) (frK c1)) (.nd (.bx false) (frK c2)) (sg1 == 0) _ (by simp)]
  simp (config := {maxSteps := 4000000}) [e11, e12, e8', e13, hlP]
  rw [hL3 _ (by simp)]
  simp (config := {maxSteps := 4000000}) [hlB]
  omega
/-- Anything else: the functions are awake. -/
theorem f3e (call : Oracle) (fuel : Nat) (b b' bf : Bool) (v w f : List Int) (h : ¬ (1 ≤ v.length ∧ v.length ≤ 8 ∧ w.length = v.length ∧ f.length = v.length)) (h6 : call 6 [] = some (.v (.bool true))) :
    callF call fuel c3 [u8l b v, u8l b' w, u8l bf f] = some (.v (.bool true)) := by
  rw [callF_tab call fuel c3 K3 _ (by exact Nat.le_of_ble_eq_true rfl) (by exact Nat.le_of_ble_eq_true rfl)]
  by_cases h1 : (v.length : Int) < 1
  · simp (config := {maxSteps := 4000000}) [c3, K3, h6, h1]
  by_cases h2 : 8 < (v.length : Int)
  · simp (config := {maxSteps := 4000000}) [c3, K3, h6, h1, h2]
  by_cases h3 : w.length = v.length
  · have h4 : ¬ (f.length : Int) = v.length := by omega
    simp (config := {maxSteps := 4000000}) [c3, K3, h6, h1, h2, h3, h4]
  · have h3' : ¬ (w.length : Int) = v.length := by omega
    simp (config := {maxSteps := 4000000}) [c3, K3, h6, h1, h2, h3']
end Go.Mx
namespace Go.Mx
set_option linter.unusedVariables false
set_option linter.unusedSimpArgs false
set_option linter.unusedSectionVars false
open Go

section
variable (l : List Rat) (r : Nat) (p : List Nat)
@[simp] theorem F_agg0 : aggV r p (gk eF l) 0 3 = if 0 < l.length then some (.vn .ag [.sc (.bool (qs (nth l 0 0))), .ref r (p ++ [1]), .ref r (p ++ [2])]) else none := F_aggV l 0 r p
@[simp] theorem F_agg6 : aggV r p (gk eF l) 6 3 = if 2 < l.length then some (.vn .ag [.sc (.bool (qs (nth l 0 2))), .ref r (p ++ [7]), .ref r (p ++ [8])]) else none := F_aggV l 2 r p
@[simp high] theorem F_c1 : (gk eF l)[1]? = if 0 < l.length then some (gsl (eI .u32) (qz (nth l 0 0)) (ql (nth l 0 0))) else none := F_cell1 l 0
@[simp high] theorem F_c2 : (gk eF l)[2]? = if 0 < l.length then some (gsl (eI .u32) false (qm (nth l 0 0))) else none := F_cell2 l 0
@[simp high] theorem F_c7 : (gk eF l)[7]? = if 2 < l.length then some (gsl (eI .u32) (qz (nth l 0 2)) (ql (nth l 0 2))) else none := F_cell1 l 2
@[simp high] theorem F_c8 : (gk eF l)[8]? = if 2 < l.length then some (gsl (eI .u32) false (qm (nth l 0 2))) else none := F_cell2 l 2
end
theorem f6 (call : Oracle) (fuel : Nat) (F : List Rat) (m : Rat) (hF : F.length = 3) (zF : Bool) (A4 A1 : ByteArray) (h4 : A4.toList = [52]) (h1 : A1.toList = [49])
    (e8 : call 8 [si false [3, 5, 1], si false [1, 1, 1]] = some (.nd .tu [sf zF F, .v (.int .i64 0)])) (e14 : call 14 [si false [3, 5]] = some (.nd .tu [frX m, .v (.int .i64 0)]))
    (t0 : call 28 [frX (nth F 0 0)] = some (.v (.string A4))) (t2 : call 28 [frX (nth F 0 2)] = some (.v (.string A1))) (t3 : call 28 [frX m] = some (.v (.string A4))) :
    callF call fuel c6 [] = some (.v (.bool true)) := by
  rw [callF_tab call fuel c6 K6 _ (by exact Nat.le_of_ble_eq_true rfl) (by exact Nat.le_of_ble_eq_true rfl)]
  change call 8 [.nd (.sl false 1 3) [.v (.int .i64 3), .v (.int .i64 5), .v (.int .i64 1)], .nd (.sl false 1 3) [.v (.int .i64 1), .v (.int .i64 1), .v (.int .i64 1)]] = _ at e8
  change call 14 [.nd (.sl false 1 2) [.v (.int .i64 3), .v (.int .i64 5)]] = _ at e14
  have n2 : natOf 2 = some 2 := rfl
  simp (config := {maxSteps := 4000000}) [n2, c6, K6, e8, e14, hF, t0, t2, t3, h4, h1]
end Go.Mx
namespace Go.Mx
set_option linter.unusedVariables false
set_option linter.unusedSimpArgs false
set_option linter.unusedSectionVars false
open Go

theorem FU_ex' (m : Nat) : ∃ n : Nat, ∀ k x, k ≤ m → x < BB ^ k → x < n := ⟨BB ^ m, fun _ _ hk h => Nat.lt_of_lt_of_le h (Nat.pow_le_pow_right (by decide) hk)⟩
theorem FU_ex : ∃ n : Nat, ∀ k x, k ≤ 100000 → x < BB ^ k → x < n := FU_ex' 100000
/-- A fuel that is enough for all. -/
noncomputable def FU : Nat := Classical.choose FU_ex
theorem FU_lt {n k : Nat} (hk : k ≤ 100000) (h : n < BB ^ k) : n < FU := Classical.choose_spec FU_ex k n hk h
theorem FU_9 : 1000000000 < FU := FU_lt (k := 2) (by decide) (by decide)
theorem FU_6 : 1000000 < FU := Nat.lt_trans (by decide) FU_9
theorem FU_3 : 1000 < FU := Nat.lt_trans (by decide) FU_9
noncomputable abbrev S (n : Nat) : Oracle := semW baseX tbl FU n
theorem sdF {n : Nat} {f : FuncId} {ds : List D} {mf : MF} (h : tbl f = some mf) (hb : hasB mf.code = false := by rfl) : S (n + 1) f ds = callF (S n) FU mf ds := semW_succ h hb
theorem sdB {n : Nat} {f : FuncId} {ds : List D} {mf : MF} (h : tbl f = some mf) (hb : hasB mf.code = true := by rfl) : S (n + 1) f ds = callB (S n) FU mf ds := semW_succB h hb
theorem v85 (n : Nat) : Trim85 (S (n + 1)) := fun b l hl => by
  unfold S
  rw [semW_vw tbl_ok (by decide)]
  exact baseX_85 b l hl
theorem t59 (n : Nat) : Txt59 (S (n + 1)) := fun k h1 h2 => by
  unfold S
  rw [semW_base rfl (by decide)]
  exact baseX_at k h1 h2
theorem L64 (n : Nat) : Lim64 (S (n + 2)) := fun k h => by rw [sdB (mf := c64) rfl]; exact f64 _ _ FU_6 (v85 n) k h
theorem C63 (n : Nat) : Cmp63 (S (n + 1)) := fun x y a b h1 h2 => by rw [sdF (mf := c63) rfl]; exact f63 _ _ FU_6 x y a b h1 h2
theorem C34 (n : Nat) : Cmp34 (S (n + 3)) := fun a b h1 h2 => by rw [sdB (mf := c34) rfl]; exact f34 _ _ (L64 n) (C63 (n + 1)) a b (by omega) (by omega)
theorem M65 (n : Nat) : Mad65 (S (n + 2)) := fun b l h1 h2 h3 => by
  unfold S
  rw [semW_mv (mf := c65) rfl rfl rfl]
  exact f65 _ _ (v85 n) b h1 h2 h3
theorem N60 (n : Nat) : Nof60 (S (n + 3)) := fun k h => by rw [sdF (mf := c60) rfl]; exact f60 _ _ (M65 n) k h
theorem M66 (n : Nat) : Mul66 (S (n + 2)) := fun x y a b h1 h2 h3 => by rw [sdF (mf := c66) rfl]; exact f66 _ _ FU_6 (v85 n) x y h1 h2 h3
theorem M35 (n : Nat) : Mul35 (S (n + 3)) := fun a b h1 h2 => by rw [sdB (mf := c35) rfl]; exact f35 _ _ (L64 n) (M66 n) (M65 n) a b h1 h2
theorem A74 (n : Nat) : Add74 (S (n + 2)) := fun a b h1 h2 => by rw [sdF (mf := c74) rfl]; exact f74 _ _ FU_6 (v85 n) a b h1 h2
theorem S75 (n : Nat) : Sub75 (S (n + 2)) := fun x y a b h1 h2 => by rw [sdF (mf := c75) rfl]; exact f75 _ _ FU_6 (v85 n) x y a b h1 h2
theorem K101' (n : Nat) : Cln101 (S (n + 1)) := fun l h => by rw [sdF (mf := c101) rfl]; exact f101 _ _ l h
theorem H100 (n : Nat) : Sho100 (S (n + 2)) := fun x a d h1 h2 h3 h4 => by rw [sdF (mf := c100) rfl]; exact f100 _ _ FU_6 (v85 n) x h1 d h2 h3 h4
theorem A53 (n : Nat) : Add53 (S (n + 3)) := fun a b h1 h2 => by rw [sdB (mf := c53) rfl]; exact f53 _ _ (L64 n) (A74 n) (M65 n) a b h1 h2
theorem B54 (n : Nat) : Sub54 (S (n + 3)) := fun a b h1 h2 => by rw [sdB (mf := c54) rfl]; exact f54 _ _ (L64 n) (C63 (n + 1)) (S75 n) (M65 n) a b h1 h2
theorem D84 (n : Nat) : Dvd84 (S (n + 3)) := fun a b h1 h2 h3 => by
  unfold S
  rw [semW_mv (mf := c84) rfl rfl rfl]
  exact f84 _ _ (C63 (n + 1)) (S75 n) (M66 n) (K101' (n + 1)) (v85 (n + 1)) (H100 n) FU_9 a b h1 h2 h3
theorem D62 (n : Nat) : Dvm62 (S (n + 4)) := fun a b h1 h2 h3 => by rw [sdB (mf := c62) rfl]; exact f62 _ _ (L64 (n + 1)) (D84 n) (M65 (n + 1)) a b h1 h2 h3
theorem G61 (n : Nat) : Gcd61 (S (n + 4)) := fun a b h1 h2 => by
  rw [sdB (mf := c61) rfl]
  exact f61 _ _ (L64 (n + 1)) (D84 n) (M65 (n + 1)) a b h1 h2 (FU_lt (Nat.le_of_lt h2) (dg_len_le.1 (Nat.le_refl _)))
theorem Z36 (n : Nat) : Zer36 (S (n + 4)) := fun a h => by rw [sdB (mf := c36) rfl]; exact f36 _ _ (C34 n) a h
theorem Q30 (n : Nat) (v : Int) (h1 : -9223372036854775808 ≤ v) (h2 : v < 9223372036854775808) : S (n + 4) 30 [.v (.int .i64 v)] = some (nz v.natAbs) := by
  rw [sdF (mf := c30) rfl]; exact f30 _ _ (N60 n) v h1 h2
theorem M29 (n : Nat) : Mad29 (S (n + 5)) := fun s a b h1 h2 => by rw [sdB (mf := c29) rfl]; exact f29 _ _ (Z36 n) (N60 (n + 1)) (G61 n) (D62 n) s a b h1 h2
theorem O7 (n : Nat) : Of7 (S (n + 6)) := fun a d h1 h2 h3 h4 => by
  rw [sdF (mf := c7) rfl, f7 _ _ (Q30 (n + 1)) (M29 n) a d h1 h2 (by omega) (by omega), of_eq, frD_X]
theorem N52 (n : Nat) : Nrm52 (S (n + 6)) := fun s a b h1 h2 => by rw [sdB (mf := c52) rfl]; exact f52 _ _ (Made29.of (M29 n)) s a b h1 h2
theorem G58 (n : Nat) : Neg58 (S (n + 6)) := fun s a b h1 h2 => by rw [sdB (mf := c58) rfl]; exact f58 _ _ (Made29.of (M29 n)) s a b h1 h2
theorem S12 (n : Nat) : Sgn12 (S (n + 5)) := fun s a b h1 h2 => by rw [sdB (mf := c12) rfl]; exact f12 _ _ (Z36 n) s a b h1 h2
theorem U27' (n : Nat) : Mul27 (S (n + 6)) := fun s s' a a' d d' h1 h2 h3 h4 => by rw [sdB (mf := c27) rfl]; exact f27 _ _ (Made29.of (M29 n)) (M35 (n + 2)) s s' a a' d d' h1 h2 h3 h4
theorem U27 (n : Nat) : MulX (S (n + 6)) := fun a b ha hb => by
  have := U27' n (decide (a.num < 0)) (decide (b.num < 0)) a.num.natAbs b.num.natAbs a.den b.den (by have := ha.1; omega) (by have := hb.1; omega) (by have := ha.2; omega) (by have := hb.2; omega)
  rw [mkRat_sg, mkRat_sg] at this
  have e : S (n + 6) 27 [frD a, frD b] = some (frD (a * b)) := this
  rwa [frD_X, frD_X, frD_X] at e
theorem C11 (n : Nat) : Cmp11 (S (n + 6)) := fun a b ha hb => by
  have e : S (n + 6) 11 [frD a, frD b] = some (.v (.int .i64 (cmpR a b))) := by
    rw [sdB (mf := c11) rfl]; exact f11 _ _ (S12 n) (C34 (n + 2)) (M35 (n + 2)) a b (ha.mono (by omega)) (hb.mono (by omega))
  rwa [frD_X, frD_X] at e
theorem A22' (n : Nat) : Add22 (S (n + 7)) := fun a b ha hb => by
  rw [sdF (mf := c22) rfl]; exact f22 _ _ (N52 n) (M35 (n + 3)) (A53 (n + 3)) (B54 (n + 3)) (Made29.of (M29 (n + 1))) a b ha hb
theorem A22 (n : Nat) : AddX (S (n + 7)) := fun a b ha hb => by
  have e := A22' n a b ha hb
  rwa [frD_X, frD_X, frD_X] at e
theorem B26 (n : Nat) : Sub26 (S (n + 8)) := fun a b ha hb => by
  have e : S (n + 8) 26 [frD a, frD b] = some (frD (a - b)) := by
    rw [sdB (mf := c26) rfl]; exact f26 _ _ (G58 (n + 1)) (A22' n) a b ha hb
  rwa [frD_X, frD_X, frD_X] at e
theorem T28 (k : Nat) (q : Rat) (n d : Nat) (hn : q.num = n) (hd : q.den = d) (h1 : 1 ≤ n) (h2 : n < 100) (h3 : d < 100) : S (k + 7) 28 [frX q] = some (.v (.string (txQ n d))) := by
  rw [← frD_X, sdF (mf := c28) rfl]
  exact f28 _ _ (N52 k) (t59 (k + 5)) q n d hn hd h1 h2 h3
theorem V33 (n : Nat) : Mean33 (S (n + 7)) := fun e he h24 => by
  rw [sdF (mf := c33) rfl]
  obtain ⟨a, s, d⟩ := e
  obtain ⟨h1, h2, h3, h4, h5⟩ := he
  simp only at h1 h2 h3 h4 h5 h24
  have hd : ((d.toNat : Nat) : Int) = d := by omega
  have := f33 (S (n + 6)) FU (O7 n) a s d.toNat (by omega) (by omega) (by omega) (by omega)
  rw [hd] at this
  exact this
section
variable {b b' : Bool} {v w : List Int} (hlw : w.length = v.length) (hl : v.length ≤ 24) (hv : ∀ x ∈ v, -1000000 ≤ x ∧ x ≤ 1000000) (hw : ∀ x ∈ w, 1 ≤ x ∧ x ≤ 1000)
include hlw hl hv hw
theorem I31 (n : Nat) : S (n + 1) 31 [si b v, si b' w] = some (.v (.int .i64 0)) := by
  rw [sdF (mf := c31) rfl]; exact f31 _ _ FU_3 b b' v w hlw hl hv hw
theorem I32 (n : Nat) : S (n + 1) 32 [si b v, si b' w] = some (sd (nlB v.length) (pavT v w v.length).reverse) := by
  rw [sdF (mf := c32) rfl]; exact f32 _ _ b b' v w hlw hl hv hw FU_3
theorem pav_ok : (∀ e ∈ (pavT v w v.length).reverse, Ok3 e) ∧ tot3 (pavT v w v.length).reverse = v.length := by
  obtain ⟨h1, h2⟩ := pavT_in hv hw hl hlw v.length (Nat.le_refl _)
  refine ⟨fun e he => h1 e (List.mem_reverse.1 he), ?_⟩
  rw [← h2]
  generalize pavT v w v.length = l
  clear h1 h2
  induction l with
  | nil => rfl
  | cons e l ih => rw [List.reverse_cons, tot3_app, ih]; simp [tot3]; omega
theorem I8 (n : Nat) : S (n + 8) 8 [si b v, si b' w] = some (.nd .tu [sf (neB (fitT (pavT v w v.length).reverse)) (fitT (pavT v w v.length).reverse), .v (.int .i64 0)]) := by
  obtain ⟨h1, h2⟩ := pav_ok hlw hl hv hw
  rw [sdF (mf := c8) rfl]
  exact f8 _ _ FU_3 (V33 n) b b' _ v w _ h1 (by omega) (I31 hlw hl hv hw (n + 6)) (I32 hlw hl hv hw (n + 6))
theorem I13 (n : Nat) : S (n + 2) 13 [si b v, si b' w] = some (.nd .tu [si (nlB (pavT v w v.length).reverse.length) (startsT (pavT v w v.length).reverse (pavT v w v.length).reverse.length), .v (.int .i64 0)]) := by
  obtain ⟨h1, h2⟩ := pav_ok hlw hl hv hw
  rw [sdF (mf := c13) rfl]
  exact f13 _ _ FU_3 b b' _ v w _ h1 (by omega) (I31 hlw hl hv hw n) (I32 hlw hl hv hw n)
theorem I9 (n : Nat) {bf : Bool} {f : List Rat} (hlf : f.length = v.length) (hf : ∀ q ∈ f, SZ 10 q) : S (n + 9) 9 [si b v, si b' w, sf bf f] = some (.nd .tu [frX (cstL v w f f.length), .v (.int .i64 0)]) := by
  rw [sdF (mf := c9) rfl]
  exact f9 _ _ FU_3 (O7 (n + 2)) (B26 n) (U27 (n + 2)) (A22 (n + 1)) b b' bf v w f hlw hlf hl hv hw hf (I31 hlw hl hv hw (n + 7))
end
theorem I10 (n : Nat) {b : Bool} {l : List Rat} (hl : l.length ≤ 100) (hs : ∀ q ∈ l, SZ 20000 q) : S (n + 7) 10 [sf b l] = some (.v (.bool (fallsB l))) := by
  rw [sdF (mf := c10) rfl]; exact f10 _ _ FU_3 (C11 n) b l hl hs
section
variable {b : Bool} {l : List Int} (h0 : 0 < l.length) (hl : l.length ≤ 64) (hw : ∀ x ∈ l, 1 ≤ x ∧ x ≤ 200000)
include h0 hl hw
theorem W37 (n : Nat) : S (n + 6) 37 [si b l] = some (.v (.int .i64 0)) := by
  have e88 : ∀ x : Int, S (n + 1) 88 [.v (.int .i64 x)] = some (.v (.bool (isW x))) := fun x => by rw [sdF (mf := c88) rfl]; exact f88 _ _ x
  have e87 : ∀ x : Int, S (n + 2) 87 [.v (.int .i64 x)] = some (.v (.bool (!isW x))) := fun x => by rw [sdF (mf := c87) rfl]; exact f87 _ _ x (e88 x)
  have e102 : S (n + 3) 102 [si b l, fnV 87 []] = some (.v (.int .i64 (idxO ((List.range l.length).find? fun i => !isW (nth l 0 i))))) := by
    rw [sdF (mf := c102) rfl]; exact f102 _ _ FU_3 b l 87 (by decide) [] (fun x => !isW x) (fun c _ => e87 c) (by omega)
  have e86 : S (n + 4) 86 [si b l, fnV 87 []] = some (.v (.bool (l.any fun x => !isW x))) := by
    rw [sdF (mf := c86) rfl]; exact f86 _ _ b l 87 [] (fun x => !isW x) e102
  have hany : (l.any fun x => !isW x) = false := by
    rw [List.any_eq_false]
    intro x hx
    have := hw x hx
    simp [isW]; omega
  rw [hany] at e86
  have e67 : S (n + 5) 67 [si b l] = some (.v (.int .i64 0)) := by rw [sdF (mf := c67) rfl]; exact f67 _ _ b l hl e86
  rw [sdF (mf := c37) rfl]
  exact f37 _ _ b l h0 e67
theorem I14 (n : Nat) : S (n + 7) 14 [si b l] = some (.nd .tu [frX (mkRat (sumI l) l.length), .v (.int .i64 0)]) := by
  rw [sdF (mf := c14) rfl]
  exact f14 _ _ FU_3 (O7 n) b l h0 hl (fun x hx => by have := hw x hx; omega) (W37 h0 hl hw n)
end
end Go.Mx
namespace Go.Mx
set_option linter.unusedVariables false
set_option linter.unusedSimpArgs false
set_option linter.unusedSectionVars false
open Go

/-! ### blocks of numbers and blocks of items -/
def R3g (e : T3) (g : List Itm) : Prop := e.1 = g.length ∧ (e.2.1 : Rat) = sumV g ∧ (e.2.2 : Rat) = sumW g
def RL {α β : Type} (R : α → β → Prop) : List α → List β → Prop
  | [], [] => True
  | e :: l, g :: s => R e g ∧ RL R l s
  | _, _ => False
theorem RL.app {α β : Type} {R : α → β → Prop} : ∀ {l l' : List α} {s s' : List β}, RL R l s → RL R l' s' → RL R (l ++ l') (s ++ s')
  | [], _, [], _, _, h => h
  | _ :: _, _, _ :: _, _, h, h' => ⟨h.1, h.2.app h'⟩
theorem RL.rev {α β : Type} {R : α → β → Prop} : ∀ {l : List α} {s : List β}, RL R l s → RL R l.reverse s.reverse
  | [], [], _ => trivial
  | _ :: _, _ :: _, h => by
    rw [List.reverse_cons, List.reverse_cons]
    exact h.2.rev.app ⟨h.1, trivial⟩
theorem RL.len {α β : Type} {R : α → β → Prop} : ∀ {l : List α} {s : List β}, RL R l s → l.length = s.length
  | [], [], _ => rfl
  | _ :: _, _ :: _, h => by simp [h.2.len]
theorem mean_le {a b : List Itm} (ha : 0 < sumW a) (hb : 0 < sumW b) : mean a ≤ mean b ↔ sumV a * sumW b ≤ sumV b * sumW a := by
  have h1 := mean_mul ha
  have h2 := mean_mul hb
  generalize mean a = x at *
  generalize mean b = y at *
  have hp := Rat.mul_pos ha hb
  constructor
  · intro h
    have := mul_mono h (Rat.le_of_lt hp)
    rw [← h1, ← h2]
    grind
  · intro h
    apply Rat.not_lt.1
    intro hlt
    have := Rat.mul_lt_mul_of_pos_right hlt hp
    rw [← h1, ← h2] at h
    grind
theorem pool_rel : ∀ {r : List T3} {s : List (List Itm)} {b : T3} {g : List Itm}, RL R3g r s → R3g b g → (∀ x ∈ s, 0 < sumW x) → 0 < sumW g → RL R3g (poolR r b) (pool s g)
  | [], [], _, _, _, hb, _, _ => ⟨hb, trivial⟩
  | a :: r, x :: s, b, g, h, hb, hp, hg => by
    have hx := hp x (by simp)
    have hc : a.2.1 * b.2.2 ≤ b.2.1 * a.2.2 ↔ mean x ≤ mean g := by
      rw [mean_le hx hg, ← h.1.2.1, ← h.1.2.2, ← hb.2.1, ← hb.2.2, ← Rat.intCast_mul, ← Rat.intCast_mul, Rat.intCast_le_intCast]
    unfold poolR pool
    by_cases hle : a.2.1 * b.2.2 ≤ b.2.1 * a.2.2
    · rw [if_pos hle, if_pos (hc.1 hle)]
      refine pool_rel h.2 ?_ (fun y hy => hp y (by simp [hy])) (by rw [sumW_app]; grind)
      refine ⟨?_, ?_, ?_⟩
      · simp only [mrg, List.length_append]; have := h.1.1; have := hb.1; omega
      · simp only [mrg]; rw [sumV_app, Rat.intCast_add, h.1.2.1, hb.2.1]
      · simp only [mrg]; rw [sumW_app, Rat.intCast_add, h.1.2.2, hb.2.2]
    · rw [if_neg hle, if_neg fun h' => hle (hc.2 h')]
      exact ⟨hb, h⟩
/-- The first items. -/
def itm (v w : List Int) (i : Nat) : List Itm := (List.range i).map fun j => (((nth v 0 j : Int) : Rat), ((nth w 0 j : Int) : Rat))
theorem itm_succ (v w : List Int) (i : Nat) : itm v w (i + 1) = itm v w i ++ [(((nth v 0 i : Int) : Rat), ((nth w 0 i : Int) : Rat))] := by
  simp [itm, List.range_succ]
theorem itm_len (v w : List Int) (i : Nat) : (itm v w i).length = i := by simp [itm]
theorem itm_pos {v w : List Int} (hw : ∀ x ∈ w, 1 ≤ x ∧ x ≤ 1000) {i : Nat} (hi : i ≤ w.length) : PosW (itm v w i) := by
  intro p hp
  obtain ⟨j, hj, rfl⟩ := List.mem_map.1 hp
  rw [List.mem_range] at hj
  have := hw _ (nth_mem 0 (show j < w.length by omega))
  show (0 : Rat) < ((nth w 0 j : Int) : Rat)
  have h : ((0 : Int) : Rat) < ((nth w 0 j : Int) : Rat) := Rat.intCast_lt_intCast.2 (by omega)
  simpa using h
theorem pav_rel {v w : List Int} (hw : ∀ x ∈ w, 1 ≤ x ∧ x ≤ 1000) : ∀ i, i ≤ w.length → RL R3g (pavT v w i) (pav (itm v w i))
  | 0, _ => trivial
  | i + 1, hi => by
    rw [itm_succ, pav_snoc]
    have hp := itm_pos (v := v) hw (i := i) (by omega)
    have hs := (pav_stk' _ hp).1
    have hp1 := itm_pos (v := v) hw hi
    rw [itm_succ] at hp1
    have h0 : 0 < ((nth w 0 i : Int) : Rat) := hp1 (((nth v 0 i : Int) : Rat), ((nth w 0 i : Int) : Rat)) (by simp)
    refine pool_rel (pav_rel hw i (by omega)) ⟨rfl, ?_, ?_⟩ (fun x hx => (hs.blk x hx).w) ?_
    · simp only [sumV]
      rw [Rat.intCast_mul]; grind
    · simp only [sumW]; grind
    · simp only [sumW]; grind
theorem mean_rel {e : T3} {g : List Itm} (h : R3g e g) (he : Ok3 e) : meanT e = mean g := by
  unfold meanT mean
  rw [Rat.mkRat_eq_div, ← h.2.1, ← h.2.2]
  have : ((e.2.2.toNat : Nat) : Int) = e.2.2 := by have := he.s1; have := he.w1; omega
  rw [← this, Rat.intCast_natCast]
  congr 2
theorem fit_rel : ∀ {l : List T3} {s : List (List Itm)}, RL R3g l s → (∀ e ∈ l, Ok3 e) → fitT l = vals s
  | [], [], _, _ => rfl
  | e :: l, g :: s, h, hok => by
    have ih := fit_rel h.2 fun x hx => hok x (by simp [hx])
    have e1 : fitT (e :: l) = List.replicate e.1.toNat (meanT e) ++ fitT l := rfl
    have e2 : vals (g :: s) = List.replicate g.length (mean g) ++ vals s := rfl
    have e3 : e.1.toNat = g.length := by have := h.1.1; omega
    rw [e1, e2, ih, mean_rel h.1 (hok e (by simp)), e3]
theorem cst_cost (v w : List Int) (f : List Rat) : ∀ i, i ≤ f.length → cstL v w f i = cost (itm v w i) (f.take i)
  | 0, _ => by simp [cstL, itm, cost]
  | i + 1, hi => by
    rw [itm_succ, take_snocI 0 f (show i < f.length by omega), cost_app (by rw [itm_len]; simp; omega), ← cst_cost v w f i (by omega)]
    simp only [cstL, cost]
    grind
section
variable {v w : List Int} {n : Nat} (hlv : v.length = n) (hlw : w.length = n) (hn : n ≤ 24) (hv : ∀ x ∈ v, -1000000 ≤ x ∧ x ≤ 1000000) (hw : ∀ x ∈ w, 1 ≤ x ∧ x ≤ 1000)
include hlv hlw hn hv hw
theorem fitT_eq : fitT (pavT v w n).reverse = fitL (itm v w n) := by
  have h1 := (pavT_in hv hw (by omega) (by omega) n (by omega)).1
  exact fit_rel (pav_rel hw n (by omega)).rev fun e he => h1 e (List.mem_reverse.1 he)
theorem fitT_length : (fitT (pavT v w n).reverse).length = n := by
  rw [fitT_eq hlv hlw hn hv hw, fit_len (itm_pos hw (by omega)), itm_len]
theorem cst_fit : cstL v w (fitT (pavT v w n).reverse) n = cost (itm v w n) (fitL (itm v w n)) := by
  rw [cst_cost _ _ _ _ (by rw [fitT_length hlv hlw hn hv hw]; omega), List.take_of_length_le (by rw [fitT_length hlv hlw hn hv hw]; omega), fitT_eq hlv hlw hn hv hw]
theorem fitT_sz : ∀ q ∈ fitT (pavT v w n).reverse, SZ 10 q := by
  have h1 := pavT_in hv hw (by omega) (by omega) n (by omega)
  intro q hq
  obtain ⟨e, he, hq⟩ := List.mem_flatMap.1 hq
  rw [List.mem_replicate] at hq
  rw [hq.2]
  have he' := List.mem_reverse.1 he
  have ok := h1.1 e he'
  have ht := tot3_mem h1.1 he'
  obtain ⟨o1, o2, o3, o4, o5⟩ := ok
  unfold meanT
  exact (SZ.rat (by omega) (by omega) (by omega)).mono (by omega)
end
end Go.Mx
namespace Go.Mx
set_option linter.unusedVariables false
set_option linter.unusedSimpArgs false
set_option linter.unusedSectionVars false
open Go

theorem nth_map' {α β : Type} (g : α → β) (l : List α) (d : α) (d' : β) {i : Nat} (h : i < l.length) : nth (l.map g) d' i = g (nth l d i) := by
  unfold nth
  rw [List.getD_eq_getElem?_getD, List.getD_eq_getElem?_getD, List.getElem?_map, List.getElem?_eq_getElem h]
  rfl
theorem nth_range {β : Type} (g : Nat → β) (d : β) {n i : Nat} (h : i < n) : nth ((List.range n).map g) d i = g i := by
  unfold nth
  rw [List.getD_eq_getElem?_getD, List.getElem?_map, List.getElem?_range h]
  rfl
/-! ### lists that fall -/
theorem lstM_le (f : List Int) : ∀ i j, i ≤ j → lstM f j ≤ lstM f i
  | i, 0, h => by have : i = 0 := by omega
                  subst this; exact Int.le_refl _
  | i, j + 1, h => by
    by_cases hij : i = j + 1
    · subst hij; exact Int.le_refl _
    · have := lstM_le f i j (by omega)
      simp only [lstM]; omega
theorem lstF_falls (f : List Int) (n : Nat) : Falls (lstF f n) := by
  unfold Falls lstF
  rw [List.pairwise_map]
  refine List.Pairwise.imp (R := fun a b => a < b) (fun {a b} h => ?_) List.pairwise_lt_range
  exact Rat.intCast_le_intCast.2 (lstM_le f (a + 1) (b + 1) (by omega))
theorem falls_nth {l : List Rat} : Falls l ↔ ∀ i, i + 1 < l.length → nth l 0 (i + 1) ≤ nth l 0 i := by
  rw [← fallsB_iff]
  unfold fallsB
  rw [Bool.not_eq_true', ← Bool.not_eq_true, List.any_eq_true]
  constructor
  · intro h i hi
    exact Rat.not_lt.1 fun hlt => h ⟨i, by rw [List.mem_range]; omega, decide_eq_true hlt⟩
  · rintro h ⟨i, hi, hlt⟩
    rw [List.mem_range] at hi
    exact Rat.not_lt.2 (h i (by omega)) (of_decide_eq_true hlt)
theorem fll_iff {v : List Int} {n : Nat} (hn : v.length = n) (w : List Int) : fllB v n = true ↔ Falls ((itm (vls v) w n).map (·.1)) := by
  rw [falls_nth]
  have hlen : ((itm (vls v) w n).map (·.1)).length = n := by simp [itm_len]
  have hnth : ∀ j, j < n → nth ((itm (vls v) w n).map (·.1)) 0 j = ((1 + nth v 0 j : Int) : Rat) := by
    intro j hj
    unfold itm
    rw [List.map_map, nth_range _ _ hj]
    show ((nth (vls v) 0 j : Int) : Rat) = _
    unfold vls
    rw [nth_map' _ _ 0 0 (by omega)]
  rw [hlen]
  unfold fllB
  rw [List.all_eq_true]
  constructor
  · intro h i hi
    rw [hnth _ hi, hnth _ (by omega), Rat.intCast_le_intCast]
    have := h (i + 1) (List.mem_range.2 hi)
    simp only [Nat.add_sub_cancel, Bool.or_eq_true, beq_iff_eq, decide_eq_true_eq] at this
    omega
  · intro h i hi
    rw [List.mem_range] at hi
    cases i with
    | zero => simp
    | succ i =>
      have := h i hi
      rw [hnth _ hi, hnth _ (by omega), Rat.intCast_le_intCast] at this
      simp only [Nat.add_sub_cancel, Bool.or_eq_true, beq_iff_eq, decide_eq_true_eq]
      omega
theorem sam_iff {F L : List Rat} {n : Nat} (hF : F.length = n) (hL : L.length = n) : samB F L n = true ↔ F = L := by
  unfold samB
  rw [List.all_eq_true]
  constructor
  · intro h
    apply List.ext_getElem (by omega)
    intro i h1 h2
    have := of_decide_eq_true (h i (List.mem_range.2 (by omega)))
    unfold nth at this
    rw [List.getD_eq_getElem?_getD, List.getD_eq_getElem?_getD, List.getElem?_eq_getElem h1, List.getElem?_eq_getElem h2] at this
    exact this
  · rintro rfl i _
    simp
theorem sign_zero (q : Rat) : sgF (decide (q.num < 0)) q.num.natAbs q.den = 0 ↔ q = 0 := by
  rw [sgF_num]
  rw [← Rat.num_eq_zero]
  split
  · omega
  · split <;> omega
/-! ### blocks of equal weights -/
def R1 (e : T3) (p : List Int) : Prop := e.1 = p.length ∧ e.2.1 = sumI p ∧ e.2.2 = p.length
theorem pool_one : ∀ {r : List T3} {s : List (List Int)} {b : T3} {p : List Int}, RL R1 r s → R1 b p → ∃ s', RL R1 (poolR r b) s' ∧ s'.reverse.flatten = s.reverse.flatten ++ p
  | [], [], b, p, _, hb => ⟨[p], ⟨hb, trivial⟩, by simp⟩
  | a :: r, x :: s, b, p, h, hb => by
    unfold poolR
    split
    · obtain ⟨s', h1, h2⟩ := pool_one (b := mrg a b) (p := x ++ p) h.2 ⟨by simp only [mrg, List.length_append]; have := h.1.1; have := hb.1; omega, by simp only [mrg]; rw [sumI_app, h.1.2.1, hb.2.1], by simp only [mrg, List.length_append]; have := h.1.2.2; have := hb.2.2; omega⟩
      exact ⟨s', h1, by rw [h2]; simp⟩
    · exact ⟨p :: x :: s, ⟨hb, h⟩, by simp⟩
theorem pav_one (v w : List Int) (hw : ∀ i, i < v.length → nth w 0 i = 1) : ∀ i, i ≤ v.length → ∃ s, RL R1 (pavT v w i) s ∧ s.reverse.flatten = v.take i
  | 0, _ => ⟨[], trivial, by simp⟩
  | i + 1, hi => by
    obtain ⟨s, h1, h2⟩ := pav_one v w hw i (by omega)
    have e := hw i (by omega)
    obtain ⟨s', h3, h4⟩ := pool_one (b := (1, nth v 0 i * nth w 0 i, nth w 0 i)) (p := [nth v 0 i]) h1 ⟨rfl, by simp [sumI, e], by simp [e]⟩
    exact ⟨s', h3, by rw [h4, h2, take_snocI 0 v (show i < v.length by omega)]⟩
theorem one_at : ∀ {L : List T3} {s : List (List Int)} (i : Nat), RL R1 L s → (∀ e ∈ L, Ok3 e) → i < L.length →
    ∃ p, R1 (nth L z3 i) p ∧ (s.flatten.drop (tot3 (L.take i)).toNat).take (nth L z3 i).1.toNat = p ∧ nth (fitT L) 0 (tot3 (L.take i)).toNat = meanT (nth L z3 i)
  | [], _, i, _, _, hi => by simp at hi
  | e :: L, g :: s, 0, h, hok, _ => by
    have h1 := (hok e (by simp)).s1
    have hl : e.1.toNat = g.length := by have := h.1.1; omega
    refine ⟨g, h.1, ?_, ?_⟩
    · show ((g :: s).flatten.drop 0).take e.1.toNat = g
      rw [hl]; simp
    · show nth (List.replicate e.1.toNat (meanT e) ++ fitT L) 0 0 = meanT e
      obtain ⟨k, hk⟩ : ∃ k, e.1.toNat = k + 1 := ⟨e.1.toNat - 1, by omega⟩
      rw [hk, List.replicate_succ]
      rfl
  | e :: L, g :: s, i + 1, h, hok, hi => by
    have h1 := (hok e (by simp)).s1
    obtain ⟨p, h2, h3, h4⟩ := one_at (L := L) (s := s) i h.2 (fun x hx => hok x (by simp [hx])) (by simpa using hi)
    have ht : tot3 ((e :: L).take (i + 1)) = e.1 + tot3 (L.take i) := rfl
    have h0 := tot3_nonneg (l := L.take i) fun x hx => hok x (by simp [List.mem_of_mem_take hx])
    have hl : e.1.toNat = g.length := by have := h.1.1; omega
    have hN : (e.1 + tot3 (L.take i)).toNat = g.length + (tot3 (L.take i)).toNat := by omega
    refine ⟨p, h2, ?_, ?_⟩
    · rw [ht, hN, List.flatten_cons, List.drop_append, List.drop_eq_nil_of_le (by omega), List.nil_append, Nat.add_sub_cancel_left]
      exact h3
    · rw [ht, hN]
      have e1 : fitT (e :: L) = List.replicate e.1.toNat (meanT e) ++ fitT L := rfl
      have hn : nth (List.replicate e.1.toNat (meanT e) ++ fitT L) 0 (g.length + (tot3 (L.take i)).toNat) = nth (fitT L) 0 (tot3 (L.take i)).toNat := by
        unfold nth
        rw [List.getD_eq_getElem?_getD, List.getD_eq_getElem?_getD, List.getElem?_append_right (by simp; omega)]
        simp only [List.length_replicate, hl, Nat.add_sub_cancel_left]
      rw [e1, hn]
      exact h4
end Go.Mx
namespace Go.Mx
set_option linter.unusedVariables false
set_option linter.unusedSimpArgs false
set_option linter.unusedSectionVars false
open Go

theorem S6 : S 9 6 [] = some (.v (.bool true)) := by
  have hF : fitT (pavT [3, 5, 1] [1, 1, 1] 3).reverse = [4, 4, 1] := by decide +kernel
  have hM : mkRat (sumI [3, 5]) 2 = 4 := by decide +kernel
  have e8 := I8 (b := false) (b' := false) (v := [3, 5, 1]) (w := [1, 1, 1]) rfl (by decide) (by decide) (by decide) 0
  have e14 := I14 (b := false) (l := [3, 5]) (by decide) (by decide) (by decide) 1
  have hF' : fitT (pavT [3, 5, 1] [1, 1, 1] ([3, 5, 1] : List Int).length).reverse = [4, 4, 1] := hF
  have hM' : mkRat (sumI [3, 5]) ([3, 5] : List Int).length = 4 := hM
  rw [hF'] at e8
  rw [hM'] at e14
  have t4 := T28 1 4 4 1 (by decide +kernel) (by decide +kernel) (by decide) (by decide) (by decide)
  have t1 := T28 1 1 1 1 (by decide +kernel) (by decide +kernel) (by decide) (by decide) (by decide)
  rw [sdF (mf := c6) rfl]
  refine f6 _ _ [4, 4, 1] 4 rfl _ _ _ ?_ ?_ e8 e14 t4 t1 t4
  · show (txQ 4 1).toList = [52]
    rw [show txQ 4 1 = bsL [52] from rfl, bsL_list]
  · show (txQ 1 1).toList = [49]
    rw [show txQ 1 1 = bsL [49] from rfl, bsL_list]
theorem sz_ints {l : List Int} (h : ∀ x ∈ l, -1000000 ≤ x ∧ x ≤ 1000000) (i : Nat) : SZ 1 ((nth l 0 i : Int) : Rat) := by
  have : -1000000 ≤ nth l 0 i ∧ nth l 0 i ≤ 1000000 := by
    by_cases hi : i < l.length
    · exact h _ (nth_mem 0 hi)
    · unfold nth
      rw [List.getD_eq_getElem?_getD, List.getElem?_eq_none (by omega)]
      decide
  rw [← mk1]
  exact SZ.int (by omega) (by omega)
theorem sz_rats {l : List Rat} {k : Nat} (hk : 1 ≤ k) (h : ∀ x ∈ l, SZ k x) (i : Nat) : SZ k (nth l 0 i) := by
  by_cases hi : i < l.length
  · exact h _ (nth_mem 0 hi)
  · unfold nth
    rw [List.getD_eq_getElem?_getD, List.getElem?_eq_none (by omega)]
    exact SZ.zero.mono hk
theorem wgt_in {x : Int} (h : 0 ≤ x ∧ x < 256) : 1 ≤ wgt x ∧ wgt x ≤ 9 := by
  unfold wgt
  rw [Int.tmod_eq_emod_of_nonneg h.1]; omega
set_option maxHeartbeats 1000000 in
theorem lossD (b b' bf : Bool) (v w f : List Int) (hv : ∀ x ∈ v, 0 ≤ x ∧ x < 256) (hw : ∀ x ∈ w, 0 ≤ x ∧ x < 256) (hf : ∀ x ∈ f, 0 ≤ x ∧ x < 256) :
    S 10 3 [u8l b v, u8l b' w, u8l bf f] = some (.v (.bool true)) := by
  rw [sdF (mf := c3) rfl]
  by_cases hodd : ¬ (1 ≤ v.length ∧ v.length ≤ 8 ∧ w.length = v.length ∧ f.length = v.length)
  · exact f3e _ _ _ _ _ _ _ _ hodd S6
  rw [Classical.not_not] at hodd
  obtain ⟨h1, h8, hlw, hlf⟩ := hodd
  obtain ⟨n, hn⟩ : ∃ n, v.length = n := ⟨_, rfl⟩
  rw [hn] at h1 h8 hlw hlf
  have gv : ∀ x ∈ vls v, 1 ≤ x ∧ x ≤ 256 := by
    intro x hx
    obtain ⟨y, hy, rfl⟩ := List.mem_map.1 hx
    have := hv y hy; omega
  have gw : ∀ x ∈ wts w, 1 ≤ x ∧ x ≤ 9 := by
    intro x hx
    obtain ⟨y, hy, rfl⟩ := List.mem_map.1 hx
    exact wgt_in (hw y hy)
  have go : ∀ x ∈ List.replicate n (1 : Int), 1 ≤ x ∧ x ≤ 9 := by
    intro x hx
    rw [List.mem_replicate] at hx; omega
  have lv : (vls v).length = n := by simp [vls, hn]
  have lw : (wts w).length = n := by simp [wts, hlw]
  have lo : (List.replicate n (1 : Int)).length = n := by simp
  have gv' : ∀ x ∈ vls v, -1000000 ≤ x ∧ x ≤ 1000000 := fun x hx => by have := gv x hx; omega
  have gw' : ∀ x ∈ wts w, 1 ≤ x ∧ x ≤ 1000 := fun x hx => by have := gw x hx; omega
  have go' : ∀ x ∈ List.replicate n (1 : Int), 1 ≤ x ∧ x ≤ 1000 := fun x hx => by have := go x hx; omega
  have hps : PosW (itm (vls v) (wts w) n) := itm_pos gw' (by omega)
  have hil : (itm (vls v) (wts w) n).length = n := itm_len _ _ _
  have hFe := fitT_eq lv lw (by omega) gv' gw'
  have hFl := fitT_length lv lw (by omega) gv' gw'
  have hFs := fitT_sz lv lw (by omega) gv' gw'
  have hFc := cst_fit lv lw (by omega) gv' gw'
  have hPl := fitT_length lv lo (by omega) gv' go'
  have hPs := fitT_sz lv lo (by omega) gv' go'
  have hLc : cstL (vls v) (wts w) (lstF f n) n = cost (itm (vls v) (wts w) n) (lstF f n) := by
    rw [cst_cost _ _ _ _ (by rw [lstF_len]; omega), List.take_of_length_le (by rw [lstF_len]; omega)]
  have hLf := lstF_falls f n
  have hLs : ∀ q ∈ lstF f n, SZ 10 q := by
    intro q hq
    obtain ⟨j, hj, rfl⟩ := List.mem_map.1 hq
    rw [List.mem_range] at hj
    have := lstM_bnd hf (j + 1) (by omega)
    rw [← mk1]
    exact (SZ.int (by omega) (by omega)).mono (by omega)
  have e8 := I8 (b := false) (b' := false) (by omega) (by omega) gv' gw' 1
  have e8' := I8 (b := false) (b' := false) (by omega) (by omega) gv' go' 1
  have e13 := I13 (b := false) (b' := false) (by omega) (by omega) gv' go' 7
  have e9 := I9 (b := false) (b' := false) (by omega) (by omega) gv' gw' 0 (bf := neB (fitT (pavT (vls v) (wts w) n).reverse)) (f := fitT (pavT (vls v) (wts w) n).reverse) (by omega) hFs
  have e9' := I9 (b := false) (b' := false) (by omega) (by omega) gv' gw' 0 (bf := false) (f := lstF f n) (by rw [lstF_len]; omega) hLs
  rw [lv] at e8 e8' e13
  rw [hFl] at e9
  rw [lstF_len] at e9'
  have szc : ∀ g : List Rat, (∀ q ∈ g, SZ 10 q) → SZ 20000 (cstL (vls v) (wts w) g n) := fun g hg =>
    (cst_sz _ _ _ (sz_ints gv') (sz_ints fun x hx => by have := gw x hx; omega) (sz_rats (by omega) hg) n).mono (by omega)
  have hFf : Falls (fitT (pavT (vls v) (wts w) n).reverse) := by rw [hFe]; exact fit_falls hps
  have e10 := I10 2 (b := neB (fitT (pavT (vls v) (wts w) n).reverse)) (l := fitT (pavT (vls v) (wts w) n).reverse) (by omega) fun q hq => (hFs q hq).mono (by omega)
  have e10' := I10 2 (b := false) (l := lstF f n) (by rw [lstF_len]; omega) fun q hq => (hLs q hq).mono (by omega)
  rw [fallsB_iff.2 hFf] at e10
  rw [fallsB_iff.2 hLf] at e10'
  have sc1 := szc _ hFs
  have sc2 := szc _ hLs
  have e12 := S12 4 (decide ((cstL (vls v) (wts w) (fitT (pavT (vls v) (wts w) n).reverse) n).num < 0)) (cstL (vls v) (wts w) (fitT (pavT (vls v) (wts w) n).reverse) n).num.natAbs (cstL (vls v) (wts w) (fitT (pavT (vls v) (wts w) n).reverse) n).den (by have := sc1.1; omega) (by have := sc1.2; omega)
  change S 9 12 [frD _] = _ at e12
  rw [frD_X] at e12
  have hle : cstL (vls v) (wts w) (fitT (pavT (vls v) (wts w) n).reverse) n ≤ cstL (vls v) (wts w) (lstF f n) n := by
    rw [hFc, hLc]
    exact fit_le hps (by rw [lstF_len, hil]) hLf
  have hsame : samB (fitT (pavT (vls v) (wts w) n).reverse) (lstF f n) n = decide (cstL (vls v) (wts w) (fitT (pavT (vls v) (wts w) n).reverse) n = cstL (vls v) (wts w) (lstF f n) n) := by
    rw [Bool.eq_iff_iff, decide_eq_true_eq, sam_iff hFl (lstF_len _ _), hFc, hLc, hFe]
    exact fit_same hps (by rw [lstF_len, hil]) hLf
  have hsg : fllB v n = decide (sgF (decide ((cstL (vls v) (wts w) (fitT (pavT (vls v) (wts w) n).reverse) n).num < 0)) (cstL (vls v) (wts w) (fitT (pavT (vls v) (wts w) n).reverse) n).num.natAbs (cstL (vls v) (wts w) (fitT (pavT (vls v) (wts w) n).reverse) n).den = 0) := by
    rw [Bool.eq_iff_iff, decide_eq_true_eq, sign_zero, fll_iff hn (wts w), hFc]
    exact fit_exact hps
  obtain ⟨hok, htot⟩ := pav_ok (v := vls v) (w := List.replicate n 1) (by omega) (by omega) gv' go'
  rw [lv] at hok htot
  have hlen := len_tot hok
  have hone : ∀ i, i < (vls v).length → nth (List.replicate n (1 : Int)) 0 i = 1 := by
    intro i hi
    unfold nth
    rw [List.getD_eq_getElem?_getD, List.getElem?_replicate]
    rw [if_pos (by omega)]; rfl
  obtain ⟨ps, hr, hfl⟩ := pav_one (vls v) (List.replicate n 1) hone n (by omega)
  rw [List.take_of_length_le (by omega)] at hfl
  have hr' := hr.rev
  generalize hL : (pavT (vls v) (List.replicate n 1) n).reverse = L at *
  have hpos : 0 < L.length := by
    cases L with
    | nil => simp only [tot3] at htot; omega
    | cons => simp
  refine f3 _ _ FU_3 (O7 3) (C11 3) b b' bf v w f n L.length hn hlw hlf h1 h8 hv hw hf S6 _ (fitT L) (startsT L L.length) _ _ _ _ _ hFl hPl (by simp [startsT]) hpos (by omega)
    (fun q hq => (hFs q hq).mono (by omega)) (fun q hq => (hLs q hq).mono (by omega)) (fun q hq => (hPs q hq).mono (by omega)) sc1 sc2 e8 e9 e9' e10 e10' hle hsame _ e12 hsg e8' e13 ?_
  intro i hi
  obtain ⟨p, hp1, hp2, hp3⟩ := one_at i hr' hok hi
  rw [hfl] at hp2
  have hm := hok _ (nth_mem z3 hi)
  have hs1 := hm.s1
  have t0 := tot3_nonneg (l := L.take i) fun x hx => hok x (List.mem_of_mem_take hx)
  have t1 : tot3 (L.take (i + 1)) = tot3 (L.take i) + (nth L z3 i).1 := by
    rw [take_snocI z3 L hi, tot3_app]; simp [tot3]
  have t2 := tot3_take hok (i + 1)
  have hN : (nth L z3 i).1.toNat = (tot3 (L.take (i + 1))).toNat - (tot3 (L.take i)).toNat := by omega
  refine ⟨(tot3 (L.take i)).toNat, (tot3 (L.take (i + 1))).toNat, ?_, ?_, by omega, by omega, ?_⟩
  · unfold startsT
    rw [nth_range _ _ hi]; omega
  · by_cases h : i + 1 < L.length
    · rw [if_pos h]
      unfold startsT
      rw [nth_range _ _ h]; omega
    · rw [if_neg h, show i + 1 = L.length by omega, List.take_length]; omega
  · rw [← hN, hp2, hp3]
    have hpl : (p.length : Int) = (nth L z3 i).1 := hp1.1.symm
    have e14 := I14 (b := false) (l := p) (by omega) (by omega) (fun x hx => by
      rw [← hp2] at hx
      have := gv x (List.mem_of_mem_drop (List.mem_of_mem_take hx)); omega) 2
    rw [e14]
    unfold meanT
    have hp3' := hp1.2.2
    rw [hp1.2.1, show (nth L z3 i).2.2.toNat = p.length by omega]
theorem rd_u8l {d : D} (h : (TD.sl (.int .u8)).rd [d]) : ∃ b l, d = u8l b l ∧ ∀ x ∈ l, 0 ≤ x ∧ x < 256 := by
  obtain ⟨b, kss, h1, hb, _, h2⟩ := h
  have : ∀ kss : List (List D), (∀ ks ∈ kss, (TD.int .u8).rd ks) → ∃ l : List Int, kss.flatten = gk (eI .u8) l ∧ l.length = kss.length ∧ ∀ x ∈ l, 0 ≤ x ∧ x < 256 := by
    intro kss
    induction kss with
    | nil => intro _; exact ⟨[], rfl, rfl, by simp⟩
    | cons ks kss ih =>
      intro h
      obtain ⟨l, e1, e2, e3⟩ := ih fun k hk => h k (List.mem_cons_of_mem _ hk)
      obtain ⟨x, hx, rfl⟩ := h ks (List.mem_cons_self ..)
      refine ⟨x :: l, by rw [List.flatten_cons, e1]; rfl, by simp [e2], ?_⟩
      intro p hp
      rcases List.mem_cons.1 hp with rfl | hp
      · simp [Lit.wf, IntKind.min, IntKind.max, IntKind.signed, IntKind.bits] at hx
        omega
      · exact e3 p hp
  obtain ⟨l, e1, e2, e3⟩ := this kss h2
  refine ⟨b, l, ?_, e3⟩
  rw [e1, ← e2] at h1
  exact (List.cons.inj h1).1
end Go.Mx
