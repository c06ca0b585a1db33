import Derived.Test.YthahhbbfhohhfaaDoorMgJ
import Derived.Test.YthahhbbfhohhfaaDoorMgL
/-
  Naturals: limbs, compare, plus, minus.
-/
namespace Go.Mx
set_option linter.unusedVariables false
set_option linter.unusedSimpArgs false
set_option linter.unusedSectionVars false
open Go

@[simp ↓ high] theorem isSc_g' {α : Type} (e : En α) (b : Bool) (l : List α) : isSc (gsl e b l) = false := rfl
@[simp ↓ high] theorem flat_g' {α : Type} (e : En α) (b : Bool) (l : List α) : flatOk (gsl e b l) = true := rfl
@[simp] theorem assign_gro {α : Type} (e : En α) (l : List α) (st : St) (dst : Nat) : assign st dst (.ro (gsl e false l)) = some (setv st dst (.ro (gsl e false l))) := rfl
@[simp] theorem natOf_s1 (n : Nat) : natOf ((n : Int) + 1) = some (n + 1) := natOf_nat (n + 1)
@[simp] theorem natOf_add (n m : Nat) : natOf ((n : Int) + (m : Int)) = some (n + m) := by
  rw [← Int.natCast_add]; exact natOf_nat (n + m)
def zl (l : List Nat) : List Int := l.map fun (v : Nat) => (v : Int)
@[simp] theorem zl_len (l : List Nat) : (zl l).length = l.length := by simp [zl]
theorem zl_nth (l : List Nat) (i : Nat) : nth (zl l) 0 i = ((nth l 0 i : Nat) : Int) := nth_map (fun (v : Nat) => (v : Int)) l 0 i
theorem zl_app (l m : List Nat) : zl (l ++ m) = zl l ++ zl m := by simp [zl]
theorem zl_snoc (l : List Nat) (x : Nat) : zl l ++ [(x : Int)] = zl (l ++ [x]) := by simp [zl]
theorem zl_take (l : List Nat) (k : Nat) : (zl l).take k = zl (l.take k) := by simp [zl]
theorem zl_drop (l : List Nat) (k : Nat) : (zl l).drop k = zl (l.drop k) := by simp [zl]
theorem wrap64 {n : Nat} (h : n < 18446744073709551616) : IntKind.u64.wrap (n : Int) = (n : Int) := by
  simp [IntKind.wrap, IntKind.bits, IntKind.signed]; omega
theorem wrap32 {n : Nat} (h : n < 4294967296) : IntKind.u32.wrap (n : Int) = (n : Int) := by
  simp [IntKind.wrap, IntKind.bits, IntKind.signed]; omega
theorem wrapI {n : Nat} (h : n < 9223372036854775808) : IntKind.i64.wrap (n : Int) = (n : Int) := wrap_eq (by unfold I64; omega)
abbrev ul (b : Bool) (l : List Nat) : D := gsl (eI .u32) b (zl l)
/-- A natural as a struct. -/
abbrev nz (n : Nat) : D := .nd .ag [ul (n == 0) (dg n)]
abbrev uq (n : Nat) : V := .sc (.int .u64 (n : Int))
abbrev u3 (n : Nat) : V := .sc (.int .u32 (n : Int))
/-- What is known of trim. -/
def Trim85 (call : Oracle) : Prop := ∀ (b : Bool) (l : List Nat), l.length < 4611686018427387904 → call (85 + vwB) [ul b l] = some (.v (.int .i64 (trn l : Nat)))
theorem take_succ_nth {α : Type} (d : α) {l : List α} {i : Nat} (h : i < l.length) : l.take (i + 1) = l.take i ++ [nth l d i] := by
  rw [List.take_add_one, List.getElem?_eq_getElem h, nth_get d h]
  rfl
abbrev u0 : V := .sc (.int .u64 0)
theorem wrap64z : IntKind.u64.wrap 0 = 0 := by decide
theorem wrap32z : IntKind.u32.wrap 0 = 0 := by decide
theorem tmod_small {x : Nat} (h : x < 1000000000) : (x : Int).tmod 1000000000 = (x : Int) := by
  rw [Int.tmod_eq_emod_of_nonneg (by omega)]; omega
theorem tmod_nat (x : Nat) : (x : Int).tmod 1000000000 = ((x % 1000000000 : Nat) : Int) := by
  rw [Int.tmod_eq_emod_of_nonneg (by omega)]; omega
theorem div_nat (x : Nat) : (x : Int) / 1000000000 = ((x / 1000000000 : Nat) : Int) := by omega
theorem loop64_0 (call : Oracle) (fuel : Nat) (l : List Nat) (hl : l.length < 1000000) (hF : 1000000 < fuel) (hd : Dig l) (b : Bool) (st : St)
    (h0 : drops st h64_0 = L64_0 (.ro (.nd (.bx false) [ul b l])) (.own (ul false [])) u0 (.rad [ul b l] 0) (.ro (ul b l)) (ii l.length) (ii 0)) :
    run.loopN (run call fuel b64_0) fuel st = some (.ex 0, X64_0 (.own (ul false l)) u0) := by
  have e0 : l.take l.length = l := List.take_length
  refine loop_cnt call fuel h64_0 _ l.length (fun i => L64_0 (.ro (.nd (.bx false) [ul b l])) (.own (ul false (l.take i))) u0 (.rad [ul b l] 0) (.ro (ul b l)) (ii l.length) (ii i)) _ (by intro h; cases h) ?_ (by simp [e0]) fuel st h0 (by omega)
  intro i hi
  have hw := wrap_succ (i := i) (by omega)
  have hx : nth l 0 i < 1000000000 := dig_nth hd i
  have e1 := zl_nth l i
  have e2 := take_succ_nth 0 hi
  have e3 := zl_snoc (l.take i) (nth l 0 i)
  generalize nth l 0 i = x at *
  have w1 := wrap64 (n := x) (by omega)
  have w2 := wrap32 (n := x) (by omega)
  have q1 : (x : Int) / 1000000000 = 0 := by omega
  have q2 := tmod_small hx
  have hm : (l.take i).length + 1 ≤ most := by unfold most; simp; omega
  rw [e2]
  generalize l.take i = m at *
  simp [hi, hw, e1, w1, w2, hm, e3, q1, q2, wrap64z]
theorem f64 (call : Oracle) (fuel : Nat) (hF : 1000000 < fuel) (hT : Trim85 call) (n : Nat) (hl : (dg n).length < 1000000) : callB call fuel c64 [nz n] = some (ul false (dg n)) := by
  show callB call fuel c64 [.nd .ag [ul (n == 0) (dg n)]] = some (ul false (dg n))
  rw [callB_tab call fuel c64 38 _ rfl (by exact Nat.le_of_ble_eq_true rfl) (by exact Nat.le_of_ble_eq_true rfl)]
  have hL := loop64_0 call fuel (dg n) hl hF (dig_dg n) (n == 0)
  have hw := wrap_succ (i := (dg n).length) (by omega)
  have e3 := zl_snoc (dg n) 0
  have hT := hT false (dg n ++ [0]) (by simp; omega)
  have ht : tr (dg n ++ [0]) = dg n := by rw [tr_snoc, if_pos rfl, tr_dg (dig_dg n), v9_dg]
  have htl : trn (dg n ++ [0]) = (dg n).length := congrArg List.length ht
  rw [htl] at hT
  have hm : (dg n).length + 1 ≤ most := by unfold most; omega
  have ez : zl (dg n ++ [0]) = zl (dg n) ++ [0] := zl_app _ _
  have ul_eq : ul false (dg n ++ [0]) = gsl (eI .u32) false (zl (dg n) ++ [0]) := by rw [ul, ez]
  rw [ul_eq] at hT
  have e4 : (zl (dg n) ++ [0]).take (dg n).length = zl (dg n) := by rw [List.take_append_of_le_length (by simp), ← zl_len, List.take_length]
  generalize (n == 0) = b at *
  generalize dg n = l at *
  simp [c64, hw]
  rw [hL _ (by simp; rfl)]
  simp [hm, hT, e4, wrap32z]
/-! ### compare -/
def cmpN (a b : Nat) : Int := if a < b then -1 else if b < a then 1 else 0
theorem cmp_len {a b : Nat} (h : (dg a).length < (dg b).length) : a < b := by
  have h1 := dg_len_le.1 (Nat.le_refl (dg a).length)
  have h2 := dg_len_pos.1 (show 0 < (dg b).length by omega)
  have h3 := dg_ge h2
  have : BB ^ (dg a).length ≤ BB ^ ((dg b).length - 1) := Nat.pow_le_pow_right (by decide) (by omega)
  omega
theorem drop_nth {l : List Nat} {i : Nat} (h : i < l.length) : l.drop i = nth l 0 i :: l.drop (i + 1) := by
  rw [nth_get 0 h]; exact List.drop_eq_getElem_cons h
/-- The first place from above at which two numbers differ decides. -/
theorem cmp_at {a b : Nat} (i : Nat) (hl : (dg a).length = (dg b).length) (hi : i < (dg a).length) (he : (dg a).drop (i + 1) = (dg b).drop (i + 1)) (h : nth (dg a) 0 i < nth (dg b) 0 i) : a < b := by
  have e1 := v9_append ((dg a).take i) ((dg a).drop i)
  have e2 := v9_append ((dg b).take i) ((dg b).drop i)
  rw [List.take_append_drop, v9_dg] at e1 e2
  rw [drop_nth hi] at e1
  rw [drop_nth (by omega)] at e2
  simp only [v9] at e1 e2
  rw [he] at e1
  have l1 := v9_lt ((dig_dg a).take i)
  have h1 : ((dg a).take i).length = i := by simp; omega
  have h2 : ((dg b).take i).length = i := by simp; omega
  rw [h1] at e1 l1
  rw [h2] at e2
  have hm : BB ^ i * (nth (dg a) 0 i + BB * v9 ((dg b).drop (i + 1)) + 1) ≤ BB ^ i * (nth (dg b) 0 i + BB * v9 ((dg b).drop (i + 1))) := Nat.mul_le_mul_left _ (by omega)
  rw [Nat.mul_add] at hm
  omega
theorem cmpN_self (a : Nat) : cmpN a a = 0 := by simp [cmpN]
theorem eq_drop {l m : List Nat} (hl : l.length = m.length) {k : Nat} (h : ∀ j, k < j → j < l.length → nth l 0 j = nth m 0 j) : l.drop (k + 1) = m.drop (k + 1) := by
  apply List.ext_getElem (by simp [hl])
  intro i h1 h2
  simp only [List.length_drop] at h1 h2
  rw [List.getElem_drop, List.getElem_drop]
  have := h (k + 1 + i) (by omega) (by omega)
  rwa [nth_get 0 (by omega), nth_get 0 (by omega)] at this
theorem loop63_0 (call : Oracle) (fuel : Nat) (x y : Bool) (a b : Nat) (hl : (dg a).length = (dg b).length) (hs : (dg a).length < 1000000) (hF : 1000000 < fuel) (st : St)
    (h0 : drops st h63_0 = L63_0 (.ro (ul x (dg a))) (.ro (ul y (dg b))) (ii ((dg a).length - 1 : Int))) :
    run.loopN (run call fuel b63_0) fuel st = some (if a = b then (.ex 0, X63_0) else (.ret, R63 (ii (cmpN a b)))) := by
  obtain ⟨n, hn⟩ : ∃ n, (dg a).length = n := ⟨_, rfl⟩
  refine (loop_find call fuel h63_0 _ n (fun i => decide (nth (dg a) 0 (n - 1 - i) ≠ nth (dg b) 0 (n - 1 - i))) (fun i => L63_0 (.ro (ul x (dg a))) (.ro (ul y (dg b))) (ii ((n : Int) - 1 - i)))
    (fun i => (.ret, R63 (ii (if nth (dg a) 0 (n - 1 - i) < nth (dg b) 0 (n - 1 - i) then -1 else 1)))) (.ex 0, X63_0) (by intro h; cases h) (by intro i h; cases h) (by
      intro i hi _
      obtain ⟨k, hk⟩ : ∃ k, n - 1 - i = k := ⟨_, rfl⟩
      have e : (n : Int) - 1 - (i : Nat) = (k : Int) := by omega
      have e' : (n : Int) - 1 - ((i + 1 : Nat) : Int) = (k : Int) - 1 := by omega
      have hw : IntKind.i64.wrap ((k : Int) - 1) = (k : Int) - 1 := wrap_eq (by unfold I64; omega)
      have h1 := zl_nth (dg a) k
      have h2 := zl_nth (dg b) k
      have l1 : k < (dg a).length := by omega
      have l2 : k < (dg b).length := by omega
      rw [hk, e, e']
      generalize nth (dg a) 0 k = p at *
      generalize nth (dg b) 0 k = q at *
      generalize dg a = l at *
      generalize dg b = m at *
      by_cases hpq : p = q
      · simp [l1, l2, h1, h2, hpq, hw]
      · have hpq' : ¬ (p : Int) = (q : Int) := by omega
        have hpq2 : ((p : Int) != (q : Int)) = true := by simpa using hpq'
        by_cases hlt : p < q
        · simp [l1, l2, h1, h2, hpq, hpq', hpq2, hlt]
        · simp [l1, l2, h1, h2, hpq, hpq', hpq2, hlt]) (by
      intro _
      have e : (n : Int) - 1 - (n : Int) = -1 := by omega
      rw [e]
      generalize dg a = l at *
      generalize dg b = m at *
      simp) fuel st (by rw [h0, hn, show (n : Int) - 1 - ((0 : Nat) : Int) = (n : Int) - 1 by omega]) (by omega)).trans ?_
  congr 1
  by_cases hab : a = b
  · subst hab
    rw [if_pos rfl]
    have : ((List.range n).find? fun i => decide (nth (dg a) 0 (n - 1 - i) ≠ nth (dg a) 0 (n - 1 - i))) = none := by simp
    rw [this]
    rfl
  · rw [if_neg hab]
    cases hf : (List.range n).find? fun i => decide (nth (dg a) 0 (n - 1 - i) ≠ nth (dg b) 0 (n - 1 - i)) with
    | none =>
      exfalso
      apply hab
      apply dg_inj
      apply List.ext_getElem hl
      intro j h1 h2
      have := List.find?_eq_none.1 hf (n - 1 - j) (List.mem_range.2 (by omega))
      simp only [decide_eq_true_eq, Decidable.not_not] at this
      rw [show n - 1 - (n - 1 - j) = j by omega, nth_get 0 h1, nth_get 0 h2] at this
      exact this
    | some i =>
      obtain ⟨h1, h2, h3⟩ := List.find?_range_eq_some.1 hf
      simp only [decide_eq_true_eq] at h1
      have h2 := List.mem_range.1 h2
      simp only [Option.elim_some]
      have hd : (dg a).drop (n - 1 - i + 1) = (dg b).drop (n - 1 - i + 1) := eq_drop hl fun j h4 h5 => by
        have := h3 (n - 1 - j) (by omega)
        simp only [decide_not, Bool.not_not, decide_eq_true_eq] at this
        rwa [show n - 1 - (n - 1 - j) = j by omega] at this
      congr 2
      by_cases hlt : nth (dg a) 0 (n - 1 - i) < nth (dg b) 0 (n - 1 - i)
      · have := cmp_at (n - 1 - i) hl (by omega) hd hlt
        rw [if_pos hlt, cmpN, if_pos this]
      · have := cmp_at (n - 1 - i) hl.symm (by omega) hd.symm (by omega)
        rw [if_neg hlt, cmpN, if_neg (by omega), if_pos this]
theorem f63 (call : Oracle) (fuel : Nat) (hF : 1000000 < fuel) (x y : Bool) (a b : Nat) (ha : (dg a).length < 1000000) (hb : (dg b).length < 1000000) : callF call fuel c63 [ul x (dg a), ul y (dg b)] = some (.v (.int .i64 (cmpN a b))) := by
  rw [callF_tab call fuel c63 6 _ (by exact Nat.le_of_ble_eq_true rfl) (by exact Nat.le_of_ble_eq_true rfl)]
  rcases Nat.lt_trichotomy (dg a).length (dg b).length with h | h | h
  · have h1 := cmp_len h
    have e : cmpN a b = -1 := by simp [cmpN, h1]
    rw [e]
    generalize dg a = l at *
    generalize dg b = m at *
    have h2 : ¬ (l.length : Int) = (m.length : Int) := by omega
    have h2' : ((l.length : Int) != (m.length : Int)) = true := by simpa using h2
    simp [c63, h, h2']
  · have hL := loop63_0 call fuel x y a b h ha hF
    have hw : IntKind.i64.wrap (((dg a).length : Int) - 1) = ((dg a).length : Int) - 1 := wrap_eq (by unfold I64; omega)
    have hw' : IntKind.i64.wrap (((dg b).length : Int) - 1) = ((dg b).length : Int) - 1 := wrap_eq (by unfold I64; omega)
    by_cases hab : a = b
    · subst hab
      rw [if_pos rfl] at hL
      rw [cmpN_self]
      generalize dg a = l at *
      simp [c63, hw]
      rw [hL _ (by simp)]
      simp
    · rw [if_neg hab] at hL
      generalize dg a = l at *
      generalize dg b = m at *
      simp [c63, h, hw, hw']
      rw [hL _ (by simp [h])]
      simp
  · have h1 := cmp_len h
    have e : cmpN a b = 1 := by
      have : ¬ a < b := by omega
      simp [cmpN, h1, this]
    rw [e]
    generalize dg a = l at *
    generalize dg b = m at *
    have h2 : ¬ (l.length : Int) = (m.length : Int) := by omega
    have h2' : ((l.length : Int) != (m.length : Int)) = true := by simpa using h2
    have h3 : ¬ l.length < m.length := by omega
    simp [c63, h2', h3]
end Go.Mx
namespace Go.Mx
set_option linter.unusedVariables false
set_option linter.unusedSimpArgs false
set_option linter.unusedSectionVars false
open Go

/-- What is left of digits when it is trimmed. -/
theorem zl_tr {l : List Nat} (h : Dig l) : (zl l).take (trn l) = zl (dg (v9 l)) := by
  rw [zl_take, ← tr_take, tr_dg h]
theorem trn_len (l : List Nat) : trn l ≤ (zl l).length := by rw [zl_len]; exact trn_le l
theorem v9_take_succ {l : List Nat} (i : Nat) (h : i < l.length) : v9 (l.take (i + 1)) = v9 (l.take i) + BB ^ i * nth l 0 i := by
  rw [take_succ_nth 0 h, v9_append]
  have : (l.take i).length = i := by simp; omega
  rw [this]
  simp [v9]
theorem nth_out {l : List Nat} {i : Nat} (h : l.length ≤ i) : nth l 0 i = 0 := by
  unfold nth; rw [List.getD_eq_getElem?_getD, List.getElem?_eq_none h]; rfl
theorem v9_take_succ' (l : List Nat) (i : Nat) : v9 (l.take (i + 1)) = v9 (l.take i) + BB ^ i * nth l 0 i := by
  by_cases h : i < l.length
  · exact v9_take_succ i h
  · rw [nth_out (by omega), List.take_of_length_le (by omega), List.take_of_length_le (by omega)]
    simp
/-- Sums, digit by digit. -/
def adL (L M : List Nat) : Nat → List Nat × Nat
  | 0 => ([], 0)
  | i + 1 => ((adL L M i).1 ++ [(nth L 0 i + (adL L M i).2 + nth M 0 i) % BB], (nth L 0 i + (adL L M i).2 + nth M 0 i) / BB)
theorem adL_inv {L M : List Nat} (hL : Dig L) (hM : Dig M) : ∀ i, Dig (adL L M i).1 ∧ (adL L M i).1.length = i ∧ (adL L M i).2 ≤ 1 ∧ v9 (adL L M i).1 + BB ^ i * (adL L M i).2 = v9 (L.take i) + v9 (M.take i)
  | 0 => ⟨Dig.nil, rfl, by simp [adL], by simp [adL, v9]⟩
  | i + 1 => by
    obtain ⟨h1, h2, h3, h4⟩ := adL_inv hL hM i
    have a1 : nth L 0 i < 1000000000 := dig_nth hL i
    have a2 : nth M 0 i < 1000000000 := dig_nth hM i
    simp only [adL]
    rw [v9_take_succ', v9_take_succ', v9_append, h2, List.length_append, h2]
    generalize (adL L M i).1 = o at *
    generalize (adL L M i).2 = c at *
    generalize nth L 0 i = x at *
    generalize nth M 0 i = y at *
    refine ⟨h1.app (Dig.one (Nat.mod_lt _ (by decide))), rfl, ?_, ?_⟩
    · show (x + c + y) / 1000000000 ≤ 1
      omega
    · have e := Nat.mod_add_div (x + c + y) BB
      have e2 : BB ^ i * ((x + c + y) % BB + BB * ((x + c + y) / BB)) = BB ^ i * (x + c + y) := by rw [e]
      simp only [v9, Nat.mul_zero, Nat.add_zero, Nat.pow_succ]
      rw [Nat.mul_add, ← Nat.mul_assoc] at e2
      simp only [Nat.mul_add] at e2
      omega
theorem loop74_0 (call : Oracle) (fuel : Nat) (L M : List Nat) (hL : Dig L) (hM : Dig M) (hl : L.length < 1000000) (hm : M.length ≤ L.length) (hF : 1000000 < fuel) (x y : Bool) (st : St) (p q : V) (hpq : (∃ a b, p = .sc a ∧ q = .sc b) ∨ ∃ d e, p = .ro d ∧ q = .ro e)
    (h0 : drops st h74_0 = L74_0 (.ro (ul x L)) (.ro (ul y M)) (.own (ul false [])) (.sc (.int .u32 0)) p q (.ro (ul x L)) (ii L.length) (ii 0)) :
    run.loopN (run call fuel b74_0) fuel st = some (.ex 0, X74_0 (.own (ul false (adL L M L.length).1)) (u3 (adL L M L.length).2)) := by
  refine loop_cnt call fuel h74_0 _ L.length (fun i => L74_0 (.ro (ul x L)) (.ro (ul y M)) (.own (ul false (adL L M i).1)) (u3 (adL L M i).2) p q (.ro (ul x L)) (ii L.length) (ii i)) _ (by intro h; cases h) ?_ (by rcases hpq with ⟨pa, qa, rfl, rfl⟩ | ⟨pa, qa, rfl, rfl⟩ <;> simp) fuel st h0 (by omega)
  intro i hi
  have hw := wrap_succ (i := i) (by omega)
  obtain ⟨g1, g2, g3, g4⟩ := adL_inv hL hM i
  have a1 : nth L 0 i < 1000000000 := dig_nth hL i
  have a2 : nth M 0 i < 1000000000 := dig_nth hM i
  have e1 := zl_nth L i
  have e2 := zl_nth M i
  simp only [adL]
  have e3 := zl_snoc (adL L M i).1 ((nth L 0 i + (adL L M i).2 + nth M 0 i) % BB)
  have ho : nth M 0 i = 0 ∨ i < M.length := by
    by_cases h : i < M.length
    · exact .inr h
    · exact .inl (nth_out (by omega))
  generalize (adL L M i).1 = o at *
  generalize (adL L M i).2 = c at *
  generalize nth L 0 i = s at *
  generalize nth M 0 i = t at *
  have w1 : IntKind.u32.wrap ((s : Int) + (c : Int)) = ((s + c : Nat) : Int) := by rw [← Int.natCast_add]; exact wrap32 (by omega)
  have w2 : IntKind.u32.wrap (((s + c : Nat) : Int) + (t : Int)) = ((s + c + t : Nat) : Int) := by rw [← Int.natCast_add]; exact wrap32 (by omega)
  have hmo : o.length + 1 ≤ most := by unfold most; omega
  have d1 : ((s + c + t : Nat) : Int) / 1000000000 = (((s + c + t) / BB : Nat) : Int) := div_nat _
  have d2 : ((s + c + t : Nat) : Int).tmod 1000000000 = (((s + c + t) % BB : Nat) : Int) := tmod_nat _
  have w3 : IntKind.u32.wrap (((s + c + t) / BB : Nat) : Int) = (((s + c + t) / BB : Nat) : Int) := wrap32 (by show (s + c + t) / 1000000000 < _; omega)
  have w4 : IntKind.u32.wrap (((s + c + t) % BB : Nat) : Int) = (((s + c + t) % BB : Nat) : Int) := wrap32 (by show (s + c + t) % 1000000000 < _; omega)
  generalize (s + c + t) / BB = dv at *
  generalize (s + c + t) % BB = md at *
  by_cases h : i < M.length
  · generalize s + c + t = k at *
    generalize s + c = k2 at *
    rcases hpq with ⟨pa, qa, rfl, rfl⟩ | ⟨pa, qa, rfl, rfl⟩
    · simp [hi, hw, e1, e2, h, w1, w2, hmo, d1, d2, w3, w4, e3]
    · simp [hi, hw, e1, e2, h, w1, w2, hmo, d1, d2, w3, w4, e3]
  · have ht := ho.resolve_right h
    subst ht
    simp only [Nat.add_zero] at *
    generalize s + c = k2 at *
    rcases hpq with ⟨pa, qa, rfl, rfl⟩ | ⟨pa, qa, rfl, rfl⟩
    · simp [hi, hw, e1, h, w1, hmo, d1, d2, w3, w4, e3]
    · simp [hi, hw, e1, h, w1, hmo, d1, d2, w3, w4, e3]
theorem f74 (call : Oracle) (fuel : Nat) (hF : 1000000 < fuel) (hT : Trim85 call) (a b : Nat) (ha : (dg a).length < 1000000) (hb : (dg b).length < 1000000) : callF call fuel c74 [ul false (dg a), ul false (dg b)] = some (ul false (dg (a + b))) := by
  rw [callF_tab call fuel c74 54 _ (by exact Nat.le_of_ble_eq_true rfl) (by exact Nat.le_of_ble_eq_true rfl)]
  have key : ∀ {L M : List Nat}, Dig L → Dig M → M.length ≤ L.length → v9 L + v9 M = a + b → (zl ((adL L M L.length).1 ++ [(adL L M L.length).2])).take (trn ((adL L M L.length).1 ++ [(adL L M L.length).2])) = zl (dg (a + b)) := by
    intro L M hL hM hm he
    obtain ⟨g1, g2, g3, g4⟩ := adL_inv hL hM L.length
    rw [zl_tr (g1.app (Dig.one (Nat.lt_of_le_of_lt g3 (by decide))))]
    congr 2
    rw [v9_append, g2]
    simp only [v9, Nat.mul_zero, Nat.add_zero]
    rw [g4, List.take_length, List.take_of_length_le hm, he]
  by_cases h : (dg a).length < (dg b).length
  · have hk := key (dig_dg b) (dig_dg a) (by omega) (by rw [v9_dg, v9_dg, Nat.add_comm])
    obtain ⟨g1, g2, g3, g4⟩ := adL_inv (dig_dg b) (dig_dg a) (dg b).length
    have hL := loop74_0 call fuel (dg b) (dg a) (dig_dg b) (dig_dg a) hb (by omega) hF false false
    have hw := wrap_succ (i := (dg b).length) (by omega)
    have hm : (dg b).length + 1 ≤ most := by unfold most; omega
    generalize dg (a + b) = r at *
    generalize dg a = l at *
    generalize dg b = m at *
    generalize hA : adL m l m.length = A at *
    obtain ⟨o, c⟩ := A
    have hT := hT false (o ++ [c]) (by simp only at g2; rw [List.length_append, List.length_singleton]; omega)
    have hl := trn_len (o ++ [c])
    have e3 := zl_snoc o c
    simp only at g2 hk hL
    have hmo : o.length + 1 ≤ most := by omega
    rw [zl_len, List.length_append, List.length_singleton] at hl
    generalize trn (o ++ [c]) = k at *
    simp [c74, h, hw, hm]
    rw [hL _ _ _ (.inr ⟨_, _, rfl, rfl⟩) (by simp; rfl)]
    simp [hmo, e3, hT, hl, hk]
  · have hk := key (dig_dg a) (dig_dg b) (by omega) (by rw [v9_dg, v9_dg])
    obtain ⟨g1, g2, g3, g4⟩ := adL_inv (dig_dg a) (dig_dg b) (dg a).length
    have hL := loop74_0 call fuel (dg a) (dg b) (dig_dg a) (dig_dg b) ha (by omega) hF false false
    have hw := wrap_succ (i := (dg a).length) (by omega)
    have hm : (dg a).length + 1 ≤ most := by unfold most; omega
    generalize dg (a + b) = r at *
    generalize dg a = l at *
    generalize dg b = m at *
    generalize hA : adL l m l.length = A at *
    obtain ⟨o, c⟩ := A
    have hT := hT false (o ++ [c]) (by simp only at g2; rw [List.length_append, List.length_singleton]; omega)
    have hl := trn_len (o ++ [c])
    have e3 := zl_snoc o c
    simp only at g2 hk hL
    have hmo : o.length + 1 ≤ most := by omega
    rw [zl_len, List.length_append, List.length_singleton] at hl
    generalize trn (o ++ [c]) = k at *
    simp [c74, h, hw, hm]
    rw [hL _ _ _ (.inl ⟨_, _, rfl, rfl⟩) (by simp; rfl)]
    simp [hmo, e3, hT, hl, hk]
end Go.Mx
namespace Go.Mx
set_option linter.unusedVariables false
set_option linter.unusedSimpArgs false
set_option linter.unusedSectionVars false
open Go

/-- Differences, digit by digit. -/
def suL (L M : List Nat) : Nat → List Nat × Nat
  | 0 => ([], 0)
  | i + 1 => if nth L 0 i < (suL L M i).2 + nth M 0 i then ((suL L M i).1 ++ [nth L 0 i + BB - ((suL L M i).2 + nth M 0 i)], 1)
    else ((suL L M i).1 ++ [nth L 0 i - ((suL L M i).2 + nth M 0 i)], 0)
theorem su_step1 (p B vo vm vl c x y : Nat) (h : vo + vm = vl + p * c) (hle : c + y ≤ x + B) : vo + p * (x + B - (c + y)) + (vm + p * y) = vl + p * x + p * B := by
  have e : p * (x + B - (c + y)) + p * (c + y) = p * x + p * B := by rw [← Nat.mul_add, ← Nat.mul_add, Nat.sub_add_cancel hle]
  rw [Nat.mul_add p c y] at e
  omega
theorem su_step0 (p vo vm vl c x y : Nat) (h : vo + vm = vl + p * c) (hle : c + y ≤ x) : vo + p * (x - (c + y)) + (vm + p * y) = vl + p * x := by
  have e : p * (x - (c + y)) + p * (c + y) = p * x := by rw [← Nat.mul_add, Nat.sub_add_cancel hle]
  rw [Nat.mul_add p c y] at e
  omega
theorem v9_snoc (o : List Nat) (d : Nat) : v9 (o ++ [d]) = v9 o + BB ^ o.length * d := by
  rw [v9_append]
  simp [v9]
theorem suL_inv {L M : List Nat} (hL : Dig L) (hM : Dig M) : ∀ i, Dig (suL L M i).1 ∧ (suL L M i).1.length = i ∧ (suL L M i).2 ≤ 1 ∧ v9 (suL L M i).1 + v9 (M.take i) = v9 (L.take i) + BB ^ i * (suL L M i).2
  | 0 => ⟨Dig.nil, rfl, by simp [suL], by simp [suL, v9]⟩
  | i + 1 => by
    obtain ⟨h1, h2, h3, h4⟩ := suL_inv hL hM i
    have a1 : nth L 0 i < 1000000000 := dig_nth hL i
    have a2 : nth M 0 i < 1000000000 := dig_nth hM i
    rw [v9_take_succ', v9_take_succ']
    by_cases hlt : nth L 0 i < (suL L M i).2 + nth M 0 i
    · have e : suL L M (i + 1) = ((suL L M i).1 ++ [nth L 0 i + BB - ((suL L M i).2 + nth M 0 i)], 1) := by rw [suL, if_pos hlt]
      rw [e]
      refine ⟨h1.app (Dig.one ?_), ?_, Nat.le_refl _, ?_⟩
      · show nth L 0 i + 1000000000 - ((suL L M i).2 + nth M 0 i) < 1000000000
        omega
      · rw [List.length_append, h2]; rfl
      · have hle : (suL L M i).2 + nth M 0 i ≤ nth L 0 i + BB := by
          show (suL L M i).2 + nth M 0 i ≤ nth L 0 i + 1000000000
          omega
        have := su_step1 (BB ^ i) BB _ _ _ _ _ _ h4 hle
        rw [v9_snoc, h2, Nat.pow_succ, Nat.mul_one]
        exact this
    · have e : suL L M (i + 1) = ((suL L M i).1 ++ [nth L 0 i - ((suL L M i).2 + nth M 0 i)], 0) := by rw [suL, if_neg hlt]
      rw [e]
      refine ⟨h1.app (Dig.one ?_), ?_, by simp, ?_⟩
      · show nth L 0 i - ((suL L M i).2 + nth M 0 i) < 1000000000
        omega
      · rw [List.length_append, h2]; rfl
      · have hle : (suL L M i).2 + nth M 0 i ≤ nth L 0 i := by omega
        have := su_step0 (BB ^ i) _ _ _ _ _ _ h4 hle
        rw [v9_snoc, h2, Nat.mul_zero, Nat.add_zero]
        exact this
theorem loop75_0 (call : Oracle) (fuel : Nat) (L M : List Nat) (hL : Dig L) (hM : Dig M) (hl : L.length < 1000000) (hm : M.length ≤ L.length) (hF : 1000000 < fuel) (x y : Bool) (st : St)
    (h0 : drops st h75_0 = L75_0 (.ro (ul x L)) (.ro (ul y M)) (.own (ul false [])) (ii 0) (.ro (ul x L)) (ii L.length) (ii 0)) :
    run.loopN (run call fuel b75_0) fuel st = some (.ex 0, X75_0 (.own (ul false (suL L M L.length).1))) := by
  refine loop_cnt call fuel h75_0 _ L.length (fun i => L75_0 (.ro (ul x L)) (.ro (ul y M)) (.own (ul false (suL L M i).1)) (ii (suL L M i).2) (.ro (ul x L)) (ii L.length) (ii i)) _ (by intro h; cases h) ?_ (by simp) fuel st h0 (by omega)
  intro i hi
  have hw := wrap_succ (i := i) (by omega)
  obtain ⟨g1, g2, g3, g4⟩ := suL_inv hL hM i
  have a1 : nth L 0 i < 1000000000 := dig_nth hL i
  have a2 : nth M 0 i < 1000000000 := dig_nth hM i
  have e1 := zl_nth L i
  have e2 := zl_nth M i
  simp only [suL]
  have ho : nth M 0 i = 0 ∨ i < M.length := by
    by_cases h : i < M.length
    · exact .inr h
    · exact .inl (nth_out (by omega))
  generalize (suL L M i).1 = o at *
  generalize (suL L M i).2 = c at *
  generalize nth L 0 i = s at *
  generalize nth M 0 i = t at *
  have hmo : o.length + 1 ≤ most := by unfold most; omega
  have w0 := wrapI (n := s) (by omega)
  have w0' := wrapI (n := t) (by omega)
  obtain ⟨k2, hk2⟩ : ∃ k2, (s : Int) - (c : Int) = k2 := ⟨_, rfl⟩
  obtain ⟨k3, hk3⟩ : ∃ k3, k2 - (t : Int) = k3 := ⟨_, rfl⟩
  have w1 : IntKind.i64.wrap ((s : Int) - (c : Int)) = k2 := by rw [hk2]; exact wrap_eq (by unfold I64; omega)
  have w2 : IntKind.i64.wrap (k2 - (t : Int)) = k3 := by rw [hk3]; exact wrap_eq (by unfold I64; omega)
  have hk4 : ¬ i < M.length → k3 = k2 := fun h => by have := ho.resolve_right h; omega
  by_cases hlt : s < c + t
  · rw [if_pos hlt]
    obtain ⟨r, hr⟩ : ∃ r, s + BB - (c + t) = r := ⟨_, rfl⟩
    have hr' : s + 1000000000 - (c + t) = r := hr
    have e3 := zl_snoc o r
    have w3 : IntKind.i64.wrap (k3 + 1000000000) = (r : Int) := by rw [wrap_eq (by unfold I64; omega)]; omega
    have w4 := wrap32 (n := r) (by omega)
    have c1 : k3 < 0 := by omega
    rw [hr]
    by_cases h : i < M.length
    · simp [hi, hw, e1, e2, h, w0, w0', w1, w2, w3, w4, c1, hmo, e3]
    · have := hk4 h
      subst this
      simp [hi, hw, e1, h, w0, w1, w3, w4, c1, hmo, e3]
  · rw [if_neg hlt]
    obtain ⟨r, hr⟩ : ∃ r, s - (c + t) = r := ⟨_, rfl⟩
    have e3 := zl_snoc o r
    have w4 := wrap32 (n := r) (by omega)
    have c1 : ¬ k3 < 0 := by omega
    have c0 : IntKind.u32.wrap k3 = (r : Int) := by rw [show k3 = (r : Int) by omega]; exact w4
    rw [hr]
    by_cases h : i < M.length
    · simp [hi, hw, e1, e2, h, w0, w0', w1, w2, c0, c1, hmo, e3]
    · have := hk4 h
      subst this
      simp [hi, hw, e1, h, w0, w1, c0, c1, hmo, e3]
theorem suL_val {a b : Nat} (h : b ≤ a) : Dig (suL (dg a) (dg b) (dg a).length).1 ∧ v9 (suL (dg a) (dg b) (dg a).length).1 = a - b := by
  obtain ⟨g1, g2, g3, g4⟩ := suL_inv (dig_dg a) (dig_dg b) (dg a).length
  have hl : (dg b).length ≤ (dg a).length := by
    rcases Nat.lt_or_ge (dg a).length (dg b).length with h1 | h1
    · have := cmp_len h1; omega
    · exact h1
  rw [List.take_length, List.take_of_length_le hl, v9_dg, v9_dg] at g4
  have hlt := v9_lt g1
  rw [g2] at hlt
  refine ⟨g1, ?_⟩
  rcases Nat.eq_zero_or_pos (suL (dg a) (dg b) (dg a).length).2 with h0 | h0
  · rw [h0] at g4
    omega
  · have h1 : (suL (dg a) (dg b) (dg a).length).2 = 1 := by omega
    rw [h1] at g4
    omega
theorem f75 (call : Oracle) (fuel : Nat) (hF : 1000000 < fuel) (hT : Trim85 call) (x y : Bool) (a b : Nat) (hab : b ≤ a) (ha : (dg a).length < 1000000) : callF call fuel c75 [ul x (dg a), ul y (dg b)] = some (ul false (dg (a - b))) := by
  rw [callF_tab call fuel c75 47 _ (by exact Nat.le_of_ble_eq_true rfl) (by exact Nat.le_of_ble_eq_true rfl)]
  have hl : (dg b).length ≤ (dg a).length := by
    rcases Nat.lt_or_ge (dg a).length (dg b).length with h1 | h1
    · have := cmp_len h1; omega
    · exact h1
  obtain ⟨k1, k2⟩ := suL_val hab
  have hk := zl_tr k1
  rw [k2] at hk
  have hL := loop75_0 call fuel (dg a) (dg b) (dig_dg a) (dig_dg b) ha hl hF x y
  have hlen := (suL_inv (dig_dg a) (dig_dg b) (dg a).length).2.1
  have hm : (dg a).length ≤ most := by unfold most; omega
  generalize dg (a - b) = r at *
  generalize (suL (dg a) (dg b) (dg a).length).1 = o at *
  generalize dg a = l at *
  generalize dg b = m at *
  have hT := hT false o (by omega)
  have hl := trn_len o
  rw [zl_len] at hl
  generalize trn o = k at *
  simp [c75, hm]
  rw [hL _ (by simp; rfl)]
  simp [hT, hl, hk]
/-! ### clones -/
theorem f101 (call : Oracle) (fuel : Nat) (l : List Nat) (hl : l.length ≤ 1000000) : callF call fuel c101 [ul false l] = some (ul false l) := by
  rw [callF_tab call fuel c101 8 _ (by exact Nat.le_of_ble_eq_true rfl) (by exact Nat.le_of_ble_eq_true rfl)]
  have hm : l.length ≤ most := by unfold most; omega
  simp [c101, hm]
  show _ = T.nd (K.sl false 1 (zl l).length) _
  rw [zl_len]
end Go.Mx
namespace Go.Mx
set_option linter.unusedVariables false
set_option linter.unusedSimpArgs false
set_option linter.unusedSectionVars false
open Go

theorem zl_set (l : List Nat) (k x : Nat) : (zl l).set k (x : Int) = zl (l.set k x) := by simp [zl]
theorem v9_set (O : List Nat) (k d : Nat) (h : k < O.length) : v9 (O.set k d) + BB ^ k * nth O 0 k = v9 O + BB ^ k * d := by
  induction O generalizing k with
  | nil => simp at h
  | cons x O ih =>
    cases k with
    | zero => simp [v9, nth]; omega
    | succ k =>
      have := ih k (by simpa using h)
      have hn : nth (x :: O) 0 (k + 1) = nth O 0 k := rfl
      rw [hn, List.set_cons_succ]
      simp only [v9]
      rw [Nat.pow_succ]
      generalize v9 (O.set k d) = p at *
      generalize v9 O = q at *
      generalize nth O 0 k = r at *
      generalize BB ^ k = s at *
      have e : BB * (p + s * r) = BB * (q + s * d) := by rw [this]
      rw [Nat.mul_add, Nat.mul_add, ← Nat.mul_assoc, ← Nat.mul_assoc] at e
      rw [Nat.mul_comm s BB]
      omega
theorem nth_set_ne {l : List Nat} {i k d : Nat} (h : i ≠ k) : nth (l.set i d) 0 k = nth l 0 k := by
  unfold nth
  rw [List.getD_eq_getElem?_getD, List.getD_eq_getElem?_getD, List.getElem?_set_ne h]
theorem dig_set {l : List Nat} (h : Dig l) (k : Nat) {d : Nat} (hd : d < BB) : Dig (l.set k d) := fun x hx => by
  rcases List.mem_or_eq_of_mem_set hx with h1 | h1
  · exact h x h1
  · rw [h1]; exact hd
theorem mu_step {B V V' p o t c xy W : Nat} (h1 : V' + p * o = V + p * (t % B)) (ht : t = c + (xy + o)) (h2 : V + p * c = W) : V' + p * B * (t / B) = W + p * xy := by
  have e := Nat.mod_add_div t B
  have e2 : p * (t % B + B * (t / B)) = p * (c + (xy + o)) := by rw [e, ht]
  rw [Nat.mul_add, Nat.mul_add, Nat.mul_add, ← Nat.mul_assoc] at e2
  omega
/-- A row of a product. -/
def miR (b : List Nat) (x i : Nat) (O : List Nat) : Nat → List Nat × Nat
  | 0 => (O, 0)
  | j + 1 => ((miR b x i O j).1.set (i + j) (((miR b x i O j).2 + (x * nth b 0 j + nth (miR b x i O j).1 0 (i + j))) % BB), ((miR b x i O j).2 + (x * nth b 0 j + nth (miR b x i O j).1 0 (i + j))) / BB)
theorem mul_bnd {c x y o : Nat} (hc : c < 1000000000) (hx : x < 1000000000) (hy : y < 1000000000) (ho : o < 1000000000) : c + (x * y + o) < 1000000000 * 1000000000 := by
  have : x * y ≤ 999999999 * 999999999 := Nat.mul_le_mul (by omega) (by omega)
  omega
theorem miR_inv {b : List Nat} (hb : Dig b) {x : Nat} (hx : x < BB) (i : Nat) {O : List Nat} (hO : Dig O) (hl : i + b.length ≤ O.length) : ∀ j, j ≤ b.length →
    (miR b x i O j).1.length = O.length ∧ Dig (miR b x i O j).1 ∧ (miR b x i O j).2 < BB ∧ v9 (miR b x i O j).1 + BB ^ (i + j) * (miR b x i O j).2 = v9 O + BB ^ i * (x * v9 (b.take j)) ∧ ∀ k, i + j ≤ k → nth (miR b x i O j).1 0 k = nth O 0 k
  | 0, _ => ⟨rfl, hO, show (0 : Nat) < BB by decide, by simp [miR, v9], fun k _ => rfl⟩
  | j + 1, hj => by
    obtain ⟨h1, h2, h3, h4, h5⟩ := miR_inv hb hx i hO hl j (by omega)
    have y1 : nth b 0 j < BB := dig_nth hb j
    have o1 : nth (miR b x i O j).1 0 (i + j) < BB := dig_nth h2 _
    simp only [miR]
    rw [v9_take_succ']
    generalize hP : miR b x i O j = P at *
    obtain ⟨P, c⟩ := P
    simp only at *
    have ht := mul_bnd h3 hx y1 o1
    obtain ⟨t, hte⟩ : ∃ t, c + (x * nth b 0 j + nth P 0 (i + j)) = t := ⟨_, rfl⟩
    rw [hte] at ht ⊢
    refine ⟨by rw [List.length_set, h1], dig_set h2 _ (Nat.mod_lt _ (by decide)), (Nat.div_lt_iff_lt_mul (by decide)).2 ht, ?_, fun k hk => ?_⟩
    · have hs := v9_set P (i + j) (t % BB) (by omega)
      have := mu_step hs hte.symm h4
      rw [show i + (j + 1) = i + j + 1 by omega, Nat.pow_succ, this, Nat.add_assoc]
      congr 1
      rw [Nat.mul_add, Nat.mul_add, Nat.pow_add]
      congr 1
      rw [Nat.mul_assoc, Nat.mul_left_comm x]
    · rw [nth_set_ne (by omega)]
      exact h5 k (by omega)
/-- The product, after so many rows. -/
def moR (a b : List Nat) : Nat → List Nat
  | 0 => List.replicate (a.length + b.length) 0
  | i + 1 => (miR b (nth a 0 i) i (moR a b i) b.length).1.set (i + b.length) (miR b (nth a 0 i) i (moR a b i) b.length).2
theorem moR_inv {a b : List Nat} (ha : Dig a) (hb : Dig b) : ∀ i, i ≤ a.length → (moR a b i).length = a.length + b.length ∧ Dig (moR a b i) ∧ v9 (moR a b i) = v9 (a.take i) * v9 b ∧ ∀ k, i + b.length ≤ k → nth (moR a b i) 0 k = 0
  | 0, _ => by
    refine ⟨by simp [moR], fun x hx => ?_, ?_, fun k _ => ?_⟩
    · rw [moR, List.mem_replicate] at hx
      rw [hx.2]; decide
    · rw [v9_zero_iff.2 fun d hd => by rw [moR, List.mem_replicate] at hd; exact hd.2]
      simp [v9]
    · unfold moR nth
      rw [List.getD_eq_getElem?_getD, List.getElem?_replicate]
      split <;> rfl
  | i + 1, hi => by
    obtain ⟨h1, h2, h3, h4⟩ := moR_inv ha hb i (by omega)
    obtain ⟨g1, g2, g3, g4, g5⟩ := miR_inv hb (dig_nth ha i) i h2 (by omega) b.length (Nat.le_refl _)
    have hz := g5 (i + b.length) (Nat.le_refl _)
    rw [h4 (i + b.length) (by omega)] at hz
    have hs := v9_set (miR b (nth a 0 i) i (moR a b i) b.length).1 (i + b.length) (miR b (nth a 0 i) i (moR a b i) b.length).2 (by omega)
    rw [hz, g4, List.take_length, h3] at hs
    simp only [moR]
    refine ⟨by rw [List.length_set, g1, h1], dig_set g2 _ g3, ?_, fun k hk => ?_⟩
    · rw [v9_take_succ', Nat.add_mul, Nat.mul_assoc]
      rw [Nat.mul_zero, Nat.add_zero] at hs
      exact hs
    · rw [nth_set_ne (by omega), g5 k (by omega), h4 k (by omega)]
theorem loop66_1 (call : Oracle) (fuel : Nat) (a b O : List Nat) (ha : Dig a) (hb : Dig b) (hO : Dig O) (i : Nat) (hi : i < a.length) (hl : O.length = a.length + b.length) (hs : a.length + b.length < 1000000) (x y : Bool) (fu : Nat) (hF : 1000000 < fu) (st : St)
    (h0 : drops st h66_1 = L66_1 (.ro (ul x a)) (.ro (ul y b)) (.own (ul false O)) (ii i) (u3 (nth a 0 i)) u0 (.ro (ul x a)) (ii a.length) (ii i) (.ro (ul y b)) (ii b.length) (ii 0)) :
    run.loopN (run call fuel b66_1) fu st = some (.ex 2, X66_2 (.ro (ul x a)) (.ro (ul y b)) (.own (ul false (miR b (nth a 0 i) i O b.length).1)) (ii i) (uq (miR b (nth a 0 i) i O b.length).2) (.ro (ul x a)) (ii a.length) (ii i)) := by
  refine loop_cnt call fuel h66_1 _ b.length (fun j => L66_1 (.ro (ul x a)) (.ro (ul y b)) (.own (ul false (miR b (nth a 0 i) i O j).1)) (ii i) (u3 (nth a 0 i)) (uq (miR b (nth a 0 i) i O j).2) (.ro (ul x a)) (ii a.length) (ii i) (.ro (ul y b)) (ii b.length) (ii j)) _ (by intro h; cases h) ?_ (by simp) fu st h0 (by omega)
  intro j hj
  have hw := wrap_succ (i := j) (by omega)
  have hx : nth a 0 i < 1000000000 := dig_nth ha i
  have hy : nth b 0 j < 1000000000 := dig_nth hb j
  obtain ⟨h1, h2, h3, h4, h5⟩ := miR_inv hb hx i hO (by omega) j (by omega)
  have o1 : nth (miR b (nth a 0 i) i O j).1 0 (i + j) < 1000000000 := dig_nth h2 _
  have e1 := zl_nth b j
  have e2 := zl_nth (miR b (nth a 0 i) i O j).1 (i + j)
  simp only [miR]
  generalize (miR b (nth a 0 i) i O j).1 = P at *
  generalize (miR b (nth a 0 i) i O j).2 = c at *
  have ht := mul_bnd (show c < 1000000000 from h3) hx hy o1
  obtain ⟨t, hte⟩ : ∃ t, c + (nth a 0 i * nth b 0 j + nth P 0 (i + j)) = t := ⟨_, rfl⟩
  have e3 := zl_set P (i + j) (t % BB)
  rw [hte] at ht ⊢
  generalize nth P 0 (i + j) = o at *
  generalize nth b 0 j = v at *
  generalize nth a 0 i = s at *
  have hij : i + j < P.length := by omega
  have wij : IntKind.i64.wrap ((i : Int) + (j : Int)) = ((i + j : Nat) : Int) := by rw [← Int.natCast_add]; exact wrapI (by omega)
  have w1 := wrap64 (n := s) (by omega)
  have w2 := wrap64 (n := v) (by omega)
  have w3 := wrap64 (n := o) (by omega)
  have w4 : IntKind.u64.wrap ((s : Int) * (v : Int)) = ((s * v : Nat) : Int) := by rw [← Int.natCast_mul]; exact wrap64 (by omega)
  have w5 : IntKind.u64.wrap (((s * v : Nat) : Int) + (o : Int)) = ((s * v + o : Nat) : Int) := by rw [← Int.natCast_add]; exact wrap64 (by omega)
  have w6 : IntKind.u64.wrap ((c : Int) + ((s * v + o : Nat) : Int)) = (t : Int) := by rw [← Int.natCast_add, hte]; exact wrap64 (by omega)
  have d1 : (t : Int) / 1000000000 = ((t / BB : Nat) : Int) := div_nat _
  have d2 : (t : Int).tmod 1000000000 = ((t % BB : Nat) : Int) := tmod_nat _
  have hlt : t / BB < 18446744073709551616 := Nat.lt_of_le_of_lt (Nat.div_le_self _ _) (by omega)
  have hmt : t % BB < 1000000000 := Nat.mod_lt _ (by decide)
  have w7 := wrap64 (n := t / BB) hlt
  have w8 := wrap64 (n := t % BB) (by omega)
  have w9 := wrap32 (n := t % BB) (by omega)
  generalize t / BB = dv at *
  generalize t % BB = md at *
  generalize s * v + o = q1 at *
  generalize s * v = q0 at *
  generalize i + j = k at *
  simp [hj, hw, e1, e2, hij, wij, w1, w2, w3, w4, w5, w6, d1, d2, w7, w8, w9, e3]
theorem loop66_0 (call : Oracle) (fuel : Nat) (a b : List Nat) (ha : Dig a) (hb : Dig b) (hs : a.length + b.length < 1000000) (x y : Bool) (hF : 1000000 < fuel) (st : St)
    (h0 : drops st h66_0 = L66_0 (.ro (ul x a)) (.ro (ul y b)) (.own (ul false (moR a b 0))) (.ro (ul x a)) (ii a.length) (ii 0)) :
    run.loopN (run call fuel b66_0) fuel st = some (.ex 0, X66_0 (.own (ul false (moR a b a.length)))) := by
  refine loop_cnt call fuel h66_0 _ a.length (fun i => L66_0 (.ro (ul x a)) (.ro (ul y b)) (.own (ul false (moR a b i))) (.ro (ul x a)) (ii a.length) (ii i)) _ (by intro h; cases h) ?_ (by simp) fuel st h0 (by omega)
  intro i hi
  have hw := wrap_succ (i := i) (by omega)
  obtain ⟨h1, h2, h3, h4⟩ := moR_inv ha hb i (by omega)
  have hL := loop66_1 call fuel a b (moR a b i) ha hb h2 i hi h1 hs x y fuel hF
  obtain ⟨g1, g2, g3, _⟩ := miR_inv hb (dig_nth ha i) i h2 (by omega) b.length (Nat.le_refl _)
  have e1 := zl_nth a i
  have wib : IntKind.i64.wrap ((i : Int) + (b.length : Int)) = ((i + b.length : Nat) : Int) := by rw [← Int.natCast_add]; exact wrapI (by omega)
  simp only [moR]
  generalize moR a b i = O at *
  generalize (miR b (nth a 0 i) i O b.length).1 = P at *
  generalize (miR b (nth a 0 i) i O b.length).2 = c at *
  have g3 : c < 1000000000 := g3
  have w1 := wrap32 (n := c) (by omega)
  have e3 := zl_set P (i + b.length) c
  have hlt : i + b.length < P.length := by omega
  generalize nth a 0 i = s at *
  simp [hi, e1]
  rw [hL _ (by simp)]
  generalize i + b.length = k at *
  simp [hw, wib, hlt, w1, e3]
theorem f66 (call : Oracle) (fuel : Nat) (hF : 1000000 < fuel) (hT : Trim85 call) (x y : Bool) {a b : List Nat} (ha : Dig a) (hb : Dig b) (hs : a.length + b.length < 1000000) : callF call fuel c66 [ul x a, ul y b] = some (ul false (dg (v9 a * v9 b))) := by
  rw [callF_tab call fuel c66 68 _ (by exact Nat.le_of_ble_eq_true rfl) (by exact Nat.le_of_ble_eq_true rfl)]
  have hL := loop66_0 call fuel a b ha hb hs x y hF
  obtain ⟨h1, h2, h3, _⟩ := moR_inv ha hb a.length (Nat.le_refl _)
  rw [List.take_length] at h3
  have hk := zl_tr h2
  rw [h3] at hk
  have hT := hT false (moR a b a.length) (by omega)
  have hl := trn_len (moR a b a.length)
  rw [zl_len] at hl
  have hm : a.length + b.length ≤ most := by unfold most; omega
  have wab : IntKind.i64.wrap ((a.length : Int) + (b.length : Int)) = ((a.length + b.length : Nat) : Int) := by rw [← Int.natCast_add]; exact wrapI (by omega)
  have hz : zl (moR a b 0) = List.replicate (a.length + b.length) 0 := by simp [moR, zl]
  have hz' : ul false (moR a b 0) = gsl (eI .u32) false (List.replicate (a.length + b.length) 0) := by rw [ul, hz]
  rw [hz'] at hL
  generalize moR a b a.length = P at *
  generalize trn P = k at *
  generalize v9 a * v9 b = r at *
  generalize hn : a.length + b.length = n at *
  simp [c66, wab, hm]
  rw [hL _ (by simp)]
  simp [hT, hl, hk]
end Go.Mx
namespace Go.Mx
set_option linter.unusedVariables false
set_option linter.unusedSimpArgs false
set_option linter.unusedSectionVars false
open Go

/-- From the top: the quotient's digits, and what is left. -/
def shR (a : List Nat) (d : Nat) : Nat → List Nat × Nat
  | 0 => (List.replicate a.length 0, 0)
  | k + 1 => ((shR a d k).1.set (a.length - 1 - k) (((shR a d k).2 * BB + nth a 0 (a.length - 1 - k)) / d), ((shR a d k).2 * BB + nth a 0 (a.length - 1 - k)) % d)
theorem sh_step {B d q r x p V n m : Nat} (h : V = d * q + n * r) (hn : n = p * B) (hm : m = (r * B + x) / d) : V + p * x = d * (q + p * m) + p * ((r * B + x) % d) := by
  have e := Nat.div_add_mod (r * B + x) d
  have e2 : p * (d * ((r * B + x) / d) + (r * B + x) % d) = p * (r * B + x) := by rw [e]
  rw [← hm, Nat.mul_add, Nat.mul_add] at e2
  rw [h, hn, Nat.mul_add]
  rw [show d * (p * m) = p * (d * m) from Nat.mul_left_comm ..]
  rw [show p * B * r = p * (r * B) by rw [Nat.mul_assoc, Nat.mul_comm B r]]
  omega
theorem v9_drop {a : List Nat} {j : Nat} (h : j < a.length) : BB ^ j * v9 (a.drop j) = BB ^ (j + 1) * v9 (a.drop (j + 1)) + BB ^ j * nth a 0 j := by
  rw [drop_nth h]
  simp only [v9]
  rw [Nat.mul_add, Nat.pow_succ, ← Nat.mul_assoc, Nat.add_comm]
theorem shR_inv {a : List Nat} (ha : Dig a) {d : Nat} (h0 : 0 < d) (hd : d < 4294967296) : ∀ k, k ≤ a.length →
    (shR a d k).1.length = a.length ∧ Dig (shR a d k).1 ∧ (shR a d k).2 < d ∧ BB ^ (a.length - k) * v9 (a.drop (a.length - k)) = d * v9 (shR a d k).1 + BB ^ (a.length - k) * (shR a d k).2 ∧ ∀ j, j < a.length - k → nth (shR a d k).1 0 j = 0
  | 0, _ => by
    refine ⟨by simp [shR], fun x hx => ?_, h0, ?_, fun j _ => ?_⟩
    · rw [shR, List.mem_replicate] at hx
      rw [hx.2]; decide
    · rw [Nat.sub_zero, List.drop_length]
      have : v9 (shR a d 0).1 = 0 := v9_zero_iff.2 fun d hd => by rw [shR, List.mem_replicate] at hd; exact hd.2
      rw [this]
      simp [v9, shR]
    · unfold shR nth
      rw [List.getD_eq_getElem?_getD, List.getElem?_replicate]
      split <;> rfl
  | k + 1, hk => by
    obtain ⟨h1, h2, h3, h4, h5⟩ := shR_inv ha h0 hd k (by omega)
    obtain ⟨j, hj⟩ : ∃ j, a.length - 1 - k = j := ⟨_, rfl⟩
    have e1 : a.length - k = j + 1 := by omega
    have e2 : a.length - (k + 1) = j := by omega
    simp only [shR]
    rw [hj, e2]
    rw [e1] at h4 h5
    have hz := h5 j (by omega)
    have hx : nth a 0 j < BB := dig_nth ha j
    generalize hP : shR a d k = P at *
    obtain ⟨P, r⟩ := P
    simp only at *
    have hm : (r * BB + nth a 0 j) / d < BB := by
      rw [Nat.div_lt_iff_lt_mul h0]
      have : (r + 1) * BB ≤ d * BB := Nat.mul_le_mul_right _ h3
      rw [Nat.add_mul, Nat.one_mul] at this
      rw [Nat.mul_comm BB d]
      omega
    refine ⟨by rw [List.length_set, h1], dig_set h2 _ hm, Nat.mod_lt _ h0, ?_, fun i hi => ?_⟩
    · have hs := v9_set P j ((r * BB + nth a 0 j) / d) (by omega)
      rw [hz, Nat.mul_zero, Nat.add_zero] at hs
      rw [v9_drop (by omega), hs]
      exact sh_step h4 (Nat.pow_succ ..) rfl
    · rw [nth_set_ne (by omega)]
      exact h5 i (by omega)
theorem loop100_0 (call : Oracle) (fuel : Nat) (a : List Nat) (ha : Dig a) (d : Nat) (h0d : 0 < d) (hd : d < 4294967296) (hs : a.length < 1000000) (x : Bool) (hF : 1000000 < fuel) (st : St)
    (h0 : drops st h100_0 = L100_0 (.ro (ul x a)) (u3 d) (.own (ul false (shR a d 0).1)) u0 (ii ((a.length : Int) - 1))) :
    run.loopN (run call fuel b100_0) fuel st = some (.ex 0, X100_0 (.own (ul false (shR a d a.length).1)) (uq (shR a d a.length).2)) := by
  refine loop_cnt call fuel h100_0 _ a.length (fun k => L100_0 (.ro (ul x a)) (u3 d) (.own (ul false (shR a d k).1)) (uq (shR a d k).2) (ii ((a.length : Int) - 1 - k))) _ (by intro h; cases h) ?_ ?_ fuel st (by rw [h0, show (a.length : Int) - 1 - ((0 : Nat) : Int) = (a.length : Int) - 1 by omega]; rfl) (by omega)
  · intro k hk
    obtain ⟨h1, h2, h3, h4, h5⟩ := shR_inv ha h0d hd k (by omega)
    obtain ⟨j, hj⟩ : ∃ j, a.length - 1 - k = j := ⟨_, rfl⟩
    have e : (a.length : Int) - 1 - (k : Nat) = (j : Int) := by omega
    have e' : (a.length : Int) - 1 - ((k + 1 : Nat) : Int) = (j : Int) - 1 := by omega
    have hw : IntKind.i64.wrap ((j : Int) - 1) = (j : Int) - 1 := wrap_eq (by unfold I64; omega)
    simp only [shR]
    rw [hj, e, e']
    have hx : nth a 0 j < 1000000000 := dig_nth ha j
    have e1 := zl_nth a j
    have hja : j < a.length := by omega
    generalize (shR a d k).1 = P at *
    generalize (shR a d k).2 = r at *
    have hjP : j < P.length := by omega
    have e3 := zl_set P j ((r * BB + nth a 0 j) / d)
    have hr : r * 1000000000 ≤ 4294967295 * 1000000000 := Nat.mul_le_mul_right _ (by omega)
    have hq : (r * BB + nth a 0 j) / d < BB := by
      rw [Nat.div_lt_iff_lt_mul h0d]
      have : (r + 1) * BB ≤ d * BB := Nat.mul_le_mul_right _ h3
      rw [Nat.add_mul, Nat.one_mul] at this
      rw [Nat.mul_comm BB d]
      have hx : nth a 0 j < BB := hx
      omega
    have hq : (r * BB + nth a 0 j) / d < 1000000000 := hq
    generalize nth a 0 j = s at *
    have w1 : IntKind.u64.wrap ((r : Int) * 1000000000) = ((r * BB : Nat) : Int) := by
      rw [show (r : Int) * 1000000000 = ((r * BB : Nat) : Int) by rw [Int.natCast_mul]; rfl]
      exact wrap64 (by show r * 1000000000 < _; omega)
    have w2 := wrap64 (n := s) (by omega)
    obtain ⟨t, ht⟩ : ∃ t, r * BB + s = t := ⟨_, rfl⟩
    have htb : t < 18446744073709551616 := by
      rw [← ht]
      show r * 1000000000 + s < _
      omega
    have w3 : IntKind.u64.wrap (((r * BB : Nat) : Int) + (s : Int)) = (t : Int) := by rw [← Int.natCast_add, ht]; exact wrap64 htb
    rw [ht] at e3 hq ⊢
    have w4 := wrap64 (n := d) (by omega)
    have d1 : (t : Int) / (d : Int) = ((t / d : Nat) : Int) := by omega
    have d2 : (t : Int).tmod (d : Int) = ((t % d : Nat) : Int) := by rw [Int.tmod_eq_emod_of_nonneg (by omega)]; omega
    have d1' : (t : Int).tdiv (d : Int) = ((t / d : Nat) : Int) := by rw [Int.tdiv_eq_ediv_of_nonneg (by omega)]; omega
    have hmd : t % d < d := Nat.mod_lt _ h0d
    have w5 := wrap64 (n := t / d) (by omega)
    have w6 := wrap32 (n := t / d) (by omega)
    have w7 := wrap64 (n := t % d) (by omega)
    have hd0 : ¬ (d : Int) = 0 := by omega
    have hd0' : ¬ d = 0 := by omega
    clear hr h4 h3 htb
    generalize t / d = dv at *
    generalize t % d = md at *
    clear ht
    generalize ((r * BB : Nat) : Int) = rb at w1 w3
    simp [hja, hjP, e1, hw, w1, w2, w3, w4, d1, d1', d2, w5, w6, w7, hd0, hd0', e3]
  · have e : (a.length : Int) - 1 - (a.length : Nat) = -1 := by omega
    rw [e]
    simp
theorem shR_val {a : List Nat} (ha : Dig a) {d : Nat} (h0 : 0 < d) (hd : d < 4294967296) : Dig (shR a d a.length).1 ∧ v9 (shR a d a.length).1 = v9 a / d ∧ (shR a d a.length).2 = v9 a % d := by
  obtain ⟨h1, h2, h3, h4, _⟩ := shR_inv ha h0 hd a.length (Nat.le_refl _)
  rw [Nat.sub_self, Nat.pow_zero, Nat.one_mul, Nat.one_mul, List.drop_zero] at h4
  have : v9 a / d = v9 (shR a d a.length).1 ∧ v9 a % d = (shR a d a.length).2 := (Nat.div_mod_unique h0).2 ⟨by omega, h3⟩
  exact ⟨h2, this.1.symm, this.2.symm⟩
theorem f100 (call : Oracle) (fuel : Nat) (hF : 1000000 < fuel) (hT : Trim85 call) (x : Bool) {a : List Nat} (ha : Dig a) (d : Nat) (h0 : 0 < d) (hd : d < 4294967296) (hs : a.length < 1000000) :
    callF call fuel c100 [ul x a, .v (.int .u32 d)] = some (.nd .tu [ul false (dg (v9 a / d)), .v (.int .u32 ((v9 a % d : Nat) : Int))]) := by
  rw [callF_tab call fuel c100 41 _ (by exact Nat.le_of_ble_eq_true rfl) (by exact Nat.le_of_ble_eq_true rfl)]
  have hL := loop100_0 call fuel a ha d h0 hd hs x hF
  obtain ⟨k1, k2, k3⟩ := shR_val ha h0 hd
  have hk := zl_tr k1
  rw [k2] at hk
  have hT := hT false (shR a d a.length).1 (by have := (shR_inv ha h0 hd a.length (Nat.le_refl _)).1; omega)
  have hl := trn_len (shR a d a.length).1
  rw [zl_len] at hl
  have hm : a.length ≤ most := by unfold most; omega
  have hw : IntKind.i64.wrap ((a.length : Int) - 1) = (a.length : Int) - 1 := wrap_eq (by unfold I64; omega)
  have hz : zl (shR a d 0).1 = List.replicate a.length 0 := by simp [shR, zl]
  have hz' : ul false (shR a d 0).1 = gsl (eI .u32) false (List.replicate a.length 0) := by rw [ul, hz]
  rw [hz'] at hL
  have hr : v9 a % d < d := Nat.mod_lt _ h0
  rw [k3] at hL
  have w1 := wrap32 (n := v9 a % d) (by omega)
  generalize v9 a % d = r at *
  generalize dg (v9 a / d) = Q at *
  generalize (shR a d a.length).1 = P at *
  generalize trn P = k at *
  simp [c100, hm, hw]
  rw [hL _ (by simp)]
  simp [hT, hl, hk, w1]
end Go.Mx
namespace Go.Mx
set_option linter.unusedVariables false
set_option linter.unusedSimpArgs false
set_option linter.unusedSectionVars false
open Go

/-- One digit of a quotient: what is left above, and the digits. -/
def dvS (V : Nat) (S : List Nat × List Nat) (j : Nat) : List Nat × List Nat :=
  if v9 (S.1.drop j) < V then S else (S.1.take j ++ dg (v9 (S.1.drop j) % V), S.2.set j (v9 (S.1.drop j) / V))
/-- After so many digits. -/
def dvR (u : List Nat) (V n : Nat) : Nat → List Nat × List Nat
  | 0 => (u, List.replicate n 0)
  | k + 1 => dvS V (dvR u V n k) (n - 1 - k)
structure DvI (A V n : Nat) (S : List Nat × List Nat) (j : Nat) : Prop where
  dig : Dig S.1
  len : j ≤ S.1.length
  small : v9 (S.1.drop j) < V
  digQ : Dig S.2
  lenQ : S.2.length = n
  val : A = V * v9 S.2 + v9 S.1
  zero : ∀ i, i < j → nth S.2 0 i = 0
theorem v9_split (l : List Nat) (j : Nat) (h : j ≤ l.length) : v9 l = v9 (l.take j) + BB ^ j * v9 (l.drop j) := by
  have := v9_append (l.take j) (l.drop j)
  rw [List.take_append_drop] at this
  rw [this]
  congr 2
  congr 1
  simp
  omega
theorem part_lt {l : List Nat} {j V : Nat} (hd : Dig l) (hj : j < l.length) (h : v9 (l.drop (j + 1)) < V) : v9 (l.drop j) < BB * V := by
  rw [drop_nth hj]
  have := dig_nth hd j
  simp only [v9]
  have h2 : BB * (v9 (l.drop (j + 1)) + 1) ≤ BB * V := Nat.mul_le_mul_left _ h
  rw [Nat.mul_add] at h2
  omega
theorem dvS_inv {A V n j : Nat} {S : List Nat × List Nat} (hV : 0 < V) (hn : j < n) (h : DvI A V n S (j + 1)) : DvI A V n (dvS V S j) j := by
  have hj : j < S.1.length := h.len
  unfold dvS
  split
  · rename_i hlt
    exact ⟨h.dig, by have := h.len; omega, hlt, h.digQ, h.lenQ, h.val, fun i hi => h.zero i (by omega)⟩
  · rename_i hge
    have hp := part_lt h.dig hj h.small
    have hq : v9 (S.1.drop j) / V < BB := by
      rw [Nat.div_lt_iff_lt_mul hV]; exact hp
    have hlen : (S.1.take j).length = j := by simp; omega
    refine ⟨(h.dig.take j).app (dig_dg _), by simp; omega, ?_, dig_set h.digQ j hq, by simp [h.lenQ], ?_, fun i hi => ?_⟩
    · show v9 ((S.1.take j ++ dg (v9 (S.1.drop j) % V)).drop j) < V
      rw [List.drop_append_of_le_length (by omega), List.drop_of_length_le (by omega), List.nil_append, v9_dg]
      exact Nat.mod_lt _ hV
    · show A = V * v9 (S.2.set j (v9 (S.1.drop j) / V)) + v9 (S.1.take j ++ dg (v9 (S.1.drop j) % V))
      have hs := v9_set S.2 j (v9 (S.1.drop j) / V) (by rw [h.lenQ]; exact hn)
      rw [h.zero j (by omega), Nat.mul_zero, Nat.add_zero] at hs
      rw [hs, v9_append, v9_dg, hlen, h.val]
      have e1 := v9_split S.1 j (by omega)
      have e2 := Nat.div_add_mod (v9 (S.1.drop j)) V
      have e3 : BB ^ j * (V * (v9 (S.1.drop j) / V) + v9 (S.1.drop j) % V) = BB ^ j * v9 (S.1.drop j) := by rw [e2]
      rw [Nat.mul_add] at e3
      rw [Nat.mul_add, Nat.mul_left_comm V]
      omega
    · rw [nth_set_ne (by omega)]
      exact h.zero i (by omega)
theorem dvR_inv {A V : Nat} (hV : 0 < V) (hle : V ≤ A) : ∀ k, k ≤ (dg A).length - (dg V).length + 1 →
    DvI A V ((dg A).length - (dg V).length + 1) (dvR (dg A) V ((dg A).length - (dg V).length + 1) k) ((dg A).length - (dg V).length + 1 - k)
  | 0, _ => by
    have hVp := dg_len_pos.2 (show V ≠ 0 by omega)
    have hlen : (dg V).length ≤ (dg A).length := by
      rcases Nat.lt_or_ge (dg A).length (dg V).length with h1 | h1
      · have := cmp_len h1; omega
      · exact h1
    refine ⟨dig_dg A, by show _ ≤ (dg A).length; omega, ?_, fun x hx => ?_, by simp [dvR], ?_, fun i _ => ?_⟩
    · have h1 := v9_lt ((dig_dg A).drop ((dg A).length - (dg V).length + 1))
      rw [List.length_drop] at h1
      have h2 := dg_ge (show V ≠ 0 by omega)
      rw [show (dg A).length - ((dg A).length - (dg V).length + 1) = (dg V).length - 1 by omega] at h1
      show v9 ((dg A).drop ((dg A).length - (dg V).length + 1 - 0)) < V
      rw [Nat.sub_zero]
      omega
    · simp only [dvR, List.mem_replicate] at hx
      rw [hx.2]; decide
    · have : v9 (List.replicate ((dg A).length - (dg V).length + 1) 0) = 0 := v9_zero_iff.2 fun d hd => (List.mem_replicate.1 hd).2
      simp only [dvR]
      rw [this, v9_dg]
      simp
    · simp only [dvR]
      unfold nth
      rw [List.getD_eq_getElem?_getD, List.getElem?_replicate]
      split <;> rfl
  | k + 1, hk => by
    have ih := dvR_inv hV hle k (by omega)
    obtain ⟨n, hn⟩ : ∃ n, (dg A).length - (dg V).length + 1 = n := ⟨_, rfl⟩
    rw [hn] at ih hk ⊢
    simp only [dvR]
    obtain ⟨j, hj⟩ : ∃ j, n - 1 - k = j := ⟨_, rfl⟩
    rw [hj]
    rw [show n - k = j + 1 by omega] at ih
    rw [show n - (k + 1) = j by omega]
    exact dvS_inv hV (by omega) ih
/-- The quotient and what is left. -/
theorem dvR_end {A V : Nat} (hV : 0 < V) (hle : V ≤ A) : Dig (dvR (dg A) V ((dg A).length - (dg V).length + 1) ((dg A).length - (dg V).length + 1)).1 ∧
    v9 (dvR (dg A) V ((dg A).length - (dg V).length + 1) ((dg A).length - (dg V).length + 1)).1 = A % V ∧
    Dig (dvR (dg A) V ((dg A).length - (dg V).length + 1) ((dg A).length - (dg V).length + 1)).2 ∧
    v9 (dvR (dg A) V ((dg A).length - (dg V).length + 1) ((dg A).length - (dg V).length + 1)).2 = A / V := by
  have h := dvR_inv hV hle _ (Nat.le_refl _)
  rw [Nat.sub_self] at h
  have hs := h.small
  rw [List.drop_zero] at hs
  have hval := h.val
  generalize dvR (dg A) V ((dg A).length - (dg V).length + 1) ((dg A).length - (dg V).length + 1) = S at *
  have : A / V = v9 S.2 ∧ A % V = v9 S.1 := (Nat.div_mod_unique hV).2 ⟨by omega, hs⟩
  exact ⟨h.dig, this.2.symm, h.digQ, this.1.symm⟩
/-- The top digits are enough for a guess that is not too small. -/
theorem guess_ge {p V e : Nat} (hV : 0 < V) (he : 0 < e) (ht : 0 < V / e) : p / V ≤ p / e / (V / e) := by
  rw [Nat.le_div_iff_mul_le ht, Nat.le_div_iff_mul_le he, Nat.mul_assoc]
  exact Nat.le_trans (Nat.mul_le_mul_left _ (Nat.div_mul_le_self V e)) (Nat.div_mul_le_self p V)
/-- The number above one digit. -/
theorem top_div {m i : Nat} : m / BB ^ i = v9 ((dg m).drop i) := by
  by_cases hi : i ≤ (dg m).length
  · have e := v9_split (dg m) i hi
    have hl := v9_lt ((dig_dg m).take i)
    rw [List.length_take, Nat.min_eq_left hi] at hl
    rw [v9_dg] at e
    have hp : 0 < BB ^ i := Nat.pow_pos (by decide)
    exact ((Nat.div_mod_unique hp).2 ⟨e.symm, hl⟩).1
  · rw [List.drop_of_length_le (by omega)]
    exact Nat.div_eq_of_lt (dg_len_le.1 (by omega))
theorem dvR_len {A V : Nat} (hV : 0 < V) (hle : V ≤ A) {n : Nat} (hn : (dg A).length - (dg V).length + 1 = n) : ∀ k, k ≤ n → (dvR (dg A) V n k).1.length ≤ (dg A).length + (dg V).length + k
  | 0, _ => by simp only [dvR]; omega
  | k + 1, hk => by
    have ih := dvR_len hV hle hn k (by omega)
    simp only [dvR]
    unfold dvS
    split
    · omega
    · have : v9 ((dvR (dg A) V n k).1.drop (n - 1 - k)) % V < V := Nat.mod_lt _ hV
      have h2 : (dg (v9 ((dvR (dg A) V n k).1.drop (n - 1 - k)) % V)).length ≤ (dg V).length := dg_len_le.2 (Nat.lt_trans this (dg_len_le.1 (Nat.le_refl _)))
      simp only [List.length_append, List.length_take]
      omega
end Go.Mx
namespace Go.Mx
set_option linter.unusedVariables false
set_option linter.unusedSimpArgs false
set_option linter.unusedSectionVars false
open Go

abbrev un0 : V := .sc undef
def Cmp63 (call : Oracle) : Prop := ∀ (x y : Bool) (a b : Nat), (dg a).length < 1000000 → (dg b).length < 1000000 → call 63 [ul x (dg a), ul y (dg b)] = some (.v (.int .i64 (cmpN a b)))
def Sub75 (call : Oracle) : Prop := ∀ (x y : Bool) (a b : Nat), b ≤ a → (dg a).length < 1000000 → call 75 [ul x (dg a), ul y (dg b)] = some (ul false (dg (a - b)))
theorem cmpN_gt {a b : Nat} : (0 < cmpN a b) ↔ b < a := by
  unfold cmpN
  split
  · simp; omega
  · split
    · simp; assumption
    · simp; omega
theorem cmpN_lt {a b : Nat} : (cmpN a b < 0) ↔ a < b := by
  unfold cmpN
  split
  · simp; assumption
  · split
    · simp; omega
    · simp; omega
theorem dg_len_mono {a b : Nat} (h : a ≤ b) : (dg a).length ≤ (dg b).length := dg_len_le.2 (Nat.lt_of_le_of_lt h (dg_len_le.1 (Nat.le_refl _)))
theorem loop84_1 (call : Oracle) (fuel : Nat) (h63 : Cmp63 call) (h75 : Sub75 call) (s v p g j k q : Nat) (U Q W : List Nat) (hW : (zl W).take k = zl (dg p)) (hkW : k ≤ W.length) (hv : 0 < v) (hq : p / v = q) (hg : q ≤ g) (hgB : g < 1000000000) (hlen : (dg (v * g)).length < 1000000) (hlp : (dg p).length < 1000000) (fu : Nat) (hF : 1000000000 < fu) (st : St)
    (h0 : drops st h84_1 = L84_1 (.own (ul false [s])) (.own (ul false U)) (.own (ul false (dg v))) (.own (ul false Q)) (ii j) (.sub 76 [] 0 1 k) (uq g) (.own (ul false (dg (v * g)))) un0 un0 (.own (ul false W)) (.sub 76 [] 0 1 k)) :
    run.loopN (run call fuel b84_1) fu st = some (.ex 2, X84_2 (.own (ul false [s])) (.own (ul false U)) (.own (ul false (dg v))) (.own (ul false Q)) (ii j) (.sub 76 [] 0 1 k) (uq q) (.own (ul false (dg (v * q)))) un0 un0 (.own (ul false W)) (.sub 76 [] 0 1 k)) := by
  refine loop_cnt call fuel h84_1 _ (g - q) (fun t => L84_1 (.own (ul false [s])) (.own (ul false U)) (.own (ul false (dg v))) (.own (ul false Q)) (ii j) (.sub 76 [] 0 1 k) (uq (g - t)) (.own (ul false (dg (v * (g - t))))) un0 un0 (.own (ul false W)) (.sub 76 [] 0 1 k)) _ (by intro h; cases h) ?_ ?_ fu st h0 (by omega)
  · intro t ht
    have hqt : p / v < g - t := by omega
    have hgt : p < v * (g - t) := by
      have := (Nat.div_lt_iff_lt_mul hv).1 hqt
      rwa [Nat.mul_comm] at this
    have hb1 : (dg (v * (g - t))).length < 1000000 := Nat.lt_of_le_of_lt (dg_len_mono (Nat.mul_le_mul_left _ (by omega))) hlen
    have e63 := h63 false false (v * (g - t)) p hb1 hlp
    have hc : 0 < cmpN (v * (g - t)) p := cmpN_gt.2 hgt
    have hle : v ≤ v * (g - t) := Nat.le_mul_of_pos_right _ (by omega)
    have e75 := h75 false false (v * (g - t)) v hle hb1
    have ev : v * (g - t) - v = v * (g - (t + 1)) := by rw [show g - (t + 1) = g - t - 1 by omega]; exact (Nat.mul_sub_one _ _).symm
    rw [ev] at e75
    have hw : IntKind.u64.wrap (((g - t : Nat) : Int) - 1) = ((g - (t + 1) : Nat) : Int) := by
      have e : ((g - t : Nat) : Int) - 1 = ((g - (t + 1) : Nat) : Int) := by clear hgt hle ev; omega
      rw [e]
      exact wrap64 (by clear hgt hle ev; omega)
    have hkW' : k ≤ (zl W).length := by rw [zl_len]; exact hkW
    generalize cmpN (v * (g - t)) p = cm at *
    generalize g - (t + 1) = g2 at *
    generalize g - t = g1 at *
    generalize dg (v * g1) = l1 at *
    generalize dg (v * g2) = l2 at *
    generalize dg v = l3 at *
    generalize dg p = l4 at *
    simp [hW, hkW, hkW', e63, hc, e75, hw]
  · have e : g - (g - q) = q := by omega
    rw [e]
    have hle : v * q ≤ p := by rw [← hq]; exact Nat.mul_div_le p v
    have hb1 : (dg (v * q)).length < 1000000 := Nat.lt_of_le_of_lt (dg_len_mono (Nat.mul_le_mul_left _ hg)) hlen
    have e63 := h63 false false (v * q) p hb1 hlp
    have hc : ¬ 0 < cmpN (v * q) p := fun h => by have := cmpN_gt.1 h; omega
    have hkW' : k ≤ (zl W).length := by rw [zl_len]; exact hkW
    generalize cmpN (v * q) p = cm at *
    generalize dg (v * q) = l1 at *
    generalize dg v = l3 at *
    generalize dg p = l4 at *
    simp [hW, hkW, hkW', e63, hc]
def Mul66 (call : Oracle) : Prop := ∀ (x y : Bool) (a b : List Nat), Dig a → Dig b → a.length + b.length < 1000000 → call 66 [ul x a, ul y b] = some (ul false (dg (v9 a * v9 b)))
def Cln101 (call : Oracle) : Prop := ∀ l : List Nat, l.length ≤ 1000000 → call 101 [ul false l] = some (ul false l)
theorem nth_take {l : List Nat} {k i : Nat} (h : i < k) : nth (l.take k) 0 i = nth l 0 i := by
  unfold nth
  rw [List.getD_eq_getElem?_getD, List.getD_eq_getElem?_getD, List.getElem?_take, if_pos h]
/-- What the guess is made of. -/
theorem guess_spec {p v n0 : Nat} (hn : (dg v).length = n0 + 1) (hvp : v ≤ p) (hlt : p < BB * v) :
    ((dg p).length = n0 + 1 ∧ p / BB ^ n0 = nth (dg p) 0 n0) ∨ ((dg p).length = n0 + 2 ∧ p / BB ^ n0 = nth (dg p) 0 (n0 + 1) * BB + nth (dg p) 0 n0) := by
  have h1 := dg_len_mono hvp
  have h2 : (dg p).length ≤ n0 + 2 := by
    refine dg_len_le.2 (Nat.lt_of_lt_of_le hlt ?_)
    rw [Nat.pow_succ, Nat.mul_comm]
    refine Nat.mul_le_mul_right _ (Nat.le_of_lt ?_)
    rw [← hn]
    exact dg_len_le.1 (Nat.le_refl _)
  rw [hn] at h1
  rw [top_div]
  rcases Nat.lt_or_ge (dg p).length (n0 + 2) with h | h
  · left
    have hl : (dg p).length = n0 + 1 := by omega
    refine ⟨hl, ?_⟩
    rw [drop_nth (by omega), List.drop_of_length_le (by omega)]
    simp [v9]
  · right
    have hl : (dg p).length = n0 + 2 := by omega
    refine ⟨hl, ?_⟩
    rw [drop_nth (by omega), drop_nth (by omega), List.drop_of_length_le (by omega)]
    simp only [v9]
    rw [Nat.mul_zero, Nat.add_zero, Nat.add_comm, Nat.mul_comm]
theorem ul_app (l m : List Nat) (h : l.length + m.length ≤ most) : apD 1 m.length (gk (eI .u32) (zl m)) (gsl (eI .u32) false (zl l)) = some (ul false (l ++ m)) := by
  have := apD_ge (eI .u32) false (zl l) (zl m)
  rw [zl_len, zl_len, if_pos h, ← zl_app] at this
  exact this
theorem loop84_0 (call : Oracle) (fuel : Nat) (h63 : Cmp63 call) (h75 : Sub75 call) (h66 : Mul66 call) (h101 : Cln101 call) (hT : Trim85 call) (s A v N : Nat) (hv : 0 < v) (hle : v ≤ A) (hN : (dg A).length - (dg v).length + 1 = N) (hb : (dg A).length + (dg v).length < 400000) (hF : 1000000000 < fuel) (st : St)
    (h0 : drops st h84_0 = L84_0 (.own (ul false [s])) (.own (ul false (dg A))) (.own (ul false (dg v))) (.own (ul false (List.replicate N 0))) (ii ((N : Int) - 1)) un0 un0) :
    run.loopN (run call fuel b84_0) fuel st = some (.ex 0, X84_0 (.own (ul false [s])) (.own (ul false (dvR (dg A) v N N).1)) (.own (ul false (dvR (dg A) v N N).2)) un0 un0) := by
  refine loop_cnt call fuel h84_0 _ N (fun k => L84_0 (.own (ul false [s])) (.own (ul false (dvR (dg A) v N k).1)) (.own (ul false (dg v))) (.own (ul false (dvR (dg A) v N k).2)) (ii ((N : Int) - 1 - k)) un0 un0) _ (by intro h; cases h) ?_ ?_ fuel st (by rw [h0, show (N : Int) - 1 - ((0 : Nat) : Int) = (N : Int) - 1 by omega]; rfl) (by omega)
  · intro k hk
    have hI := dvR_inv hv hle k (by omega)
    rw [hN] at hI
    have hUl := dvR_len hv hle hN k (by omega)
    simp only [dvR]
    obtain ⟨j, hj⟩ : ∃ j, N - 1 - k = j := ⟨_, rfl⟩
    rw [show N - k = j + 1 by omega] at hI
    rw [hj, show (N : Int) - 1 - (k : Nat) = (j : Int) by omega, show (N : Int) - 1 - ((k + 1 : Nat) : Int) = (j : Int) - 1 by omega]
    have hw : IntKind.i64.wrap ((j : Int) - 1) = (j : Int) - 1 := wrap_eq (by unfold I64; omega)
    rcases hS : dvR (dg A) v N k with ⟨U, Q⟩
    rw [hS] at hI hUl
    obtain ⟨hd, hl, hsm, hdq, hlq, hval, hzero⟩ := hI
    simp only at hd hl hsm hdq hlq hUl
    have hjU : j < U.length := hl
    obtain ⟨W, hW⟩ : ∃ W, U.drop j = W := ⟨_, rfl⟩
    obtain ⟨p, hp⟩ : ∃ p, v9 W = p := ⟨_, rfl⟩
    have hWd : Dig W := by rw [← hW]; exact hd.drop j
    have hplt : p < BB * v := by rw [← hp, ← hW]; exact part_lt hd hjU hsm
    have hWk := zl_tr hWd
    rw [hp] at hWk
    have hkW := trn_le W
    have hkp : trn W = (dg p).length := by rw [← hp, ← tr_dg hWd]
    have hWl : W.length = U.length - j := by rw [← hW]; simp
    have e101 := h101 W (by omega)
    have eT := hT false W (by omega)
    rw [hkp] at hWk hkW eT
    have e63 := h63 false false p v (by omega) (by omega)
    unfold dvS
    simp only
    rw [hW, hp]
    have hzW : (zl U).drop j = zl W := by rw [zl_drop, hW]
    have hWt : (zl W).take (U.length - j) = zl W := by rw [← hWl, ← zl_len, List.take_length]
    have hmin : min (j : Int) (U.length : Int) = (j : Int) := by omega
    by_cases hlt : p < v
    · rw [if_pos hlt]
      have hc : cmpN p v < 0 := cmpN_lt.2 hlt
      generalize cmpN p v = cm at *
      generalize dg p = lp at *
      generalize dg v = lv at *
      have hkW' : lp.length ≤ (zl W).length := by rw [zl_len]; exact hkW
      have hjU' : j ≤ (zl U).length := by rw [zl_len]; omega
      simp [hmin, hjU, hjU', Nat.le_of_lt hjU, hzW, hWt, e101, eT, hkW, hkW', hWk, e63, hc, hw]
    · rw [if_neg hlt]
      have hvp : v ≤ p := by omega
      have hc : ¬ cmpN p v < 0 := fun h => hlt (cmpN_lt.1 h)
      obtain ⟨n0, hn0⟩ : ∃ n0, (dg v).length = n0 + 1 := ⟨(dg v).length - 1, by have := dg_len_pos.2 (show v ≠ 0 by omega); omega⟩
      have hgs := guess_spec hn0 hvp hplt
      obtain ⟨T, hT0⟩ : ∃ T, p / BB ^ n0 = T := ⟨_, rfl⟩
      rw [hT0] at hgs
      have hvt : v / BB ^ n0 = nth (dg v) 0 n0 := by
        rw [top_div, drop_nth (by omega), List.drop_of_length_le (by omega)]
        simp [v9]
      have hv0 : 0 < nth (dg v) 0 n0 := by
        have := dg_top (show v ≠ 0 by omega)
        rw [hn0] at this
        exact Nat.pos_of_ne_zero this
      obtain ⟨g, hg⟩ : ∃ g, min (T / nth (dg v) 0 n0) 999999999 = g := ⟨_, rfl⟩
      obtain ⟨q, hq⟩ : ∃ q, p / v = q := ⟨_, rfl⟩
      have hqB : q < 1000000000 := by
        rw [← hq]
        exact (Nat.div_lt_iff_lt_mul hv).2 hplt
      have hqg : q ≤ g := by
        have := guess_ge (p := p) hv (Nat.pow_pos (n := n0) (show 0 < BB by decide)) (by rw [hvt]; exact hv0)
        rw [hvt, hT0, hq] at this
        omega
      have hgB : g < 1000000000 := by omega
      have hdgl : (dg (v * g)).length < 1000000 := by
        have h1 : v * g < BB ^ ((dg v).length + 1) := by
          rw [Nat.pow_succ]
          exact Nat.mul_lt_mul_of_lt_of_le (dg_len_le.1 (Nat.le_refl _)) (Nat.le_of_lt hgB) (by decide)
        have := dg_len_le.2 h1
        omega
      have e66 := h66 false false (dg v) [g] (dig_dg v) (Dig.one hgB) (by simp; omega)
      rw [v9_dg, show v9 [g] = g by simp [v9]] at e66
      have e66' : call 66 [ul false (dg v), .nd (.sl false 1 1) [.v (.int .u32 (g : Int))]] = some (ul false (dg (v * g))) := e66
      rw [hq]
      have hL := loop84_1 call fuel h63 h75 s v p g j (dg p).length q U Q W hWk hkW hv hq hqg hgB hdgl (by omega) fuel hF
      have hvq : v * q ≤ p := by rw [← hq]; exact Nat.mul_div_le p v
      have e75 := h75 false false p (v * q) hvq (by omega)
      have hmod : p - v * q = p % v := by rw [← hq]; have := Nat.div_add_mod p v; omega
      rw [hmod] at e75
      have eQ := zl_set Q j q
      have eU : (zl U).take j = zl (U.take j) := zl_take U j
      have hUj : (U.take j).length = j := by simp; omega
      have eA := ul_app (U.take j) (dg (p % v))
      rw [hUj] at eA
      have hrl : (dg (p % v)).length ≤ (dg v).length := dg_len_mono (Nat.le_of_lt (Nat.mod_lt _ hv))
      have hmost : j + (dg (p % v)).length ≤ most := by unfold most; omega
      have eA := eA hmost
      have hjQ : j < Q.length := by omega
      have hjU' : j ≤ (zl U).length := by rw [zl_len]; omega
      have hkW' : (dg p).length ≤ (zl W).length := by rw [zl_len]; exact hkW
      have w32g := wrap32 (n := g) (by omega)
      have w32q := wrap32 (n := q) (by omega)
      have ev := zl_nth (dg v) n0
      have hvd : nth (dg v) 0 n0 < 1000000000 := dig_nth (dig_dg v) n0
      have w64v := wrap64 (n := nth (dg v) 0 n0) (by omega)
      have wn0 := wrapI (n := n0) (by omega)
      have etop := zl_nth W
      have ew : ∀ i, i < (dg p).length → nth W 0 i = nth (dg p) 0 i := fun i hi => by
        have h1 : W.take (dg p).length = dg p := by rw [← hp, ← tr_dg hWd]; exact (tr_take W).symm
        rw [← h1, nth_take hi]
      rcases hgs with ⟨hl1, hT1⟩ | ⟨hl1, hT1⟩
      · have t1 := etop n0
        rw [ew n0 (by omega), ← hT1] at t1
        have hTb : T < 1000000000 := by rw [hT1]; exact dig_nth (dig_dg p) n0
        have w64T := wrap64 (n := T) (by omega)
        have dT : (T : Int).tdiv ((nth (dg v) 0 n0 : Nat) : Int) = ((T / nth (dg v) 0 n0 : Nat) : Int) := by rw [Int.tdiv_eq_ediv_of_nonneg (by omega)]; omega
        have dT' : (T : Int) / ((nth (dg v) 0 n0 : Nat) : Int) = ((T / nth (dg v) 0 n0 : Nat) : Int) := by omega
        have hG : min ((T / nth (dg v) 0 n0 : Nat) : Int) 999999999 = (g : Int) := by omega
        have hTd : T / nth (dg v) 0 n0 < 1000000000 := Nat.lt_of_le_of_lt (Nat.div_le_self _ _) hTb
        have w64d := wrap64 (n := T / nth (dg v) 0 n0) (by omega)
        have hn0W : n0 < W.length := by omega
        have hv00 : ¬ nth (dg v) 0 n0 = 0 := by omega
        have hv00' : ¬ ((nth (dg v) 0 n0 : Nat) : Int) = 0 := by omega
        rw [hl1] at hL hWk hkW hkW' eT
        clear hval hzero hsm hd hdq hS hplt hvt hg hqg hdgl ew etop hT1 hT0 hTb
        generalize cmpN p v = cm at *
        generalize dg (p % v) = lr at *
        generalize dg (v * g) = lg at *
        generalize dg (v * q) = lq at *
        generalize T / nth (dg v) 0 n0 = td at *
        generalize nth (dg v) 0 n0 = v0 at *
        generalize dg v = lv at *
        generalize dg p = lp at *
        simp [hmin, hjU, hjU', Nat.le_of_lt hjU, hzW, hWt, e101, eT, hkW, hkW', hWk, e63, hc, hl1, hn0, wn0, t1, w64T, ev, w64v, dT, dT', hv00, hv00', w64d, hG, w32g, e66', hn0W]
        rw [hL _ (by simp)]
        simp [hjQ, w32q, eQ, hjU, hjU', Nat.le_of_lt hjU, eU, e75, hmost, eA, hw, hWk, hkW, hkW']
      · have t0 := etop n0
        have t1 := etop (n0 + 1)
        rw [ew n0 (by omega)] at t0
        rw [ew (n0 + 1) (by omega)] at t1
        have b0 : nth (dg p) 0 n0 < 1000000000 := dig_nth (dig_dg p) n0
        have b1 : nth (dg p) 0 (n0 + 1) < 1000000000 := dig_nth (dig_dg p) (n0 + 1)
        have hTb : T < 1000000000000000000 := by
          rw [hT1]
          show nth (dg p) 0 (n0 + 1) * 1000000000 + nth (dg p) 0 n0 < 1000000000000000000
          omega
        have w64a := wrap64 (n := nth (dg p) 0 (n0 + 1)) (by omega)
        have w64b := wrap64 (n := nth (dg p) 0 n0) (by omega)
        have w64m : IntKind.u64.wrap (((nth (dg p) 0 (n0 + 1) : Nat) : Int) * 1000000000) = ((nth (dg p) 0 (n0 + 1) * BB : Nat) : Int) := by
          rw [show ((nth (dg p) 0 (n0 + 1) : Nat) : Int) * 1000000000 = ((nth (dg p) 0 (n0 + 1) * BB : Nat) : Int) by rw [Int.natCast_mul]; rfl]
          exact wrap64 (by show nth (dg p) 0 (n0 + 1) * 1000000000 < _; omega)
        have w64T : IntKind.u64.wrap (((nth (dg p) 0 (n0 + 1) * BB : Nat) : Int) + ((nth (dg p) 0 n0 : Nat) : Int)) = (T : Int) := by
          rw [← Int.natCast_add, ← hT1]
          exact wrap64 (by omega)
        have wn1 := wrap_succ (i := n0) (by omega)
        generalize nth (dg p) 0 (n0 + 1) = d1 at *
        generalize nth (dg p) 0 n0 = d0 at *
        clear b0 b1
        generalize ((d1 * BB : Nat) : Int) = dm at w64m w64T
        have dT : (T : Int).tdiv ((nth (dg v) 0 n0 : Nat) : Int) = ((T / nth (dg v) 0 n0 : Nat) : Int) := by rw [Int.tdiv_eq_ediv_of_nonneg (by omega)]; omega
        have dT' : (T : Int) / ((nth (dg v) 0 n0 : Nat) : Int) = ((T / nth (dg v) 0 n0 : Nat) : Int) := by omega
        have hG : min ((T / nth (dg v) 0 n0 : Nat) : Int) 999999999 = (g : Int) := by omega
        have hTd : T / nth (dg v) 0 n0 < 1000000000000000000 := Nat.lt_of_le_of_lt (Nat.div_le_self _ _) hTb
        have w64d := wrap64 (n := T / nth (dg v) 0 n0) (by omega)
        have hn0W : n0 < W.length := by omega
        have hn1W : n0 + 1 < W.length := by omega
        have hn2W : (n0 : Int) + 2 ≤ (W.length : Int) := by omega
        have tn2 : ((n0 : Int) + 2).toNat = n0 + 2 := by omega
        have wd1 : IntKind.i64.wrap ((n0 : Int) + 2 - 1) = ((n0 + 1 : Nat) : Int) := by rw [wrap_eq (by unfold I64; omega)]; omega
        have wd2 : IntKind.i64.wrap ((n0 : Int) + 2 - 2) = (n0 : Int) := by rw [wrap_eq (by unfold I64; omega)]; omega
        have hv00 : ¬ nth (dg v) 0 n0 = 0 := by omega
        have hv00' : ¬ ((nth (dg v) 0 n0 : Nat) : Int) = 0 := by omega
        rw [hl1] at hL hWk hkW hkW' eT
        clear hval hzero hsm hd hdq hS hplt hvt hg hqg hdgl ew etop hT1 hT0 hTb
        generalize cmpN p v = cm at *
        generalize dg (p % v) = lr at *
        generalize dg (v * g) = lg at *
        generalize dg (v * q) = lq at *
        generalize T / nth (dg v) 0 n0 = td at *
        generalize nth (dg v) 0 n0 = v0 at *
        generalize dg v = lv at *
        generalize dg p = lp at *
        simp [hmin, hjU, hjU', Nat.le_of_lt hjU, hzW, hWt, e101, eT, hkW, hkW', hWk, e63, hc, hl1, hn0, wn0, wn1, t0, t1, w64a, w64b, w64m, w64T, ev, w64v, dT, dT', hv00, hv00', w64d, hG, w32g, e66', hn0W, hn1W, hn2W, tn2, wd1, wd2]
        rw [hL _ (by simp)]
        simp [hjQ, w32q, eQ, hjU, hjU', Nat.le_of_lt hjU, eU, e75, hmost, eA, hw, hWk, hkW, hkW']
  · rw [show (N : Int) - 1 - (N : Int) = -1 by omega]
    generalize dvR (dg A) v N N = S at *
    generalize dg v = lv at *
    simp
end Go.Mx
namespace Go.Mx
set_option linter.unusedVariables false
set_option linter.unusedSimpArgs false
set_option linter.unusedSectionVars false
open Go

def Sho100 (call : Oracle) : Prop := ∀ (x : Bool) (a : List Nat) (d : Nat), Dig a → 0 < d → d < 4294967296 → a.length < 1000000 →
    call 100 [ul x a, .v (.int .u32 (d : Int))] = some (.nd .tu [ul false (dg (v9 a / d)), .v (.int .u32 ((v9 a % d : Nat) : Int))])
theorem dg_one {n : Nat} (h : (dg n).length = 1) : n < BB ∧ n ≠ 0 ∧ dg n = [n] := by
  have h1 := dg_len_le.1 (Nat.le_of_eq h)
  rw [Nat.pow_one] at h1
  have h2 := dg_len_pos.1 (show 0 < (dg n).length by omega)
  have h3 := dg_small h1
  rw [if_neg h2] at h3
  exact ⟨h1, h2, h3⟩
theorem f84 (call : Oracle) (fuel : Nat) (h63 : Cmp63 call) (h75 : Sub75 call) (h66 : Mul66 call) (h101 : Cln101 call) (hT : Trim85 call) (h100 : Sho100 call) (hF : 1000000000 < fuel) (a b : Nat) (hb : 0 < b) (hla : (dg a).length < 100000) (hlb : (dg b).length < 100000) :
    callV call fuel c84 (ul false (dg a)) [ul false (dg b)] = some (.nd .tu [ul (decide (a < b)) (dg (a / b)), ul false (dg (a % b))]) := by
  rw [callV_tab call fuel c84 152 _ _ (by exact Nat.le_of_ble_eq_true rfl) (by exact Nat.le_of_ble_eq_true rfl) rfl]
  have e63 := h63 false false a b (by omega) (by omega)
  by_cases hlt : a < b
  · have hc : cmpN a b < 0 := cmpN_lt.2 hlt
    rw [decide_eq_true hlt, Nat.div_eq_of_lt hlt, Nat.mod_eq_of_lt hlt, dg_zero]
    generalize cmpN a b = cm at *
    generalize dg a = la at *
    generalize dg b = lb at *
    simp [c84, e63, hc]
    rfl
  · have hc : ¬ cmpN a b < 0 := fun h => hlt (cmpN_lt.1 h)
    rw [decide_eq_false hlt]
    by_cases h1 : (dg b).length = 1
    · obtain ⟨hbB, _, hb1⟩ := dg_one h1
      have e100 := h100 false (dg a) b (dig_dg a) hb (by have : b < 1000000000 := hbB; omega) (by omega)
      rw [v9_dg] at e100
      have hmB : a % b < BB := Nat.lt_trans (Nat.mod_lt _ hb) hbB
      have eT := hT false [a % b] (by simp)
      have ht : dg (a % b) = tr [a % b] := by rw [tr_dg (Dig.one hmB)]; simp [v9]
      have htk := tr_take [a % b]
      have htl := trn_le [a % b]
      rw [hb1] at e63 ⊢
      have eT' : call (85 + vwB) [.nd (.sl false 1 1) [.v (.int .u32 ((a % b : Nat) : Int))]] = some (.v (.int .i64 (trn [a % b] : Nat))) := eT
      rw [ht, htk]
      generalize cmpN a b = cm at *
      generalize dg a = la at *
      generalize dg (a / b) = lq at *
      generalize trn [a % b] = k at *
      generalize a % b = r at *
      have hz : nth (zl [b]) 0 0 = (b : Int) := rfl
      have hz2 : T.nd (K.sl false 1 1) [T.v (Value.int .u32 (r : Int))] = ul false [r] := rfl
      have hz3 : zl [r] = [(r : Int)] := rfl
      have hk1 : k ≤ 1 := by simpa using htl
      have hzt := zl_take [r] k
      simp [c84, e63, hc, hz, e100, hz2, eT, hk1, hzt]
    · obtain ⟨n0, hn0⟩ : ∃ n0, (dg b).length = n0 + 2 := ⟨(dg b).length - 2, by have := dg_len_pos.2 (show b ≠ 0 by omega); omega⟩
      obtain ⟨s, hs⟩ : ∃ s, BB / (nth (dg b) 0 (n0 + 1) + 1) = s := ⟨_, rfl⟩
      have htb : nth (dg b) 0 (n0 + 1) < 1000000000 := dig_nth (dig_dg b) _
      have ht0 : nth (dg b) 0 (n0 + 1) ≠ 0 := by
        have := dg_top (show b ≠ 0 by omega)
        rw [hn0] at this
        exact this
      have hs0 : 0 < s := by rw [← hs]; exact Nat.div_pos (by show _ ≤ 1000000000; omega) (by omega)
      have hsB : s < 1000000000 := by
        rw [← hs]
        exact Nat.div_lt_self (by decide) (by omega)
      have e66a := h66 false false (dg a) [s] (dig_dg a) (Dig.one hsB) (by simp; omega)
      have e66b := h66 false false (dg b) [s] (dig_dg b) (Dig.one hsB) (by simp; omega)
      have hv9 : v9 [s] = s := by simp [v9]
      rw [v9_dg, hv9] at e66a e66b
      have hv : 0 < b * s := Nat.mul_pos hb hs0
      have hle : b * s ≤ a * s := Nat.mul_le_mul_right _ (by omega)
      have hl1 : ∀ x, (dg (x * s)).length ≤ (dg x).length + 1 := fun x => by
        refine dg_len_le.2 ?_
        rw [Nat.pow_succ]
        exact Nat.mul_lt_mul_of_lt_of_le (dg_len_le.1 (Nat.le_refl _)) (Nat.le_of_lt hsB) (by decide)
      have hla' := hl1 a
      have hlb' := hl1 b
      obtain ⟨N, hN⟩ : ∃ N, (dg (a * s)).length - (dg (b * s)).length + 1 = N := ⟨_, rfl⟩
      have hL := loop84_0 call fuel h63 h75 h66 h101 hT s (a * s) (b * s) N hv hle hN (by omega) hF
      have hE := dvR_end hv hle
      rw [hN] at hE
      have hUl := dvR_len hv hle hN N (Nat.le_refl _)
      have hQl : (dvR (dg (a * s)) (b * s) N N).2.length = N := by
        have := (dvR_inv hv hle _ (Nat.le_refl _)).lenQ
        rw [hN] at this
        exact this
      obtain ⟨g1, g2, g3, g4⟩ := hE
      have hmod : a * s % (b * s) = a % b * s := Nat.mul_mod_mul_right ..
      have hdiv : a * s / (b * s) = a / b := Nat.mul_div_mul_right _ _ hs0
      rw [hmod] at g2
      rw [hdiv] at g4
      generalize hS : dvR (dg (a * s)) (b * s) N N = S at *
      obtain ⟨U, Q⟩ := S
      simp only at hL g1 g2 g3 g4 hUl hQl
      have hlm := dg_len_mono hle
      have tU := zl_tr g1
      have tQ := zl_tr g3
      rw [g2] at tU
      rw [g4] at tQ
      have lU := trn_le U
      have lQ := trn_le Q
      have eTU := hT false U (by omega)
      have eTQ := hT false Q (by omega)
      have e100 := h100 false (dg (a % b * s)) s (dig_dg _) hs0 (by omega) (by
        have h2 : a % b * s ≤ b * s := Nat.mul_le_mul_right _ (Nat.le_of_lt (Nat.mod_lt _ hb))
        have := dg_len_mono h2
        omega)
      rw [v9_dg, Nat.mul_div_cancel _ hs0, Nat.mul_mod_left] at e100
      have wn1 := wrapI (n := n0 + 1) (by omega)
      have hz := zl_nth (dg b) (n0 + 1)
      have wt : IntKind.u32.wrap (((nth (dg b) 0 (n0 + 1) : Nat) : Int) + 1) = ((nth (dg b) 0 (n0 + 1) + 1 : Nat) : Int) := by
        rw [show ((nth (dg b) 0 (n0 + 1) : Nat) : Int) + 1 = ((nth (dg b) 0 (n0 + 1) + 1 : Nat) : Int) by omega]
        exact wrap32 (by omega)
      have ws := wrap32 (n := s) (by omega)
      have dsI : (1000000000 : Int) / ((nth (dg b) 0 (n0 + 1) + 1 : Nat) : Int) = (s : Int) := by
        rw [← hs]
        show ((1000000000 : Nat) : Int) / ((nth (dg b) 0 (n0 + 1) + 1 : Nat) : Int) = _
        rw [← Int.natCast_ediv]
      have hz2 : T.nd (K.sl false 1 1) [T.v (Value.int .u32 (s : Int))] = ul false [s] := rfl
      have hzs : nth (zl [s]) 0 0 = (s : Int) := rfl
      have wd1 : IntKind.i64.wrap ((n0 : Int) + 2 - 1) = ((n0 + 1 : Nat) : Int) := by rw [wrap_eq (by unfold I64; omega)]; omega
      have wN : IntKind.i64.wrap (((dg (a * s)).length : Int) - ((dg (b * s)).length : Int)) = (N : Int) - 1 := by rw [wrap_eq (by unfold I64; omega)]; omega
      have wN1 : IntKind.i64.wrap ((N : Int) - 1 + 1) = (N : Int) := by rw [wrap_eq (by unfold I64; omega)]; omega
      have wN2 : IntKind.i64.wrap (N : Int) = (N : Int) := wrapI (by omega)
      have hmN : N ≤ most := by unfold most; omega
      have hzr : zl (List.replicate N 0) = List.replicate N 0 := by simp [zl]
      have hzr' : ul false (List.replicate N 0) = gsl (eI .u32) false (List.replicate N 0) := by rw [ul, hzr]
      rw [hzr'] at hL
      have hn1 : n0 + 1 < n0 + 2 := by omega
      have t1n : ¬ ((nth (dg b) 0 (n0 + 1) + 1 : Nat) : Int) = 0 := by omega
      have dsT : (1000000000 : Int).tdiv ((nth (dg b) 0 (n0 + 1) + 1 : Nat) : Int) = (s : Int) := by rw [Int.tdiv_eq_ediv_of_nonneg (by omega)]; exact dsI
      have lU' : trn U ≤ (zl U).length := by rw [zl_len]; exact lU
      have lQ' : trn Q ≤ (zl Q).length := by rw [zl_len]; exact lQ
      have hne1 : ¬ ((n0 : Int) + 2 = 1) := by omega
      have hne2 : (((n0 : Int) + 2) == 1) = false := by simpa using hne1
      clear hl1 hla' hlb' hle hv hlm g1 g2 g3 g4 hS hmod hdiv htb ht0 hs
      generalize cmpN a b = cm at *
      generalize ((nth (dg b) 0 (n0 + 1) + 1 : Nat) : Int) = t2 at *
      generalize nth (dg b) 0 (n0 + 1) = t1 at *
      generalize dg (a * s) = A1 at *
      generalize dg (b * s) = B1 at *
      generalize dg (a % b * s) = A2 at *
      generalize dg (a % b) = lm at *
      generalize dg (a / b) = lq at *
      generalize dg a = la at *
      generalize dg b = lb at *
      generalize trn U = kU at *
      generalize trn Q = kQ at *
      simp [c84, e63, hc, hn0, hne1, hne2, wd1, wn1, hz, wt, dsI, dsT, t1n, ws, hz2, e66a, e66b, wN, wN1, wN2, hmN]
      rw [hL _ (by simp)]
      simp [eTU, lU, lU', tU, hzs, e100, eTQ, lQ, lQ', tQ]
end Go.Mx
namespace Go.Mx
set_option linter.unusedVariables false
set_option linter.unusedSimpArgs false
set_option linter.unusedSectionVars false
open Go

theorem dg_mul_len {a b k m : Nat} (ha : (dg a).length ≤ k) (hb : (dg b).length ≤ m) : (dg (a * b)).length ≤ k + m := by
  rw [dg_len_le, Nat.pow_add]
  have h1 := dg_len_le.1 ha
  have h2 := dg_len_le.1 hb
  exact Nat.mul_lt_mul_of_lt_of_lt h1 h2
theorem dg_add_len {a b k : Nat} (ha : (dg a).length ≤ k) (hb : (dg b).length ≤ k) : (dg (a + b)).length ≤ k + 1 := by
  rw [dg_len_le, Nat.pow_succ]
  have h1 := dg_len_le.1 ha
  have h2 := dg_len_le.1 hb
  unfold BB at *
  omega

@[simp] theorem aggR_u (e : En Int) (b : Bool) (l : List Int) : aggR [gsl e b l] 0 1 = some (.ro (.nd .ag [gsl e b l])) := by
  rfl
@[simp] theorem aggV_u (e : En Int) (b : Bool) (l : List Int) (r : Nat) (p : List Nat) : aggV r p [gsl e b l] 0 1 = some (.vn .ag [.ref r (p ++ [0])]) := by
  rfl
@[simp] theorem aggV_n (b : Bool) (es n : Nat) (l : List D) (r : Nat) (p : List Nat) : aggV r p [.nd (.sl b es n) l] 0 1 = some (.vn .ag [.ref r (p ++ [0])]) := by
  rfl
@[simp] theorem ndO_g (e : En Int) (b : Bool) (l : List Int) : ndO (gsl e b l) = some () := rfl
theorem f65 (call : Oracle) (fuel : Nat) (hT : Trim85 call) (b : Bool) {l : List Nat} (hd : Dig l) (hb : b = true → l = []) (hlen : l.length < 4611686018427387904) : callV call fuel c65 (ul b l) [] = some (nz (v9 l)) := by
  rw [callV_tab call fuel c65 3 _ _ (by exact Nat.le_of_ble_eq_true rfl) (by exact Nat.le_of_ble_eq_true rfl) rfl]
  have eT := hT b l hlen
  have hk := zl_tr hd
  have hl := trn_le l
  have hl' : trn l ≤ (zl l).length := by rw [zl_len]; exact hl
  have hn : (dg (v9 l)).length = trn l := by rw [← tr_dg hd]
  show _ = some (T.nd .ag [ul (v9 l == 0) (dg (v9 l))])
  by_cases h0 : v9 l = 0
  · rw [h0] at hk hn ⊢
    have hk0 : trn l = 0 := by rw [← hn]; rfl
    rw [hk0] at eT
    cases b with
    | true =>
      have := hb rfl
      subst this
      simp [c65, eT]
      rfl
    | false =>
      generalize hLL : (zl l) = L at *
      simp [c65, eT]
      rfl
  · have hb' : b = false := by
      cases b with
      | false => rfl
      | true => rw [hb rfl] at h0; exact absurd rfl h0
    subst hb'
    have hkp : trn l ≠ 0 := by
      rw [← hn]
      have := dg_len_pos.2 h0
      omega
    have e0 : (v9 l == 0) = false := by simpa using h0
    rw [e0]
    generalize dg (v9 l) = r at *
    generalize trn l = k at *
    have hrn : ¬ r = [] := by
      rintro rfl
      exact hkp hn.symm
    simp [c65, eT, hl, hl', hk, hkp, hrn]
def Mad65 (call : Oracle) : Prop := ∀ (b : Bool) (l : List Nat), Dig l → (b = true → l = []) → l.length < 4611686018427387904 → call (65 + mvB) [ul b l] = some (nz (v9 l))
def Lim64 (call : Oracle) : Prop := ∀ n : Nat, (dg n).length < 1000000 → call 64 [nz n] = some (ul false (dg n))
theorem f60 (call : Oracle) (fuel : Nat) (h65 : Mad65 call) (n : Nat) (hn : n < 18446744073709551616) : callF call fuel c60 [.v (.int .u64 n)] = some (nz n) := by
  rw [callF_tab call fuel c60 3 _ (by exact Nat.le_of_ble_eq_true rfl) (by exact Nat.le_of_ble_eq_true rfl)]
  obtain ⟨a, ha⟩ : ∃ a, n % 1000000000 = a := ⟨_, rfl⟩
  obtain ⟨b, hb⟩ : ∃ b, n / 1000000000 = b := ⟨_, rfl⟩
  obtain ⟨c, hc⟩ : ∃ c, b % 1000000000 = c := ⟨_, rfl⟩
  obtain ⟨d, hd⟩ : ∃ d, b / 1000000000 = d := ⟨_, rfl⟩
  have hdig : Dig [a, c, d] := by
    intro x hx
    show x < 1000000000
    simp at hx
    omega
  have e := h65 false [a, c, d] hdig (by simp) (by simp)
  have hv : v9 [a, c, d] = n := by
    simp only [v9]
    show a + 1000000000 * (c + 1000000000 * (d + 1000000000 * 0)) = n
    omega
  rw [hv] at e
  have e' : call (65 + mvB) [.nd (.sl false 1 3) [.v (.int .u32 (a : Int)), .v (.int .u32 (c : Int)), .v (.int .u32 (d : Int))]] = some (.nd .ag [ul (n == 0) (dg n)]) := e
  have m1 : (n : Int).tmod 1000000000 = (a : Int) := by rw [tmod_nat, ha]
  have m2 : (n : Int) / 1000000000 = (b : Int) := by rw [div_nat, hb]
  have m3 : (b : Int).tmod 1000000000 = (c : Int) := by rw [tmod_nat, hc]
  have m4 : (b : Int) / 1000000000 = (d : Int) := by rw [div_nat, hd]
  have w1 := wrap32 (n := a) (by omega)
  have w2 := wrap32 (n := c) (by omega)
  have w3 := wrap32 (n := d) (by omega)
  have w4 := wrap64 (n := a) (by omega)
  have w5 := wrap64 (n := b) (by omega)
  have w6 := wrap64 (n := c) (by omega)
  have w7 := wrap64 (n := d) (by omega)
  show _ = some (T.nd .ag [ul (n == 0) (dg n)])
  generalize (n == 0) = z at *
  generalize dg n = r at *
  simp [c60, m1, m2, m3, m4, w1, w2, w3, w4, w5, w6, w7, e']
theorem f34 (call : Oracle) (fuel : Nat) (h64 : Lim64 call) (h63 : Cmp63 call) (a b : Nat) (ha : (dg a).length < 1000000) (hb : (dg b).length < 1000000) : callB call fuel c34 [nz a, nz b] = some (.v (.int .i64 (cmpN a b))) := by
  have e1 := h64 a ha
  have e2 := h64 b hb
  have e3 := h63 false false a b ha hb
  have e1' : call 64 [.nd .ag [ul (a == 0) (dg a)]] = some (ul false (dg a)) := e1
  have e2' : call 64 [.nd .ag [ul (b == 0) (dg b)]] = some (ul false (dg b)) := e2
  show callB call fuel c34 [.nd .ag [ul (a == 0) (dg a)], .nd .ag [ul (b == 0) (dg b)]] = _
  rw [callB_tab call fuel c34 K34 _ rfl (by exact Nat.le_of_ble_eq_true rfl) (by exact Nat.le_of_ble_eq_true rfl)]
  generalize (a == 0) = x at *
  generalize (b == 0) = y at *
  generalize cmpN a b = cm at *
  generalize dg a = la at *
  generalize dg b = lb at *
  simp [c34, K34, e1', e2', e3]
theorem f35 (call : Oracle) (fuel : Nat) (h64 : Lim64 call) (h66 : Mul66 call) (h65 : Mad65 call) (a b : Nat) (ha : (dg a).length < 400000) (hb : (dg b).length < 400000) : callB call fuel c35 [nz a, nz b] = some (nz (a * b)) := by
  have e1 := h64 a (by omega)
  have e2 := h64 b (by omega)
  have e3 := h66 false false (dg a) (dg b) (dig_dg a) (dig_dg b) (by omega)
  have e4 := h65 false (dg (a * b)) (dig_dg _) (by simp) (by have := dg_mul_len (Nat.le_of_lt ha) (Nat.le_of_lt hb); omega)
  rw [v9_dg, v9_dg] at e3
  rw [v9_dg] at e4
  have e1' : call 64 [.nd .ag [ul (a == 0) (dg a)]] = some (ul false (dg a)) := e1
  have e2' : call 64 [.nd .ag [ul (b == 0) (dg b)]] = some (ul false (dg b)) := e2
  have e4' : call (65 + mvB) [ul false (dg (a * b))] = some (.nd .ag [ul (a * b == 0) (dg (a * b))]) := e4
  show callB call fuel c35 [.nd .ag [ul (a == 0) (dg a)], .nd .ag [ul (b == 0) (dg b)]] = some (.nd .ag [ul (a * b == 0) (dg (a * b))])
  rw [callB_tab call fuel c35 5 _ rfl (by exact Nat.le_of_ble_eq_true rfl) (by exact Nat.le_of_ble_eq_true rfl)]
  generalize (a * b == 0) = z at *
  generalize (a == 0) = x at *
  generalize (b == 0) = y at *
  generalize dg (a * b) = lr at *
  generalize dg a = la at *
  generalize dg b = lb at *
  simp [c35, e1', e2', e3, e4']
def Dvd84 (call : Oracle) : Prop := ∀ a b : Nat, 0 < b → (dg a).length < 100000 → (dg b).length < 100000 → call (84 + mvB) [ul false (dg a), ul false (dg b)] = some (.nd .tu [ul (decide (a < b)) (dg (a / b)), ul false (dg (a % b))])
def Add74 (call : Oracle) : Prop := ∀ a b : Nat, (dg a).length < 1000000 → (dg b).length < 1000000 → call 74 [ul false (dg a), ul false (dg b)] = some (ul false (dg (a + b)))
theorem f53 (call : Oracle) (fuel : Nat) (h64 : Lim64 call) (h74 : Add74 call) (h65 : Mad65 call) (a b : Nat) (ha : (dg a).length < 400000) (hb : (dg b).length < 400000) : callB call fuel c53 [nz a, nz b] = some (nz (a + b)) := by
  have e1 := h64 a (by omega)
  have e2 := h64 b (by omega)
  have e3 := h74 a b (by omega) (by omega)
  have e4 := h65 false (dg (a + b)) (dig_dg _) (by simp) (by have := dg_add_len (Nat.le_of_lt ha) (Nat.le_of_lt hb); omega)
  rw [v9_dg] at e4
  have e1' : call 64 [.nd .ag [ul (a == 0) (dg a)]] = some (ul false (dg a)) := e1
  have e2' : call 64 [.nd .ag [ul (b == 0) (dg b)]] = some (ul false (dg b)) := e2
  have e4' : call (65 + mvB) [ul false (dg (a + b))] = some (.nd .ag [ul (a + b == 0) (dg (a + b))]) := e4
  show callB call fuel c53 [.nd .ag [ul (a == 0) (dg a)], .nd .ag [ul (b == 0) (dg b)]] = some (T.nd .ag [ul (a + b == 0) (dg (a + b))])
  rw [callB_tab call fuel c53 K53 _ rfl (by exact Nat.le_of_ble_eq_true rfl) (by exact Nat.le_of_ble_eq_true rfl)]
  generalize (a + b == 0) = z at *
  generalize (a == 0) = x at *
  generalize (b == 0) = y at *
  generalize dg (a + b) = lr at *
  generalize dg a = la at *
  generalize dg b = lb at *
  simp [c53, K53, e1', e2', e3, e4']
/-- The natural that an error comes with. -/
abbrev nz0 : D := .nd .ag [ul true []]
theorem f54 (call : Oracle) (fuel : Nat) (h64 : Lim64 call) (h63 : Cmp63 call) (h75 : Sub75 call) (h65 : Mad65 call) (a b : Nat) (ha : (dg a).length < 400000) (hb : (dg b).length < 400000) :
    callB call fuel c54 [nz a, nz b] = some (if a < b then .nd .tu [nz0, .v (.int .i64 2)] else .nd .tu [nz (a - b), .v (.int .i64 0)]) := by
  have e1 := h64 a (by omega)
  have e2 := h64 b (by omega)
  have e3 := h63 false false a b (by omega) (by omega)
  have e1' : call 64 [.nd .ag [ul (a == 0) (dg a)]] = some (ul false (dg a)) := e1
  have e2' : call 64 [.nd .ag [ul (b == 0) (dg b)]] = some (ul false (dg b)) := e2
  show callB call fuel c54 [.nd .ag [ul (a == 0) (dg a)], .nd .ag [ul (b == 0) (dg b)]] = some (if a < b then T.nd .tu [nz0, .v (.int .i64 2)] else T.nd .tu [.nd .ag [ul (a - b == 0) (dg (a - b))], .v (.int .i64 0)])
  rw [callB_tab call fuel c54 8 _ rfl (by exact Nat.le_of_ble_eq_true rfl) (by exact Nat.le_of_ble_eq_true rfl)]
  by_cases hlt : a < b
  · rw [if_pos hlt]
    have hc : cmpN a b < 0 := cmpN_lt.2 hlt
    generalize (a == 0) = x at *
    generalize (b == 0) = y at *
    generalize cmpN a b = cm at *
    generalize dg a = la at *
    generalize dg b = lb at *
    simp [c54, e1', e2', e3, hc]
    rfl
  · rw [if_neg hlt]
    have hc : ¬ cmpN a b < 0 := fun h => hlt (cmpN_lt.1 h)
    have e5 := h75 false false a b (by omega) (by omega)
    have e4 := h65 false (dg (a - b)) (dig_dg _) (by simp) (by have := dg_len_mono (Nat.sub_le a b); omega)
    rw [v9_dg] at e4
    have e4' : call (65 + mvB) [ul false (dg (a - b))] = some (.nd .ag [ul (a - b == 0) (dg (a - b))]) := e4
    generalize (a - b == 0) = z at *
    generalize (a == 0) = x at *
    generalize (b == 0) = y at *
    generalize cmpN a b = cm at *
    generalize dg (a - b) = lr at *
    generalize dg a = la at *
    generalize dg b = lb at *
    simp [c54, e1', e2', e3, hc, e5, e4']
theorem f62 (call : Oracle) (fuel : Nat) (h64 : Lim64 call) (h84 : Dvd84 call) (h65 : Mad65 call) (a b : Nat) (h0 : 0 < b) (ha : (dg a).length < 100000) (hb : (dg b).length < 100000) :
    callB call fuel c62 [nz a, nz b] = some (.nd .tu [nz (a / b), nz (a % b), .v (.int .i64 0)]) := by
  have e1 := h64 a (by omega)
  have e2 := h64 b (by omega)
  have e3 := h84 a b h0 ha hb
  have e4 := h65 (decide (a < b)) (dg (a / b)) (dig_dg _) (fun h => by rw [Nat.div_eq_of_lt (of_decide_eq_true h), dg_zero]) (by have := dg_len_mono (Nat.div_le_self a b); omega)
  have e5 := h65 false (dg (a % b)) (dig_dg _) (by simp) (by have := dg_len_mono (Nat.mod_le a b); omega)
  rw [v9_dg] at e4 e5
  have hlb := dg_len_pos.2 (show b ≠ 0 by omega)
  have e1' : call 64 [.nd .ag [ul (a == 0) (dg a)]] = some (ul false (dg a)) := e1
  have e2' : call 64 [.nd .ag [ul (b == 0) (dg b)]] = some (ul false (dg b)) := e2
  have e4' : call (65 + mvB) [ul (decide (a < b)) (dg (a / b))] = some (.nd .ag [ul (a / b == 0) (dg (a / b))]) := e4
  have e5' : call (65 + mvB) [ul false (dg (a % b))] = some (.nd .ag [ul (a % b == 0) (dg (a % b))]) := e5
  show callB call fuel c62 [.nd .ag [ul (a == 0) (dg a)], .nd .ag [ul (b == 0) (dg b)]] = some (T.nd .tu [.nd .ag [ul (a / b == 0) (dg (a / b))], .nd .ag [ul (a % b == 0) (dg (a % b))], .v (.int .i64 0)])
  rw [callB_tab call fuel c62 18 _ rfl (by exact Nat.le_of_ble_eq_true rfl) (by exact Nat.le_of_ble_eq_true rfl)]
  have hbn : ¬ dg b = [] := by
    intro h
    rw [h] at hlb
    simp at hlb
  generalize (a / b == 0) = z1 at *
  generalize (a % b == 0) = z2 at *
  generalize (a == 0) = x at *
  generalize (b == 0) = y at *
  generalize decide (a < b) = t at *
  generalize dg (a / b) = lq at *
  generalize dg (a % b) = lr at *
  generalize dg a = la at *
  generalize dg b = lb at *
  have hl0 : ¬ lb.length = 0 := by omega
  simp [c62, e1', e2', hbn, hl0, e3, e4', e5']
end Go.Mx
namespace Go.Mx
set_option linter.unusedVariables false
set_option linter.unusedSimpArgs false
set_option linter.unusedSectionVars false
open Go

abbrev bxN : V := .own (.nd (.bx false) [.nd (.sl true 1 0) []])
def gcE (t : Bool) (y : Nat) : V := if t && y == 0 then un0 else .ref 6 []
def gcF (t : Bool) (y : Nat) : V := if t && y == 0 then un0 else .dead
def gcI : Nat × Nat × Bool → St
  | (x, y, true) => L61_0 bxN (.own (ul false (dg x))) (.own (ul false (dg y))) un0 un0 un0
  | (x, y, false) => L61_0 bxN (.own (ul false (dg x))) (.own (ul false (dg y))) (.ref 6 []) .dead .dead
def gcR (q : Nat × Nat × Bool) : Ex × St := (.ex 0, X61_0 bxN (.own (ul false (dg (Nat.gcd q.1 q.2.1)))) (.own (ul false [])) (gcE q.2.2 q.2.1) (gcF q.2.2 q.2.1) (gcF q.2.2 q.2.1))
theorem loop61_0 (call : Oracle) (fuel : Nat) (h84 : Dvd84 call) (fu : Nat) (x y : Nat) (hx : (dg x).length < 100000) (hy : (dg y).length < 100000) (hF : y < fu) (st : St) (h0 : drops st h61_0 = gcI (x, y, true)) :
    run.loopN (run call fuel b61_0) fu st = some (gcR (x, y, true)) := by
  refine loop_iter call fuel h61_0 _ (fun q => (dg q.1).length < 100000 ∧ (dg q.2.1).length < 100000) gcI (fun q => q.2.1) (fun q => if q.2.1 = 0 then .inr (gcR q) else .inl (q.2.1, q.1 % q.2.1, false)) gcR ?_ ?_ ?_ fu (x, y, true) st ⟨hx, hy⟩ h0 hF
  · rintro ⟨x, y, t⟩ ⟨hx, hy⟩
    simp only at hx hy ⊢
    by_cases h : y = 0
    · subst h
      rw [if_pos rfl]
      have e : gcR (x, 0, t) = (.ex 0, X61_0 bxN (.own (ul false (dg x))) (.own (ul false [])) (gcE t 0) (gcF t 0) (gcF t 0)) := by simp [gcR]
      rw [e]
      clear e
      cases t
      · simp only [gcI, gcE, gcF, dg_zero]
        generalize dg x = l at *
        simp
      · simp only [gcI, gcE, gcF, dg_zero]
        generalize dg x = l at *
        simp
    · rw [if_neg h]
      have e3 := h84 x y (by omega) hx hy
      have hl := dg_len_pos.2 h
      have hlI : (0 : Int) < ((dg y).length : Int) := by omega
      show _ = some (Ex.norm, gcI (y, x % y, false))
      cases t
      · simp only [gcI]
        generalize decide (x < y) = z at *
        generalize dg (x / y) = lq at *
        generalize dg (x % y) = lr at *
        generalize dg x = lx at *
        generalize dg y = ly at *
        simp [hl, hlI, e3]
      · simp only [gcI]
        generalize decide (x < y) = z at *
        generalize dg (x / y) = lq at *
        generalize dg (x % y) = lr at *
        generalize dg x = lx at *
        generalize dg y = ly at *
        simp [hl, hlI, e3]
  · rintro ⟨x, y, t⟩ a' ⟨hx, hy⟩ hst
    simp only at hx hy hst
    split at hst
    · cases hst
    · rename_i h
      simp only [Sum.inl.injEq] at hst
      subst hst
      have hm : x % y < y := Nat.mod_lt _ (by omega)
      refine ⟨⟨hy, Nat.lt_of_le_of_lt (dg_len_mono (Nat.le_of_lt hm)) hy⟩, hm, ?_⟩
      have hg : Nat.gcd y (x % y) = Nat.gcd x y := by rw [Nat.gcd_comm, ← Nat.gcd_rec, Nat.gcd_comm]
      simp [gcR, gcE, gcF, hg, h]
  · rintro ⟨x, y, t⟩ r ⟨hx, hy⟩ hst
    simp only at hst
    split at hst
    · simp only [Sum.inr.injEq] at hst
      subst hst
      exact ⟨rfl, by intro h; cases h⟩
    · cases hst
theorem gcd_len {a b : Nat} (ha : (dg a).length < 100000) (hb : (dg b).length < 100000) : (dg (Nat.gcd a b)).length < 4611686018427387904 := by
  by_cases h : a = 0
  · subst h; rw [Nat.gcd_zero_left]; omega
  · have := dg_len_mono (Nat.gcd_le_left b (by omega : 0 < a)); omega
theorem f61 (call : Oracle) (fuel : Nat) (h64 : Lim64 call) (h84 : Dvd84 call) (h65 : Mad65 call) (a b : Nat) (ha : (dg a).length < 100000) (hb : (dg b).length < 100000) (hF : b < fuel) :
    callB call fuel c61 [nz a, nz b] = some (nz (Nat.gcd a b)) := by
  have e1 := h64 a (by omega)
  have e2 := h64 b (by omega)
  have hL := loop61_0 call fuel h84 fuel a b ha hb hF
  have e4 := h65 false (dg (Nat.gcd a b)) (dig_dg _) (by simp) (gcd_len ha hb)
  rw [v9_dg] at e4
  have e1' : call 64 [.nd .ag [ul (a == 0) (dg a)]] = some (ul false (dg a)) := e1
  have e2' : call 64 [.nd .ag [ul (b == 0) (dg b)]] = some (ul false (dg b)) := e2
  have e4' : call (65 + mvB) [ul false (dg (Nat.gcd a b))] = some (.nd .ag [ul (Nat.gcd a b == 0) (dg (Nat.gcd a b))]) := e4
  show callB call fuel c61 [.nd .ag [ul (a == 0) (dg a)], .nd .ag [ul (b == 0) (dg b)]] = some (T.nd .ag [ul (Nat.gcd a b == 0) (dg (Nat.gcd a b))])
  rw [callB_tab call fuel c61 24 _ rfl (by exact Nat.le_of_ble_eq_true rfl) (by exact Nat.le_of_ble_eq_true rfl)]
  have hL : ∀ st : St, drops st h61_0 = L61_0 bxN (.own (ul false (dg a))) (.own (ul false (dg b))) un0 un0 un0 → run.loopN (run call fuel b61_0) fuel st = some (.ex 0, X61_0 bxN (.own (ul false (dg (Nat.gcd a b)))) (.own (ul false [])) (if b == 0 then un0 else .ref 6 []) (if b == 0 then un0 else .dead) (if b == 0 then un0 else .dead)) := by
    intro st h
    have := hL st h
    rw [this]
    simp [gcR, gcE, gcF]
  generalize (Nat.gcd a b == 0) = z at *
  generalize (a == 0) = x at *
  generalize (b == 0) = y at *
  generalize dg (Nat.gcd a b) = lr at *
  generalize dg a = la at *
  generalize dg b = lb at *
  cases y
  · simp [c61, e1', e2']
    rw [hL _ (by simp)]
    simp [e4']
  · simp [c61, e1', e2']
    rw [hL _ (by simp)]
    simp [e4']
end Go.Mx
namespace Go.Mx
set_option linter.unusedVariables false
set_option linter.unusedSimpArgs false
set_option linter.unusedSectionVars false
open Go

/-- A fraction in memory. -/
abbrev fr (s : Bool) (n d : Nat) : D := .nd .ag [.v (.bool s), ul (n == 0) (dg n), ul (d == 0) (dg d)]
@[simp] theorem aggR_f03 (s : Value) (e : En Int) (b c : Bool) (l m : List Int) : aggR [.v s, gsl e b l, gsl e c m] 0 3 = some (.ro (.nd .ag [.v s, gsl e b l, gsl e c m])) := rfl
@[simp] theorem aggR_f11 (s : Value) (e : En Int) (b c : Bool) (l m : List Int) : aggR [.v s, gsl e b l, gsl e c m] 1 1 = some (.ro (.nd .ag [gsl e b l])) := rfl
@[simp] theorem aggR_f21 (s : Value) (e : En Int) (b c : Bool) (l m : List Int) : aggR [.v s, gsl e b l, gsl e c m] 2 1 = some (.ro (.nd .ag [gsl e c m])) := rfl
@[simp] theorem aggV_f03 (r : Nat) (p : List Nat) (s : Value) (e : En Int) (b c : Bool) (l m : List Int) : aggV r p [.v s, gsl e b l, gsl e c m] 0 3 = some (.vn .ag [.sc s, .ref r (p ++ [1]), .ref r (p ++ [2])]) := rfl
@[simp] theorem aggV_f11 (r : Nat) (p : List Nat) (s : Value) (e : En Int) (b c : Bool) (l m : List Int) : aggV r p [.v s, gsl e b l, gsl e c m] 1 1 = some (.vn .ag [.ref r (p ++ [1])]) := rfl
@[simp] theorem aggV_f21 (r : Nat) (p : List Nat) (s : Value) (e : En Int) (b c : Bool) (l m : List Int) : aggV r p [.v s, gsl e b l, gsl e c m] 2 1 = some (.vn .ag [.ref r (p ++ [2])]) := rfl
@[simp] theorem aggV_n03 (r : Nat) (p : List Nat) (s : Value) (b c : Bool) (es n es' n' : Nat) (l m : List D) : aggV r p [.v s, .nd (.sl b es n) l, .nd (.sl c es' n') m] 0 3 = some (.vn .ag [.sc s, .ref r (p ++ [1]), .ref r (p ++ [2])]) := rfl
@[simp] theorem aggV_m03 (r : Nat) (p : List Nat) (s : Value) (e : En Int) (b c : Bool) (es n : Nat) (l : List D) (m : List Int) : aggV r p [.v s, .nd (.sl b es n) l, gsl e c m] 0 3 = some (.vn .ag [.sc s, .ref r (p ++ [1]), .ref r (p ++ [2])]) := rfl

def Cmp34 (call : Oracle) : Prop := ∀ a b : Nat, (dg a).length < 400000 → (dg b).length < 400000 → call 34 [nz a, nz b] = some (.v (.int .i64 (cmpN a b)))
theorem f36 (call : Oracle) (fuel : Nat) (h34 : Cmp34 call) (a : Nat) (ha : (dg a).length < 400000) : callB call fuel c36 [nz a] = some (.v (.bool (a == 0))) := by
  have e1 := h34 a 0 ha (by show 0 < 400000; decide)
  have e1' : call 34 [.nd .ag [ul (a == 0) (dg a)], .nd .ag [.nd (.sl true 1 0) []]] = some (.v (.int .i64 (cmpN a 0))) := e1
  have hc : cmpN a 0 = if a = 0 then 0 else 1 := by
    unfold cmpN
    split
    · omega
    · split <;> split <;> omega
  show callB call fuel c36 [.nd .ag [ul (a == 0) (dg a)]] = _
  rw [callB_tab call fuel c36 K36 _ rfl (by exact Nat.le_of_ble_eq_true rfl) (by exact Nat.le_of_ble_eq_true rfl)]
  have hz : (a == 0) = (cmpN a 0 == 0) := by
    rw [hc]
    by_cases h : a = 0 <;> simp [h]
  generalize cmpN a 0 = cm at *
  generalize dg a = la at *
  generalize (a == 0) = x at *
  subst hz
  simp [c36, K36, e1']
def Zer36 (call : Oracle) : Prop := ∀ a : Nat, (dg a).length < 400000 → call 36 [nz a] = some (.v (.bool (a == 0)))
def Nof60 (call : Oracle) : Prop := ∀ n : Nat, n < 18446744073709551616 → call 60 [.v (.int .u64 n)] = some (nz n)
theorem f30 (call : Oracle) (fuel : Nat) (h60 : Nof60 call) (v : Int) (h1 : -9223372036854775808 ≤ v) (h2 : v < 9223372036854775808) : callF call fuel c30 [.v (.int .i64 v)] = some (nz v.natAbs) := by
  rw [callF_tab call fuel c30 K30 _ (by exact Nat.le_of_ble_eq_true rfl) (by exact Nat.le_of_ble_eq_true rfl)]
  have e := h60 v.natAbs (by omega)
  have e' : call 60 [.v (.int .u64 (v.natAbs : Int))] = some (.nd .ag [ul (v.natAbs == 0) (dg v.natAbs)]) := e
  show _ = some (T.nd .ag [ul (v.natAbs == 0) (dg v.natAbs)])
  by_cases hv : v < 0
  · have hw : IntKind.u64.wrap (-(IntKind.u64.wrap v)) = (v.natAbs : Int) := by
      simp [IntKind.wrap, IntKind.bits, IntKind.signed]; omega
    generalize (v.natAbs == 0) = z at *
    generalize dg v.natAbs = l at *
    generalize (v.natAbs : Int) = u at *
    simp [c30, K30, hv, hw, e']
  · have hw : IntKind.u64.wrap v = (v.natAbs : Int) := by
      simp [IntKind.wrap, IntKind.bits, IntKind.signed]; omega
    generalize (v.natAbs == 0) = z at *
    generalize dg v.natAbs = l at *
    generalize (v.natAbs : Int) = u at *
    simp [c30, K30, hv, hw, e']
def Gcd61 (call : Oracle) : Prop := ∀ a b : Nat, (dg a).length < 100000 → (dg b).length < 100000 → call 61 [nz a, nz b] = some (nz (Nat.gcd a b))
def Dvm62 (call : Oracle) : Prop := ∀ a b : Nat, 0 < b → (dg a).length < 100000 → (dg b).length < 100000 → call 62 [nz a, nz b] = some (.nd .tu [nz (a / b), nz (a % b), .v (.int .i64 0)])
/-- What made makes. -/
def mdF (s : Bool) (n d : Nat) : D := if n = 0 ∨ d = 0 then fr false 0 1 else fr s (n / Nat.gcd n d) (d / Nat.gcd n d)
set_option maxHeartbeats 4000000 in
theorem f29 (call : Oracle) (fuel : Nat) (h36 : Zer36 call) (h60 : Nof60 call) (h61 : Gcd61 call) (h62 : Dvm62 call) (s : Bool) (n d : Nat) (hn : (dg n).length < 100000) (hd : (dg d).length < 100000) :
    callB call fuel c29 [.v (.bool s), nz n, nz d] = some (mdF s n d) := by
  have e1 := h36 n (by omega)
  have e2 := h36 d (by omega)
  have e3 := h60 1 (by omega)
  have e1' : call 36 [.nd .ag [ul (n == 0) (dg n)]] = some (.v (.bool (n == 0))) := e1
  have e2' : call 36 [.nd .ag [ul (d == 0) (dg d)]] = some (.v (.bool (d == 0))) := e2
  have e3' : call 60 [.v (.int .u64 1)] = some (.nd .ag [ul (1 == 0) (dg 1)]) := e3
  show callB call fuel c29 [.v (.bool s), .nd .ag [ul (n == 0) (dg n)], .nd .ag [ul (d == 0) (dg d)]] = _
  rw [callB_tab call fuel c29 K29 _ rfl (by exact Nat.le_of_ble_eq_true rfl) (by exact Nat.le_of_ble_eq_true rfl)]
  unfold mdF
  by_cases h : n = 0 ∨ d = 0
  · rw [if_pos h]
    show _ = some (T.nd .ag [.v (.bool false), .nd (.sl true 1 0) [], ul (1 == 0) (dg 1)])
    by_cases hn0 : n = 0
    · have : (n == 0) = true := by simpa using hn0
      rw [this] at e1' ⊢
      generalize (d == 0) = y at *
      generalize ((1 : Nat) == 0) = o at *
      generalize dg 1 = l1 at *
      generalize dg n = ln at *
      generalize dg d = ld at *
      simp [c29, K29, e1', e2', e3']
    · have h1 : (n == 0) = false := by simpa using hn0
      have h2 : (d == 0) = true := by simp; omega
      rw [h1] at e1' ⊢
      rw [h2] at e2' ⊢
      generalize ((1 : Nat) == 0) = o at *
      generalize dg 1 = l1 at *
      generalize dg n = ln at *
      generalize dg d = ld at *
      simp [c29, K29, e1', e2', e3']
  · rw [if_neg h]
    have hn0 : n ≠ 0 := fun h' => h (.inl h')
    have hd0 : d ≠ 0 := fun h' => h (.inr h')
    have hg : 0 < Nat.gcd n d := Nat.gcd_pos_of_pos_left _ (by omega)
    have hgl : (dg (Nat.gcd n d)).length < 100000 := Nat.lt_of_le_of_lt (dg_len_mono (Nat.gcd_le_left _ (by omega))) hn
    have e4 := h61 n d hn hd
    have e5 := h62 n _ hg hn hgl
    have e6 := h62 d _ hg hd hgl
    have z1 : (n == 0) = false := by simpa using hn0
    have z2 : (d == 0) = false := by simpa using hd0
    have z3 : (Nat.gcd n d == 0) = false := by simp; omega
    have e4' : call 61 [.nd .ag [ul (n == 0) (dg n)], .nd .ag [ul (d == 0) (dg d)]] = some (.nd .ag [ul (Nat.gcd n d == 0) (dg (Nat.gcd n d))]) := e4
    have e5' : call 62 [.nd .ag [ul (n == 0) (dg n)], .nd .ag [ul (Nat.gcd n d == 0) (dg (Nat.gcd n d))]] = some (.nd .tu [.nd .ag [ul (n / Nat.gcd n d == 0) (dg (n / Nat.gcd n d))], .nd .ag [ul (n % Nat.gcd n d == 0) (dg (n % Nat.gcd n d))], .v (.int .i64 0)]) := e5
    have e6' : call 62 [.nd .ag [ul (d == 0) (dg d)], .nd .ag [ul (Nat.gcd n d == 0) (dg (Nat.gcd n d))]] = some (.nd .tu [.nd .ag [ul (d / Nat.gcd n d == 0) (dg (d / Nat.gcd n d))], .nd .ag [ul (d % Nat.gcd n d == 0) (dg (d % Nat.gcd n d))], .v (.int .i64 0)]) := e6
    show _ = some (T.nd .ag [.v (.bool s), ul (n / Nat.gcd n d == 0) (dg (n / Nat.gcd n d)), ul (d / Nat.gcd n d == 0) (dg (d / Nat.gcd n d))])
    rw [z1] at e1' e4' e5' ⊢
    rw [z2] at e2' e4' e6' ⊢
    rw [z3] at e4' e5' e6'
    generalize (n / Nat.gcd n d == 0) = y1 at *
    generalize (n % Nat.gcd n d == 0) = y2 at *
    generalize (d / Nat.gcd n d == 0) = y3 at *
    generalize (d % Nat.gcd n d == 0) = y4 at *
    generalize dg (n / Nat.gcd n d) = l1 at *
    generalize dg (n % Nat.gcd n d) = l2 at *
    generalize dg (d / Nat.gcd n d) = l3 at *
    generalize dg (d % Nat.gcd n d) = l4 at *
    generalize dg (Nat.gcd n d) = lg at *
    generalize dg n = ln at *
    generalize dg d = ld at *
    simp (config := {maxSteps := 2000000}) [c29, K29, e1', e2', e4', e5', e6']
def Mad29 (call : Oracle) : Prop := ∀ (s : Bool) (n d : Nat), (dg n).length < 100000 → (dg d).length < 100000 → call 29 [.v (.bool s), nz n, nz d] = some (mdF s n d)
theorem f7 (call : Oracle) (fuel : Nat) (h30 : ∀ v : Int, -9223372036854775808 ≤ v → v < 9223372036854775808 → call 30 [.v (.int .i64 v)] = some (nz v.natAbs)) (h29 : Mad29 call) (n d : Int) (h1 : -9223372036854775808 ≤ n) (h2 : n < 9223372036854775808) (h3 : -9223372036854775808 ≤ d) (h4 : d < 9223372036854775808) :
    callF call fuel c7 [.v (.int .i64 n), .v (.int .i64 d)] = some (mdF (!(decide (n < 0) == decide (d < 0))) n.natAbs d.natAbs) := by
  rw [callF_tab call fuel c7 K7 _ (by exact Nat.le_of_ble_eq_true rfl) (by exact Nat.le_of_ble_eq_true rfl)]
  have hs : ∀ m : Nat, m ≤ 9223372036854775808 → (dg m).length < 100000 := by
    intro m hm
    have : (dg m).length ≤ 3 := dg_len_le.2 (by unfold BB; omega)
    omega
  have e1 := h30 n h1 h2
  have e2 := h30 d h3 h4
  have e3 := h29 (!(decide (n < 0) == decide (d < 0))) n.natAbs d.natAbs (hs _ (by omega)) (hs _ (by omega))
  have e1' : call 30 [.v (.int .i64 n)] = some (.nd .ag [ul (n.natAbs == 0) (dg n.natAbs)]) := e1
  have e2' : call 30 [.v (.int .i64 d)] = some (.nd .ag [ul (d.natAbs == 0) (dg d.natAbs)]) := e2
  have e3' : call 29 [.v (.bool (!(decide (n < 0) == decide (d < 0)))), .nd .ag [ul (n.natAbs == 0) (dg n.natAbs)], .nd .ag [ul (d.natAbs == 0) (dg d.natAbs)]] = some (mdF (!(decide (n < 0) == decide (d < 0))) n.natAbs d.natAbs) := e3
  obtain ⟨s, b, l, c, m, hm⟩ : ∃ s b l c m, mdF (!(decide (n < 0) == decide (d < 0))) n.natAbs d.natAbs = .nd .ag [.v (.bool s), ul b l, ul c m] := by
    unfold mdF
    split
    · exact ⟨_, _, _, _, _, rfl⟩
    · exact ⟨_, _, _, _, _, rfl⟩
  rw [hm] at e3' ⊢
  generalize (n.natAbs == 0) = z1 at *
  generalize (d.natAbs == 0) = z2 at *
  generalize dg n.natAbs = l1 at *
  generalize dg d.natAbs = l2 at *
  simp [c7, K7, e1', e2', e3']
end Go.Mx
namespace Go.Mx
set_option linter.unusedVariables false
set_option linter.unusedSimpArgs false
set_option linter.unusedSectionVars false
open Go

def sg (s : Bool) (n : Nat) : Int := if s then -(n : Int) else n
/-- A rational number in memory. -/
abbrev frD (q : Rat) : D := fr (decide (q.num < 0)) q.num.natAbs q.den
theorem sg_natAbs (s : Bool) (n : Nat) : (sg s n).natAbs = n := by cases s <;> simp [sg]
theorem sg_self (q : Rat) : sg (decide (q.num < 0)) q.num.natAbs = q.num := by
  unfold sg
  split
  · rename_i h; have := of_decide_eq_true h; omega
  · rename_i h; have : ¬ q.num < 0 := fun h' => h (decide_eq_true h'); omega
theorem mkRat_sg (q : Rat) : mkRat (sg (decide (q.num < 0)) q.num.natAbs) q.den = q := by rw [sg_self, Rat.mkRat_self]
theorem sg_div (s : Bool) {n g : Nat} (h : g ∣ n) : sg s n / (g : Int) = sg s (n / g) := by
  cases s
  · simp [sg]
  · simp only [sg, if_true]
    rw [Int.neg_ediv_of_dvd (by exact Int.natCast_dvd_natCast.2 h)]
    simp
theorem sg_neg (s : Bool) {n : Nat} (h : 0 < n) : decide (sg s n < 0) = s := by
  cases s <;> simp [sg] <;> omega
theorem mdF_eq (s : Bool) (n d : Nat) : mdF s n d = frD (mkRat (sg s n) d) := by
  unfold mdF
  by_cases h : n = 0 ∨ d = 0
  · rw [if_pos h]
    have : mkRat (sg s n) d = 0 := by
      rcases h with h | h
      · subst h
        cases s <;> simp [sg, Rat.zero_mkRat]
      · subst h; exact Rat.mkRat_zero _
    rw [this]
    rfl
  · rw [if_neg h]
    have hd : ¬ d = 0 := fun h' => h (.inr h')
    have hn : 0 < n := by omega
    have e1 : (mkRat (sg s n) d).num = sg s (n / Nat.gcd n d) := by
      rw [Rat.num_mkRat, if_neg hd, sg_natAbs, Nat.gcd_comm, sg_div s (Nat.gcd_dvd_left n d)]
    have e2 : (mkRat (sg s n) d).den = d / Nat.gcd n d := by
      rw [Rat.den_mkRat, if_neg hd, sg_natAbs, Nat.gcd_comm]
    have hp : 0 < n / Nat.gcd n d := Nat.div_pos (Nat.gcd_le_left _ hn) (Nat.gcd_pos_of_pos_left _ hn)
    show _ = fr (decide ((mkRat (sg s n) d).num < 0)) (mkRat (sg s n) d).num.natAbs (mkRat (sg s n) d).den
    rw [e1, e2, sg_natAbs, sg_neg s hp]
/-- A number is not long. -/
def SZ (k : Nat) (q : Rat) : Prop := (dg q.num.natAbs).length ≤ k ∧ (dg q.den).length ≤ k
theorem SZ.mono {k m : Nat} {q : Rat} (h : SZ k q) (hk : k ≤ m) : SZ m q := ⟨Nat.le_trans h.1 hk, Nat.le_trans h.2 hk⟩
theorem SZ.mk {n : Int} {d k : Nat} (hk : 0 < k) (hn : (dg n.natAbs).length ≤ k) (hd : (dg d).length ≤ k) : SZ k (mkRat n d) := by
  constructor
  · rw [Rat.num_mkRat]
    split
    · show 0 ≤ k; omega
    · refine Nat.le_trans (dg_len_mono ?_) hn
      exact Int.natAbs_ediv_le_natAbs _ _
  · rw [Rat.den_mkRat]
    split
    · show 1 ≤ k; omega
    · exact Nat.le_trans (dg_len_mono (Nat.div_le_self _ _)) hd
def Made29 (call : Oracle) : Prop := ∀ (s : Bool) (n d : Nat), (dg n).length < 100000 → (dg d).length < 100000 → call 29 [.v (.bool s), nz n, nz d] = some (frD (mkRat (sg s n) d))
theorem Made29.of {call : Oracle} (h : Mad29 call) : Made29 call := by
  intro s n d h1 h2
  rw [h s n d h1 h2, mdF_eq]
theorem f52 (call : Oracle) (fuel : Nat) (h29 : Made29 call) (s : Bool) (n d : Nat) (hn : (dg n).length < 100000) (hd : (dg d).length < 100000) :
    callB call fuel c52 [fr s n d] = some (frD (mkRat (sg s n) d)) := by
  have e := h29 s n d hn hd
  generalize mkRat (sg s n) d = q at *
  have e' : call 29 [.v (.bool s), .nd .ag [ul (n == 0) (dg n)], .nd .ag [ul (d == 0) (dg d)]] = some (.nd .ag [.v (.bool (decide (q.num < 0))), ul (q.num.natAbs == 0) (dg q.num.natAbs), ul (q.den == 0) (dg q.den)]) := e
  show callB call fuel c52 [.nd .ag [.v (.bool s), ul (n == 0) (dg n), ul (d == 0) (dg d)]] = some (.nd .ag [.v (.bool (decide (q.num < 0))), ul (q.num.natAbs == 0) (dg q.num.natAbs), ul (q.den == 0) (dg q.den)])
  rw [callB_tab call fuel c52 K52 _ rfl (by exact Nat.le_of_ble_eq_true rfl) (by exact Nat.le_of_ble_eq_true rfl)]
  generalize (n == 0) = z1 at *
  generalize (d == 0) = z2 at *
  generalize (q.num.natAbs == 0) = z3 at *
  generalize (q.den == 0) = z4 at *
  generalize decide (q.num < 0) = z5 at *
  generalize dg n = l1 at *
  generalize dg d = l2 at *
  generalize dg q.num.natAbs = l3 at *
  generalize dg q.den = l4 at *
  simp [c52, K52, e']
theorem f58 (call : Oracle) (fuel : Nat) (h29 : Made29 call) (s : Bool) (n d : Nat) (hn : (dg n).length < 100000) (hd : (dg d).length < 100000) :
    callB call fuel c58 [fr s n d] = some (frD (mkRat (sg (!s) n) d)) := by
  have e := h29 (!s) n d hn hd
  generalize mkRat (sg (!s) n) d = q at *
  have e' : call 29 [.v (.bool (!s)), .nd .ag [ul (n == 0) (dg n)], .nd .ag [ul (d == 0) (dg d)]] = some (.nd .ag [.v (.bool (decide (q.num < 0))), ul (q.num.natAbs == 0) (dg q.num.natAbs), ul (q.den == 0) (dg q.den)]) := e
  show callB call fuel c58 [.nd .ag [.v (.bool s), ul (n == 0) (dg n), ul (d == 0) (dg d)]] = some (.nd .ag [.v (.bool (decide (q.num < 0))), ul (q.num.natAbs == 0) (dg q.num.natAbs), ul (q.den == 0) (dg q.den)])
  rw [callB_tab call fuel c58 K58 _ rfl (by exact Nat.le_of_ble_eq_true rfl) (by exact Nat.le_of_ble_eq_true rfl)]
  generalize (n == 0) = z1 at *
  generalize (d == 0) = z2 at *
  generalize (q.num.natAbs == 0) = z3 at *
  generalize (q.den == 0) = z4 at *
  generalize decide (q.num < 0) = z5 at *
  generalize dg n = l1 at *
  generalize dg d = l2 at *
  generalize dg q.num.natAbs = l3 at *
  generalize dg q.den = l4 at *
  simp [c58, K58, e']
/-- The sign. -/
def sgF (s : Bool) (n d : Nat) : Int := if n = 0 ∨ d = 0 then 0 else if s then -1 else 1
set_option maxHeartbeats 1000000 in
theorem f12 (call : Oracle) (fuel : Nat) (h36 : Zer36 call) (s : Bool) (n d : Nat) (hn : (dg n).length < 100000) (hd : (dg d).length < 100000) :
    callB call fuel c12 [fr s n d] = some (.v (.int .i64 (sgF s n d))) := by
  have e1 := h36 n (by omega)
  have e2 := h36 d (by omega)
  have e1' : call 36 [.nd .ag [ul (n == 0) (dg n)]] = some (.v (.bool (n == 0))) := e1
  have e2' : call 36 [.nd .ag [ul (d == 0) (dg d)]] = some (.v (.bool (d == 0))) := e2
  show callB call fuel c12 [.nd .ag [.v (.bool s), ul (n == 0) (dg n), ul (d == 0) (dg d)]] = _
  rw [callB_tab call fuel c12 K12 _ rfl (by exact Nat.le_of_ble_eq_true rfl) (by exact Nat.le_of_ble_eq_true rfl)]
  unfold sgF
  by_cases h : n = 0
  · have z : (n == 0) = true := by simpa using h
    rw [if_pos (.inl h)]
    rw [z] at e1' ⊢
    generalize (d == 0) = y at *
    generalize dg n = ln at *
    generalize dg d = ld at *
    simp [c12, K12, e1', e2']
  · have z : (n == 0) = false := by simpa using h
    rw [z] at e1' ⊢
    by_cases h' : d = 0
    · have z' : (d == 0) = true := by simpa using h'
      rw [if_pos (.inr h')]
      rw [z'] at e2' ⊢
      generalize dg n = ln at *
      generalize dg d = ld at *
      simp [c12, K12, e1', e2']
    · have z' : (d == 0) = false := by simpa using h'
      rw [if_neg (by omega)]
      rw [z'] at e2' ⊢
      generalize dg n = ln at *
      generalize dg d = ld at *
      cases s <;> simp [c12, K12, e1', e2']
end Go.Mx
namespace Go.Mx
set_option linter.unusedVariables false
set_option linter.unusedSimpArgs false
set_option linter.unusedSectionVars false
open Go

def Mul35 (call : Oracle) : Prop := ∀ a b : Nat, (dg a).length < 400000 → (dg b).length < 400000 → call 35 [nz a, nz b] = some (nz (a * b))
def Sgn12 (call : Oracle) : Prop := ∀ (s : Bool) (n d : Nat), (dg n).length < 100000 → (dg d).length < 100000 → call 12 [fr s n d] = some (.v (.int .i64 (sgF s n d)))
def Nrm52 (call : Oracle) : Prop := ∀ (s : Bool) (n d : Nat), (dg n).length < 100000 → (dg d).length < 100000 → call 52 [fr s n d] = some (frD (mkRat (sg s n) d))
def Neg58 (call : Oracle) : Prop := ∀ (s : Bool) (n d : Nat), (dg n).length < 100000 → (dg d).length < 100000 → call 58 [fr s n d] = some (frD (mkRat (sg (!s) n) d))
theorem sg_mul (s t : Bool) (n m : Nat) : sg (!(s == t)) (n * m) = sg s n * sg t m := by
  cases s <;> cases t <;> simp [sg, Int.neg_mul, Int.mul_neg]
set_option maxHeartbeats 1000000 in
theorem f27 (call : Oracle) (fuel : Nat) (h29 : Made29 call) (h35 : Mul35 call) (s s' : Bool) (n n' d d' : Nat) (hn : (dg n).length < 40000) (hn' : (dg n').length < 40000) (hd : (dg d).length < 40000) (hd' : (dg d').length < 40000) :
    callB call fuel c27 [fr s n d, fr s' n' d'] = some (frD (mkRat (sg s n) d * mkRat (sg s' n') d')) := by
  rw [Rat.mkRat_mul_mkRat, ← sg_mul]
  have l1 := dg_mul_len (Nat.le_of_lt hn) (Nat.le_of_lt hn')
  have l2 := dg_mul_len (Nat.le_of_lt hd) (Nat.le_of_lt hd')
  have e := h29 (!(s == s')) (n * n') (d * d') (by omega) (by omega)
  have e1 := h35 n n' (by omega) (by omega)
  have e2 := h35 d d' (by omega) (by omega)
  generalize mkRat (sg (!(s == s')) (n * n')) (d * d') = q at *
  have e1' : call 35 [.nd .ag [ul (n == 0) (dg n)], .nd .ag [ul (n' == 0) (dg n')]] = some (.nd .ag [ul (n * n' == 0) (dg (n * n'))]) := e1
  have e2' : call 35 [.nd .ag [ul (d == 0) (dg d)], .nd .ag [ul (d' == 0) (dg d')]] = some (.nd .ag [ul (d * d' == 0) (dg (d * d'))]) := e2
  have e' : call 29 [.v (.bool (!(s == s'))), .nd .ag [ul (n * n' == 0) (dg (n * n'))], .nd .ag [ul (d * d' == 0) (dg (d * d'))]] = some (.nd .ag [.v (.bool (decide (q.num < 0))), ul (q.num.natAbs == 0) (dg q.num.natAbs), ul (q.den == 0) (dg q.den)]) := e
  show callB call fuel c27 [.nd .ag [.v (.bool s), ul (n == 0) (dg n), ul (d == 0) (dg d)], .nd .ag [.v (.bool s'), ul (n' == 0) (dg n'), ul (d' == 0) (dg d')]] = some (.nd .ag [.v (.bool (decide (q.num < 0))), ul (q.num.natAbs == 0) (dg q.num.natAbs), ul (q.den == 0) (dg q.den)])
  rw [callB_tab call fuel c27 K27 _ rfl (by exact Nat.le_of_ble_eq_true rfl) (by exact Nat.le_of_ble_eq_true rfl)]
  generalize (n * n' == 0) = z1 at *
  generalize (d * d' == 0) = z2 at *
  generalize (q.num.natAbs == 0) = z3 at *
  generalize (q.den == 0) = z4 at *
  generalize decide (q.num < 0) = z5 at *
  generalize (n == 0) = z6 at *
  generalize (d == 0) = z7 at *
  generalize (n' == 0) = z8 at *
  generalize (d' == 0) = z9 at *
  generalize dg (n * n') = l1 at *
  generalize dg (d * d') = l2 at *
  generalize dg q.num.natAbs = l3 at *
  generalize dg q.den = l4 at *
  generalize dg n = l6 at *
  generalize dg d = l7 at *
  generalize dg n' = l8 at *
  generalize dg d' = l9 at *
  simp (config := {maxSteps := 2000000}) [c27, K27, e', e1', e2']
def Mul27 (call : Oracle) : Prop := ∀ (s s' : Bool) (n n' d d' : Nat), (dg n).length < 40000 → (dg n').length < 40000 → (dg d).length < 40000 → (dg d').length < 40000 →
    call 27 [fr s n d, fr s' n' d'] = some (frD (mkRat (sg s n) d * mkRat (sg s' n') d'))
/-! ### Cmp -/
def cmpR (a b : Rat) : Int := if a < b then -1 else if b < a then 1 else 0
/-- What Cmp computes. -/
def cmpC (s t : Int) (p r : Nat) : Int := if s < t then -1 else if t < s then 1 else if s = 0 then 0 else s * cmpN p r
theorem sg_mulN (s : Bool) (n m : Nat) : sg s n * (m : Int) = sg s (n * m) := by
  cases s <;> simp [sg, Int.neg_mul]
theorem sgF_num (q : Rat) : sgF (decide (q.num < 0)) q.num.natAbs q.den = if q.num < 0 then -1 else if q.num = 0 then 0 else 1 := by
  have hd : q.den ≠ 0 := q.den_nz
  unfold sgF
  by_cases h : q.num = 0
  · simp [h]
  · by_cases h2 : q.num < 0
    · simp [h, h2, hd]
    · simp [h, h2, hd]
theorem cmpC_eq (a b : Rat) : cmpC (sgF (decide (a.num < 0)) a.num.natAbs a.den) (sgF (decide (b.num < 0)) b.num.natAbs b.den) (a.num.natAbs * b.den) (b.num.natAbs * a.den) = cmpR a b := by
  rw [sgF_num, sgF_num]
  unfold cmpR
  simp only [Rat.lt_iff]
  have e1 := sg_mulN (decide (a.num < 0)) a.num.natAbs b.den
  have e2 := sg_mulN (decide (b.num < 0)) b.num.natAbs a.den
  rw [sg_self] at e1 e2
  rw [e1, e2]
  have p1 : 0 < a.num.natAbs * b.den ↔ a.num ≠ 0 := by
    constructor
    · intro h h0; rw [h0] at h; simp at h
    · intro h; exact Nat.mul_pos (by omega) b.den_pos
  have p2 : 0 < b.num.natAbs * a.den ↔ b.num ≠ 0 := by
    constructor
    · intro h h0; rw [h0] at h; simp at h
    · intro h; exact Nat.mul_pos (by omega) a.den_pos
  generalize a.num.natAbs * b.den = p at *
  generalize b.num.natAbs * a.den = r at *
  clear e1 e2
  generalize a.num = x at *
  generalize b.num = y at *
  unfold cmpC cmpN sg
  by_cases h1 : x < 0 <;> by_cases h2 : y < 0 <;> by_cases h3 : x = 0 <;> by_cases h4 : y = 0 <;> simp only [h1, h2, h3, h4, decide_true, decide_false, if_true, if_false, Bool.false_eq_true, reduceCtorEq] <;> (try omega) <;> (repeat' split) <;> omega
set_option maxHeartbeats 1000000 in
theorem f11 (call : Oracle) (fuel : Nat) (h12 : Sgn12 call) (h34 : Cmp34 call) (h35 : Mul35 call) (a b : Rat) (ha : SZ 40000 a) (hb : SZ 40000 b) :
    callB call fuel c11 [frD a, frD b] = some (.v (.int .i64 (cmpR a b))) := by
  rw [← cmpC_eq]
  obtain ⟨ha1, ha2⟩ := ha
  obtain ⟨hb1, hb2⟩ := hb
  have e1 := h12 (decide (a.num < 0)) a.num.natAbs a.den (by omega) (by omega)
  have e2 := h12 (decide (b.num < 0)) b.num.natAbs b.den (by omega) (by omega)
  have e3 := h35 a.num.natAbs b.den (by omega) (by omega)
  have e4 := h35 b.num.natAbs a.den (by omega) (by omega)
  have l1 := dg_mul_len ha1 hb2
  have l2 := dg_mul_len hb1 ha2
  have e5 := h34 (a.num.natAbs * b.den) (b.num.natAbs * a.den) (by omega) (by omega)
  have hs1 : sgF (decide (a.num < 0)) a.num.natAbs a.den = -1 ∨ sgF (decide (a.num < 0)) a.num.natAbs a.den = 0 ∨ sgF (decide (a.num < 0)) a.num.natAbs a.den = 1 := by
    rw [sgF_num]; split <;> (try split) <;> simp
  have hc1 : cmpN (a.num.natAbs * b.den) (b.num.natAbs * a.den) = -1 ∨ cmpN (a.num.natAbs * b.den) (b.num.natAbs * a.den) = 0 ∨ cmpN (a.num.natAbs * b.den) (b.num.natAbs * a.den) = 1 := by
    unfold cmpN; split <;> (try split) <;> simp
  have e1' : call 12 [.nd .ag [.v (.bool (decide (a.num < 0))), ul (a.num.natAbs == 0) (dg a.num.natAbs), ul (a.den == 0) (dg a.den)]] = some (.v (.int .i64 (sgF (decide (a.num < 0)) a.num.natAbs a.den))) := e1
  have e2' : call 12 [.nd .ag [.v (.bool (decide (b.num < 0))), ul (b.num.natAbs == 0) (dg b.num.natAbs), ul (b.den == 0) (dg b.den)]] = some (.v (.int .i64 (sgF (decide (b.num < 0)) b.num.natAbs b.den))) := e2
  have e3' : call 35 [.nd .ag [ul (a.num.natAbs == 0) (dg a.num.natAbs)], .nd .ag [ul (b.den == 0) (dg b.den)]] = some (.nd .ag [ul (a.num.natAbs * b.den == 0) (dg (a.num.natAbs * b.den))]) := e3
  have e4' : call 35 [.nd .ag [ul (b.num.natAbs == 0) (dg b.num.natAbs)], .nd .ag [ul (a.den == 0) (dg a.den)]] = some (.nd .ag [ul (b.num.natAbs * a.den == 0) (dg (b.num.natAbs * a.den))]) := e4
  have e5' : call 34 [.nd .ag [ul (a.num.natAbs * b.den == 0) (dg (a.num.natAbs * b.den))], .nd .ag [ul (b.num.natAbs * a.den == 0) (dg (b.num.natAbs * a.den))]] = some (.v (.int .i64 (cmpN (a.num.natAbs * b.den) (b.num.natAbs * a.den)))) := e5
  show callB call fuel c11 [.nd .ag [.v (.bool (decide (a.num < 0))), ul (a.num.natAbs == 0) (dg a.num.natAbs), ul (a.den == 0) (dg a.den)], .nd .ag [.v (.bool (decide (b.num < 0))), ul (b.num.natAbs == 0) (dg b.num.natAbs), ul (b.den == 0) (dg b.den)]] = _
  rw [callB_tab call fuel c11 K11 _ rfl (by exact Nat.le_of_ble_eq_true rfl) (by exact Nat.le_of_ble_eq_true rfl)]
  generalize sgF (decide (a.num < 0)) a.num.natAbs a.den = s at *
  generalize sgF (decide (b.num < 0)) b.num.natAbs b.den = t at *
  obtain ⟨cm, hcm⟩ : ∃ cm, cmpN (a.num.natAbs * b.den) (b.num.natAbs * a.den) = cm := ⟨_, rfl⟩
  have hcc : cmpC s t (a.num.natAbs * b.den) (b.num.natAbs * a.den) = if s < t then -1 else if t < s then 1 else if s = 0 then 0 else s * cm := by
    rw [← hcm]; rfl
  rw [hcc]
  rw [hcm] at e5' hc1
  clear hcc hcm e1 e2 e3 e4 e5
  have hw : IntKind.i64.wrap (s * cm) = s * cm := by
    rcases hs1 with rfl | rfl | rfl <;> rcases hc1 with rfl | rfl | rfl <;> rfl
  generalize (a.num.natAbs * b.den == 0) = z1 at *
  generalize (b.num.natAbs * a.den == 0) = z2 at *
  generalize dg (a.num.natAbs * b.den) = l1 at *
  generalize dg (b.num.natAbs * a.den) = l2 at *
  generalize (a.num.natAbs == 0) = z3 at *
  generalize (a.den == 0) = z4 at *
  generalize (b.num.natAbs == 0) = z5 at *
  generalize (b.den == 0) = z6 at *
  generalize decide (a.num < 0) = z7 at *
  generalize decide (b.num < 0) = z8 at *
  generalize dg a.num.natAbs = l3 at *
  generalize dg a.den = l4 at *
  generalize dg b.num.natAbs = l5 at *
  generalize dg b.den = l6 at *
  by_cases h1 : s < t
  · simp (config := {maxSteps := 2000000}) [c11, K11, e1', e2', h1]
  · by_cases h2 : t < s
    · simp (config := {maxSteps := 2000000}) [c11, K11, e1', e2', h1, h2]
    · by_cases h3 : s = 0
      · subst h3
        simp (config := {maxSteps := 2000000}) [c11, K11, e1', e2', h1, h2]
      · simp (config := {maxSteps := 2000000}) [c11, K11, e1', e2', h1, h2, h3, e3', e4', e5', hw]
end Go.Mx
namespace Go.Mx
set_option linter.unusedVariables false
set_option linter.unusedSimpArgs false
set_option linter.unusedSectionVars false
open Go

theorem inv_mk {b : Rat} : mkRat (sg (decide (b.num < 0)) b.den) b.num.natAbs = b⁻¹ := by
  rw [Rat.inv_def]
  by_cases h : b.num < 0
  · have e : b.num = -((b.num.natAbs : Nat) : Int) := by omega
    have : sg (decide (b.num < 0)) b.den = -(b.den : Int) := by simp [sg, h]
    rw [this]
    conv => rhs; rw [e]
    rw [Rat.divInt_neg', Rat.divInt_ofNat]
  · have e : b.num = ((b.num.natAbs : Nat) : Int) := by omega
    have : sg (decide (b.num < 0)) b.den = (b.den : Int) := by simp [sg, h]
    rw [this]
    conv => rhs; rw [e]
    rw [Rat.divInt_ofNat]
set_option maxHeartbeats 1000000 in
theorem f68 (call : Oracle) (fuel : Nat) (h12 : Sgn12 call) (h27 : Mul27 call) (a b : Rat) (ha : SZ 30000 a) (hb : SZ 30000 b) :
    callB call fuel c68 [frD a, frD b] = some (if b.num = 0 then .nd .tu [fr false 0 0, .v (.int .i64 12)] else .nd .tu [frD (a / b), .v (.int .i64 0)]) := by
  obtain ⟨ha1, ha2⟩ := ha
  obtain ⟨hb1, hb2⟩ := hb
  have e1 := h12 (decide (b.num < 0)) b.num.natAbs b.den (by omega) (by omega)
  have e2 := h27 (decide (a.num < 0)) (decide (b.num < 0)) a.num.natAbs b.den a.den b.num.natAbs (by omega) (by omega) (by omega) (by omega)
  rw [mkRat_sg, inv_mk, ← Rat.div_def] at e2
  rw [sgF_num] at e1
  have e1' : call 12 [.nd .ag [.v (.bool (decide (b.num < 0))), ul (b.num.natAbs == 0) (dg b.num.natAbs), ul (b.den == 0) (dg b.den)]] = some (.v (.int .i64 (if b.num < 0 then -1 else if b.num = 0 then 0 else 1))) := e1
  generalize a / b = q at *
  have e2' : call 27 [.nd .ag [.v (.bool (decide (a.num < 0))), ul (a.num.natAbs == 0) (dg a.num.natAbs), ul (a.den == 0) (dg a.den)], .nd .ag [.v (.bool (decide (b.num < 0))), ul (b.den == 0) (dg b.den), ul (b.num.natAbs == 0) (dg b.num.natAbs)]] = some (.nd .ag [.v (.bool (decide (q.num < 0))), ul (q.num.natAbs == 0) (dg q.num.natAbs), ul (q.den == 0) (dg q.den)]) := e2
  show callB call fuel c68 [.nd .ag [.v (.bool (decide (a.num < 0))), ul (a.num.natAbs == 0) (dg a.num.natAbs), ul (a.den == 0) (dg a.den)], .nd .ag [.v (.bool (decide (b.num < 0))), ul (b.num.natAbs == 0) (dg b.num.natAbs), ul (b.den == 0) (dg b.den)]] =
    some (if b.num = 0 then .nd .tu [.nd .ag [.v (.bool false), .nd (.sl true 1 0) [], .nd (.sl true 1 0) []], .v (.int .i64 12)] else .nd .tu [.nd .ag [.v (.bool (decide (q.num < 0))), ul (q.num.natAbs == 0) (dg q.num.natAbs), ul (q.den == 0) (dg q.den)], .v (.int .i64 0)])
  rw [callB_tab call fuel c68 K68 _ rfl (by exact Nat.le_of_ble_eq_true rfl) (by exact Nat.le_of_ble_eq_true rfl)]
  have hs : (if b.num < 0 then (-1 : Int) else if b.num = 0 then 0 else 1) = 0 ↔ b.num = 0 := by
    split
    · omega
    · split <;> omega
  clear e1 e2
  generalize (if b.num < 0 then (-1 : Int) else if b.num = 0 then 0 else 1) = t at *
  generalize (a.num.natAbs == 0) = z3 at *
  generalize (a.den == 0) = z4 at *
  generalize (b.num.natAbs == 0) = z5 at *
  generalize (b.den == 0) = z6 at *
  generalize (q.num.natAbs == 0) = z1 at *
  generalize (q.den == 0) = z2 at *
  generalize decide (a.num < 0) = z7 at *
  generalize decide (b.num < 0) = z8 at *
  generalize decide (q.num < 0) = z9 at *
  generalize dg a.num.natAbs = l3 at *
  generalize dg a.den = l4 at *
  generalize dg b.num.natAbs = l5 at *
  generalize dg b.den = l6 at *
  generalize dg q.num.natAbs = l1 at *
  generalize dg q.den = l2 at *
  by_cases h : b.num = 0
  · have h' := hs.2 h
    subst h'
    rw [if_pos h]
    simp (config := {maxSteps := 2000000}) [c68, K68, e1']
  · have h' : ¬ t = 0 := fun x => h (hs.1 x)
    rw [if_neg h]
    simp (config := {maxSteps := 2000000}) [c68, K68, e1', h', e2']
/-! ### Add -/
theorem sg_add (s t : Bool) (p r : Nat) : sg s p + sg t r = if s = t then sg s (p + r) else if p < r then sg t (r - p) else sg s (p - r) := by
  cases s <;> cases t <;> simp [sg] <;> (try split) <;> omega
theorem add_mk (a b : Rat) : a + b = mkRat (sg (decide (a.num < 0)) (a.num.natAbs * b.den) + sg (decide (b.num < 0)) (b.num.natAbs * a.den)) (a.den * b.den) := by
  rw [← sg_mulN, ← sg_mulN, sg_self, sg_self, ← Rat.mkRat_add_mkRat _ _ a.den_nz b.den_nz, Rat.mkRat_self, Rat.mkRat_self]
end Go.Mx
namespace Go.Mx
set_option linter.unusedVariables false
set_option linter.unusedSimpArgs false
set_option linter.unusedSectionVars false
open Go

section
variable (r : Nat) (p : List Nat) (s : Value) (e : En Int) (b c : Bool) (l m : List Int)
@[simp] theorem aggV_i03 : aggV r p [.v s, gim e b l, gim e c m] 0 3 = some (.vn .ag [.sc s, .ref r (p ++ [1]), .ref r (p ++ [2])]) := rfl
@[simp] theorem aggV_i11 : aggV r p [.v s, gim e b l, gim e c m] 1 1 = some (.vn .ag [.ref r (p ++ [1])]) := rfl
@[simp] theorem aggV_i21 : aggV r p [.v s, gim e b l, gim e c m] 2 1 = some (.vn .ag [.ref r (p ++ [2])]) := rfl
@[simp] theorem aggV_o : aggV r p [gsl e b l] 0 1 = some (.vn .ag [.ref r (p ++ [0])]) := rfl
end
theorem den_z (q : Rat) : (q.den == 0) = false := by simp [q.den_nz]
def Add53 (call : Oracle) : Prop := ∀ a b : Nat, (dg a).length < 400000 → (dg b).length < 400000 → call 53 [nz a, nz b] = some (nz (a + b))
def Sub54 (call : Oracle) : Prop := ∀ a b : Nat, (dg a).length < 400000 → (dg b).length < 400000 →
  call 54 [nz a, nz b] = some (if a < b then .nd .tu [nz0, .v (.int .i64 2)] else .nd .tu [nz (a - b), .v (.int .i64 0)])
set_option maxHeartbeats 2000000 in
theorem f22 (call : Oracle) (fuel : Nat) (h52 : Nrm52 call) (h35 : Mul35 call) (h53 : Add53 call) (h54 : Sub54 call) (h29 : Made29 call) (a b : Rat) (ha : SZ 20000 a) (hb : SZ 20000 b) :
    callF call fuel c22 [frD a, frD b] = some (frD (a + b)) := by
  rw [add_mk, sg_add]
  obtain ⟨ha1, ha2⟩ := ha
  obtain ⟨hb1, hb2⟩ := hb
  have e1 := h52 (decide (a.num < 0)) a.num.natAbs a.den (by omega) (by omega)
  have e2 := h52 (decide (b.num < 0)) b.num.natAbs b.den (by omega) (by omega)
  rw [mkRat_sg] at e1 e2
  have l1 := dg_mul_len ha1 hb2
  have l2 := dg_mul_len hb1 ha2
  have l3 := dg_mul_len ha2 hb2
  have m1 := h35 a.num.natAbs b.den (by omega) (by omega)
  have m2 := h35 b.num.natAbs a.den (by omega) (by omega)
  have m3 := h35 a.den b.den (by omega) (by omega)
  have p1 := h53 (a.num.natAbs * b.den) (b.num.natAbs * a.den) (by omega) (by omega)
  have s1 := h54 (a.num.natAbs * b.den) (b.num.natAbs * a.den) (by omega) (by omega)
  have s2 := h54 (b.num.natAbs * a.den) (a.num.natAbs * b.den) (by omega) (by omega)
  have lp := dg_add_len l1 (Nat.le_trans l2 (by omega))
  have r1 := h29 (decide (a.num < 0)) (a.num.natAbs * b.den + b.num.natAbs * a.den) (a.den * b.den) (by omega) (by omega)
  have r2 := h29 (decide (a.num < 0)) (a.num.natAbs * b.den - b.num.natAbs * a.den) (a.den * b.den) (Nat.lt_of_le_of_lt (dg_len_mono (Nat.sub_le _ _)) (by omega)) (by omega)
  have r3 := h29 (decide (b.num < 0)) (b.num.natAbs * a.den - a.num.natAbs * b.den) (a.den * b.den) (Nat.lt_of_le_of_lt (dg_len_mono (Nat.sub_le _ _)) (by omega)) (by omega)
  have za := den_z a
  have zb := den_z b
  unfold frD fr nz at *
  rw [za] at e1 m2 m3 ⊢
  rw [zb] at e2 m1 m3 ⊢
  clear ha1 ha2 hb1 hb2 l1 l2 l3 lp h52 h35 h53 h54 h29
  rw [callF_tab call fuel c22 K22 _ (by exact Nat.le_of_ble_eq_true rfl) (by exact Nat.le_of_ble_eq_true rfl)]
  generalize a.num.natAbs * b.den = p at *
  generalize b.num.natAbs * a.den = r at *
  generalize a.den * b.den = d at *
  have zd : ∀ q : Rat, (q.den == 0) = false := den_z
  generalize decide (a.num < 0) = sa at *
  generalize decide (b.num < 0) = sb at *
  generalize (a.num.natAbs == 0) = z1 at *
  generalize (b.num.natAbs == 0) = z2 at *
  generalize dg a.num.natAbs = la at *
  generalize dg b.num.natAbs = lb at *
  generalize dg a.den = da at *
  generalize dg b.den = db at *
  by_cases h1 : sa = sb
  · subst h1
    rw [if_pos rfl]
    generalize mkRat (sg sa (p + r)) d = q at *
    rw [zd] at r1 ⊢
    clear r2 r3 s1 s2
    generalize (q.num.natAbs == 0) = z3 at *
    generalize dg q.num.natAbs = lq at *
    generalize dg q.den = dq at *
    generalize decide (q.num < 0) = sq at *
    generalize (p + r == 0) = z4 at *
    generalize (p == 0) = z5 at *
    generalize (r == 0) = z6 at *
    generalize (d == 0) = z7 at *
    generalize dg (p + r) = lpr at *
    generalize dg p = lp at *
    generalize dg r = lr at *
    generalize dg d = ld at *
    simp (config := {maxSteps := 4000000}) [c22, K22, e1, e2, m1, m2, m3, p1, r1]
  · rw [if_neg h1]
    have h1' : (sa == sb) = false := by simpa using h1
    by_cases h2 : p < r
    · rw [if_pos h2]
      rw [if_pos h2] at s1
      rw [if_neg (by omega)] at s2
      generalize mkRat (sg sb (r - p)) d = q at *
      rw [zd] at r3 ⊢
      clear r1 r2 p1
      generalize (q.num.natAbs == 0) = z3 at *
      generalize dg q.num.natAbs = lq at *
      generalize dg q.den = dq at *
      generalize decide (q.num < 0) = sq at *
      generalize (r - p == 0) = z4 at *
      generalize (p == 0) = z5 at *
      generalize (r == 0) = z6 at *
      generalize (d == 0) = z7 at *
      generalize dg (r - p) = lpr at *
      generalize dg p = lp at *
      generalize dg r = lr at *
      generalize dg d = ld at *
      simp (config := {maxSteps := 4000000}) [c22, K22, e1, e2, m1, m2, m3, s1, s2, r3, h1, h1']
    · rw [if_neg h2]
      rw [if_neg h2] at s1
      generalize mkRat (sg sa (p - r)) d = q at *
      rw [zd] at r2 ⊢
      clear r1 r3 p1 s2
      generalize (q.num.natAbs == 0) = z3 at *
      generalize dg q.num.natAbs = lq at *
      generalize dg q.den = dq at *
      generalize decide (q.num < 0) = sq at *
      generalize (p - r == 0) = z4 at *
      generalize (p == 0) = z5 at *
      generalize (r == 0) = z6 at *
      generalize (d == 0) = z7 at *
      generalize dg (p - r) = lpr at *
      generalize dg p = lp at *
      generalize dg r = lr at *
      generalize dg d = ld at *
      simp (config := {maxSteps := 4000000}) [c22, K22, e1, e2, m1, m2, m3, s1, r2, h1, h1']
end Go.Mx
