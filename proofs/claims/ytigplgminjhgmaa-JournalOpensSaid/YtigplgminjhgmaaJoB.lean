import Derived.Test.YtigplgminjhgmaaJoA
import Derived.Test.YtigplgminjhgmaaMxYb
/-
  Bytes as lists of numbers; checksums; numbers as bytes; copies; sameness (chapter 7, anew).
-/
namespace Go.Mx
set_option linter.unusedVariables false
set_option linter.unusedSimpArgs false
set_option linter.unusedSectionVars false
open Go

def zl (l : List Nat) : List Int := l.map fun (v : Nat) => (v : Int)
@[simp] theorem zl_len (l : List Nat) : (zl l).length = l.length := by simp [zl]
@[simp] theorem zl_nth (l : List Nat) (i : Nat) : nth (zl l) 0 i = ((nth l 0 i : Nat) : Int) := nth_map (fun (v : Nat) => (v : Int)) l 0 i
theorem zl_app (l m : List Nat) : zl (l ++ m) = zl l ++ zl m := by simp [zl]
@[simp] theorem zl_drop (l : List Nat) (n : Nat) : (zl l).drop n = zl (l.drop n) := by simp [zl]
@[simp] theorem zl_take (l : List Nat) (n : Nat) : (zl l).take n = zl (l.take n) := by simp [zl]
theorem zl_inj {l m : List Nat} : zl l = zl m ↔ l = m := by
  constructor
  · intro h
    have : (zl l).map Int.toNat = (zl m).map Int.toNat := by rw [h]
    simpa [zl, Function.comp_def] using this
  · rintro rfl; rfl

/-- Bytes. -/
def By (l : List Nat) : Prop := ∀ x ∈ l, x < 256
theorem By.nth {l : List Nat} (h : By l) (i : Nat) : nth l 0 i < 256 := by
  by_cases hi : i < l.length
  · exact h _ (nth_mem 0 hi)
  · simp [Go.Mx.nth, List.getElem?_eq_none (Nat.le_of_not_lt hi)]

def adS (s : Nat × Nat) (c : Nat) : Nat × Nat := ((s.1 + c) % 65521, (s.2 + (s.1 + c) % 65521) % 65521)
def adF (l : List Nat) : Nat × Nat := l.foldl adS (1, 0)
theorem adF_snoc (l : List Nat) (c : Nat) : adF (l ++ [c]) = adS (adF l) c := by simp [adF]
theorem take_snoc {l : List Nat} {i : Nat} (h : i < l.length) : l.take (i + 1) = l.take i ++ [nth l 0 i] := by rw [nth_get 0 h]; simp
theorem adF_lt (l : List Nat) : (adF l).1 < 65521 ∧ (adF l).2 < 65521 := by
  unfold adF
  have : ∀ (l : List Nat) (s : Nat × Nat), s.1 < 65521 ∧ s.2 < 65521 → (l.foldl adS s).1 < 65521 ∧ (l.foldl adS s).2 < 65521 := by
    intro l
    induction l with
    | nil => intro s h; exact h
    | cons c l ih => intro s _; exact ih _ ⟨Nat.mod_lt _ (by decide), Nat.mod_lt _ (by decide)⟩
  exact this l (1, 0) (by decide)

abbrev u3 (n : Nat) : V := .sc (.int .u32 (n : Int))

/-- Sums of numbers in machine words. -/
theorem wrap_plus (k : IntKind) {a b : Nat} (h : a + b < 2 ^ IntKind.top k) : k.wrap ((a : Int) + (b : Int)) = ((a + b : Nat) : Int) := by
  rw [← Int.natCast_add]; exact wrap_nat k h
theorem tmod_nat (a b : Nat) : (a : Int).tmod (b : Int) = ((a % b : Nat) : Int) := by
  rw [Int.tmod_eq_emod_of_nonneg (by omega)]; rfl
theorem tdiv_nat (a b : Nat) : (a : Int).tdiv (b : Int) = ((a / b : Nat) : Int) := by
  rw [Int.tdiv_eq_ediv_of_nonneg (by omega)]; rfl
theorem adS_u1 {s : Nat × Nat} {c : Nat} (h : s.1 < 65521) (hc : c < 256) : (IntKind.u32.wrap ((s.1 : Int) + IntKind.u32.wrap (c : Int))).tmod 65521 = (((adS s c).1 : Nat) : Int) := by
  rw [wrap_nat .u32 (n := c) (by simp [IntKind.top, IntKind.signed, IntKind.bits]; omega), wrap_plus .u32 (by simp [IntKind.top, IntKind.signed, IntKind.bits]; omega)]
  exact tmod_nat _ 65521
theorem adS_u2 {s : Nat × Nat} {c : Nat} (h : s.2 < 65521) : (IntKind.u32.wrap ((s.2 : Int) + (((adS s c).1 : Nat) : Int))).tmod 65521 = (((adS s c).2 : Nat) : Int) := by
  have : (adS s c).1 < 65521 := Nat.mod_lt _ (by decide)
  rw [wrap_plus .u32 (by simp [IntKind.top, IntKind.signed, IntKind.bits]; omega)]
  exact tmod_nat _ 65521
theorem adS_i1 {s : Nat × Nat} {c : Nat} (h : s.1 < 65521) (hc : c < 256) : (IntKind.i64.wrap ((s.1 : Int) + IntKind.i64.wrap (c : Int))).tmod 65521 = (((adS s c).1 : Nat) : Int) := by
  rw [wrap_nat .i64 (n := c) (by simp [IntKind.top, IntKind.signed, IntKind.bits]; omega), wrap_plus .i64 (by simp [IntKind.top, IntKind.signed, IntKind.bits]; omega)]
  exact tmod_nat _ 65521
theorem adS_i2 {s : Nat × Nat} {c : Nat} (h : s.2 < 65521) : (IntKind.i64.wrap ((s.2 : Int) + (((adS s c).1 : Nat) : Int))).tmod 65521 = (((adS s c).2 : Nat) : Int) := by
  have : (adS s c).1 < 65521 := Nat.mod_lt _ (by decide)
  rw [wrap_plus .i64 (by simp [IntKind.top, IntKind.signed, IntKind.bits]; omega)]
  exact tmod_nat _ 65521

theorem loop39 (call : Oracle) (fuel : Nat) (b : Bool) (l : List Nat) (hb : By l) (hl : l.length ≤ 20000) (fu : Nat) (hf : 20000 < fu) (st : St)
    (h0 : drops st h39_0 = L39_0 (.ro (gsl (eI .u8) b (zl l))) (.sc (.int .u32 1)) (.sc (.int .u32 0)) (.ro (gsl (eI .u8) b (zl l))) (ii l.length) (ii 0)) :
    run.loopN (run call fuel b39_0) fu st = some (.ex 0, X39_0 (u3 (adF l).1) (u3 (adF l).2)) := by
  refine loop_cnt call fuel h39_0 _ l.length (fun i => L39_0 (.ro (gsl (eI .u8) b (zl l))) (u3 (adF (l.take i)).1) (u3 (adF (l.take i)).2) (.ro (gsl (eI .u8) b (zl l))) (ii l.length) (ii i)) _ (by simp) ?_ (by simp) fu st (by rw [h0]; rfl) (by omega)
  intro i hi
  have hw := wrap_succ (i := i) (by omega)
  have hc := hb.nth i
  have hx := adF_lt (l.take i)
  rw [take_snoc hi, adF_snoc]
  generalize adF (l.take i) = s at *
  generalize hq : nth l 0 i = c at *
  have e1 := adS_u1 hx.1 hc
  have e2 := adS_u2 (c := c) hx.2
  simp [hi, hw, hq, e1, e2]

theorem loop41 (call : Oracle) (fuel : Nat) (b : Bool) (l : List Nat) (hb : By l) (hl : l.length ≤ 20000) (fu : Nat) (hf : 20000 < fu) (st : St)
    (h0 : drops st h41_0 = L41_0 (.ro (gsl (eI .u8) b (zl l))) (ii 1) (ii 0) (ii 0)) :
    run.loopN (run call fuel b41_0) fu st = some (.ex 0, X41_0 (ii (adF l).1) (ii (adF l).2)) := by
  refine loop_cnt call fuel h41_0 _ l.length (fun i => L41_0 (.ro (gsl (eI .u8) b (zl l))) (ii (adF (l.take i)).1) (ii (adF (l.take i)).2) (ii i)) _ (by simp) ?_ (by simp) fu st (by rw [h0]; rfl) (by omega)
  intro i hi
  have hw := wrap_succ (i := i) (by omega)
  have hc := hb.nth i
  have hx := adF_lt (l.take i)
  rw [take_snoc hi, adF_snoc]
  generalize adF (l.take i) = s at *
  generalize hq : nth l 0 i = c at *
  have e1 := adS_i1 hx.1 hc
  have e2 := adS_i2 (c := c) hx.2
  simp [hi, hw, hq, e1, e2]

/-- A number moved up. -/
def shn (s t : Nat) : Nat := s <<< t
theorem bits_shl (k : IntKind) {s t : Nat} (ht : t ≤ IntKind.top k) (h : s * 2 ^ t < 2 ^ IntKind.top k) : shiftBin .shl k (s : Int) (t : Int) = some (.int k ((shn s t : Nat) : Int)) := by
  have h1 : ¬ (t : Int) < 0 := by omega
  have h2 : min (t : Int).toNat k.bits = t := by
    have : IntKind.top k ≤ k.bits := by cases k <;> decide
    simp; omega
  simp only [shiftBin, h1, if_false, h2]
  have : ((s : Int) * 2 ^ t : Int) = ((s * 2 ^ t : Nat) : Int) := by simp
  rw [this, wrap_nat k h, shn, Nat.shiftLeft_eq]

theorem shn_or (a t b : Nat) (h : b < 2 ^ t) : shn a t ||| b = a * 2 ^ t + b := by
  rw [shn, ← Nat.shiftLeft_add_eq_or_of_lt h, Nat.shiftLeft_eq]
def adV (s : Nat × Nat) : Nat := s.2 * 65536 + s.1
def adler (l : List Nat) : Nat := adV (adF l)
theorem adler_lt (l : List Nat) : adler l < 4294967296 := by
  have := adF_lt l
  unfold adler adV; omega

/-- Adler. -/
theorem f39 (call : Oracle) (fuel : Nat) (hf : 20000 < fuel) (b : Bool) (l : List Nat) (hb : By l) (hl : l.length ≤ 20000) : callF call fuel c39 [gsl (eI .u8) b (zl l)] = some (.v (.int .u32 ((adler l : Nat) : Int))) := by
  rw [callF_tab call fuel c39 10 _ (by exact Nat.le_of_ble_eq_true rfl) (by exact Nat.le_of_ble_eq_true rfl)]
  simp [c39]
  rw [loop39 call fuel b l hb hl fuel hf _ (by simp)]
  have hx := adF_lt l
  unfold adler
  generalize adF l = s at *
  have e1 : shiftBin .shl .u32 (s.2 : Int) 16 = some (.int .u32 ((shn s.2 16 : Nat) : Int)) := bits_shl .u32 (t := 16) (by decide) (by simp [IntKind.top, IntKind.signed, IntKind.bits]; omega)
  have e3 : shn s.2 16 ||| s.1 = adV s := shn_or s.2 16 s.1 (by omega)
  have e2 : intBin .or .u32 ((shn s.2 16 : Nat) : Int) (s.1 : Int) = some (.int .u32 ((adV s : Nat) : Int)) := by
    have hA : shn s.2 16 < 2 ^ 32 := by unfold shn; rw [Nat.shiftLeft_eq]; omega
    have hB : s.1 < 2 ^ 32 := by omega
    rw [← e3]
    exact bits_or (k := .u32) hA hB
  simp [e1, e2]
/-- Adler of the reference. -/
theorem f41 (call : Oracle) (fuel : Nat) (hf : 20000 < fuel) (b : Bool) (l : List Nat) (hb : By l) (hl : l.length ≤ 20000) : callF call fuel c41 [gsl (eI .u8) b (zl l)] = some (.v (.int .u32 ((adler l : Nat) : Int))) := by
  rw [callF_tab call fuel c41 6 _ (by exact Nat.le_of_ble_eq_true rfl) (by exact Nat.le_of_ble_eq_true rfl)]
  simp [c41]
  rw [loop41 call fuel b l hb hl fuel hf _ (by simp)]
  have hx := adF_lt l
  unfold adler
  generalize adF l = s at *
  have e : IntKind.u32.wrap (IntKind.i64.wrap (IntKind.i64.wrap ((s.2 : Int) * 65536) + (s.1 : Int))) = ((adV s : Nat) : Int) := by
    have h1 : (s.2 : Int) * 65536 = ((s.2 * 65536 : Nat) : Int) := by simp
    rw [h1, wrap_nat .i64 (by simp [IntKind.top, IntKind.signed, IntKind.bits]; omega), wrap_plus .i64 (by simp [IntKind.top, IntKind.signed, IntKind.bits]; omega), wrap_nat .u32 (by simp [IntKind.top, IntKind.signed, IntKind.bits]; omega)]
    rfl
  simp [e]


/-- A byte of a number. -/
def bt (x k : Nat) : Nat := x / 256 ^ k % 256
def zr (n : Nat) (g : Nat → Nat) : List Int := zl (row n g)
theorem zr_ext {n : Nat} {g h : Nat → Nat} (e : ∀ i, i < n → g i = h i) : zr n g = zr n h := by unfold zr; rw [row_ext _ e]
@[simp] theorem zr_len (n : Nat) (g : Nat → Nat) : (zr n g).length = n := by simp [zr]
@[simp] theorem zr_set (n : Nat) (g : Nat → Nat) (i y : Nat) : (zr n g).set i (y : Int) = zr n (updF g i y) := by
  rw [zr, zr, ← row_set, zl, zl, List.map_set]
def bigG (x n k : Nat) (j : Nat) : Nat := if n ≤ j + k then bt x (n - 1 - j) else 0
def bigL (x n : Nat) : List Nat := row n (fun j => bt x (n - 1 - j))

theorem rep0 (n : Nat) : List.replicate n (0 : Int) = zr n (fun _ => 0) := by
  rw [zr, ← row_rep, zl, List.map_replicate]; rfl
theorem big_step {x n k : Nat} (hk : k < n) : updF (bigG x n k) (n - 1 - k) (bt x k) = bigG x n (k + 1) := by
  funext j
  unfold updF bigG
  by_cases h : j = n - 1 - k
  · subst h
    rw [if_pos rfl, if_pos (by omega)]
    congr 1; omega
  · rw [if_neg h]
    by_cases h2 : n ≤ j + k
    · rw [if_pos h2, if_pos (by omega)]
    · rw [if_neg h2, if_neg (by omega)]
theorem srn_bt (x k : Nat) : srn x (8 * k) % 256 = bt x k := by
  rw [srn, bt, Nat.shiftRight_eq_div_pow, Nat.pow_mul]

theorem wrapI {n : Int} (h1 : -9223372036854775808 ≤ n) (h2 : n < 9223372036854775808) : IntKind.i64.wrap n = n := wrap_eq ⟨h1, by omega⟩
theorem wrap_u8 (n : Nat) : IntKind.u8.wrap (n : Int) = ((n % 256 : Nat) : Int) := by simp [IntKind.wrap, IntKind.bits, IntKind.signed]
theorem wrap_u64 (n : Nat) : IntKind.u64.wrap (n : Int) = ((n % 18446744073709551616 : Nat) : Int) := by simp [IntKind.wrap, IntKind.bits, IntKind.signed]

theorem loop38 (call : Oracle) (fuel : Nat) (x n : Nat) (hn : n ≤ 8) (fu : Nat) (hf : 20000 < fu) (st : St)
    (h0 : drops st h38_0 = L38_0 (.sc (.int .u64 (x : Int))) (ii n) (.own (gsl (eI .u8) false (zr n (bigG x n 0)))) (ii n) (ii 0)) :
    run.loopN (run call fuel b38_0) fu st = some (.ex 0, X38_0 (.own (gsl (eI .u8) false (zr n (bigG x n n))))) := by
  refine loop_cnt call fuel h38_0 _ n (fun i => L38_0 (.sc (.int .u64 (x : Int))) (ii n) (.own (gsl (eI .u8) false (zr n (bigG x n i)))) (ii n) (ii i)) _ (by simp) ?_ (by simp) fu st (by rw [h0]; rfl) (by omega)
  intro i hi
  have hw := wrap_succ (i := i) (by omega)
  have e1 : shiftBin .shr .u64 (x : Int) (IntKind.i64.wrap (8 * (i : Int))) = some (.int .u64 ((srn x (8 * i) : Nat) : Int)) := by
    rw [wrapI (by omega) (by omega)]
    exact bits_shr .u64 x (8 * i) (by show 8 * i ≤ 64; omega)
  have e2 : IntKind.u8.wrap ((srn x (8 * i) : Nat) : Int) = ((bt x i : Nat) : Int) := by
    rw [← srn_bt]; exact wrap_u8 _
  have e3 : IntKind.i64.wrap (IntKind.i64.wrap ((n : Int) - 1) - (i : Int)) = ((n - 1 - i : Nat) : Int) := by
    rw [wrapI (n := (n : Int) - 1) (by omega) (by omega), wrapI (by omega) (by omega)]; omega
  have e4 : n - 1 - i < n := by omega
  have hs := big_step (x := x) hi
  simp [hi, hw, e1, e2, e3, e4, hs]

theorem big_done (x n : Nat) : zr n (bigG x n n) = zl (bigL x n) := by
  show zr n _ = zr n _
  exact zr_ext fun i hi => by unfold bigG; rw [if_pos (by omega)]
theorem big_zero (x n : Nat) : List.replicate n (0 : Int) = zr n (bigG x n 0) := by
  rw [rep0]; exact zr_ext fun i hi => by unfold bigG; rw [if_neg (by omega)]

/-- big. -/
theorem f38 (call : Oracle) (fuel : Nat) (hf : 20000 < fuel) (x n : Nat) (hn : n ≤ 8) : callF call fuel c38 [.v (.int .u64 (x : Int)), .v (.int .i64 (n : Int))] = some (gsl (eI .u8) false (zl (bigL x n))) := by
  rw [callF_tab call fuel c38 12 _ (by exact Nat.le_of_ble_eq_true rfl) (by exact Nat.le_of_ble_eq_true rfl)]
  have hm : n ≤ most := by unfold most; omega
  simp [c38, hm, big_zero x n]
  rw [loop38 call fuel x n hn fuel hf _ (by simp)]
  simp [big_done]

theorem loop40 (call : Oracle) (fuel : Nat) (x n : Nat) (hx : x < 18446744073709551616) (hn : n ≤ 8) (fu : Nat) (hf : 20000 < fu) (st : St)
    (h0 : drops st h40_0 = L40_0 (.sc (.int .u64 (x : Int))) (.own (gsl (eI .u8) false (zr n (bigG x n 0)))) (ii ((n : Int) - 1))) :
    run.loopN (run call fuel b40_0) fu st = some (.ex 0, X40_0 (.own (gsl (eI .u8) false (zr n (bigG x n n))))) := by
  refine loop_cnt call fuel h40_0 _ n (fun i => L40_0 (.sc (.int .u64 ((x / 256 ^ i : Nat) : Int))) (.own (gsl (eI .u8) false (zr n (bigG x n i)))) (ii ((n : Int) - 1 - (i : Int)))) _ (by simp) ?_ ?_ fu st (by rw [h0]; simp) (by omega)
  · intro i hi
    have hs := big_step (x := x) hi
    obtain ⟨m, hm⟩ : ∃ m, m = n - 1 - i := ⟨_, rfl⟩
    have e : (n : Int) - 1 - (i : Int) = (m : Int) := by omega
    have e5 : IntKind.i64.wrap ((m : Int) - 1) = (n : Int) - 1 - ((i + 1 : Nat) : Int) := by rw [wrapI (by omega) (by omega)]; omega
    have hmn : m < n := by omega
    rw [← hm] at hs
    rw [e, ← e5]
    have e2 : IntKind.u8.wrap ((((x / 256 ^ i : Nat) : Int)).tmod 256) = ((bt x i : Nat) : Int) := by
      rw [show ((256 : Int)) = ((256 : Nat) : Int) from rfl, tmod_nat, wrap_u8, Nat.mod_mod]; rfl
    have e3 : (((x / 256 ^ i : Nat) : Int)).tdiv 256 = ((x / 256 ^ (i + 1) : Nat) : Int) := by
      rw [show ((256 : Int)) = ((256 : Nat) : Int) from rfl, tdiv_nat, Nat.div_div_eq_div_mul, Nat.pow_succ]
    have hz : x / 256 ^ (i + 1) < 18446744073709551616 := Nat.lt_of_le_of_lt (Nat.div_le_self _ _) hx
    generalize x / 256 ^ i = y at *
    generalize x / 256 ^ (i + 1) = z at *
    have e6 : IntKind.u64.wrap (z : Int) = (z : Int) := wrap_nat .u64 (by show _ < 2 ^ 64; omega)
    simp [hmn, e2, e3, hs, e6]
  · have e : (n : Int) - 1 - (n : Int) = -1 := by omega
    rw [e]
    simp
/-- big of the reference. -/
theorem f40 (call : Oracle) (fuel : Nat) (hf : 20000 < fuel) (x n : Nat) (hx : x < 18446744073709551616) (hn : n ≤ 8) : callF call fuel c40 [.v (.int .u64 (x : Int)), .v (.int .i64 (n : Int))] = some (gsl (eI .u8) false (zl (bigL x n))) := by
  rw [callF_tab call fuel c40 7 _ (by exact Nat.le_of_ble_eq_true rfl) (by exact Nat.le_of_ble_eq_true rfl)]
  have hm : n ≤ most := by unfold most; omega
  have e : IntKind.i64.wrap ((n : Int) - 1) = (n : Int) - 1 := wrapI (by omega) (by omega)
  simp [c40, hm, big_zero x n, e]
  rw [loop40 call fuel x n hx hn fuel hf _ (by simp)]
  simp [big_done]

/-! ### the number of bytes -/
def vaS (v c : Nat) : Nat := v * 256 + c
def valF (l : List Nat) : Nat := l.foldl vaS 0
theorem valF_snoc (l : List Nat) (c : Nat) : valF (l ++ [c]) = vaS (valF l) c := by simp [valF]
theorem vaS_lt : ∀ (l : List Nat) (v : Nat), By l → l.foldl vaS v < (v + 1) * 256 ^ l.length := by
  intro l
  induction l with
  | nil => intro v _; simp
  | cons c l ih =>
    intro v h
    have h1 := ih (vaS v c) fun x hx => h x (by simp [hx])
    have h2 := h c (by simp)
    have h3 : (vaS v c + 1) * 256 ^ l.length ≤ ((v + 1) * 256) * 256 ^ l.length := Nat.mul_le_mul_right _ (by unfold vaS; omega)
    rw [List.foldl_cons, List.length_cons, Nat.pow_succ, Nat.mul_comm (256 ^ l.length) 256, ← Nat.mul_assoc]
    omega
theorem valF_lt (l : List Nat) (h : By l) : valF l < 256 ^ l.length := by
  have := vaS_lt l 0 h
  unfold valF
  simpa using this
theorem By.take {l : List Nat} (h : By l) (n : Nat) : By (l.take n) := fun x hx => h x (List.mem_of_mem_take hx)
theorem By.drop {l : List Nat} (h : By l) (n : Nat) : By (l.drop n) := fun x hx => h x (List.mem_of_mem_drop hx)
theorem val7 {l : List Nat} (h : By l) {i : Nat} (hi : i < 8) : valF (l.take i) < 72057594037927936 := by
  have h1 := valF_lt _ (h.take i)
  have h2 : (l.take i).length ≤ 7 := by rw [List.length_take]; omega
  have h3 : 256 ^ (l.take i).length ≤ 256 ^ 7 := Nat.pow_le_pow_right (by decide) h2
  omega

theorem loop43 (call : Oracle) (fuel : Nat) (b : Bool) (l : List Nat) (hb : By l) (hl : l.length ≤ 8) (fu : Nat) (hf : 20000 < fu) (st : St)
    (h0 : drops st h43_0 = L43_0 (.ro (gsl (eI .u8) b (zl l))) (.sc (.int .u64 0)) (.ro (gsl (eI .u8) b (zl l))) (ii l.length) (ii 0)) :
    run.loopN (run call fuel b43_0) fu st = some (.ex 0, X43_0 (.sc (.int .u64 (valF l : Int)))) := by
  refine loop_cnt call fuel h43_0 _ l.length (fun i => L43_0 (.ro (gsl (eI .u8) b (zl l))) (.sc (.int .u64 (valF (l.take i) : Int))) (.ro (gsl (eI .u8) b (zl l))) (ii l.length) (ii i)) _ (by simp) ?_ (by simp) fu st (by rw [h0]; rfl) (by omega)
  intro i hi
  have hw := wrap_succ (i := i) (by omega)
  have hc := hb.nth i
  have hx := val7 hb (i := i) (by omega)
  rw [take_snoc hi, valF_snoc]
  generalize valF (l.take i) = v at *
  generalize hq : nth l 0 i = c at *
  have e1 : shiftBin .shl .u64 (v : Int) 8 = some (.int .u64 ((shn v 8 : Nat) : Int)) := bits_shl .u64 (t := 8) (by decide) (by show _ < 2 ^ 64; omega)
  have e3 : shn v 8 ||| c = vaS v c := shn_or v 8 c (by omega)
  have e4 : IntKind.u64.wrap (c : Int) = (c : Int) := wrap_nat .u64 (by show _ < 2 ^ 64; omega)
  have e2 : intBin .or .u64 ((shn v 8 : Nat) : Int) (c : Int) = some (.int .u64 ((vaS v c : Nat) : Int)) := by
    have hA : shn v 8 < 2 ^ 64 := by unfold shn; rw [Nat.shiftLeft_eq]; omega
    have hB : c < 2 ^ 64 := by omega
    rw [← e3]
    exact bits_or (k := .u64) hA hB
  simp [hi, hw, hq, e1, e2, e4]

/-- value. -/
theorem f43 (call : Oracle) (fuel : Nat) (hf : 20000 < fuel) (b : Bool) (l : List Nat) (hb : By l) (hl : l.length ≤ 8) : callF call fuel c43 [gsl (eI .u8) b (zl l)] = some (.v (.int .u64 ((valF l : Nat) : Int))) := by
  rw [callF_tab call fuel c43 9 _ (by exact Nat.le_of_ble_eq_true rfl) (by exact Nat.le_of_ble_eq_true rfl)]
  simp [c43]
  rw [loop43 call fuel b l hb hl fuel hf _ (by simp)]
  simp

theorem loop44 (call : Oracle) (fuel : Nat) (b : Bool) (l : List Nat) (hb : By l) (hl : l.length ≤ 8) (fu : Nat) (hf : 20000 < fu) (st : St)
    (h0 : drops st h44_0 = L44_0 (.ro (gsl (eI .u8) b (zl l))) (.sc (.int .u64 0)) (ii 0)) :
    run.loopN (run call fuel b44_0) fu st = some (.ex 0, X44_0 (.sc (.int .u64 (valF l : Int)))) := by
  refine loop_cnt call fuel h44_0 _ l.length (fun i => L44_0 (.ro (gsl (eI .u8) b (zl l))) (.sc (.int .u64 (valF (l.take i) : Int))) (ii i)) _ (by simp) ?_ (by simp) fu st (by rw [h0]; rfl) (by omega)
  intro i hi
  have hw := wrap_succ (i := i) (by omega)
  have hc := hb.nth i
  have hx := val7 hb (i := i) (by omega)
  rw [take_snoc hi, valF_snoc]
  generalize valF (l.take i) = v at *
  generalize hq : nth l 0 i = c at *
  have e2 : IntKind.u64.wrap (IntKind.u64.wrap ((v : Int) * 256) + IntKind.u64.wrap (c : Int)) = ((vaS v c : Nat) : Int) := by
    have h1 : (v : Int) * 256 = ((v * 256 : Nat) : Int) := by simp
    rw [h1, wrap_nat .u64 (n := v * 256) (by show _ < 2 ^ 64; omega), wrap_nat .u64 (n := c) (by show _ < 2 ^ 64; omega), wrap_plus .u64 (by show _ < 2 ^ 64; omega)]
    rfl
  simp [hi, hw, hq, e2]
/-- number. -/
theorem f44 (call : Oracle) (fuel : Nat) (hf : 20000 < fuel) (b : Bool) (l : List Nat) (hb : By l) (hl : l.length ≤ 8) : callF call fuel c44 [gsl (eI .u8) b (zl l)] = some (.v (.int .u64 ((valF l : Nat) : Int))) := by
  rw [callF_tab call fuel c44 5 _ (by exact Nat.le_of_ble_eq_true rfl) (by exact Nat.le_of_ble_eq_true rfl)]
  simp [c44]
  rw [loop44 call fuel b l hb hl fuel hf _ (by simp)]
  simp

/-- Clone. -/
theorem f32 (call : Oracle) (fuel : Nat) (b : Bool) (l : List Nat) (hb : b = true → l = []) (hl : l.length ≤ 20000) : callF call fuel c32 [gsl (eI .u8) b (zl l)] = some (gsl (eI .u8) b (zl l)) := by
  rw [callF_tab call fuel c32 3 _ (by exact Nat.le_of_ble_eq_true rfl) (by exact Nat.le_of_ble_eq_true rfl)]
  have hm : l.length ≤ most := by unfold most; omega
  cases b with
  | true =>
    cases hb rfl
    simp [c32]
    rfl
  | false =>
    have e : T.nd (K.sl false 1 l.length) (gk (eI .u8) (zl l)) = gsl (eI .u8) false (zl l) := by rw [gsl, zl_len]; rfl
    simp [c32, hm, e]


/-! ### sameness -/
theorem bytes_gk (l : List Nat) : bytesOf (gk (eI .u8) (zl l)) = some (l.map UInt8.ofNat) := by
  induction l with
  | nil => rfl
  | cons c l ih =>
    show bytesOf (.v (.int .u8 (c : Int)) :: gk (eI .u8) (zl l)) = _
    simp [bytesOf, ih]
theorem u8_inj {l m : List Nat} (hl : By l) (hm : By m) (h : l.map UInt8.ofNat = m.map UInt8.ofNat) : l = m := by
  have : ∀ k : List Nat, By k → (k.map UInt8.ofNat).map UInt8.toNat = k := by
    intro k hk
    rw [List.map_map]
    conv => rhs; rw [← List.map_id k]
    apply List.map_congr_left
    intro x hx
    have := hk x hx
    simp [Function.comp]; omega
  rw [← this l hl, ← this m hm, h]

def txD (d : D) : Option Value :=
  match d with
  | .nd (.sl _ es n) kids => if (es = 1 ∨ n = 0) ∧ kids.length = n then ob (bytesOf kids) (fun bs => some (.string ⟨bs.toArray⟩)) else none
  | _ => none
@[simp] theorem step_cvs (call : Oracle) (st : St) (dst : Nat) (x : MO) : step call st (.cvs dst x) = ob (rd st (ev st x)) (fun d => ob (txD d) (fun v => some (setv st dst (.sc v)))) := by
  show (match rd st (ev st x) with | some (.nd (.sl _ es n) kids) => _ | _ => _) = _
  cases rd st (ev st x) with
  | none => rfl
  | some d =>
    show _ = ob (txD d) _
    unfold txD
    cases d with
    | v y => rfl
    | hole y => rfl
    | nd k kids =>
      cases k with
      | sl b es n =>
        simp only
        split
        · cases bytesOf kids <;> rfl
        · rfl
      | _ => rfl
theorem txD_sl {b : Bool} {es n : Nat} {kids : List D} (h1 : es = 1) (h2 : kids.length = n) : txD (.nd (.sl b es n) kids) = ob (bytesOf kids) (fun bs => some (.string ⟨bs.toArray⟩)) := by
  simp only [txD]
  rw [if_pos ⟨.inl h1, h2⟩]
@[simp] theorem txD_g (b : Bool) (l : List Nat) : txD (gsl (eI .u8) b (zl l)) = some (.string ⟨(l.map UInt8.ofNat).toArray⟩) :=
  (txD_sl (b := b) (es := (eI .u8).es) (n := (zl l).length) (kids := gk (eI .u8) (zl l)) rfl (by rw [gk_len]; exact Nat.mul_one _)).trans (by rw [bytes_gk]; rfl)

/-- Bytes. -/
theorem f22 (call : Oracle) (fuel : Nat) (b c : Bool) (l m : List Nat) (hl : By l) (hm : By m) : callF call fuel c22 [gsl (eI .u8) b (zl l), gsl (eI .u8) c (zl m)] = some (.v (.bool (l == m))) := by
  rw [callF_tab call fuel c22 5 _ (by exact Nat.le_of_ble_eq_true rfl) (by exact Nat.le_of_ble_eq_true rfl)]
  have e : (l.map UInt8.ofNat == m.map UInt8.ofNat) = (l == m) := by
    by_cases h : l = m
    · subst h; simp
    · rw [beq_eq_false_iff_ne.2 h, beq_eq_false_iff_ne]
      exact fun h' => h (u8_inj hl hm h')
  simp [c22, e]
end Go.Mx
