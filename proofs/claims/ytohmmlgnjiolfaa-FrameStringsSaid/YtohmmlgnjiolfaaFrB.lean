import Derived.Test.YtohmmlgnjiolfaaFrA
import Derived.Test.YtohmmlgnjiolfaaMxYb
/-
  Bytes as lists of numbers; checksums.
-/
namespace Go.Mx
set_option linter.unusedVariables false
set_option linter.unusedSimpArgs false
set_option linter.unusedSectionVars false
open Go

def zl (l : List Nat) : List Int := l.map fun (v : Nat) => (v : Int)
@[simp] theorem zl_len (l : List Nat) : (zl l).length = l.length := by simp [zl]
@[simp] theorem zl_nth (l : List Nat) (i : Nat) : nth (zl l) 0 i = ((nth l 0 i : Nat) : Int) := nth_map (fun (v : Nat) => (v : Int)) l 0 i
theorem zl_app (l m : List Nat) : zl (l ++ m) = zl l ++ zl m := by simp [zl]
@[simp] theorem zl_drop (l : List Nat) (n : Nat) : (zl l).drop n = zl (l.drop n) := by simp [zl]
@[simp] theorem zl_take (l : List Nat) (n : Nat) : (zl l).take n = zl (l.take n) := by simp [zl]
theorem zl_inj {l m : List Nat} : zl l = zl m ↔ l = m := by
  constructor
  · intro h
    have : (zl l).map Int.toNat = (zl m).map Int.toNat := by rw [h]
    simpa [zl, Function.comp_def] using this
  · rintro rfl; rfl

/-- Bytes. -/
def By (l : List Nat) : Prop := ∀ x ∈ l, x < 256
theorem By.nth {l : List Nat} (h : By l) (i : Nat) : nth l 0 i < 256 := by
  by_cases hi : i < l.length
  · exact h _ (nth_mem 0 hi)
  · simp [Go.Mx.nth, List.getElem?_eq_none (Nat.le_of_not_lt hi)]

def adS (s : Nat × Nat) (c : Nat) : Nat × Nat := ((s.1 + c) % 65521, (s.2 + (s.1 + c) % 65521) % 65521)
def adF (l : List Nat) : Nat × Nat := l.foldl adS (1, 0)
theorem adF_snoc (l : List Nat) (c : Nat) : adF (l ++ [c]) = adS (adF l) c := by simp [adF]
theorem take_snoc {l : List Nat} {i : Nat} (h : i < l.length) : l.take (i + 1) = l.take i ++ [nth l 0 i] := by rw [nth_get 0 h]; simp
theorem adF_lt (l : List Nat) : (adF l).1 < 65521 ∧ (adF l).2 < 65521 := by
  unfold adF
  have : ∀ (l : List Nat) (s : Nat × Nat), s.1 < 65521 ∧ s.2 < 65521 → (l.foldl adS s).1 < 65521 ∧ (l.foldl adS s).2 < 65521 := by
    intro l
    induction l with
    | nil => intro s h; exact h
    | cons c l ih => intro s _; exact ih _ ⟨Nat.mod_lt _ (by decide), Nat.mod_lt _ (by decide)⟩
  exact this l (1, 0) (by decide)

abbrev u3 (n : Nat) : V := .sc (.int .u32 (n : Int))

/-- Sums of numbers in machine words. -/
theorem wrap_plus (k : IntKind) {a b : Nat} (h : a + b < 2 ^ IntKind.top k) : k.wrap ((a : Int) + (b : Int)) = ((a + b : Nat) : Int) := by
  rw [← Int.natCast_add]; exact wrap_nat k h
theorem tmod_nat (a b : Nat) : (a : Int).tmod (b : Int) = ((a % b : Nat) : Int) := by
  rw [Int.tmod_eq_emod_of_nonneg (by omega)]; rfl
theorem tdiv_nat (a b : Nat) : (a : Int).tdiv (b : Int) = ((a / b : Nat) : Int) := by
  rw [Int.tdiv_eq_ediv_of_nonneg (by omega)]; rfl
theorem adS_u1 {s : Nat × Nat} {c : Nat} (h : s.1 < 65521) (hc : c < 256) : (IntKind.u32.wrap ((s.1 : Int) + IntKind.u32.wrap (c : Int))).tmod 65521 = (((adS s c).1 : Nat) : Int) := by
  rw [wrap_nat .u32 (n := c) (by simp [IntKind.top, IntKind.signed, IntKind.bits]; omega), wrap_plus .u32 (by simp [IntKind.top, IntKind.signed, IntKind.bits]; omega)]
  exact tmod_nat _ 65521
theorem adS_u2 {s : Nat × Nat} {c : Nat} (h : s.2 < 65521) : (IntKind.u32.wrap ((s.2 : Int) + (((adS s c).1 : Nat) : Int))).tmod 65521 = (((adS s c).2 : Nat) : Int) := by
  have : (adS s c).1 < 65521 := Nat.mod_lt _ (by decide)
  rw [wrap_plus .u32 (by simp [IntKind.top, IntKind.signed, IntKind.bits]; omega)]
  exact tmod_nat _ 65521
theorem adS_i1 {s : Nat × Nat} {c : Nat} (h : s.1 < 65521) (hc : c < 256) : (IntKind.i64.wrap ((s.1 : Int) + IntKind.i64.wrap (c : Int))).tmod 65521 = (((adS s c).1 : Nat) : Int) := by
  rw [wrap_nat .i64 (n := c) (by simp [IntKind.top, IntKind.signed, IntKind.bits]; omega), wrap_plus .i64 (by simp [IntKind.top, IntKind.signed, IntKind.bits]; omega)]
  exact tmod_nat _ 65521
theorem adS_i2 {s : Nat × Nat} {c : Nat} (h : s.2 < 65521) : (IntKind.i64.wrap ((s.2 : Int) + (((adS s c).1 : Nat) : Int))).tmod 65521 = (((adS s c).2 : Nat) : Int) := by
  have : (adS s c).1 < 65521 := Nat.mod_lt _ (by decide)
  rw [wrap_plus .i64 (by simp [IntKind.top, IntKind.signed, IntKind.bits]; omega)]
  exact tmod_nat _ 65521

theorem loop11 (call : Oracle) (fuel : Nat) (b : Bool) (l : List Nat) (hb : By l) (hl : l.length ≤ 20000) (fu : Nat) (hf : 20000 < fu) (st : St)
    (h0 : drops st h11_0 = L11_0 (.ro (gsl (eI .u8) b (zl l))) (.sc (.int .u32 1)) (.sc (.int .u32 0)) (.ro (gsl (eI .u8) b (zl l))) (ii l.length) (ii 0)) :
    run.loopN (run call fuel b11_0) fu st = some (.ex 0, X11_0 (u3 (adF l).1) (u3 (adF l).2)) := by
  refine loop_cnt call fuel h11_0 _ l.length (fun i => L11_0 (.ro (gsl (eI .u8) b (zl l))) (u3 (adF (l.take i)).1) (u3 (adF (l.take i)).2) (.ro (gsl (eI .u8) b (zl l))) (ii l.length) (ii i)) _ (by simp) ?_ (by simp) fu st (by rw [h0]; rfl) (by omega)
  intro i hi
  have hw := wrap_succ (i := i) (by omega)
  have hc := hb.nth i
  have hx := adF_lt (l.take i)
  rw [take_snoc hi, adF_snoc]
  generalize adF (l.take i) = s at *
  generalize hq : nth l 0 i = c at *
  have e1 := adS_u1 hx.1 hc
  have e2 := adS_u2 (c := c) hx.2
  simp [hi, hw, hq, e1, e2]

theorem loop12 (call : Oracle) (fuel : Nat) (b : Bool) (l : List Nat) (hb : By l) (hl : l.length ≤ 20000) (fu : Nat) (hf : 20000 < fu) (st : St)
    (h0 : drops st h12_0 = L12_0 (.ro (gsl (eI .u8) b (zl l))) (ii 1) (ii 0) (ii 0)) :
    run.loopN (run call fuel b12_0) fu st = some (.ex 0, X12_0 (ii (adF l).1) (ii (adF l).2)) := by
  refine loop_cnt call fuel h12_0 _ l.length (fun i => L12_0 (.ro (gsl (eI .u8) b (zl l))) (ii (adF (l.take i)).1) (ii (adF (l.take i)).2) (ii i)) _ (by simp) ?_ (by simp) fu st (by rw [h0]; rfl) (by omega)
  intro i hi
  have hw := wrap_succ (i := i) (by omega)
  have hc := hb.nth i
  have hx := adF_lt (l.take i)
  rw [take_snoc hi, adF_snoc]
  generalize adF (l.take i) = s at *
  generalize hq : nth l 0 i = c at *
  have e1 := adS_i1 hx.1 hc
  have e2 := adS_i2 (c := c) hx.2
  simp [hi, hw, hq, e1, e2]

/-- A number moved up. -/
def shn (s t : Nat) : Nat := s <<< t
theorem bits_shl (k : IntKind) {s t : Nat} (ht : t ≤ IntKind.top k) (h : s * 2 ^ t < 2 ^ IntKind.top k) : shiftBin .shl k (s : Int) (t : Int) = some (.int k ((shn s t : Nat) : Int)) := by
  have h1 : ¬ (t : Int) < 0 := by omega
  have h2 : min (t : Int).toNat k.bits = t := by
    have : IntKind.top k ≤ k.bits := by cases k <;> decide
    simp; omega
  simp only [shiftBin, h1, if_false, h2]
  have : ((s : Int) * 2 ^ t : Int) = ((s * 2 ^ t : Nat) : Int) := by simp
  rw [this, wrap_nat k h, shn, Nat.shiftLeft_eq]

theorem shn_or (a t b : Nat) (h : b < 2 ^ t) : shn a t ||| b = a * 2 ^ t + b := by
  rw [shn, ← Nat.shiftLeft_add_eq_or_of_lt h, Nat.shiftLeft_eq]
def adV (s : Nat × Nat) : Nat := s.2 * 65536 + s.1
def adler (l : List Nat) : Nat := adV (adF l)
theorem adler_lt (l : List Nat) : adler l < 4294967296 := by
  have := adF_lt l
  unfold adler adV; omega

/-- Adler. -/
theorem f11 (call : Oracle) (fuel : Nat) (hf : 20000 < fuel) (b : Bool) (l : List Nat) (hb : By l) (hl : l.length ≤ 20000) : callF call fuel c11 [gsl (eI .u8) b (zl l)] = some (.v (.int .u32 ((adler l : Nat) : Int))) := by
  rw [callF_tab call fuel c11 10 _ (by exact Nat.le_of_ble_eq_true rfl) (by exact Nat.le_of_ble_eq_true rfl)]
  simp [c11]
  rw [loop11 call fuel b l hb hl fuel hf _ (by simp)]
  have hx := adF_lt l
  unfold adler
  generalize adF l = s at *
  have e1 : shiftBin .shl .u32 (s.2 : Int) 16 = some (.int .u32 ((shn s.2 16 : Nat) : Int)) := bits_shl .u32 (t := 16) (by decide) (by simp [IntKind.top, IntKind.signed, IntKind.bits]; omega)
  have e3 : shn s.2 16 ||| s.1 = adV s := shn_or s.2 16 s.1 (by omega)
  have e2 : intBin .or .u32 ((shn s.2 16 : Nat) : Int) (s.1 : Int) = some (.int .u32 ((adV s : Nat) : Int)) := by
    have hA : shn s.2 16 < 2 ^ 32 := by unfold shn; rw [Nat.shiftLeft_eq]; omega
    have hB : s.1 < 2 ^ 32 := by omega
    rw [← e3]
    exact bits_or (k := .u32) hA hB
  simp [e1, e2]
/-- Adler of the reference. -/
theorem f12 (call : Oracle) (fuel : Nat) (hf : 20000 < fuel) (b : Bool) (l : List Nat) (hb : By l) (hl : l.length ≤ 20000) : callF call fuel c12 [gsl (eI .u8) b (zl l)] = some (.v (.int .u32 ((adler l : Nat) : Int))) := by
  rw [callF_tab call fuel c12 6 _ (by exact Nat.le_of_ble_eq_true rfl) (by exact Nat.le_of_ble_eq_true rfl)]
  simp [c12]
  rw [loop12 call fuel b l hb hl fuel hf _ (by simp)]
  have hx := adF_lt l
  unfold adler
  generalize adF l = s at *
  have e : IntKind.u32.wrap (IntKind.i64.wrap (IntKind.i64.wrap ((s.2 : Int) * 65536) + (s.1 : Int))) = ((adV s : Nat) : Int) := by
    have h1 : (s.2 : Int) * 65536 = ((s.2 * 65536 : Nat) : Int) := by simp
    rw [h1, wrap_nat .i64 (by simp [IntKind.top, IntKind.signed, IntKind.bits]; omega), wrap_plus .i64 (by simp [IntKind.top, IntKind.signed, IntKind.bits]; omega), wrap_nat .u32 (by simp [IntKind.top, IntKind.signed, IntKind.bits]; omega)]
    rfl
  simp [e]
end Go.Mx
