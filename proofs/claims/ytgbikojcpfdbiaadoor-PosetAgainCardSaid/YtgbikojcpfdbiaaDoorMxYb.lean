import Derived.Test.YtgbikojcpfdbiaaDoorMxYa
/-
  Mx, part Yb: loops that look for something; lists by their places.
-/
namespace Go.Mx
set_option linter.unusedVariables false
set_option linter.unusedSimpArgs false
set_option linter.unusedSectionVars false
open Go

theorem elim_any {α : Type} (n : Nat) (stop : Nat → Bool) (r x : α) : ((List.range n).find? stop).elim r (fun _ => x) = if (List.range n).any stop = true then x else r := by
  cases h : (List.range n).find? stop with
  | none =>
    rw [List.find?_eq_none] at h
    have : (List.range n).any stop = false := by
      rw [List.any_eq_false]; exact h
    rw [this]; rfl
  | some i =>
    have h1 := List.find?_some h
    have h2 := List.mem_of_find?_eq_some h
    have : (List.range n).any stop = true := List.any_eq_true.2 ⟨i, h2, h1⟩
    rw [this]; rfl

/-- A counting loop that ends early in one way. -/
theorem loop_any (call : Oracle) (fuel : Nat) (h : List Bool) (c : MC) (n : Nat) (stop : Nat → Bool) (I : Nat → St) (out : Ex × St) (res : Ex × St) (hne : res.1 ≠ .norm) (hno : out.1 ≠ .norm)
    (hs : ∀ i, i < n → (∀ j, j < i → stop j = false) → nxt h (run call fuel c (I i)) = if stop i = true then some out else some (.norm, I (i + 1)))
    (he : nxt h (run call fuel c (I n)) = some res) :
    ∀ (fu : Nat) (st : St), drops st h = I 0 → n < fu → run.loopN (run call fuel (.seq (.scr h) c)) fu st = some (if (List.range n).any stop = true then out else res) := by
  intro fu st hd hf
  rw [loop_find call fuel h c n stop I (fun _ => out) res hne (fun _ => hno) hs (fun _ => he) fu st hd hf, elim_any]

theorem nth_get {α : Type} {l : List α} {i : Nat} (d : α) (h : i < l.length) : nth l d i = l[i] := by simp [nth, h]
theorem nth_mem {α : Type} {l : List α} {i : Nat} (d : α) (h : i < l.length) : nth l d i ∈ l := by rw [nth_get d h]; exact List.getElem_mem h
theorem nth_map {α β : Type} (f : α → β) (l : List α) (d : α) (i : Nat) : nth (l.map f) (f d) i = f (nth l d i) := by
  unfold nth
  rw [List.getD_eq_getElem?_getD, List.getElem?_map, List.getD_eq_getElem?_getD]
  cases l[i]? <;> rfl

theorem any_nth {α : Type} (l : List α) (d : α) (p : α → Bool) : (List.range l.length).any (fun i => p (nth l d i)) = l.any p := by
  rw [Bool.eq_iff_iff, List.any_eq_true, List.any_eq_true]
  constructor
  · rintro ⟨i, h1, h2⟩
    exact ⟨_, nth_mem d (List.mem_range.1 h1), h2⟩
  · rintro ⟨x, h1, h2⟩
    obtain ⟨i, hi, rfl⟩ := List.mem_iff_getElem.1 h1
    exact ⟨i, List.mem_range.2 hi, by rw [nth_get d hi]; exact h2⟩

theorem any_range (n : Nat) (p : Nat → Bool) : (List.range n).any p = false ↔ ∀ i, i < n → p i = false := by
  rw [List.any_eq_false]
  simp

theorem ext_nth {α : Type} {l m : List α} (d : α) (h : l.length = m.length) (k : ∀ i, i < l.length → nth l d i = nth m d i) : l = m := by
  apply List.ext_getElem h
  intro i h1 h2
  have := k i h1
  rwa [nth_get d h1, nth_get d h2] at this

/-- Two lists of one length are the same if no place differs. -/
theorem any_ne {α : Type} [BEq α] [LawfulBEq α] (l m : List α) (d : α) (h : l.length = m.length) : (List.range l.length).any (fun i => nth l d i != nth m d i) = !(l == m) := by
  by_cases e : l = m
  · subst e
    simp
  · have : (l == m) = false := by simpa using e
    rw [this]
    by_cases hx : (List.range l.length).any (fun i => nth l d i != nth m d i) = true
    · rw [hx]; rfl
    · exfalso
      apply e
      apply ext_nth d h
      intro i hi
      rw [Bool.not_eq_true, any_range] at hx
      simpa using hx i hi

@[simp] theorem cast_neg (u : Nat) : ((u : Int) < 0) = False := by simp
theorem wrap_succ {i : Nat} (h : (i : Int) < 9223372036854775807) : IntKind.i64.wrap ((i : Int) + 1) = ((i + 1 : Nat) : Int) := by
  rw [wrap_eq (by unfold I64; omega)]
  simp
theorem wrap_pred {i : Nat} (h : (i : Int) < 9223372036854775807) : natOf (IntKind.i64.wrap ((i : Int) - 1)) = if 0 < i then some (i - 1) else none := by
  rw [wrap_eq (by unfold I64; omega)]
  unfold natOf
  split <;> split <;> first | omega | rfl | (congr 1; omega)

/-! ### rows by their places -/
def row {α : Type} (n : Nat) (g : Nat → α) : List α := (List.range n).map g
def updF {α : Type} (g : Nat → α) (i : Nat) (y : α) : Nat → α := fun j => if j = i then y else g j
section
variable {α : Type} (n : Nat) (g : Nat → α)
@[simp] theorem row_len : (row n g).length = n := by simp [row]
theorem nth_row (d : α) {i : Nat} (h : i < n) : nth (row n g) d i = g i := by simp [nth, row, h]
@[simp] theorem row_set (i : Nat) (y : α) : (row n g).set i y = row n (updF g i y) := by
  apply List.ext_getElem?
  intro j
  by_cases hj : j < n
  · by_cases hi : j = i
    · subst hi
      rw [List.getElem?_set_self (by simpa using hj)]
      simp [row, hj, updF]
    · rw [List.getElem?_set_ne (Ne.symm hi)]
      simp [row, hj, updF, hi]
  · rw [List.getElem?_eq_none (by simpa using hj), List.getElem?_eq_none (by simpa using hj)]
theorem row_ext {g h : Nat → α} (e : ∀ i, i < n → g i = h i) : row n g = row n h := by
  unfold row
  apply List.map_congr_left
  intro i hi
  exact e i (List.mem_range.1 hi)
theorem row_rep (x : α) : List.replicate n x = row n (fun _ => x) := by
  apply List.ext_getElem <;> simp [row]
theorem row_nth (l : List α) (d : α) : l = row l.length (nth l d) := by
  apply List.ext_getElem
  · simp
  · intro i h1 h2; simp [row, nth, h1]
theorem row_succ : row (n + 1) g = row n g ++ [g n] := by simp [row, List.range_succ]
theorem row_map {β : Type} (f : α → β) : (row n g).map f = row n (fun i => f (g i)) := by simp [row]
end

/-! ### sets as the bits of a number -/
/-- What is in the first and not in the second. -/
def andN (a b : Nat) : Nat := a ^^^ (a &&& b)
theorem andN_bit (a b i : Nat) : (andN a b).testBit i = (a.testBit i && !b.testBit i) := by
  simp only [andN, Nat.testBit_xor, Nat.testBit_and]
  cases a.testBit i <;> cases b.testBit i <;> rfl
theorem andN_le (a b : Nat) : andN a b ≤ a := by
  have : andN a b = a &&& andN a b := by
    apply Nat.eq_of_testBit_eq
    intro i
    rw [Nat.testBit_and, andN_bit]
    cases a.testBit i <;> rfl
  rw [this]
  exact Nat.and_le_left

/-- The bits of a number without sign. -/
def IntKind.top (k : IntKind) : Nat := if k.signed then k.bits - 1 else k.bits

theorem wrap_nat (k : IntKind) {n : Nat} (h : n < 2 ^ IntKind.top k) : k.wrap (n : Int) = (n : Int) := by
  cases k <;> simp [IntKind.top, IntKind.wrap, IntKind.bits, IntKind.signed] at h ⊢ <;> omega

theorem top_le (k : IntKind) : 2 ^ IntKind.top k ≤ 2 ^ k.bits := by
  cases k <;> decide

theorem ofInt_nat (w n : Nat) : BitVec.ofInt w (n : Int) = BitVec.ofNat w n := by simp

section
variable (k : IntKind) {a b : Nat} (ha : a < 2 ^ IntKind.top k) (hb : b < 2 ^ IntKind.top k)
include ha hb
theorem bits_or : intBin .or k (a : Int) (b : Int) = some (.int k ((a ||| b : Nat) : Int)) := by
  have h1 := Nat.lt_of_lt_of_le ha (top_le k)
  have h2 := Nat.lt_of_lt_of_le hb (top_le k)
  show some (Value.int k (k.wrap ((BitVec.ofInt k.bits a ||| BitVec.ofInt k.bits b).toNat : Int))) = _
  rw [ofInt_nat, ofInt_nat, BitVec.toNat_or, BitVec.toNat_ofNat, BitVec.toNat_ofNat, Nat.mod_eq_of_lt h1, Nat.mod_eq_of_lt h2, wrap_nat k (Nat.or_lt_two_pow ha hb)]
theorem bits_and : intBin .and k (a : Int) (b : Int) = some (.int k ((a &&& b : Nat) : Int)) := by
  have h1 := Nat.lt_of_lt_of_le ha (top_le k)
  have h2 := Nat.lt_of_lt_of_le hb (top_le k)
  show some (Value.int k (k.wrap ((BitVec.ofInt k.bits a &&& BitVec.ofInt k.bits b).toNat : Int))) = _
  rw [ofInt_nat, ofInt_nat, BitVec.toNat_and, BitVec.toNat_ofNat, BitVec.toNat_ofNat, Nat.mod_eq_of_lt h1, Nat.mod_eq_of_lt h2, wrap_nat k (Nat.and_lt_two_pow a hb)]
theorem bits_andN : intBin .andNot k (a : Int) (b : Int) = some (.int k ((andN a b : Nat) : Int)) := by
  have h1 := Nat.lt_of_lt_of_le ha (top_le k)
  have h2 := Nat.lt_of_lt_of_le hb (top_le k)
  show some (Value.int k (k.wrap ((BitVec.ofInt k.bits a &&& ~~~ BitVec.ofInt k.bits b).toNat : Int))) = _
  have e : (BitVec.ofInt k.bits (a : Int) &&& ~~~ BitVec.ofInt k.bits (b : Int)) = BitVec.ofNat k.bits (andN a b) := by
    rw [ofInt_nat, ofInt_nat]
    apply BitVec.eq_of_getLsbD_eq
    intro i hi
    rw [BitVec.getLsbD_and, BitVec.getLsbD_not, BitVec.getLsbD_ofNat, BitVec.getLsbD_ofNat, BitVec.getLsbD_ofNat, andN_bit]
    simp only [hi, decide_true, Bool.true_and]
  rw [e, BitVec.toNat_ofNat, Nat.mod_eq_of_lt (Nat.lt_of_le_of_lt (andN_le a b) h1), wrap_nat k (Nat.lt_of_le_of_lt (andN_le a b) ha)]
end

/-- A power of two. -/
def pw (t : Nat) : Nat := 2 ^ t
/-- A number without its last bits. -/
def srn (s t : Nat) : Nat := s >>> t
theorem pw_lt {t m : Nat} (h : t < m) : pw t < 2 ^ m := Nat.pow_lt_pow_right (by omega) h
theorem pw_bit (t i : Nat) : (pw t).testBit i = decide (t = i) := by unfold pw; exact Nat.testBit_two_pow

theorem bits_shl1 (k : IntKind) {t : Nat} (h : t < IntKind.top k) : shiftBin .shl k 1 (t : Int) = some (.int k ((pw t : Nat) : Int)) := by
  have h1 : ¬ (t : Int) < 0 := by omega
  have h2 : min (t : Int).toNat k.bits = t := by
    have : IntKind.top k ≤ k.bits := by cases k <;> decide
    simp; omega
  simp only [shiftBin, h1, if_false, h2]
  have : (1 * 2 ^ t : Int) = ((2 ^ t : Nat) : Int) := by simp
  rw [this, wrap_nat k (Nat.pow_lt_pow_right (by omega) h)]; rfl

theorem bits_shr (k : IntKind) (s t : Nat) (h : t ≤ k.bits) : shiftBin .shr k (s : Int) (t : Int) = some (.int k ((srn s t : Nat) : Int)) := by
  have h1 : ¬ (t : Int) < 0 := by omega
  have h2 : min (t : Int).toNat k.bits = t := by simp; omega
  simp only [shiftBin, h1, if_false, h2]
  rw [Int.fdiv_eq_ediv_of_nonneg _ (by exact Int.le_of_lt (Int.pow_pos (by decide))), srn, Nat.shiftRight_eq_div_pow]
  simp

/-- A bit, as the program asks for it. -/
theorem bits_bit (k : IntKind) {s : Nat} (hs : s < 2 ^ IntKind.top k) (t : Nat) : intBin .and k ((srn s t : Nat) : Int) 1 = some (.int k (if s.testBit t then 1 else 0)) := by
  unfold srn
  have h : s >>> t < 2 ^ IntKind.top k := by
    rw [Nat.shiftRight_eq_div_pow]; exact Nat.lt_of_le_of_lt (Nat.div_le_self _ _) hs
  have h1 : 1 < 2 ^ IntKind.top k := by cases k <;> decide
  have := bits_and k h h1
  rw [show ((1 : Nat) : Int) = 1 from rfl] at this
  rw [this]
  have e : s >>> t &&& 1 = if s.testBit t then 1 else 0 := by
    rw [Nat.testBit, Nat.and_comm]
    by_cases hb : 1 &&& s >>> t = 0
    · simp [hb]
    · have : 1 &&& s >>> t = 1 := by
        have := Nat.and_le_left (n := 1) (m := s >>> t); omega
      simp [this]
  rw [e]
  cases s.testBit t <;> rfl

/-! ### arrays behind a pointer -/
theorem putCells_mid (r : Nat) (b : Bool) : ∀ (ds pr ks : List D) (st : St), st[r]? = some (.own (.nd (.bx b) (pr ++ ks))) → ks.length = ds.length → ks.all isSc = true → putCells r [] st pr.length ds = some (st.set r (.own (.nd (.bx b) (pr ++ ds))))
  | [], pr, ks, st, h, hl, _ => by
    have : ks = [] := List.length_eq_zero_iff.1 (by simpa using hl)
    subst this
    rw [putCells_nil, set_same st r _ h]
  | d :: ds, pr, [], st, h, hl, _ => by simp at hl
  | d :: ds, pr, k :: ks, st, h, hl, hs => by
    simp only [List.all_cons, Bool.and_eq_true] at hs
    obtain ⟨x, rfl⟩ : ∃ x, k = .v x := by
      cases k with
      | v x => exact ⟨x, rfl⟩
      | _ => simp [isSc] at hs
    rw [putCells_cons, h]
    simp only [roo_own, ob_some, getAt_nil', celA_nd, List.getElem?_append_right (Nat.le_refl _), Nat.sub_self, List.getElem?_cons_zero, killC_v, List.nil_append, setAt_cons, setC_some, setAt_nil']
    have e : (pr ++ T.v x :: ks).set pr.length d = (pr ++ [d]) ++ ks := by simp
    rw [e]
    have hlt : r < st.length := (List.getElem?_eq_some_iff.1 h).1
    have := putCells_mid r b ds (pr ++ [d]) ks (st.set r (.own (.nd (.bx b) ((pr ++ [d]) ++ ks)))) (List.getElem?_set_self hlt) (by simpa using hl) hs.2
    rw [List.length_append] at this
    simp only [List.length_cons, List.length_nil] at this
    rw [this]
    simp

/-- A whole array is overwritten. -/
def pbk {α : Type} (e : En α) (r : Nat) (st : St) (l : List α) (v : Option V) : Option St :=
  match v with
  | some (.own (.nd (.bx b) kids)) => if kids.length = (gk e l).length ∧ kids.all isSc = true then some (st.set r (.own (.nd (.bx b) (gk e l)))) else putCells r [] st 0 (gk e l)
  | _ => putCells r [] st 0 (gk e l)
@[congr] theorem pbk_congr {α : Type} {e : En α} {r : Nat} {st st' : St} {l : List α} {v v' : Option V} (h : ∀ _ : Unit, v = v') (h2 : ∀ _ : Unit, st = st') : pbk e r st l v = pbk e r st' l v' := by rw [h (), h2 ()]
@[simp] theorem putCells_gk {α : Type} (e : En α) (r : Nat) (st : St) (l : List α) : putCells r [] st 0 (gk e l) = pbk e r st l st[r]? := by
  unfold pbk
  split
  · rename_i b kids h
    split
    · rename_i hc
      exact putCells_mid r b (gk e l) [] kids st h hc.1 hc.2
    · rfl
  · rfl
@[simp, simp ↓] theorem pbk_gbx {α : Type} (e : En α) (r : Nat) (st : St) (l m : List α) (h : (gk e m).all isSc = true) : pbk e r st l (some (.own (gbx e m))) = if m.length = l.length then some (st.set r (.own (gbx e l))) else putCells r [] st 0 (gk e l) := by
  have e1 : m.length * e.es = l.length * e.es ↔ m.length = l.length := Nat.mul_left_inj (by have := e.pos; omega)
  simp only [pbk, gbx, gk_len, h, and_true, e1]
def zB (n : Nat) : List Bool := List.replicate n false
@[simp] theorem zB_len (n : Nat) : (zB n).length = n := by simp [zB]
@[simp] theorem gbx_B (n : Nat) : T.nd (K.bx false) (rp n (.v (.bool false))) = gbx eB (zB n) := by
  unfold gbx gk rp zB
  rw [List.flatMap, List.map_replicate]
  congr 1
  induction n with
  | zero => rfl
  | succ n ih => rw [List.replicate_succ, List.replicate_succ, List.flatten_cons, ← ih]; rfl
@[simp] theorem noMem_B (l : List Bool) : noMemL (gk eB l) = true := by
  induction l with
  | nil => rfl
  | cons a l ih => exact ih
attribute [simp] sc_B sc_I gk_flat
@[simp] theorem gkB_len (l : List Bool) : (gk eB l).length = l.length := by rw [gk_len]; simp [eB]
@[simp] theorem agB_gbx {α : Type} (e : En α) (r : Nat) (p : List Nat) (m : Nat) (l : List α) : agB r p m (gbx e l) = aggV r p (gk e l) 0 m := rfl
@[simp] theorem aggV_B (r : Nat) (p : List Nat) (m : Nat) (l : List Bool) : aggV r p (gk eB l) 0 m = if m ≤ l.length then some (.ro (.nd .ag (gk eB (l.take m)))) else none := by
  have := gk_take eB l m
  rw [show m * eB.es = m by simp [eB]] at this
  rw [aggV_eq, gkB_len]
  simp only [List.drop_zero, this, sc_B, if_true, Nat.zero_add]

/-! ### square tables of truth values -/
def mat (m : Nat) (t : Nat → Nat → Bool) : List Bool := row (m * m) (fun k => t (k / m) (k % m))
def updM (t : Nat → Nat → Bool) (i j : Nat) (y : Bool) : Nat → Nat → Bool := fun a b => if a = i ∧ b = j then y else t a b
theorem mat_len (m : Nat) (t : Nat → Nat → Bool) : (mat m t).length = m * m := row_len _ _
theorem mat_lt {m i j : Nat} (hi : i < m) (hj : j < m) : i * m + j < m * m := by
  have : (i + 1) * m ≤ m * m := Nat.mul_le_mul_right m hi
  rw [Nat.succ_mul] at this; omega
theorem mat_div {m i j : Nat} (hj : j < m) : (i * m + j) / m = i := by
  rw [Nat.mul_comm, Nat.mul_add_div (by omega), Nat.div_eq_of_lt hj]; omega
theorem mat_mod {m i j : Nat} (hj : j < m) : (i * m + j) % m = j := by
  rw [Nat.mul_comm, Nat.mul_add_mod, Nat.mod_eq_of_lt hj]
theorem mat_nth {m i j : Nat} (t : Nat → Nat → Bool) (hi : i < m) (hj : j < m) : nth (mat m t) false (i * m + j) = t i j := by
  rw [mat, nth_row _ _ _ (mat_lt hi hj), mat_div hj, mat_mod hj]
theorem mat_set {m i j : Nat} (t : Nat → Nat → Bool) (y : Bool) (hi : i < m) (hj : j < m) : (mat m t).set (i * m + j) y = mat m (updM t i j y) := by
  unfold mat
  rw [row_set]
  apply row_ext
  intro k hk
  simp only [updF, updM]
  have hm : k = k / m * m + k % m := by rw [Nat.mul_comm]; exact (Nat.div_add_mod k m).symm
  by_cases h : k = i * m + j
  · subst h; simp [mat_div hj, mat_mod hj]
  · rw [if_neg h, if_neg]
    rintro ⟨h1, h2⟩
    rw [h1, h2] at hm
    exact h hm
theorem mat_ext {m : Nat} {t u : Nat → Nat → Bool} (h : ∀ i j, i < m → j < m → t i j = u i j) : mat m t = mat m u := by
  apply row_ext
  intro k hk
  have hm : 0 < m := by
    rcases Nat.eq_zero_or_pos m with h0 | h0
    · subst h0; simp at hk
    · exact h0
  exact h _ _ (Nat.div_lt_of_lt_mul hk) (Nat.mod_lt _ hm)

/-! ### functions that begin by putting slices into memory -/
def codeB : MC → MC
  | .seq (.ops l) y => .seq (.ops (l.drop (leadM l).length)) y
  | c => c
def leadC : MC → List (Nat × Nat)
  | .seq (.ops l) _ => leadM l
  | _ => []
@[simp] theorem codeB_seq (l : List MG) (y : MC) : codeB (.seq (.ops l) y) = .seq (.ops (l.drop (leadM l).length)) y := rfl
@[simp] theorem leadC_seq (l : List MG) (y : MC) : leadC (.seq (.ops l) y) = leadM l := rfl
@[simp] theorem leadM_nil : leadM [] = [] := rfl
@[simp] theorem leadM_sl0 (d p : Nat) (l : List MG) : leadM (⟨none, .sl0 d 0 (.t p)⟩ :: l) = (d, p) :: leadM l := rfl
@[simp] theorem leadM_asg (d : Nat) (x : MO) (l : List MG) : leadM (⟨none, .asg d x⟩ :: l) = [] := rfl
@[simp] theorem leadM_box (d : Nat) (x : MO) (l : List MG) : leadM (⟨none, .box d x⟩ :: l) = [] := rfl
@[simp] theorem leadM_alc (d : Nat) (z : List D) (l : List MG) : leadM (⟨none, .alc d z⟩ :: l) = [] := rfl
def boxW (o : Option D) : V :=
  match o with
  | some d => if (cellsOfD d).all flatOk then .ro (.nd (.bx false) (cellsOfD d)) else .dead
  | none => .dead
@[simp] theorem boxW_ag (kids : List D) : boxW (some (.nd .ag kids)) = if kids.all flatOk = true then .ro (.nd (.bx false) kids) else .dead := rfl
theorem boxV_eq (ds : List D) (p : Nat) : boxV ds p = boxW ds[p]? := rfl
@[simp] theorem boxW_g {α : Type} (e : En α) (b : Bool) (l : List α) : boxW (some (gsl e b l)) = .ro (.nd (.bx false) [gsl e b l]) := rfl
@[simp] theorem enterB_nil (ds : List D) (st : St) : enterB ds [] st = st := rfl
@[simp] theorem enterB_cons (ds : List D) (d p : Nat) (bs : List (Nat × Nat)) (st : St) : enterB ds ((d, p) :: bs) st = enterB ds bs (st.set d (boxW ds[p]?)) := rfl
theorem callB_tab (call : Oracle) (fuel : Nat) (mf : MF) (K : Nat) (ds : List D) (hb : hasB mf.code = true) (h : ds.length ≤ mf.ntmps) (hk : ds.length ≤ K) :
    callB call fuel mf ds = fk (run call fuel (codeB mf.code) (enterB ds (leadC mf.code) (tab mf.ntmps K (entF ds) un'))) (fun st => resF st mf.res) := by
  rw [← enter_tab mf K ds h hk]
  unfold callB
  cases hc : mf.code with
  | seq a y =>
    cases a with
    | ops l =>
      simp only [codeB_seq, leadC_seq]
      cases run call fuel (.seq (.ops (l.drop (leadM l).length)) y) (enterB ds (leadM l) (enterF mf ds)) with
      | none => rfl
      | some q =>
        obtain ⟨e, st⟩ := q
        cases e <;> rfl
    | _ => rw [hc] at hb; simp [hasB] at hb
  | _ => rw [hc] at hb; simp [hasB] at hb

end Go.Mx
