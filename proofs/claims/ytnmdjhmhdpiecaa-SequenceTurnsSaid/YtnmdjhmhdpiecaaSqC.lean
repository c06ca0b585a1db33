import Derived.Test.YtnmdjhmhdpiecaaSqB
/-
  Sequences: what may come next.
-/
namespace Go.Mx
set_option linter.unusedVariables false
set_option linter.unusedSimpArgs false
set_option linter.unusedSectionVars false
open Go

@[simp ↓ high] theorem isSc_g' {α : Type} (e : En α) (b : Bool) (l : List α) : isSc (gsl e b l) = false := rfl
@[simp ↓ high] theorem flat_g' {α : Type} (e : En α) (b : Bool) (l : List α) : flatOk (gsl e b l) = true := rfl
abbrev nV (n : Int) : D := .v (.int .i64 n)
abbrev bV (t : Bool) : D := .v (.bool t)
theorem wrapI {n : Int} (h1 : -9223372036854775808 ≤ n) (h2 : n < 9223372036854775808) : IntKind.i64.wrap n = n := wrap_eq ⟨h1, by omega⟩

/-! ### check -/
def chkI (n : Int) (a : List (Int × Int)) : Int := if validB n a = false then 1 else if 10 < n then 6 else if acyB n a = false then 11 else 0
theorem f35 (call : Oracle) (fuel : Nat) (b : Bool) (n : Int) (a : List (Int × Int)) (h44 : call 44 [nV n, sa b a] = some (bV (validB n a))) (h45 : call 45 [nV n, sa b a] = some (bV (acyB n a))) :
    callF call fuel c35 [nV n, sa b a] = some (nV (chkI n a)) := by
  rw [callF_tab call fuel c35 14 _ (by exact Nat.le_of_ble_eq_true rfl) (by exact Nat.le_of_ble_eq_true rfl)]
  unfold chkI
  generalize validB n a = v at *
  generalize acyB n a = w at *
  cases v with
  | false => simp [c35, h44]
  | true =>
    by_cases h : 10 < n
    · simp [c35, h44, h]
    · cases w <;> simp [c35, h44, h, h45]
theorem f15 (call : Oracle) (fuel : Nat) (b : Bool) (n : Int) (a : List (Int × Int)) (h38 : call 38 [nV n, sa b a] = some (bV (validB n a))) (h39 : call 39 [nV n, sa b a] = some (bV (acyB n a))) :
    callF call fuel c15 [nV n, sa b a] = some (nV (chkI n a)) := by
  rw [callF_tab call fuel c15 5 _ (by exact Nat.le_of_ble_eq_true rfl) (by exact Nat.le_of_ble_eq_true rfl)]
  unfold chkI
  generalize validB n a = v at *
  generalize acyB n a = w at *
  cases v with
  | false => simp [c15, h38]
  | true =>
    by_cases h : 10 < n
    · simp [c15, h38, h]
    · cases w <;> simp [c15, h38, h, h39]

/-! ### may a vertex come next -/
def rdy (a : NA) (s v : Nat) : Bool := !s.testBit v && a.all fun p => p.2 != v || s.testBit p.1
def addNeed (g : Nat → Nat) (p : Nat × Nat) : Nat → Nat := updF g p.2 (g p.2 ||| pw p.1)
def needG (a : NA) : Nat → Nat := a.foldl addNeed fun _ => 0
theorem needG_bit (a : NA) (v i : Nat) : (needG a v).testBit i = a.any fun p => p.2 == v && p.1 == i := by
  have : ∀ (a : NA) (g : Nat → Nat), (a.foldl addNeed g v).testBit i = ((g v).testBit i || a.any fun p => p.2 == v && p.1 == i) := by
    intro a
    induction a with
    | nil => intro g; simp
    | cons p a ih =>
      intro g
      rw [List.foldl_cons, ih, List.any_cons]
      unfold addNeed updF
      by_cases h : v = p.2
      · subst h
        rw [if_pos rfl, Nat.testBit_or, pw_bit]
        by_cases h2 : p.1 = i
        · simp [h2]
        · have h3 : (p.1 == i) = false := by simpa using h2
          simp [h2, h3]
      · have h' : (p.2 == v) = false := by simpa using fun e => h e.symm
        rw [if_neg h, h']
        simp
  rw [needG, this]
  simp
theorem needG_lt {n : Nat} {a : NA} (h : ∀ p ∈ a, p.1 < n ∧ p.2 < n) (v : Nat) : needG a v < 2 ^ n := by
  apply Nat.lt_pow_two_of_testBit
  intro i hi
  rw [needG_bit, List.any_eq_false]
  intro p hp
  have := h p hp
  simp
  omega
theorem rdy_need (a : NA) (s v : Nat) : rdy a s v = (!s.testBit v && decide (andN (needG a v) s = 0)) := by
  unfold rdy
  congr 1
  rw [Bool.eq_iff_iff, decide_eq_true_eq, List.all_eq_true]
  constructor
  · intro h
    apply Nat.eq_of_testBit_eq
    intro i
    rw [andN_bit, needG_bit, Nat.zero_testBit]
    cases hb : s.testBit i with
    | true => simp
    | false =>
      simp only [Bool.not_false, Bool.and_true]
      rw [List.any_eq_false]
      intro p hp
      have := h p hp
      simp only [Bool.or_eq_true, bne_iff_ne] at this
      simp only [Bool.and_eq_true, beq_iff_eq, not_and]
      rintro h1 rfl
      rcases this with h2 | h2
      · exact h2 h1
      · rw [hb] at h2; cases h2
  · intro h p hp
    simp only [Bool.or_eq_true, bne_iff_ne]
    by_cases h1 : p.2 = v
    · right
      have := congrArg (fun x => x.testBit p.1) h
      simp only [andN_bit, needG_bit, Nat.zero_testBit] at this
      have ha : (a.any fun q => q.2 == v && q.1 == p.1) = true := List.any_eq_true.2 ⟨p, hp, by simp [h1]⟩
      rw [ha] at this
      simpa using this
    · exact .inl h1

/-- A table as a tree. -/
abbrev tbD (n : Nat) (c d : Bool) (need ways : List Int) : D := .nd .ag [nV n, si c need, si d ways]
theorem f43 (call : Oracle) (fuel : Nat) (n : Nat) (a : NA) (c d : Bool) (w : List Int) (s v : Nat) (hn : n ≤ 10) (hv : v < n) (hs : s < 2 ^ n) (ha : ∀ p ∈ a, p.1 < n ∧ p.2 < n) :
    callB call fuel c43 [tbD n c d (zr n (needG a)) w, nV s, nV v] = some (bV (rdy a s v)) := by
  rw [callB_tab call fuel c43 7 _ rfl (by exact Nat.le_of_ble_eq_true rfl) (by exact Nat.le_of_ble_eq_true rfl)]
  have hp : (2 : Nat) ^ n ≤ 2 ^ 10 := Nat.pow_le_pow_right (by decide) hn
  have h63 : s < 2 ^ 63 := by omega
  have e1 : shiftBin .shr .i64 (s : Int) (v : Int) = some (.int .i64 ((srn s v : Nat) : Int)) := bits_shr .i64 s v (by show v ≤ 64; omega)
  have e2 := bits_bit .i64 (s := s) h63 v
  have e3 : intBin .andNot .i64 ((needG a v : Nat) : Int) (s : Int) = some (.int .i64 ((andN (needG a v) s : Nat) : Int)) := bits_andN .i64 (by have := needG_lt ha v; show _ < 2 ^ 63; omega) h63
  have e4 := zr_nth n (needG a) hv
  rw [rdy_need]
  cases hb : s.testBit v with
  | true =>
    rw [hb] at e2
    simp [c43, e1, e2]
  | false =>
    rw [hb] at e2
    simp [c43, e1, e2, hv, e4, e3]
    rw [Bool.eq_iff_iff]
    simp
theorem loop42 (call : Oracle) (fuel : Nat) (b : Bool) (a : NA) (hl : a.length ≤ 1000) (s v : Nat) (n : Nat) (hn : n ≤ 10) (hs : s < 2 ^ n) (ha : ∀ p ∈ a, p.1 < n ∧ p.2 < n) (fu : Nat) (hf : 1000 < fu) (st : St)
    (h0 : drops st h42_0 = L42_0 (.ro (sa b (arcsZ a))) (ii s) (ii v) (ii 0)) :
    run.loopN (run call fuel b42_0) fu st = some (if (List.range a.length).any (fun i => (nth a (0, 0) i).2 == v && !s.testBit (nth a (0, 0) i).1) = true then (.ret, R42 (bb false)) else (.ex 0, X42_0)) := by
  have hp : (2 : Nat) ^ n ≤ 2 ^ 10 := Nat.pow_le_pow_right (by decide) hn
  have h63 : s < 2 ^ 63 := by omega
  refine loop_any call fuel h42_0 _ a.length (fun i => (nth a (0, 0) i).2 == v && !s.testBit (nth a (0, 0) i).1) (fun i => L42_0 (.ro (sa b (arcsZ a))) (ii s) (ii v) (ii i)) (.ret, R42 (bb false)) (.ex 0, X42_0) (by simp) (by simp) ?_ (by simp) fu st (by rw [h0]; rfl) (by omega)
  intro i hi _
  have hw := wrap_succ (i := i) (by omega)
  have hv := ha _ (nth_mem (0, 0) hi)
  generalize hq : nth a (0, 0) i = p at *
  obtain ⟨x, y⟩ := p
  have e1 : shiftBin .shr .i64 (s : Int) (x : Int) = some (.int .i64 ((srn s x : Nat) : Int)) := bits_shr .i64 s x (by have := hv.1; show x ≤ 64; simp at this; omega)
  have e2 := bits_bit .i64 (s := s) h63 x
  by_cases c1 : y = v
  · subst c1
    cases hb : s.testBit x with
    | true =>
      rw [hb] at e2
      simp [hi, hw, hq, e1, e2]
    | false =>
      rw [hb] at e2
      simp [hi, hw, hq, e1, e2]
  · have c1' : (y == v) = false := by simpa using c1
    have c2 : ¬ (y : Int) = (v : Int) := by omega
    simp [hi, hw, hq, c1, c1', c2]
theorem f42 (call : Oracle) (fuel : Nat) (hF : 1000 < fuel) (b : Bool) (a : NA) (hl : a.length ≤ 1000) (s v : Nat) (n : Nat) (hn : n ≤ 10) (hv : v < n) (hs : s < 2 ^ n) (ha : ∀ p ∈ a, p.1 < n ∧ p.2 < n) :
    callF call fuel c42 [sa b (arcsZ a), nV s, nV v] = some (bV (rdy a s v)) := by
  rw [callF_tab call fuel c42 8 _ (by exact Nat.le_of_ble_eq_true rfl) (by exact Nat.le_of_ble_eq_true rfl)]
  have hp : (2 : Nat) ^ n ≤ 2 ^ 10 := Nat.pow_le_pow_right (by decide) hn
  have h63 : s < 2 ^ 63 := by omega
  have e1 : shiftBin .shr .i64 (s : Int) (v : Int) = some (.int .i64 ((srn s v : Nat) : Int)) := bits_shr .i64 s v (by show v ≤ 64; omega)
  have e2 := bits_bit .i64 (s := s) h63 v
  have hL := loop42 call fuel b a hl s v n hn hs ha fuel hF
  have hA : (List.range a.length).any (fun i => (nth a (0, 0) i).2 == v && !s.testBit (nth a (0, 0) i).1) = a.any fun p => p.2 == v && !s.testBit p.1 := any_nth a (0, 0) fun p => p.2 == v && !s.testBit p.1
  rw [hA] at hL
  have hR : rdy a s v = (!s.testBit v && !(a.any fun p => p.2 == v && !s.testBit p.1)) := by
    unfold rdy
    congr 1
    rw [Bool.eq_iff_iff]
    simp [Bool.or_eq_true]
    constructor
    · intro h x y hxy e
      rcases h x y hxy with h' | h'
      · exact absurd e h'
      · exact h'
    · intro h x y hxy
      by_cases e : y = v
      · exact .inr (h x y hxy e)
      · exact .inl e
  rw [hR]
  cases hb : s.testBit v with
  | true =>
    rw [hb] at e2
    simp [c42, e1, e2]
  | false =>
    rw [hb] at e2
    simp [c42, e1, e2]
    rw [hL _ (by simp)]
    cases a.any fun p => p.2 == v && !s.testBit p.1 <;> simp
end Go.Mx
