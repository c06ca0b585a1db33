import Derived.Test.YtigplgminjhgmaaJoG
/-
  Journals: they are cut; entries that are few.
-/
namespace Go.Mx
set_option linter.unusedVariables false
set_option linter.unusedSimpArgs false
set_option linter.unusedSectionVars false
open Go

theorem jb_take (es : ES) {n : Nat} : (jbL es).take (bgN es n) = jbL (es.take n) := by
  have e1 : jbL es = jbL (es.take n) ++ (es.drop n).flatMap fun e => sealL e.1 e.2 := by
    unfold jbL
    rw [List.append_assoc, ← List.flatMap_append, List.take_append_drop]
  conv => lhs; rw [e1]
  unfold bgN
  rw [List.take_left' rfl]
theorem je_take (es : ES) {n : Nat} (h : n ≤ es.length) : (jeL es).take n = jeL (es.take n) := by
  refine ext_nth 0 (by simp) fun i hi => ?_
  have hi' : i < n := by simp at hi; omega
  rw [nth_take0 _ _ hi', je_nth es (by omega), je_nth _ (by simp; omega), List.take_take]
  congr 3
  omega
def ctD (b : Bool) (es : ES) (n : Int) : D := if 0 ≤ n ∧ n ≤ es.length then .nd .tu [nV 0, jD b (es.take n.toNat)] else .nd .tu [nV 7, jD b es]
theorem f23 (call : Oracle) (fuel : Nat) (b : Bool) (es : ES) (hb : b = true → es = []) (n : Int) (h36 : ∀ i : Nat, i ≤ es.length → call 36 [jD b es, nV i] = some (nV (bgN es i))) :
    callI call fuel c23 (jD b es) [nV n] = some (ctD b es n) := by
  rw [callI_tab call fuel c23 9 _ _ (by exact Nat.le_of_ble_eq_true rfl) (by exact Nat.le_of_ble_eq_true rfl) (by rfl) (by rfl) (by rfl)]
  unfold ctD
  by_cases h0 : n < 0
  · rw [if_neg (by omega)]
    simp [c23, h0]
  · by_cases h1 : (es.length : Int) < n
    · rw [if_neg (by omega)]
      simp [c23, h0, h1]
    · rw [if_pos ⟨by omega, by omega⟩]
      obtain ⟨j, rfl⟩ : ∃ j : Nat, n = (j : Int) := ⟨n.toNat, by omega⟩
      have hj : j ≤ es.length := by omega
      have g1 := h36 j hj
      have g2 : bgN es j ≤ (jbL es).length := jb_take_le es j
      have g3 := jb_take es (n := j)
      have g4 := je_take es hj
      rw [Int.toNat_natCast]
      cases b with
      | true =>
        have := hb rfl
        subst this
        have : j = 0 := by simpa using hj
        subst this
        have g1' : call 36 [jD true [], nV 0] = some (nV 5) := g1
        have g5 : 5 ≤ (jbL ([] : ES)).length := by decide
        have g7 : (jbL ([] : ES)).take 5 = jbL [] := rfl
        have g6 : jeL ([] : ES) = [] := rfl
        simp [c23, g1', g5, g6, g7]
        rfl
      | false => simp [c23, h0, h1, hj, g1, g2, g3, g4]

@[simp] theorem E_slP (r : Nat) (p : List Nat) (lo hi : Option Nat) (b : Bool) (l : List EN) : slP r p 2 lo hi (gsl eE b l) = if lo.getD 0 ≤ hi.getD l.length ∧ hi.getD l.length ≤ l.length then some (if b then .ro (.nd (.sl true 2 0) []) else .sub r p (lo.getD 0 * 2) 2 (hi.getD l.length - lo.getD 0)) else none := slP_ge eE r p lo hi b l
@[simp] theorem E_subD (n : Nat) (l : List EN) : subD 0 2 n (gsl eE false l) = if n ≤ l.length then some (gsl eE false (l.take n)) else none := by
  have := subD_ge eE 0 n l
  rw [Nat.zero_mul, Nat.zero_add, List.drop_zero] at this
  exact this
def eAp (n : Nat) (q : D × St) : Option (Nat × List D × St) :=
  match q with
  | (.nd (.sl _ _ n') kids', st1) => if n' = n ∧ kids'.length = n * 2 ∧ kids'.all flatOk then some (n, kids', st1) else none
  | _ => none
@[simp] theorem eAp_g (n : Nat) (b : Bool) (l : List EN) (st : St) : eAp n (gsl eE b l, st) = if l.length = n then some (l.length, gk eE l, st) else none := by
  show (if l.length = n ∧ (gk eE l).length = n * 2 ∧ (gk eE l).all flatOk = true then some (n, gk eE l, st) else none) = _
  by_cases h : l.length = n
  · subst h
    rw [if_pos ⟨rfl, gk_len eE l, gk_flat eE l⟩, if_pos rfl]
  · rw [if_neg (fun hh => h hh.1), if_neg h]
@[simp] theorem E_apS (st : St) (v : V) (b : Bool) (l : List EN) : apS st 2 v (gsl eE b l) = if l = [] then some (0, [], st) else ob (Mx.take st v) (eAp l.length) := by
  have h1 := gk_len eE l
  have h2 := gk_flat eE l
  show (if (eE.es = 2 ∨ l.length = 0) ∧ (gk eE l).length = l.length * 2 then if (gk eE l).all flatOk = true then if (gk eE l).all isSc = true then some (l.length, gk eE l, st) else _ else none else none) = _
  rw [if_pos ⟨.inl rfl, h1⟩, if_pos h2]
  cases l with
  | nil => rfl
  | cons a l =>
    have h3 : (gk eE (a :: l)).all isSc = false := by simp [gk, eE]
    rw [h3, if_neg (by simp), if_neg (by simp)]
    cases Mx.take st v with
    | none => rfl
    | some q =>
      obtain ⟨d, s1⟩ := q
      cases d with
      | nd k kids => cases k <;> rfl
      | _ => rfl
def ctW (b : Bool) (es : ES) (n : Int) : D := if 0 ≤ n ∧ n ≤ es.length then .nd .tu [nV 0, wD false (es.take n.toNat)] else .nd .tu [nV 7, wD b es]
theorem wE_take (es : ES) (n : Nat) : wE (es.take n) = (wE es).take n := by simp [wE]
theorem f24 (call : Oracle) (fuel : Nat) (b : Bool) (es : ES) (hb : b = true → es = []) (n : Int) (hl : es.length ≤ 10000) :
    callI call fuel c24 (wD b es) [nV n] = some (ctW b es n) := by
  rw [callI_tab call fuel c24 5 _ _ (by exact Nat.le_of_ble_eq_true rfl) (by exact Nat.le_of_ble_eq_true rfl) (by rfl) (by rfl) (by rfl)]
  unfold ctW
  by_cases h0 : n < 0
  · rw [if_neg (by omega)]
    simp [c24, h0]
  · by_cases h1 : (es.length : Int) < n
    · rw [if_neg (by omega)]
      simp [c24, h0, h1]
    · rw [if_pos ⟨by omega, by omega⟩]
      obtain ⟨j, rfl⟩ : ∃ j : Nat, n = (j : Int) := ⟨n.toNat, by omega⟩
      have hj : j ≤ es.length := by omega
      rw [Int.toNat_natCast]
      have hm : j ≤ most := by unfold most; omega
      cases b with
      | true =>
        have := hb rfl
        subst this
        have : j = 0 := by simpa using hj
        subst this
        simp [c24, h0, h1]
        rfl
      | false =>
        rw [show wD false (es.take j) = .nd (.bx false) [sE false ((wE es).take j)] from by unfold wD; rw [wE_take]]
        by_cases hz : j = 0
        · subst hz
          simp [c24, h0, h1]
          rfl
        · have h2 : ¬ (wE es).take j = [] := by
            intro h
            have := congrArg List.length h
            rw [List.length_take, wE_len, List.length_nil] at this
            omega
          have h3 : ((wE es).take j).length = j := by rw [List.length_take, wE_len]; omega
          have h4 : T.nd (K.sl false 2 j) (gk eE ((wE es).take j)) = sE false ((wE es).take j) := by
            unfold sE gsl
            rw [h3]
            rfl
          simp [c24, h0, h1, hj, h2, hm, hz, h4]

/-! ### few entries -/
def mnL (l : List EN) : Nat → Nat
  | 0 => 0
  | i + 1 => mnL l i + min (nth l (0, (true, [])) i).2.2.length 10000
def fewB (l : List EN) : Bool := decide (l.length ≤ 30) && decide (mnL l (min l.length 50) ≤ 1000)
theorem mn_le (l : List EN) : ∀ i, mnL l i ≤ i * 10000
  | 0 => Nat.le_refl _
  | i + 1 => by have := mn_le l i; simp only [mnL]; omega
theorem mn_mono (l : List EN) (i : Nat) : ∀ j, mnL l i ≤ mnL l (i + j)
  | 0 => Nat.le_refl _
  | j + 1 => Nat.le_trans (mn_mono l i j) (by show mnL l (i + j) ≤ mnL l (i + j) + _; omega)
theorem few_ok {l : List EN} (h : fewB l = true) : l.length ≤ 30 ∧ ∀ e ∈ l, e.2.2.length ≤ 1000 := by
  unfold fewB at h
  simp only [Bool.and_eq_true, decide_eq_true_eq] at h
  refine ⟨h.1, fun e he => ?_⟩
  obtain ⟨i, hi, rfl⟩ := List.mem_iff_getElem.1 he
  rw [show min l.length 50 = l.length by omega] at h
  have h1 := mn_mono l (i + 1) (l.length - (i + 1))
  rw [show i + 1 + (l.length - (i + 1)) = l.length by omega] at h1
  have h2 : mnL l (i + 1) = mnL l i + min (nth l (0, (true, [])) i).2.2.length 10000 := rfl
  rw [nth_get _ hi] at h2
  omega
theorem loop11 (call : Oracle) (fuel : Nat) (b : Bool) (l : List EN) (fu : Nat) (hf : 20000 < fu) (st : St)
    (h0 : drops st h11_0 = L11_0 (.ro (sE b l)) (ii 0) (ii 0)) :
    run.loopN (run call fuel b11_0) fu st = some (.ex 0, X11_0 (.ro (sE b l)) (ii (mnL l (min l.length 50)))) := by
  refine loop_cnt call fuel h11_0 _ (min l.length 50) (fun i => L11_0 (.ro (sE b l)) (ii (mnL l i)) (ii i)) _ (by simp) ?_ ?_ fu st (by rw [h0]; rfl) (by omega)
  · intro i hi
    have hi1 : i < l.length := by omega
    have hi2 : i < 50 := by omega
    have hw := wrap_succ (i := i) (by omega)
    have hm := mn_le l i
    have e1 : mnL l (i + 1) = mnL l i + min (nth l (0, (true, [])) i).2.2.length 10000 := rfl
    rw [e1]
    have hi3 : (i : Int) < 50 := by omega
    have hw2 : IntKind.i64.wrap (((mnL l i : Nat) : Int) + min (((nth l (0, (true, [])) i).2.2.length : Nat) : Int) 10000) = ((mnL l i + min (nth l (0, (true, [])) i).2.2.length 10000 : Nat) : Int) := by
      rw [wrap_eq (by unfold I64; omega)]; omega
    generalize mnL l i = s at *
    generalize s + min (nth l (0, (true, [])) i).2.2.length 10000 = s2 at *
    simp [hi1, hi2, hi3, hw, hw2]
  · by_cases h : l.length < 50
    · rw [show min l.length 50 = l.length by omega]
      simp
    · rw [show min l.length 50 = 50 by omega]
      simp
theorem f11 (call : Oracle) (fuel : Nat) (hF : 20000 < fuel) (b : Bool) (l : List EN) : callF call fuel c11 [sE b l] = some (bV (fewB l)) := by
  have L := loop11 call fuel b l fuel hF
  rw [callF_tab call fuel c11 5 _ (by exact Nat.le_of_ble_eq_true rfl) (by exact Nat.le_of_ble_eq_true rfl)]
  unfold fewB
  generalize mnL l (min l.length 50) = s at *
  simp [c11]
  rw [L _ (by simp)]
  by_cases h1 : l.length ≤ 30
  · have h1' : (l.length : Int) ≤ 30 := by omega
    have h2 : ((s : Int) ≤ 1000) = (s ≤ 1000) := by simp; omega
    simp [h1, h1', h2]
  · have h1' : ¬ (l.length : Int) ≤ 30 := by omega
    simp [h1, h1']
end Go.Mx
