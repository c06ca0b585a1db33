import Derived.Test.YtgbikojcpfdbiaaPoD
/-
  Order: the program's and the reference's.
-/
namespace Go.Mx
set_option linter.unusedVariables false
set_option linter.unusedSimpArgs false
set_option linter.unusedSectionVars false
open Go

theorem f23 (call : Oracle) (fuel : Nat) (hf : 1000 < fuel) (b : Bool) (n : Int) (a : List (Int × Int)) (hl : a.length ≤ 1000)
    (h21 : call 21 [.v (.int .i64 n), sa b a] = some (.v (.bool (validB n a)))) (h35 : validB n a = true → call 35 [.v (.int .i64 n), sa b a] = some (tabD (rea n a))) :
    callF call fuel c23 [.v (.int .i64 n), sa b a] = some (.v (.bool (acyB n a))) := by
  rw [callF_tab call fuel c23 7 _ (by exact Nat.le_of_ble_eq_true rfl) (by exact Nat.le_of_ble_eq_true rfl)]
  by_cases hv : validB n a = true
  · obtain ⟨k, hk, hk2, _⟩ := valid_nat hv
    have e := h35 hv
    rw [hv] at h21
    have hm := mat_len 24 (tbl35 (rea n a))
    have el : ∀ st : St, drops st h23_0 = L23_0 (ii n) (.own (gbx eB (mat 24 (tbl35 (rea n a))))) (ii 0) → run.loopN (run call fuel b23_0) fuel st = some (if (List.range n.toNat).any (fun i => (rea n a i).testBit i) = true then (.ret, R23 (bb false)) else (.ex 0, X23_0)) := by
      intro st h0
      refine loop_any call fuel h23_0 _ n.toNat (fun i => (rea n a i).testBit i) (fun i => L23_0 (ii n) (.own (gbx eB (mat 24 (tbl35 (rea n a))))) (ii i)) _ _ (by simp) (by simp) ?_ (by simp; omega) fuel st h0 (by omega)
      intro i hi _
      have hw := wrap_succ (i := i) (by omega)
      have b1 : i < 24 := by omega
      have l1 : i * 24 + i < 576 := mat_lt (m := 24) b1 b1
      have e1 := mat_nth (m := 24) (tbl35 (rea n a)) b1 b1
      have hn : (i : Int) < n := by omega
      change _ = (rea n a i).testBit i at e1
      cases c : (rea n a i).testBit i <;> rw [c] at e1 <;> simp [hn, hw, b1, l1, hm, e1]
    unfold tabD at e
    simp [c23, h21, e, hm]
    rw [el _ (by simp)]
    simp only [acyB, hv, Bool.true_and]
    cases (List.range n.toNat).any (fun i => (rea n a i).testBit i) <;> simp
  · have hv' : validB n a = false := by simpa using hv
    rw [hv'] at h21
    simp [c23, h21, acyB, hv']

theorem f24 (call : Oracle) (fuel : Nat) (b : Bool) (n : Int) (a : List (Int × Int)) (i j : Int)
    (h21 : call 21 [.v (.int .i64 n), sa b a] = some (.v (.bool (validB n a)))) (h35 : validB n a = true → call 35 [.v (.int .i64 n), sa b a] = some (tabD (rea n a))) :
    callF call fuel c24 [.v (.int .i64 n), sa b a, .v (.int .i64 i), .v (.int .i64 j)] = some (.v (.bool (reachZ n a i j))) := by
  rw [callF_tab call fuel c24 10 _ (by exact Nat.le_of_ble_eq_true rfl) (by exact Nat.le_of_ble_eq_true rfl)]
  by_cases hv : validB n a = true
  · obtain ⟨k, hk, hk2, _⟩ := valid_nat hv
    have e := h35 hv
    rw [hv] at h21
    have hm := mat_len 24 (tbl35 (rea n a))
    by_cases hc : (0 ≤ i ∧ i < n) ∧ 0 ≤ j ∧ j < n
    · obtain ⟨⟨c1, c2⟩, c3, c4⟩ := hc
      obtain ⟨u, rfl⟩ := Int.eq_ofNat_of_zero_le c1
      obtain ⟨v, rfl⟩ := Int.eq_ofNat_of_zero_le c3
      have b1 : u < 24 := by omega
      have b2 : v < 24 := by omega
      have l1 : u * 24 + v < 576 := mat_lt (m := 24) b1 b2
      have e1 := mat_nth (m := 24) (tbl35 (rea n a)) b1 b2
      have d1 : ¬ n ≤ (u : Int) := by omega
      have d2 : ¬ n ≤ (v : Int) := by omega
      change _ = (rea n a u).testBit v at e1
      unfold tabD at e
      simp [c24, h21, e, hm, d1, d2, b1, b2, l1, e1, reachZ, hv, c2, c4]
    · have hr : reachZ n a i j = false := by
        simp only [reachZ, Bool.and_eq_false_iff, decide_eq_false_iff_not]
        omega
      rw [hr]
      simp [c24, h21]
      grind
  · have hv' : validB n a = false := by simpa using hv
    rw [hv'] at h21
    simp [c24, h21, reachZ, hv']

/-! ### order -/
def zl (l : List Nat) : List Int := l.map fun (v : Nat) => (v : Int)
@[simp] theorem zl_len (l : List Nat) : (zl l).length = l.length := by simp [zl]
theorem zl_snoc (l : List Nat) (v : Nat) : zl (l ++ [v]) = zl l ++ [(v : Int)] := by simp [zl]
theorem zl_any (l : List Nat) (v : Nat) : (zl l).any (· == (v : Int)) = l.contains v := by
  simp only [zl, List.any_map, List.contains_eq_any_beq]
  congr 1
  funext x
  simp only [Function.comp]
  rw [Bool.eq_iff_iff]
  simp
  omega
/-- A list that was made by appending. -/
abbrev so (l : List Nat) : D := si l.isEmpty (zl l)

theorem so_snoc (l : List Nat) (v : Nat) : so (l ++ [v]) = gsl (eI .i64) false (zl l ++ [(v : Int)]) := by
  have h : (l ++ [v]).isEmpty = false := by simp
  show gsl (eI .i64) (l ++ [v]).isEmpty (zl (l ++ [v])) = _
  rw [h, zl_snoc]

/-- Is a vertex next? -/
def freeB (a : NA) (out : List Nat) (v : Nat) : Bool := !out.contains v && a.all (fun p => p.2 != v || out.contains p.1)
/-- The order from some vertices on. -/
def ordL (n : Nat) (a : NA) : Nat → List Nat → Option (List Nat)
  | 0, out => some out
  | k + 1, out => match (List.range n).find? (freeB a out) with
    | some v => ordL n a k (out ++ [v])
    | none => none

def Has30 (call : Oracle) : Prop := ∀ (b : Bool) (l : List Nat) (v : Nat), l.length ≤ 1000 → call 30 [si b (zl l), .v (.int .i64 (v : Int))] = some (.v (.bool (l.contains v)))

theorem loop13_2 (call : Oracle) (fuel : Nat) (b : Bool) (n : Nat) (a : NA) (hl : a.length ≤ 1000) (out : List Nat) (ho : out.length ≤ 1000) (h30 : Has30 call) (nx : Int) (v : Nat) (fr : Bool) (fu : Nat) (hf : 1000 < fu) (st : St)
    (h0 : drops st h13_2 = L13_2 (ii n) (.ro (sa b (arcsZ a))) (.own (so out)) (ii nx) (ii v) (bb fr) (ii 0)) :
    run.loopN (run call fuel b13_2) fu st = some (.ex 4, X13_4 (ii n) (.ro (sa b (arcsZ a))) (.own (so out)) (ii nx) (ii v) (bb (fr && a.all (fun p => p.2 != v || out.contains p.1)))) := by
  refine loop_cnt call fuel h13_2 _ a.length (fun i => L13_2 (ii n) (.ro (sa b (arcsZ a))) (.own (so out)) (ii nx) (ii v) (bb (fr && (a.take i).all (fun p => p.2 != v || out.contains p.1))) (ii i)) _ (by simp) ?_ (by simp) fu st (by simpa using h0) (by omega)
  intro i hi
  have hw := wrap_succ (i := i) (by omega)
  rw [take_succ_nth (0, 0) hi, List.all_append]
  have hq : (fr && ((a.take i).all (fun p => p.2 != v || out.contains p.1) && [nth a (0, 0) i].all (fun p => p.2 != v || out.contains p.1))) = ((fr && (a.take i).all (fun p => p.2 != v || out.contains p.1)) && ((nth a (0, 0) i).2 != v || out.contains (nth a (0, 0) i).1)) := by
    rw [← Bool.and_assoc]; simp only [List.all_cons, List.all_nil, Bool.and_true]
  rw [hq]
  generalize (fr && (a.take i).all (fun p => p.2 != v || out.contains p.1)) = q
  generalize hp : nth a (0, 0) i = p
  obtain ⟨f, t⟩ := p
  have e1 := h30 out.isEmpty out f ho
  simp only
  generalize out.contains f = c at *
  have e2 : ((t : Int) = (v : Int)) ↔ t = v := by omega
  cases q
  · simp [hi, hw, hp]
  · by_cases c2 : t = v
    · simp [hi, hw, hp, e1, c2]
    · have c3 : (t != v) = true := by simpa using c2
      simp [hi, hw, hp, e1, c2, e2, c3]

/-- The next vertex among the last ones. -/
def nextV (n : Nat) (a : NA) (out : List Nat) (j : Nat) : Option Nat := (List.range' (n - j) j).find? (freeB a out)
def optZ (o : Option Nat) : Int := o.elim (-1) fun v => (v : Int)

theorem nextV_succ {n j : Nat} (a : NA) (out : List Nat) (h : j < n) : nextV n a out (j + 1) = if freeB a out (n - 1 - j) = true then some (n - 1 - j) else nextV n a out j := by
  unfold nextV
  rw [List.range'_succ, show n - (j + 1) = n - 1 - j by omega, List.find?_cons, show n - 1 - j + 1 = n - j by omega]
  cases freeB a out (n - 1 - j) <;> rfl

theorem loop13_1 (call : Oracle) (fuel : Nat) (b : Bool) (n : Nat) (hn : n ≤ 24) (a : NA) (hl : a.length ≤ 1000) (out : List Nat) (ho : out.length ≤ 1000) (h30 : Has30 call) (fu : Nat) (hf : 1000 < fu) (hf2 : 1000 < fuel) (st : St)
    (h0 : drops st h13_1 = L13_1 (ii n) (.ro (sa b (arcsZ a))) (.own (so out)) (ii (-1)) (ii ((n : Int) - 1))) :
    run.loopN (run call fuel b13_1) fu st = some (.ex 2, X13_2 (ii n) (.ro (sa b (arcsZ a))) (.own (so out)) (ii (optZ ((List.range n).find? (freeB a out))))) := by
  have hend : nextV n a out n = (List.range n).find? (freeB a out) := by unfold nextV; rw [Nat.sub_self, List.range_eq_range']
  rw [← hend]
  refine loop_cnt call fuel h13_1 _ n (fun j => L13_1 (ii n) (.ro (sa b (arcsZ a))) (.own (so out)) (ii (optZ (nextV n a out j))) (ii ((n : Int) - 1 - j))) _ (by simp) ?_ ?_ fu st (by simpa [nextV, optZ] using h0) (by omega)
  · intro j hj
    obtain ⟨v, hv⟩ : ∃ v : Nat, v = n - 1 - j := ⟨_, rfl⟩
    have hv1 : (n : Int) - 1 - (j : Int) = (v : Int) := by omega
    have hv2 : IntKind.i64.wrap ((v : Int) - 1) = (n : Int) - 1 - ((j + 1 : Nat) : Int) := by
      rw [wrap_eq (by unfold I64; omega)]; omega
    have e1 := h30 out.isEmpty out v ho
    have e := loop13_2 call fuel b n a hl out ho h30 (optZ (nextV n a out j)) v (!out.contains v) fuel hf2
    have hs := nextV_succ a out hj
    rw [← hv] at hs
    rw [hs, hv1]
    change ∀ st, _ → _ = some (Ex.ex 4, X13_4 _ _ _ _ _ (bb (freeB a out v))) at e
    generalize out.contains v = c at *
    simp [e1]
    rw [e _ (by simp)]
    cases freeB a out v <;> simp [hv2, optZ]
  · have : (n : Int) - 1 - (n : Int) = -1 := by omega
    rw [this]
    simp

/-- How the order ends. -/
def ordR (n : Nat) (a : NA) (out : List Nat) : Option (List Nat) := ordL n a (n - out.length) out

theorem loop13_0 (call : Oracle) (fuel : Nat) (b : Bool) (n : Nat) (hn : n ≤ 24) (a : NA) (hl : a.length ≤ 1000) (h30 : Has30 call) (hf : 1000 < fuel) (st : St)
    (h0 : drops st h13_0 = L13_0 (ii n) (.ro (sa b (arcsZ a))) (.own (so []))) :
    run.loopN (run call fuel b13_0) fuel st = some ((ordR n a []).elim (.ret, R13 (.own (.nd (.sl true 1 0) [])) (ii 11)) (fun l => (.ex 0, X13_0 (.own (so l))))) := by
  refine loop_iter call fuel h13_0 _ (fun out : List Nat => out.length ≤ n) (fun out => L13_0 (ii n) (.ro (sa b (arcsZ a))) (.own (so out))) (fun out => n - out.length)
    (fun out => if out.length < n then (match (List.range n).find? (freeB a out) with | some v => .inl (out ++ [v]) | none => .inr (.ret, R13 (.own (.nd (.sl true 1 0) [])) (ii 11))) else .inr (.ex 0, X13_0 (.own (so out))))
    (fun out => (ordR n a out).elim (.ret, R13 (.own (.nd (.sl true 1 0) [])) (ii 11)) (fun l => (.ex 0, X13_0 (.own (so l))))) ?_ ?_ ?_ fuel [] st (Nat.zero_le _) h0 (by simp; omega)
  · intro out ho
    by_cases hlt : out.length < n
    · have e := loop13_1 call fuel b n hn a hl out (by omega) h30 fuel hf hf
      have hw : IntKind.i64.wrap ((n : Int) - 1) = (n : Int) - 1 := wrap_eq (by unfold I64; omega)
      have hm : out.length + 1 ≤ most := by unfold most; omega
      simp only [if_pos hlt]
      simp [hlt, hw]
      rw [e _ (by simp)]
      cases (List.range n).find? (freeB a out) with
      | none => simp [optZ]
      | some v => simp [optZ, hm, so_snoc]
    · simp only [if_neg hlt]
      simp [hlt]
  · intro out out' ho hs
    split at hs
    · rename_i hlt
      split at hs
      · rename_i v hv
        cases hs
        refine ⟨by simp; omega, by simp; omega, ?_⟩
        have : n - out.length = (n - (out ++ [v]).length) + 1 := by simp; omega
        simp only [ordR]
        rw [this, ordL, hv]
      · cases hs
    · cases hs
  · intro out r ho hs
    split at hs
    · rename_i hlt
      split at hs
      · cases hs
      · rename_i hv
        cases hs
        refine ⟨?_, by simp⟩
        have : n - out.length = (n - out.length - 1) + 1 := by omega
        simp only [ordR]
        rw [this, ordL, hv]
        rfl
    · rename_i hlt
      cases hs
      refine ⟨?_, by simp⟩
      have : n - out.length = 0 := by omega
      simp only [ordR]
      rw [this]
      rfl

/-- What Order returns. -/
def ordD (n : Int) (a : List (Int × Int)) : D :=
  if validB n a then
    match ordR n.toNat (natA a) [] with
    | some l => .nd .tu [so l, .v (.int .i64 0)]
    | none => .nd .tu [si true [], .v (.int .i64 11)]
  else .nd .tu [si true [], .v (.int .i64 1)]

theorem f13 (call : Oracle) (fuel : Nat) (hf : 1000 < fuel) (b : Bool) (n : Int) (a : List (Int × Int)) (hl : a.length ≤ 1000) (h30 : Has30 call)
    (h21 : call 21 [.v (.int .i64 n), sa b a] = some (.v (.bool (validB n a)))) : callF call fuel c13 [.v (.int .i64 n), sa b a] = some (ordD n a) := by
  rw [callF_tab call fuel c13 11 _ (by exact Nat.le_of_ble_eq_true rfl) (by exact Nat.le_of_ble_eq_true rfl)]
  by_cases hv : validB n a = true
  · obtain ⟨k, rfl, hk, ha, hp⟩ := valid_nat hv
    have e := loop13_0 call fuel b k hk (natA a) (by simpa [natA] using hl) h30 hf
    rw [← ha] at e
    rw [hv] at h21
    unfold ordD
    rw [if_pos hv]
    simp [c13, h21]
    rw [e _ (by simp; rfl)]
    cases ordR k (natA a) [] with
    | none => simp; rfl
    | some l => simp
  · have hv' : validB n a = false := by simpa using hv
    rw [hv'] at h21
    unfold ordD
    rw [if_neg hv]
    simp [c13, h21]
    rfl

end Go.Mx
