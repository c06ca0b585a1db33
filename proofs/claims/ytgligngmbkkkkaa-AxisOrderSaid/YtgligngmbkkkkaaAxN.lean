import Derived.Test.YtgligngmbkkkkaaAxM
/-
  The axis: turned hours; the law on counts and turned hours.
-/
namespace Go.Mx
set_option linter.unusedVariables false
set_option linter.unusedSimpArgs false
set_option linter.unusedSectionVars false
open Go

theorem all_flat (l : List Int) : (l.map fun n => (T.v (.int .i64 n) : D)).all flatOk = true := by
  rw [List.all_map, List.all_eq_true]; intro x _; rfl
theorem all_isSc (l : List Int) : (l.map fun n => (T.v (.int .i64 n) : D)).all isSc = true := by
  rw [List.all_map, List.all_eq_true]; intro x _; rfl

theorem f40 (call : Oracle) (fuel : Nat) (b : Bool) (l : List Int) (hb : b = true → l = []) (hl : l.length ≤ 80) : callF call fuel c40 [sl b l] = some (sl b l) := by
  cases b with
  | true =>
    have := hb rfl
    subst this
    simp [c40, sl, isNil]
  | false =>
    have h1 := all_flat l
    have h2 := all_isSc l
    have h3 : l.length ≤ 2 ^ 36 := by omega
    simp [c40, sl, isNil, reps, lay, append, appSrc, h1, h2, most, h3, isSc, flatOk, Value.oneCell', leave, memB]

def updT (t : Int → Int) (l : List Int) (i : Nat) : List Int := (l.take i).map t ++ l.drop i

theorem updT_len (t : Int → Int) (l : List Int) (i : Nat) (hi : i ≤ l.length) : (updT t l i).length = l.length := by
  simp [updT]; omega

theorem updT_get (t : Int → Int) {l : List Int} {i : Nat} (hi : i < l.length) (h : i < (updT t l i).length) : (updT t l i)[i] = l[i] := by
  have e : (updT t l i)[i]? = some l[i] := by
    unfold updT
    rw [List.getElem?_append_right (by simp; omega)]
    simp only [List.length_map, List.length_take]
    rw [List.getElem?_drop, show i + (i - min i l.length) = i by omega, List.getElem?_eq_getElem hi]
  rw [List.getElem?_eq_getElem h] at e
  exact Option.some.inj e

theorem updT_set (t : Int → Int) {l : List Int} {i : Nat} (hi : i < l.length) : (updT t l i).set i (t l[i]) = updT t l (i + 1) := by
  unfold updT
  rw [List.set_append_right _ _ (by simp; omega)]
  simp only [List.length_map, List.length_take, Nat.min_eq_left (Nat.le_of_lt hi), Nat.sub_self]
  rw [List.drop_eq_getElem_cons hi, List.set_cons_zero, take_succ (List.getElem?_eq_getElem hi), List.map_append, List.append_assoc]
  rfl

set_option maxHeartbeats 1000000 in
theorem loop28_0 (call : Oracle) (fuel : Nat) (hf : 100 < fuel) (b : Bool) (l : List Int) (hl : l.length ≤ 80) (n : Int)
    (h41 : ∀ h n : Int, call 41 [.v (.int .i64 h), .v (.int .i64 n)] = some (.v (.int .i64 (turnZ h n)))) (st : St)
    (h0 : drops st h28_0 = L28_0 (ii n) (.own (sl b l)) (.ref 7 []) (ii l.length) (ii 0)) :
    run.loopN (run call fuel b28_0) fuel st = some (.ex 0, X28_0 (.own (sl b (l.map fun x => turnZ x n))) (.ref 7 [])) := by
  refine loop_rule (fun m st => ∃ i : Nat, i ≤ l.length ∧ m = l.length - i ∧ drops st h28_0 = L28_0 (ii n) (.own (sl b (updT (fun x => turnZ x n) l i))) (.ref 7 []) (ii l.length) (ii (i : Nat)))
    (fun r => r = some (.ex 0, X28_0 (.own (sl b (l.map fun x => turnZ x n))) (.ref 7 []))) ?_ l.length fuel st ⟨0, by omega, by omega, by simpa [updT] using h0⟩ (by omega)
  rintro m st ⟨i, hi, hm, hst⟩
  by_cases hlt : i < l.length
  · left
    have hw1 := wrap_succ (i := i) (by omega)
    have hs := updT_set (fun x => turnZ x n) hlt
    have hlen := updT_len (fun x => turnZ x n) l i hi
    have hlt' : i < (updT (fun x => turnZ x n) l i).length := by omega
    have hg := updT_get (fun x => turnZ x n) hlt hlt'
    generalize updT (fun x => turnZ x n) l i = cs at *
    refine ⟨_, by rw [b28_0, run_scr, hst]; simp [sl, hlt, hlt', hg, h41, hw1, Mx.store, target, cellsOfD, flatOk, putCells, Value.oneCell', hlen]; rfl, m - 1, by omega, i + 1, by omega, by omega, ?_⟩
    rw [← hs]
    simp [sl, hlen]
  · right
    have : i = l.length := by omega
    subst this
    have e : updT (fun x => turnZ x n) l l.length = l.map fun x => turnZ x n := by simp [updT]
    rw [e] at hst
    refine ⟨.ex 0, _, by rw [b28_0, run_scr, hst]; simp [sl]; rfl, by simp, ?_⟩
    simp [sl]

def turD (b : Bool) (t : Int → Int) (l : List Int) : D := if checkZ l = 0 then pr (sl b (l.map t)) 0 else pr (sl true []) (checkZ l)

theorem f28 (call : Oracle) (fuel : Nat) (hf : 100 < fuel) (b : Bool) (l : List Int) (n : Int) (h39 : call 39 [sl b l] = some (.v (.int .i64 (checkZ l)))) (h40 : l.length ≤ 80 → call 40 [sl b l] = some (sl b l))
    (h41 : ∀ h n : Int, call 41 [.v (.int .i64 h), .v (.int .i64 n)] = some (.v (.int .i64 (turnZ h n)))) :
    callF call fuel c28 [sl b l, .v (.int .i64 n)] = some (turD b (fun x => turnZ x n) l) := by
  by_cases h : checkZ l = 0
  · obtain ⟨hl, hh⟩ := checkZ_len h
    have e := loop28_0 call fuel hf b l (by omega) n h41
    have h40 := h40 (by omega)
    unfold sl at h39 h40
    rw [h] at h39
    simp [c28, sl, h39, h40]
    rw [e]
    · simp [turD, h, pr, sl]
    · simp [sl]
  · have h' : (checkZ l != 0) = true := by simpa using h
    unfold sl at h39
    simp [c28, sl, h39, h', turD, h, pr]

def rturn (n x : Int) : Int := modZ (IntKind.i64.wrap (x + modZ n 12)) 12

/-- The list under way, and what the slot of the last append holds. -/
def out29 (r : Int → Int) (l : List Int) (i : Nat) : V × V := if i = 0 then (.ro (sl true []), .sc undef) else (.own (sl false ((l.take i).map r)), .ref 7 [])

set_option maxHeartbeats 1000000 in
theorem loop29_0 (call : Oracle) (fuel : Nat) (hf : 100 < fuel) (b : Bool) (l : List Int) (hl : l.length ≤ 80) (n : Int)
    (h15 : ∀ a b : Int, b ≠ 0 → call 15 [.v (.int .i64 a), .v (.int .i64 b)] = some (.v (.int .i64 (modZ a b)))) (st : St)
    (h0 : drops st h29_0 = L29_0 (.ro (sl b l)) (ii n) (.ro (sl true [])) (ii 0) (.sc undef)) :
    run.loopN (run call fuel b29_0) fuel st = some (.ex 0, X29_0 (out29 (rturn n) l l.length).1 (out29 (rturn n) l l.length).2) := by
  refine loop_rule (fun m st => ∃ i : Nat, i ≤ l.length ∧ m = l.length - i ∧ drops st h29_0 = L29_0 (.ro (sl b l)) (ii n) (out29 (rturn n) l i).1 (ii (i : Nat)) (out29 (rturn n) l i).2)
    (fun r => r = some (.ex 0, X29_0 (out29 (rturn n) l l.length).1 (out29 (rturn n) l l.length).2)) ?_ l.length fuel st ⟨0, by omega, by omega, by simpa [out29] using h0⟩ (by omega)
  rintro m st ⟨i, hi, hm, hst⟩
  by_cases hlt : i < l.length
  · left
    have hw1 := wrap_succ (i := i) (by omega)
    have er : modZ (IntKind.i64.wrap (l[i] + modZ n 12)) 12 = rturn n l[i] := rfl
    have hs : (l.take (i + 1)).map (rturn n) = (l.take i).map (rturn n) ++ [rturn n l[i]] := by
      rw [take_succ (List.getElem?_eq_getElem hlt), List.map_append]; rfl
    by_cases hz : i = 0
    · subst hz
      simp only [List.take_zero, List.map_nil, List.nil_append, Nat.zero_add] at hs
      refine ⟨_, by rw [b29_0, run_scr, hst]; simp [sl, out29, hlt, h15, er, isOwn, reps, lay, layAt, append, appSrc, most, cellsOfD, flatOk, Value.oneCell', leave, memB]; rfl, m - 1, by omega, 1, by omega, by omega, ?_⟩
      have w1 : IntKind.i64.wrap 1 = 1 := by decide
      simp [out29, hs, sl, w1]
    · have hlen : ((l.take i).map (rturn n)).length = i := by simp; omega
      have hi36 : i + 1 ≤ 2 ^ 36 := by omega
      have e1 : out29 (rturn n) l i = (.own (sl false ((l.take i).map (rturn n))), .ref 7 []) := by simp [out29, hz]
      have e2 : out29 (rturn n) l (i + 1) = (.own (sl false ((l.take (i + 1)).map (rturn n))), .ref 7 []) := by simp [out29]
      rw [e1] at hst
      rw [hs] at e2
      generalize (l.take i).map (rturn n) = cs at *
      have hcs : cs.length + 1 ≤ 2 ^ 36 := by omega
      refine ⟨_, by rw [b29_0, run_scr, hst]; simp [sl, hlt, h15, er, isOwn, reps, lay, layAt, append, appSrc, most, cellsOfD, flatOk, Value.oneCell', leave, memB, hw1, hcs]; rfl, m - 1, by omega, i + 1, by omega, by omega, ?_⟩
      rw [e2]
      simp [sl]
  · right
    have : i = l.length := by omega
    subst this
    by_cases hz : l.length = 0
    · simp only [out29, hz, if_true] at hst ⊢
      refine ⟨.ex 0, _, by rw [b29_0, run_scr, hst]; simp [sl, hz]; rfl, by simp, ?_⟩
      simp [sl]
    · simp only [out29, hz, if_false] at hst ⊢
      refine ⟨.ex 0, _, by rw [b29_0, run_scr, hst]; simp [sl]; rfl, by simp, ?_⟩
      simp [sl]

theorem f29 (call : Oracle) (fuel : Nat) (hf : 100 < fuel) (b : Bool) (l : List Int) (n : Int) (h35 : call 35 [sl b l] = some (.v (.int .i64 (checkZ l))))
    (h15 : ∀ a b : Int, b ≠ 0 → call 15 [.v (.int .i64 a), .v (.int .i64 b)] = some (.v (.int .i64 (modZ a b)))) :
    callF call fuel c29 [sl b l, .v (.int .i64 n)] = some (turD l.isEmpty (rturn n) l) := by
  by_cases h : checkZ l = 0
  · obtain ⟨hl, hh⟩ := checkZ_len h
    have e := loop29_0 call fuel hf b l (by omega) n h15
    unfold sl at h35
    rw [h] at h35
    simp [c29, sl, h35]
    rw [e]
    · cases l with
      | nil => simp [out29, turD, h, pr, sl]
      | cons x xs => simp [out29, turD, h, pr, sl]
    · simp [sl]
  · have h' : (checkZ l != 0) = true := by simpa using h
    unfold sl at h35
    simp [c29, sl, h35, h', turD, h, pr]

theorem fin_rturn : ∀ (x : Fin 12) (r : Fin 23), (IntKind.i64.wrap ((IntKind.i64.wrap ((x.val : Int) + ((r.val : Int) - 11))).tmod 12 + 12)).tmod 12 =
    modZ (IntKind.i64.wrap ((x.val : Int) + (if (r.val : Int) - 11 < 0 then IntKind.i64.wrap ((r.val : Int) - 11 + 12) else (r.val : Int) - 11))) 12 := by decide +kernel

theorem turn_rturn {x : Int} (hx : hourB x = true) (n : Int) : turnZ x n = rturn n x := by
  obtain ⟨i, rfl⟩ := hour_fin hx
  have hr := tmod_range n (b := 12) (by decide)
  obtain ⟨k, hk⟩ : ∃ k : Fin 23, n.tmod 12 = (k.val : Int) - 11 := ⟨⟨(n.tmod 12 + 11).toNat, by omega⟩, by simp; omega⟩
  have := fin_rturn i k
  unfold turnZ rturn
  have e : modZ n 12 = if n.tmod 12 < 0 then IntKind.i64.wrap (n.tmod 12 + 12) else n.tmod 12 := rfl
  rw [e, hk]
  exact this

theorem turD_map {l : List Int} (n : Int) (h : checkZ l = 0) : l.map (fun x => turnZ x n) = l.map (rturn n) :=
  List.map_congr_left fun x hx => turn_rturn ((checkZ_len h).2 x hx) n

set_option maxHeartbeats 4000000 in
set_option maxRecDepth 100000 in
theorem f10 (call : Oracle) (fuel : Nat) (b : Bool) (l : List Int) (n : Int) (h12 : call 12 [] = some (.v (.bool true))) (h16 : call 16 [sl b l] = some (.v (.bool (decide (l.length ≤ 80)))))
    (h26 : l.length ≤ 80 → call 26 [sl b l] = some (cntD l)) (h27 : l.length ≤ 80 → call 27 [sl b l] = some (cntD l))
    (h28 : l.length ≤ 80 → call 28 [sl b l, .v (.int .i64 n)] = some (turD b (fun x => turnZ x n) l)) (h29 : l.length ≤ 80 → call 29 [sl b l, .v (.int .i64 n)] = some (turD l.isEmpty (rturn n) l))
    (h30 : ∀ (b1 b2 : Bool) (l1 l2 : List Int), l1.length ≤ 80 → call 30 [sl b1 l1, sl b2 l2] = some (.v (.bool (decide (l1 = l2))))) :
    callF call fuel c10 [sl b l, .v (.int .i64 n)] = some (.v (.bool true)) := by
  by_cases hl : l.length ≤ 80
  · have h26 := h26 hl
    have h27 := h27 hl
    have h28 := h28 hl
    have h29 := h29 hl
    simp only [hl, decide_true] at h16
    by_cases h : checkZ l = 0
    · unfold cntD at h26 h27
      unfold turD at h28 h29
      rw [if_pos h] at h26 h27 h28 h29
      rw [turD_map n h] at h28
      have e1 := h30 false false (cntH l) (cntH l) (by rw [cntH_len]; omega)
      have e2 := h30 b l.isEmpty (l.map (rturn n)) (l.map (rturn n)) (by simpa using hl)
      simp only [decide_true] at e1 e2
      generalize l.isEmpty = b2 at *
      generalize cntH l = cc at *
      generalize l.map (rturn n) = tt at *
      unfold sl pr at *
      simp [c10, h12, h16, h26, h27, h28, h29, e1, e2]
    · unfold cntD at h26 h27
      unfold turD at h28 h29
      rw [if_neg h] at h26 h27 h28 h29
      have e1 := h30 true true [] [] (by simp)
      simp only [decide_true] at e1
      unfold sl pr at *
      simp at e1 h26 h27 h28 h29
      simp [c10, h12, h16, h26, h27, h28, h29, e1]
  · simp only [hl, decide_false] at h16
    unfold sl at *
    simp [c10, h12, h16]

end Go.Mx
