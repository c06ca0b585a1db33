import Derived.Test.YtgligngmbkkkkaaAxL
/-
  The axis: counts, turned hours, equal lists.
-/
namespace Go.Mx
set_option linter.unusedVariables false
set_option linter.unusedSimpArgs false
set_option linter.unusedSectionVars false
open Go

/-! ### how often each hour occurs -/
def cntH (l : List Int) : List Int := (List.range 12).map fun (j : Nat) => ((l.countP fun x => x == (j : Int) : Nat) : Int)

theorem cntH_len (l : List Int) : (cntH l).length = 12 := by simp [cntH]

theorem cntH_get (l : List Int) {n : Nat} (hn : n < 12) : (cntH l)[n]? = some ((l.countP fun x => x == (n : Int) : Nat) : Int) := by
  simp [cntH, hn]

theorem cntH_succ {l : List Int} {i : Nat} {n : Nat} (hi : i < l.length) (hx : l[i] = (n : Int)) (hn : n < 12) :
    (cntH (l.take i)).set n ((((l.take i).countP fun x => x == (n : Int) : Nat) : Int) + 1) = cntH (l.take (i + 1)) := by
  apply List.ext_getElem?
  intro j
  rcases Nat.lt_or_ge j 12 with hj | hj
  · rw [cntH_get _ hj, cnt_succ (List.getElem?_eq_getElem hi), hx]
    by_cases he : n = j
    · subst he
      rw [List.getElem?_set_self (by rw [cntH_len]; exact hn)]
      simp
    · rw [List.getElem?_set_ne he, cntH_get _ hj]
      have : ((n : Int) == (j : Int)) = false := by simpa using (by omega : ¬ ((n : Int) = (j : Int)))
      simp [this]
  · rw [List.getElem?_eq_none (by rw [List.length_set, cntH_len]; exact hj), List.getElem?_eq_none (by rw [cntH_len]; exact hj)]

theorem checkZ_len {l : List Int} (h : checkZ l = 0) : l.length ≤ 64 ∧ ∀ x ∈ l, hourB x = true := by
  unfold checkZ at h
  split at h
  · omega
  · split at h
    · rename_i h1 h2; exact ⟨by omega, List.all_eq_true.1 h2⟩
    · omega

theorem hour_ex {x : Int} (h : hourB x = true) : ∃ n : Nat, n < 12 ∧ x = (n : Int) := by
  obtain ⟨i, rfl⟩ := hour_fin h
  exact ⟨i.val, i.isLt, rfl⟩

set_option maxHeartbeats 1000000 in
theorem loop26_0 (call : Oracle) (fuel : Nat) (hf : 100 < fuel) (b : Bool) (l : List Int) (hl : l.length ≤ 80) (hh : ∀ x ∈ l, hourB x = true) (st : St)
    (h0 : drops st h26_0 = L26_0 (.ro (sl b l)) (.own (sl false (cntH []))) (.ref 5 []) (.ro (sl b l)) (ii l.length) (ii 0)) :
    run.loopN (run call fuel b26_0) fuel st = some (.ex 0, X26_0 (.own (sl false (cntH l))) (.ref 5 [])) := by
  refine loop_rule (fun m st => ∃ i : Nat, i ≤ l.length ∧ m = l.length - i ∧ drops st h26_0 = L26_0 (.ro (sl b l)) (.own (sl false (cntH (l.take i)))) (.ref 5 []) (.ro (sl b l)) (ii l.length) (ii (i : Nat)))
    (fun r => r = some (.ex 0, X26_0 (.own (sl false (cntH l))) (.ref 5 []))) ?_ l.length fuel st ⟨0, by omega, by omega, by simpa using h0⟩ (by omega)
  rintro m st ⟨i, hi, hm, hst⟩
  by_cases hlt : i < l.length
  · left
    have hw1 := wrap_succ (i := i) (by omega)
    obtain ⟨n, hn, hx⟩ := hour_ex (hh l[i] (List.getElem_mem hlt))
    have hs := cntH_succ hlt hx hn
    have hg := cntH_get (l.take i) hn
    have hle : (l.take i).countP (fun x => x == (n : Int)) ≤ 80 := Nat.le_trans List.countP_le_length (by rw [List.length_take]; omega)
    have hw2 : IntKind.i64.wrap ((((l.take i).countP fun x => x == (n : Int) : Nat) : Int) + 1) = (((l.take i).countP fun x => x == (n : Int) : Nat) : Int) + 1 := wrap_eq (by unfold I64; omega)
    generalize hcs : cntH (l.take i) = cs at *
    have hcl : cs.length = 12 := by rw [← hcs]; exact cntH_len _
    have hn' : n < cs.length := by omega
    generalize ((l.take i).countP fun x => x == (n : Int)) = q at *
    have hg' : cs[n] = (q : Int) := by rw [List.getElem?_eq_getElem hn'] at hg; exact Option.some.inj hg
    refine ⟨_, by rw [b26_0, run_scr, hst]; simp [sl, hlt, hx, hn', hg', hw1, hw2, Mx.store, target, cellsOfD, flatOk, putCells, Value.oneCell']; rfl, m - 1, by omega, i + 1, by omega, by omega, ?_⟩
    rw [← hs]
    simp [sl]
  · right
    have : i = l.length := by omega
    subst this
    rw [List.take_length] at hst
    refine ⟨.ex 0, _, by rw [b26_0, run_scr, hst]; simp [sl]; rfl, by simp, ?_⟩
    simp [sl]

set_option maxHeartbeats 1000000 in
theorem loop27_0 (call : Oracle) (fuel : Nat) (hf : 100 < fuel) (b : Bool) (l : List Int) (hl : l.length ≤ 80) (hh : ∀ x ∈ l, hourB x = true) (st : St)
    (h0 : drops st h27_0 = L27_0 (.ro (sl b l)) (.own (sl false (cntH []))) (ii 0) (.ref 5 [])) :
    run.loopN (run call fuel b27_0) fuel st = some (.ex 0, X27_0 (.own (sl false (cntH l))) (.ref 5 [])) := by
  refine loop_rule (fun m st => ∃ i : Nat, i ≤ l.length ∧ m = l.length - i ∧ drops st h27_0 = L27_0 (.ro (sl b l)) (.own (sl false (cntH (l.take i)))) (ii (i : Nat)) (.ref 5 []))
    (fun r => r = some (.ex 0, X27_0 (.own (sl false (cntH l))) (.ref 5 []))) ?_ l.length fuel st ⟨0, by omega, by omega, by simpa using h0⟩ (by omega)
  rintro m st ⟨i, hi, hm, hst⟩
  by_cases hlt : i < l.length
  · left
    have hw1 := wrap_succ (i := i) (by omega)
    obtain ⟨n, hn, hx⟩ := hour_ex (hh l[i] (List.getElem_mem hlt))
    have hs := cntH_succ hlt hx hn
    have hg := cntH_get (l.take i) hn
    have hle : (l.take i).countP (fun x => x == (n : Int)) ≤ 80 := Nat.le_trans List.countP_le_length (by rw [List.length_take]; omega)
    have hw2 : IntKind.i64.wrap ((((l.take i).countP fun x => x == (n : Int) : Nat) : Int) + 1) = (((l.take i).countP fun x => x == (n : Int) : Nat) : Int) + 1 := wrap_eq (by unfold I64; omega)
    generalize hcs : cntH (l.take i) = cs at *
    have hcl : cs.length = 12 := by rw [← hcs]; exact cntH_len _
    have hn' : n < cs.length := by omega
    generalize ((l.take i).countP fun x => x == (n : Int)) = q at *
    have hg' : cs[n] = (q : Int) := by rw [List.getElem?_eq_getElem hn'] at hg; exact Option.some.inj hg
    refine ⟨_, by rw [b27_0, run_scr, hst]; simp [sl, hlt, hx, hn', hg', hw1, hw2, Mx.store, target, cellsOfD, flatOk, putCells, Value.oneCell']; rfl, m - 1, by omega, i + 1, by omega, by omega, ?_⟩
    rw [← hs]
    simp [sl]
  · right
    have : i = l.length := by omega
    subst this
    rw [List.take_length] at hst
    refine ⟨.ex 0, _, by rw [b27_0, run_scr, hst]; simp [sl]; rfl, by simp, ?_⟩
    simp [sl]

def pr (d : D) (e : Int) : D := .nd .tu [d, .v (.int .i64 e)]

def cntD (l : List Int) : D := if checkZ l = 0 then pr (sl false (cntH l)) 0 else pr (sl true []) (checkZ l)

theorem reps12 : (reps 12 [T.v (.int .i64 0)] : List D) = (cntH []).map fun n => .v (.int .i64 n) := rfl

theorem f26 (call : Oracle) (fuel : Nat) (hf : 100 < fuel) (b : Bool) (l : List Int) (h39 : call 39 [sl b l] = some (.v (.int .i64 (checkZ l)))) :
    callF call fuel c26 [sl b l] = some (cntD l) := by
  by_cases h : checkZ l = 0
  · obtain ⟨hl, hh⟩ := checkZ_len h
    have e := loop26_0 call fuel hf b l (by omega) hh
    unfold sl at h39
    rw [h] at h39
    simp [c26, sl, h39, most, reps12]
    rw [e]
    · simp [cntD, h, pr, sl]
    · simp [sl, cntH_len]
  · have h' : (checkZ l != 0) = true := by simpa using h
    unfold sl at h39
    simp [c26, sl, h39, h', cntD, h, pr]

theorem f27 (call : Oracle) (fuel : Nat) (hf : 100 < fuel) (b : Bool) (l : List Int) (h35 : call 35 [sl b l] = some (.v (.int .i64 (checkZ l)))) :
    callF call fuel c27 [sl b l] = some (cntD l) := by
  by_cases h : checkZ l = 0
  · obtain ⟨hl, hh⟩ := checkZ_len h
    have e := loop27_0 call fuel hf b l (by omega) hh
    unfold sl at h35
    rw [h] at h35
    simp [c27, sl, h35, most, reps12]
    rw [e]
    · simp [cntD, h, pr, sl]
    · simp [sl, cntH_len]
  · have h' : (checkZ l != 0) = true := by simpa using h
    unfold sl at h35
    simp [c27, sl, h35, h', cntD, h, pr]

/-! ### equal lists -/
theorem loop30_0 (call : Oracle) (fuel : Nat) (hf : 100 < fuel) (b1 b2 : Bool) (l1 l2 : List Int) (hl : l1.length ≤ 80) (he : l1.length = l2.length) (st : St)
    (h0 : drops st h30_0 = L30_0 (.ro (sl b1 l1)) (.ro (sl b2 l2)) (ii 0)) :
    run.loopN (run call fuel b30_0) fuel st = if l1 = l2 then some (.ex 0, X30_0) else some (.ret, R30 (bb false)) := by
  refine loop_rule (fun m st => ∃ i : Nat, i ≤ l1.length ∧ m = l1.length - i ∧ l1.take i = l2.take i ∧ drops st h30_0 = L30_0 (.ro (sl b1 l1)) (.ro (sl b2 l2)) (ii (i : Nat)))
    (fun r => r = if l1 = l2 then some (.ex 0, X30_0) else some (.ret, R30 (bb false))) ?_ l1.length fuel st ⟨0, by omega, by omega, by simp, by simpa using h0⟩ (by omega)
  rintro m st ⟨i, hi, hm, hp, hst⟩
  by_cases hlt : i < l1.length
  · have hw1 := wrap_succ (i := i) (by omega)
    have hlt2 : i < l2.length := by omega
    by_cases hq : l1[i] = l2[i]
    · left
      refine ⟨_, by rw [b30_0, run_scr, hst]; simp [sl, hlt, hlt2, hw1, hq, isOwn]; rfl, m - 1, by omega, i + 1, by omega, by omega, ?_, ?_⟩
      · rw [take_succ (List.getElem?_eq_getElem hlt), take_succ (List.getElem?_eq_getElem hlt2), hp, hq]
      · simp [sl]
    · right
      have hne : l1 ≠ l2 := by
        intro h
        subst h
        exact hq rfl
      have hq' : (l1[i] != l2[i]) = true := by simpa using hq
      refine ⟨.ret, _, by rw [b30_0, run_scr, hst]; simp [sl, hlt, hlt2, hw1, hq', isOwn]; rfl, by simp, ?_⟩
      simp [hne]
  · right
    have : i = l1.length := by omega
    subst this
    have heq : l1 = l2 := by
      rw [List.take_length, he, List.take_length] at hp
      exact hp
    refine ⟨.ex 0, _, by rw [b30_0, run_scr, hst]; simp [sl]; rfl, by simp, ?_⟩
    simp [heq]

theorem f30 (call : Oracle) (fuel : Nat) (hf : 100 < fuel) (b1 b2 : Bool) (l1 l2 : List Int) (hl : l1.length ≤ 80) :
    callF call fuel c30 [sl b1 l1, sl b2 l2] = some (.v (.bool (decide (l1 = l2)))) := by
  by_cases he : l1.length = l2.length
  · have e := loop30_0 call fuel hf b1 b2 l1 l2 hl he
    simp [c30, sl, he]
    rw [e]
    · by_cases hq : l1 = l2
      · simp [hq]
      · simp [hq]
    · simp [sl, he]
  · have he' : ¬ ((l1.length : Int) = (l2.length : Int)) := by omega
    have he2 : ((l1.length : Int) != (l2.length : Int)) = true := by simpa using he'
    have hne : l1 ≠ l2 := fun h => he (by rw [h])
    simp [c30, sl, he2, hne]

end Go.Mx
