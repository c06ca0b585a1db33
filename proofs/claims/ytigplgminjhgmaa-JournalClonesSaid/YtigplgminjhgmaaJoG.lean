import Derived.Test.YtigplgminjhgmaaJoF
/-
  Journals of the reference: their bytes; entries are appended; journals are cut.
-/
namespace Go.Mx
set_option linter.unusedVariables false
set_option linter.unusedSimpArgs false
set_option linter.unusedSectionVars false
open Go

def cvmP (r : Nat) (p : List Nat) (d : D) : Option V :=
  match d with
  | .nd (.sl false _ n) _ => if n ≠ 0 then some (.ref r p) else none
  | _ => none
@[simp] theorem cvmP_sl (r : Nat) (p : List Nat) (es n : Nat) (kids : List D) : cvmP r p (.nd (.sl false es n) kids) = if n ≠ 0 then some (.ref r p) else none := rfl
def cvmV (st : St) (v : V) : Option V :=
  match v with
  | .ref r p => ob (placeD st r p) (cvmP r p)
  | _ => none
@[simp] theorem cvmV_ref (st : St) (r : Nat) (p : List Nat) : cvmV st (.ref r p) = ob (placeD st r p) (cvmP r p) := rfl
@[simp] theorem step_cvm (call : Oracle) (st : St) (dst : Nat) (x : MO) : step call st (.cvm dst x) = ob (cvmV st (ev st x)) (fun y => some (setv st dst y)) := by
  simp only [step]
  cases ev st x with
  | ref r p =>
    simp only [cvmV]
    cases placeD st r p with
    | none => rfl
    | some d =>
      cases d with
      | nd k kids => cases k with
        | sl b es n =>
          cases b with
          | false =>
            simp only [ob_some, cvmP]
            split <;> rfl
          | true => rfl
        | _ => rfl
      | _ => rfl
  | _ => rfl
theorem jb_take_succ (es : ES) {i : Nat} (h : i < es.length) : jbL (es.take (i + 1)) = jbL (es.take i) ++ sealL (nth es (0, []) i).1 (nth es (0, []) i).2 := by
  rw [List.take_succ_eq_append_getElem h, jb_snoc, nth_get _ h]
theorem wE_nth (es : ES) {i : Nat} (h : i < es.length) : nth (wE es) (0, (true, [])) i = ((nth es (0, []) i).1, (false, (nth es (0, []) i).2)) := by
  unfold wE
  rw [nth_get _ (by simpa using h), nth_get _ h]
  simp
theorem loop29 (call : Oracle) (fuel : Nat) (b : Bool) (es : ES) (hes : OkJ es) (hl : es.length ≤ 10000) 
    (h28 : ∀ e ∈ es, call 28 [kV e.1, su8 false e.2] = some (sealD e.1 e.2)) (fu : Nat) (hf : 20000 < fu) (st : St)
    (h0 : drops st h29_0 = L29_0 (.ro (wD b es)) (.own (su8 false magL)) (ii 0) .dead) :
    run.loopN (run call fuel b29_0) fu st = some (.ex 0, X29_0 (.own (su8 false (jbL es))) .dead) := by
  have e0 : jbL (es.take 0) = magL := by simp [jbL]
  have e1 : jbL (es.take es.length) = jbL es := by rw [List.take_length]
  rw [← e1]
  refine loop_cnt call fuel h29_0 _ es.length (fun i => L29_0 (.ro (wD b es)) (.own (su8 false (jbL (es.take i)))) (ii i) .dead) _ (by simp) ?_ (by simp) fu st (by rw [h0, e0]; rfl) (by omega)
  intro i hi
  have hw := wrap_succ (i := i) (by omega)
  have hn := wE_nth es hi
  have hmem := nth_mem (0, []) hi
  have k28 := h28 _ hmem
  have h8 := (hes.by8 _ hmem).2.2
  unfold sealD at k28
  rw [if_pos h8] at k28
  have e2 := jb_take_succ es hi
  have h9 := jb_take_le es (i + 1)
  have h10 := hes.len
  have hm : (jbL (es.take i)).length + (sealL (nth es (0, []) i).1 (nth es (0, []) i).2).length ≤ most := by
    rw [← List.length_append, ← e2]
    unfold most; omega
  rw [e2]
  generalize nth es (0, []) i = e at *
  generalize jbL (es.take i) = B at *
  simp [hi, hw, hn, k28, hm]
theorem f29 (call : Oracle) (fuel : Nat) (hF : 20000 < fuel) (b : Bool) (es : ES) (hes : OkJ es) (hl : es.length ≤ 10000) (h28 : ∀ e ∈ es, call 28 [kV e.1, su8 false e.2] = some (sealD e.1 e.2)) : callF call fuel c29 [wD b es] = some (su8 false (jbL es)) := by
  have L := loop29 call fuel b es hes hl h28 fuel hF
  rw [callF_tab call fuel c29 11 _ (by exact Nat.le_of_ble_eq_true rfl) (by exact Nat.le_of_ble_eq_true rfl)]
  simp [c29]
  rw [L _ (by simp; rfl)]
  simp

/-! ### the reference appends -/
def apW (b : Bool) (es : ES) (k : Nat) (d : List Nat) : D :=
  if d.length ≤ 8192 ∧ (jbL es).length + (d.length + 9) ≤ 65536 then .nd .tu [nV 0, wD false (es ++ [(k, d)])] else .nd .tu [nV 6, wD b es]
theorem f15 (call : Oracle) (fuel : Nat) (b bd : Bool) (es : ES) (hes : (jbL es).length ≤ 65536) (k : Nat) (d : List Nat) (hl : es.length ≤ 10000) (h28 : call 28 [kV k, su8 bd d] = some (sealD k d)) (h29 : call 29 [wD b es] = some (su8 false (jbL es))) :
    callI call fuel c15 (wD b es) [kV k, su8 bd d] = some (apW b es k d) := by
  rw [callI_tab call fuel c15 12 _ _ (by exact Nat.le_of_ble_eq_true rfl) (by exact Nat.le_of_ble_eq_true rfl) (by rfl) (by rfl) (by rfl)]
  unfold sealD at h28
  unfold apW
  by_cases h1 : d.length ≤ 8192
  · rw [if_pos h1] at h28
    have hsl := seal_len k d
    have hw : IntKind.i64.wrap (((jbL es).length : Int) + ((sealL k d).length : Int)) = ((jbL es).length : Int) + ((d.length : Int) + 9) := by
      rw [hsl, wrap_eq (by unfold I64; omega)]; omega
    have m1 : d.length ≤ most := by unfold most; omega
    have m2 : es.length + 1 ≤ most := by unfold most; omega
    have e1 := wE_snoc es (k, d)
    by_cases h2 : (jbL es).length + (d.length + 9) ≤ 65536
    · rw [if_pos ⟨h1, h2⟩]
      have h3 : ¬ (65536 : Int) < ((jbL es).length : Int) + ((d.length : Int) + 9) := by omega
      rw [show wD false (es ++ [(k, d)]) = .nd (.bx false) [sE false (wE es ++ [(k, (false, d))])] from by unfold wD; rw [e1]]
      simp [c15, h28, h29, hw, h3, m1, m2]
    · rw [if_neg (by omega)]
      have h3 : (65536 : Int) < ((jbL es).length : Int) + ((d.length : Int) + 9) := by omega
      simp [c15, h28, h29, hw, h3]
  · rw [if_neg h1] at h28
    rw [if_neg (by omega)]
    simp [c15, h28]
end Go.Mx
