import Derived.Test.YtigplgminjhgmaaJoH
/-
  Journals: made of entries; compared.
-/
namespace Go.Mx
set_option linter.unusedVariables false
set_option linter.unusedSimpArgs false
set_option linter.unusedSectionVars false
open Go

def esL (l : List EN) : ES := l.map fun e => (e.1, e.2.2)
@[simp] theorem esL_len (l : List EN) : (esL l).length = l.length := by simp [esL]
theorem esL_snoc (l : List EN) (e : EN) : esL (l ++ [e]) = esL l ++ [(e.1, e.2.2)] := by simp [esL]
theorem esL_take_succ (l : List EN) {i : Nat} (h : i < l.length) : esL (l.take (i + 1)) = esL (l.take i) ++ [((nth l (0, (true, [])) i).1, (nth l (0, (true, [])) i).2.2)] := by
  rw [List.take_succ_eq_append_getElem h, esL_snoc, nth_get _ h]
/-- Entries of arguments. -/
def ByE (l : List EN) : Prop := ∀ e ∈ l, e.1 < 256 ∧ By e.2.2
theorem jb_bound : ∀ (l : List EN), (∀ e ∈ l, e.2.2.length ≤ 1000) → (jbL (esL l)).length ≤ 5 + l.length * 1009 := by
  intro l
  induction l with
  | nil => intro _; decide
  | cons e l ih =>
    intro h
    have h1 := ih fun e he => h e (List.mem_cons_of_mem _ he)
    have h2 := h e (List.mem_cons_self ..)
    have e1 : (jbL (esL (e :: l))).length = (jbL (esL l)).length + (e.2.2.length + 9) := by
      unfold jbL esL
      simp [seal_len]
      omega
    rw [e1, List.length_cons]
    omega
theorem okJ_es {l : List EN} (hb : ByE l) (hf : fewB l = true) : OkJ (esL l) := by
  obtain ⟨h1, h2⟩ := few_ok hf
  refine ⟨fun e he => ?_, ?_⟩
  · unfold esL at he
    obtain ⟨x, hx, rfl⟩ := List.mem_map.1 he
    exact ⟨(hb x hx).1, (hb x hx).2, by have := h2 x hx; dsimp only; omega⟩
  · have := jb_bound l h2
    omega
/-- An append that finds room. -/
theorem apJ_ok {b : Bool} {es : ES} {k : Nat} {d : List Nat} (h1 : d.length ≤ 8192) (h2 : (jbL es).length + (d.length + 9) ≤ 65536) : apJ b es k d = .nd .tu [nV 0, jD false (es ++ [(k, d)])] := by
  unfold apJ; rw [if_pos ⟨h1, h2⟩]
theorem apW_ok {b : Bool} {es : ES} {k : Nat} {d : List Nat} (h1 : d.length ≤ 8192) (h2 : (jbL es).length + (d.length + 9) ≤ 65536) : apW b es k d = .nd .tu [nV 0, wD false (es ++ [(k, d)])] := by
  unfold apW; rw [if_pos ⟨h1, h2⟩]
/-- What the oracle says of appending. -/
structure ApOK (call : Oracle) : Prop where
  j : ∀ (b bd : Bool) (es : ES) (k : Nat) (d : List Nat), (jbL es).length ≤ 65536 → es.length ≤ 10000 → k < 256 → By d → d.length ≤ 10000 → call (14 + ioB) [jD b es, kV k, su8 bd d] = some (apJ b es k d)
  w : ∀ (b bd : Bool) (es : ES) (k : Nat) (d : List Nat), OkJ es → es.length ≤ 10000 → k < 256 → By d → d.length ≤ 10000 → call (15 + ioB) [wD b es, kV k, su8 bd d] = some (apW b es k d)
theorem loop17 (call : Oracle) (fuel : Nat) (H : ApOK call) (b : Bool) (l : List EN) (hb : ByE l) (hf : fewB l = true) (fu : Nat) (hfu : 20000 < fu) (st : St)
    (h0 : drops st h17_0 = L17_0 (.ro (sE b l)) (.own (jD true [])) (.own (wD true [])) (ii 0)) :
    run.loopN (run call fuel b17_0) fu st = some (.ex 0, X17_0 (.own (jD (l.length == 0) (esL l))) (.own (wD (l.length == 0) (esL l)))) := by
  obtain ⟨f1, f2⟩ := few_ok hf
  have e1 : esL (l.take l.length) = esL l := by rw [List.take_length]
  rw [← e1]
  refine loop_cnt call fuel h17_0 _ l.length (fun i => L17_0 (.ro (sE b l)) (.own (jD (i == 0) (esL (l.take i)))) (.own (wD (i == 0) (esL (l.take i)))) (ii i)) _ (by simp) ?_ (by simp) fu st (by rw [h0]; rfl) (by omega)
  intro i hi
  have hw := wrap_succ (i := i) (by omega)
  have hmem := nth_mem (0, (true, [])) hi
  obtain ⟨b1, b2⟩ := hb _ hmem
  have b3 := f2 _ hmem
  have hlt : (l.take i).length = i := by rw [List.length_take]; omega
  have hbt : ByE (l.take i) := fun e he => hb e (List.mem_of_mem_take he)
  have hbd := jb_bound (l.take i) fun e he => f2 e (List.mem_of_mem_take he)
  have hok : OkJ (esL (l.take i)) := by
    refine ⟨fun e he => ?_, by omega⟩
    unfold esL at he
    obtain ⟨x, hx, rfl⟩ := List.mem_map.1 he
    exact ⟨(hbt x hx).1, (hbt x hx).2, by have := f2 x (List.mem_of_mem_take hx); dsimp only; omega⟩
  have k14 := H.j (i == 0) (nth l (0, (true, [])) i).2.1 (esL (l.take i)) _ _ hok.len (by simp; omega) b1 b2 (by omega)
  have k15 := H.w (i == 0) (nth l (0, (true, [])) i).2.1 (esL (l.take i)) _ _ hok (by simp; omega) b1 b2 (by omega)
  rw [apJ_ok (by omega) (by omega)] at k14
  rw [apW_ok (by omega) (by omega)] at k15
  rw [esL_take_succ l hi]
  generalize esL (l.take i) = E at *
  generalize hje : jD false (E ++ [((nth l (0, (true, [])) i).1, (nth l (0, (true, [])) i).2.2)]) = J' at *
  generalize hwe : wD false (E ++ [((nth l (0, (true, [])) i).1, (nth l (0, (true, [])) i).2.2)]) = W' at *
  obtain ⟨J1, rfl⟩ : ∃ k, J' = .nd (.bx false) k := ⟨_, hje.symm⟩
  obtain ⟨W1, rfl⟩ : ∃ k, W' = .nd (.bx false) k := ⟨_, hwe.symm⟩
  simp [hi, hw, k14, k15]
  simp [← hje, ← hwe]
theorem f17 (call : Oracle) (fuel : Nat) (hF : 20000 < fuel) (H : ApOK call) (h12 : call 12 [] = some (jD true [])) (h13 : call 13 [] = some (wD true [])) (b : Bool) (l : List EN) (hb : ByE l) (hf : fewB l = true) :
    callF call fuel c17 [sE b l] = some (.nd .tu [jD (l.length == 0) (esL l), wD (l.length == 0) (esL l)]) := by
  have L := loop17 call fuel H b l hb hf fuel hF
  rw [callF_tab call fuel c17 7 _ (by exact Nat.le_of_ble_eq_true rfl) (by exact Nat.le_of_ble_eq_true rfl)]
  simp [c17, h12, h13]
  rw [L _ (by simp)]
  simp

/-! ### compared -/
abbrev ptr0 : D := .v (.pointer none)
theorem f21n (call : Oracle) (fuel : Nat) : callF call fuel c21 [ptr0] = some (nV 0) := by
  rw [callF_tab call fuel c21 3 _ (by exact Nat.le_of_ble_eq_true rfl) (by exact Nat.le_of_ble_eq_true rfl)]
  simp [c21]
theorem f30n (call : Oracle) (fuel : Nat) : callF call fuel c30 [ptr0] = some (nV 0) := by
  rw [callF_tab call fuel c30 3 _ (by exact Nat.le_of_ble_eq_true rfl) (by exact Nat.le_of_ble_eq_true rfl)]
  simp [c30]
theorem f18n (call : Oracle) (fuel : Nat) : callF call fuel c18 [ptr0] = some (su8 true []) := by
  rw [callF_tab call fuel c18 3 _ (by exact Nat.le_of_ble_eq_true rfl) (by exact Nat.le_of_ble_eq_true rfl)]
  simp [c18]
  rfl
theorem f29n (call : Oracle) (fuel : Nat) : callF call fuel c29 [ptr0] = some (su8 true []) := by
  rw [callF_tab call fuel c29 11 _ (by exact Nat.le_of_ble_eq_true rfl) (by exact Nat.le_of_ble_eq_true rfl)]
  simp [c29]
  rfl
abbrev enN : D := .nd .tu [kV 0, su8 true [], nV 1]
theorem f26n (call : Oracle) (fuel : Nat) (i : Int) : callF call fuel c26 [ptr0, nV i] = some enN := by
  rw [callF_tab call fuel c26 15 _ (by exact Nat.le_of_ble_eq_true rfl) (by exact Nat.le_of_ble_eq_true rfl)]
  simp [c26]
  rfl
theorem f31n (call : Oracle) (fuel : Nat) (i : Int) : callF call fuel c31 [ptr0, nV i] = some enN := by
  rw [callF_tab call fuel c31 7 _ (by exact Nat.le_of_ble_eq_true rfl) (by exact Nat.le_of_ble_eq_true rfl)]
  simp [c31]
  rfl
theorem f25n (call : Oracle) (fuel : Nat) : callF call fuel c25 [ptr0] = some ptr0 := by
  rw [callF_tab call fuel c25 3 _ (by exact Nat.le_of_ble_eq_true rfl) (by exact Nat.le_of_ble_eq_true rfl)]
  simp [c25]
/-- What Entry returns, in parts. -/
theorem enD_eq (es : ES) (i : Int) : ∃ (k : Nat) (b : Bool) (d : List Nat) (e : Int), enD es i = .nd .tu [kV k, su8 b d, nV e] ∧ (b = true → d = []) ∧ ((k, d) ∈ es ∨ (k = 0 ∧ d = [])) := by
  unfold enD
  split
  · rename_i h
    refine ⟨_, _, _, _, rfl, by simp, .inl ?_⟩
    have := nth_mem (0, []) (show i.toNat < es.length by omega)
    exact this
  · exact ⟨0, true, [], 7, rfl, by simp, .inr ⟨rfl, rfl⟩⟩
theorem loop16 (call : Oracle) (fuel : Nat) (dJ dW : D) (n : Nat) (hn : n ≤ 10000) (f : Int → D) (h30 : call 30 [dW] = some (nV n)) (hJ : dJ = ptr0 ∨ ∃ k, dJ = .nd (.bx false) k) (hW : dW = ptr0 ∨ ∃ k, dW = .nd (.bx false) k)
    (h26 : ∀ i : Int, call 26 [dJ, nV i] = some (f i)) (h31 : ∀ i : Int, call 31 [dW, nV i] = some (f i)) (hf : ∀ i : Int, ∃ (k : Nat) (b : Bool) (d : List Nat) (e : Int), f i = .nd .tu [kV k, su8 b d, nV e] ∧ call 22 [su8 b d, su8 b d] = some (bV true))
    (fu : Nat) (hfu : 20000 < fu) (st : St)
    (h0 : drops st h16_0 = L16_0 (mkRo dJ) (mkRo dW) (ii (-1))) :
    run.loopN (run call fuel b16_0) fu st = some (.ex 0, X16_0) := by
  refine loop_cnt call fuel h16_0 _ (n + 2) (fun k => L16_0 (mkRo dJ) (mkRo dW) (ii ((k : Int) - 1))) _ (by simp) ?_ ?_ fu st (by rw [h0]; rfl) (by omega)
  · intro k hk
    have hw : IntKind.i64.wrap (k : Int) = (k : Int) := by rw [wrap_eq (by unfold I64; omega)]
    have hle : (k : Int) - 1 ≤ (n : Int) := by omega
    have k26 := h26 ((k : Int) - 1)
    have k31 := h31 ((k : Int) - 1)
    obtain ⟨kk, b, d, e, e1, e2⟩ := hf ((k : Int) - 1)
    rw [e1] at k26 k31
    have e3 : ((k + 1 : Nat) : Int) - 1 = (k : Int) := by omega
    rw [e3]
    rcases hJ with rfl | ⟨kj, rfl⟩ <;> rcases hW with rfl | ⟨kw, rfl⟩ <;> simp [h30, hle, k26, k31, e2, hw]
  · have hle : ¬ ((n : Int) + 2 - 1 ≤ (n : Int)) := by omega
    rcases hJ with rfl | ⟨kj, rfl⟩ <;> rcases hW with rfl | ⟨kw, rfl⟩ <;> simp [h30, hle]
end Go.Mx
