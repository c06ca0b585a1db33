import Derived.Test.YtigplgminjhgmaaJoE
/-
  Journals: lengths, bytes, entries.
-/
namespace Go.Mx
set_option linter.unusedVariables false
set_option linter.unusedSimpArgs false
set_option linter.unusedSectionVars false
open Go

theorem f21 (call : Oracle) (fuel : Nat) (b : Bool) (es : ES) : callF call fuel c21 [jD b es] = some (nV es.length) := by
  rw [callF_tab call fuel c21 3 _ (by exact Nat.le_of_ble_eq_true rfl) (by exact Nat.le_of_ble_eq_true rfl)]
  simp [c21]
theorem f30 (call : Oracle) (fuel : Nat) (b : Bool) (es : ES) : callF call fuel c30 [wD b es] = some (nV es.length) := by
  rw [callF_tab call fuel c30 3 _ (by exact Nat.le_of_ble_eq_true rfl) (by exact Nat.le_of_ble_eq_true rfl)]
  simp [c30]
theorem f18 (call : Oracle) (fuel : Nat) (b : Bool) (es : ES) (h32 : call 32 [su8 false (jbL es)] = some (su8 false (jbL es))) : callF call fuel c18 [jD b es] = some (su8 false (jbL es)) := by
  rw [callF_tab call fuel c18 3 _ (by exact Nat.le_of_ble_eq_true rfl) (by exact Nat.le_of_ble_eq_true rfl)]
  simp [c18, h32]
theorem f37 (call : Oracle) (fuel : Nat) (b : Bool) (l : List Int) (hb : b = true → l = []) (hl : l.length ≤ 20000) : callF call fuel c37 [gsl (eI .i64) b l] = some (gsl (eI .i64) b l) := by
  have hm : l.length ≤ most := by unfold most; omega
  rw [callF_tab call fuel c37 3 _ (by exact Nat.le_of_ble_eq_true rfl) (by exact Nat.le_of_ble_eq_true rfl)]
  cases b with
  | true =>
    rw [hb rfl]
    simp [c37]
    rfl
  | false => simp [c37, hm]
theorem je_nil {b : Bool} {es : ES} (h : b = true → es = []) : b = true → zl (jeL es) = [] := fun hb => by rw [h hb]; rfl
theorem f25 (call : Oracle) (fuel : Nat) (b : Bool) (es : ES) (h32 : call 32 [su8 false (jbL es)] = some (su8 false (jbL es))) (h37 : call 37 [gsl (eI .i64) b (zl (jeL es))] = some (gsl (eI .i64) b (zl (jeL es)))) : callF call fuel c25 [jD b es] = some (jD b es) := by
  rw [callF_tab call fuel c25 3 _ (by exact Nat.le_of_ble_eq_true rfl) (by exact Nat.le_of_ble_eq_true rfl)]
  simp [c25, h32, h37]
/-- Where an entry begins. -/
def bgN (es : ES) (i : Nat) : Nat := (jbL (es.take i)).length
theorem f36 (call : Oracle) (fuel : Nat) (b : Bool) (es : ES) (i : Nat) (hi : i ≤ es.length) (hl : es.length ≤ 10000) : callF call fuel c36 [jD b es, nV i] = some (nV (bgN es i)) := by
  rw [callF_tab call fuel c36 5 _ (by exact Nat.le_of_ble_eq_true rfl) (by exact Nat.le_of_ble_eq_true rfl)]
  by_cases h0 : i = 0
  · subst h0
    simp [c36]
    rfl
  · have hp := wrap_pred (i := i) (by omega)
    have h1 : i - 1 < es.length := by omega
    have h2 := je_nth es h1
    have h3 : 0 < i := by omega
    rw [show i - 1 + 1 = i by omega] at h2
    have h4 : ¬ (i : Int) = 0 := by omega
    have h5 : bgN es i = (jbL (es.take i)).length := rfl
    simp [c36, h0, h4, hp, h1, h2, h3, h5]
theorem ent_bytes (es : ES) {i : Nat} (h : i < es.length) : ((jbL es).drop (bgN es i)).take (bgN es (i + 1) - bgN es i) = sealL (nth es (0, []) i).1 (nth es (0, []) i).2 := by
  have e1 : jbL es = jbL (es.take i) ++ (sealL (nth es (0, []) i).1 (nth es (0, []) i).2 ++ (es.drop (i + 1)).flatMap fun e => sealL e.1 e.2) := by
    unfold jbL
    rw [List.append_assoc]
    congr 1
    conv => lhs; rw [← List.take_append_drop i es, List.drop_eq_getElem_cons h, List.flatMap_append, List.flatMap_cons]
    rw [nth_get _ h]
  have e2 : bgN es (i + 1) = bgN es i + (sealL (nth es (0, []) i).1 (nth es (0, []) i).2).length := by
    unfold bgN
    rw [List.take_succ_eq_append_getElem h, jb_snoc, List.length_append, nth_get _ h]
  rw [e2, Nat.add_sub_cancel_left]
  conv => lhs; rw [e1]
  unfold bgN
  rw [List.drop_left' rfl, List.take_left' rfl]
/-- What Entry returns. -/
def enD (es : ES) (i : Int) : D :=
  if 0 ≤ i ∧ i < es.length then .nd .tu [kV (nth es (0, []) i.toNat).1, su8 false (nth es (0, []) i.toNat).2, nV 0] else .nd .tu [kV 0, su8 true [], nV 7]
theorem f31 (call : Oracle) (fuel : Nat) (b : Bool) (es : ES) (i : Int) (hd : ∀ e ∈ es, e.2.length ≤ 8192) : callF call fuel c31 [wD b es, nV i] = some (enD es i) := by
  rw [callF_tab call fuel c31 7 _ (by exact Nat.le_of_ble_eq_true rfl) (by exact Nat.le_of_ble_eq_true rfl)]
  unfold enD
  by_cases h0 : i < 0
  · rw [if_neg (by omega)]
    simp [c31, h0]
    rfl
  · by_cases h1 : (es.length : Int) ≤ i
    · rw [if_neg (by omega)]
      simp [c31, h0, h1]
      rfl
    · rw [if_pos ⟨by omega, by omega⟩]
      obtain ⟨j, rfl⟩ : ∃ j : Nat, i = (j : Int) := ⟨i.toNat, by omega⟩
      have hj : j < es.length := by omega
      have hm : (nth es (0, []) j).2.length ≤ most := by
        have := hd _ (nth_mem (0, []) hj)
        unfold most; omega
      have hn : nth (wE es) (0, (true, [])) j = ((nth es (0, []) j).1, (false, (nth es (0, []) j).2)) := by
        unfold wE
        rw [nth_get _ (by simpa using hj), nth_get _ hj]
        simp
      rw [Int.toNat_natCast]
      generalize nth es (0, []) j = e at *
      simp [c31, h0, h1, hj, hn, hm]
theorem f26 (call : Oracle) (fuel : Nat) (b : Bool) (es : ES) (hl : es.length ≤ 10000) (i : Int) (h36 : ∀ i : Nat, i ≤ es.length → call 36 [jD b es, nV i] = some (nV (bgN es i))) (h32 : ∀ l : List Nat, l.length ≤ 8201 → call 32 [su8 false l] = some (su8 false l))
    (h34 : ∀ e ∈ es, call 34 [su8 false (sealL e.1 e.2)] = some (okD e.1 e.2 [])) (hd : ∀ e ∈ es, e.2.length ≤ 8192) : callF call fuel c26 [jD b es, nV i] = some (enD es i) := by
  rw [callF_tab call fuel c26 15 _ (by exact Nat.le_of_ble_eq_true rfl) (by exact Nat.le_of_ble_eq_true rfl)]
  unfold enD
  by_cases h0 : i < 0
  · rw [if_neg (by omega)]
    simp [c26, h0]
    rfl
  · by_cases h1 : (es.length : Int) ≤ i
    · rw [if_neg (by omega)]
      simp [c26, h0, h1]
      rfl
    · rw [if_pos ⟨by omega, by omega⟩]
      obtain ⟨j, rfl⟩ : ∃ j : Nat, i = (j : Int) := ⟨i.toNat, by omega⟩
      have hj : j < es.length := by omega
      have g1 := h36 j (by omega)
      have g2 := je_nth es hj
      have g3 := ent_bytes es hj
      have hmem := nth_mem (0, []) hj
      have g4 := h34 _ hmem
      have g5 := h32 (sealL (nth es (0, []) j).1 (nth es (0, []) j).2) (by rw [seal_len]; have := hd _ hmem; omega)
      have g6 : bgN es j ≤ bgN es (j + 1) := by
        unfold bgN
        rw [List.take_succ_eq_append_getElem hj, jb_len_snoc]
        omega
      have g7 : bgN es (j + 1) ≤ (jbL es).length := jb_take_le es (j + 1)
      have g8 : nth (jeL es) 0 j = bgN es (j + 1) := g2
      rw [Int.toNat_natCast]
      unfold okD at g4
      generalize nth es (0, []) j = e at *
      simp [c26, h0, h1, hj, g1, g8, g6, g7, g3, g5, g4]
end Go.Mx
