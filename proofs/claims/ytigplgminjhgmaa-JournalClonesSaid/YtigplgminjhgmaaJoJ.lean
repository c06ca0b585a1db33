import Derived.Test.YtigplgminjhgmaaJoI
/-
  Journals: compared, read.
-/
namespace Go.Mx
set_option linter.unusedVariables false
set_option linter.unusedSimpArgs false
set_option linter.unusedSectionVars false
open Go

@[simp] theorem assign_gro {α : Type} (e : En α) (l : List α) (st : St) (dst : Nat) : assign st dst (.ro (gsl e false l)) = some (setv st dst (.ro (gsl e false l))) := rfl
theorem f16 (call : Oracle) (fuel : Nat) (hF : 20000 < fuel) (dJ dW : D) (n : Nat) (hn : n ≤ 10000) (l : List Nat) (bl : Bool) (f : Int → D) (hJW : (dJ = ptr0 ∧ dW = ptr0) ∨ ((∃ k, dJ = .nd (.bx false) k) ∧ ∃ k, dW = .nd (.bx false) k))
    (h21 : call 21 [dJ] = some (nV n)) (h30 : call 30 [dW] = some (nV n)) (h18 : call 18 [dJ] = some (su8 bl l)) (h29 : call 29 [dW] = some (su8 bl l)) (h22 : call 22 [su8 bl l, su8 bl l] = some (bV true))
    (h26 : ∀ i : Int, call 26 [dJ, nV i] = some (f i)) (h31 : ∀ i : Int, call 31 [dW, nV i] = some (f i)) (hf : ∀ i : Int, ∃ (k : Nat) (b : Bool) (d : List Nat) (e : Int), f i = .nd .tu [kV k, su8 b d, nV e] ∧ call 22 [su8 b d, su8 b d] = some (bV true)) :
    callF call fuel c16 [dJ, dW] = some (bV true) := by
  have L := loop16 call fuel dJ dW n hn f h30 (hJW.elim (fun h => .inl h.1) fun h => .inr h.1) (hJW.elim (fun h => .inl h.2) fun h => .inr h.2) h26 h31 hf fuel hF
  rw [callF_tab call fuel c16 44 _ (by exact Nat.le_of_ble_eq_true rfl) (by exact Nat.le_of_ble_eq_true rfl)]
  rcases hJW with ⟨rfl, rfl⟩ | ⟨⟨kj, rfl⟩, ⟨kw, rfl⟩⟩
  · simp [c16, h21, h30, h18, h29, h22]
    rw [L _ (by simp)]
    simp
  · simp [c16, h21, h30, h18, h29, h22]
    rw [L _ (by simp)]
    simp

abbrev txV (l : List Nat) : D := .v (.string ⟨(l.map UInt8.ofNat).toArray⟩)
abbrev magV : D := .v (.string ⟨#[67, 79, 73, 78, 49]⟩)
theorem byMag : By magL := by intro x hx; simp [magL] at hx; omega
theorem tx5 {l : List Nat} (hl : By l) : ((((l.map UInt8.ofNat).toArray).extract 0 5).toList == [67, 79, 73, 78, 49]) = (l.take 5 == magL) := by
  have e : (((l.map UInt8.ofNat).toArray).extract 0 5).toList = (l.take 5).map UInt8.ofNat := by simp
  rw [e]
  by_cases h : l.take 5 = magL
  · rw [h]; rfl
  · rw [beq_eq_false_iff_ne.2 h, beq_eq_false_iff_ne]
    intro h'
    exact h (u8_inj (hl.take 5) byMag h')
theorem tx5' {l : List Nat} (hl : By l) : List.take 5 (List.map UInt8.ofNat l) = [67, 79, 73, 78, 49] ↔ l.take 5 = magL := by
  rw [← List.map_take]
  exact ⟨fun h => u8_inj (hl.take 5) byMag h, fun h => by rw [h]; rfl⟩
theorem f42 (call : Oracle) (fuel : Nat) (l : List Nat) (hl : By l) (h5 : 5 ≤ l.length) : callF call fuel c42 [txV l, magV] = some (bV (l.take 5 == magL)) := by
  rw [callF_tab call fuel c42 5 _ (by exact Nat.le_of_ble_eq_true rfl) (by exact Nat.le_of_ble_eq_true rfl)]
  have h1 : (ByteArray.mk #[67, 79, 73, 78, 49]).size = 5 := rfl
  have h2 : (ByteArray.mk (l.map UInt8.ofNat).toArray).size = l.length := by show (l.map UInt8.ofNat).toArray.size = _; simp
  have h3 : (((ByteArray.mk (l.map UInt8.ofNat).toArray).extract 0 5).toList == [67, 79, 73, 78, 49]) = (l.take 5 == magL) := by
    rw [ByteArray.toList_eq, ByteArray.data_extract]
    exact tx5 hl
  have h5' : ¬ (l.length : Int) < 5 := by omega
  simp [c42, h1, h2, h3, h5, h5']
theorem f33 (call : Oracle) (fuel : Nat) (l : List Nat) (b : Bool) (h42 : call 42 [txV l, magV] = some (bV b)) : callF call fuel c33 [txV l, magV] = some (bV b) := by
  rw [callF_tab call fuel c33 5 _ (by exact Nat.le_of_ble_eq_true rfl) (by exact Nat.le_of_ble_eq_true rfl)]
  simp [c33, h42]


def okS (r : List Nat) : Prop := 0 < r.length ∧ nth r 0 0 = 209 ∧ 5 ≤ r.length ∧ len3 r ≤ 8192 ∧ len3 r + 9 ≤ r.length ∧ valF ((r.drop (len3 r + 5)).take 4) = adler (r.take (len3 r + 5))
instance (r : List Nat) : Decidable (okS r) := by unfold okS; infer_instance
theorem opn_ok {r : List Nat} (h : okS r) : opnD r = okO r (len3 r) := by
  obtain ⟨h1, h2, h3, h4, h5, h6⟩ := h
  unfold opnD
  rw [if_neg (by omega), if_neg (by simpa using h2), if_neg (by omega), if_neg (by omega), if_neg (by omega), if_neg (by simpa using h6)]
theorem opn_no {r : List Nat} (h : ¬ okS r) : ∃ e : Int, e ≠ 0 ∧ opnD r = oE e := by
  unfold opnD
  split
  · exact ⟨_, by decide, rfl⟩
  split
  · exact ⟨_, by decide, rfl⟩
  split
  · exact ⟨_, by decide, rfl⟩
  split
  · exact ⟨_, by decide, rfl⟩
  split
  · exact ⟨_, by decide, rfl⟩
  split
  · exact ⟨_, by decide, rfl⟩
  · rename_i a1 a2 a3 a4 a5 a6
    exact absurd ⟨by omega, Classical.not_not.1 a2, by omega, by omega, by omega, Classical.not_not.1 a6⟩ h
def tlC : MC → MC
  | .seq _ c => c
  | c => c
theorem nxt_inv {h : List Bool} {r : Mx.R} {X : St} (e : nxt h r = some (.norm, X)) : ∃ st', r = some (.norm, st') ∧ drops st' h = X := by
  cases r with
  | none => simp at e
  | some q =>
    obtain ⟨e', s'⟩ := q
    cases e' with
    | norm => simp at e; exact ⟨s', rfl, e⟩
    | ex i => simp at e
    | ret => simp at e
theorem nxt_inv' {h : List Bool} {r : Mx.R} {e : Ex} {X : St} (he : e ≠ .norm) (hr : nxt h r = some (e, X)) : r = some (e, X) := by
  cases r with
  | none => simp at hr
  | some q =>
    obtain ⟨e', s'⟩ := q
    cases e' with
    | norm => simp at hr; exact absurd hr.1.symm he
    | ex i => simpa using hr
    | ret => simpa using hr
/-- What the loop of Open holds: in its first round, and later. -/
def I19 (l : List Nat) (f b : Bool) (es : ES) (r r0 : List Nat) : St := match f with
  | true => L19_0 (.ro (su8 false l)) (.own (jD b es)) (.ro (su8 false r)) (.sc undef) (.ro (su8 false l)) (.ro (su8 false r0)) (.sc undef)
  | false => L19_0 (.ro (su8 false l)) (.own (jD b es)) (.own (su8 false r)) (.ref 6 []) (.ro (su8 false l)) (.ro (su8 false r0)) .dead
def O19 (l : List Nat) (f b : Bool) (es : ES) (r r0 : List Nat) : St := match f with
  | true => X19_1 (.ro (su8 false l)) (.own (jD b es)) (.ro (su8 false r)) (.own nilB) (.ro (su8 false l)) (.ro (su8 false r0)) (.sc undef)
  | false => X19_1 (.ro (su8 false l)) (.own (jD b es)) (.own (su8 false r)) (.own nilB) (.ro (su8 false l)) (.ro (su8 false r0)) .dead
theorem ro19 (call : Oracle) (fuel : Nat) (f : Bool) (l r r' r0 d : List Nat) (k : Nat) (b : Bool) (es : ES) (h34 : call 34 [su8 false r] = some (.nd .tu [kV k, su8 false d, su8 false r', errD 0]))
  (hr : r = sealL k d ++ r') (hl : r.length ≤ 20000) (hm : (jbL es).length ≤ 70000) (hel : es.length ≤ 20000) :
  nxt h19_0 (run call fuel (tlC b19_0) (I19 l f b es r r0)) = some (.norm, I19 l false false (es ++ [(k, d)]) r' r0) := by
  have hlen : r.length = (sealL k d).length + r'.length := by rw [hr, List.length_append]
  have hw : IntKind.i64.wrap ((r.length : Int) - (r'.length : Int)) = ((sealL k d).length : Int) := by
    rw [wrap_eq (by unfold I64; omega)]; omega
  have hle : (sealL k d).length ≤ r.length := by omega
  have hts : r.take (sealL k d).length = sealL k d := by rw [hr, List.take_left]
  have hm' : (jbL es).length + (sealL k d).length ≤ most := by unfold most; omega
  have hel' : es.length + 1 ≤ most := by unfold most; omega
  have e1 : jD false (es ++ [(k, d)]) = .nd (.bx false) [su8 false (jbL es ++ sealL k d), gsl (eI .i64) false (zl (jeL es) ++ [((jbL es).length : Int) + ((sealL k d).length : Int)])] := by
    unfold jD
    rw [je_snoc, jb_snoc, zl_app, List.length_append]
    simp [zl]
  unfold I19
  dsimp only
  rw [e1]
  clear hr hlen
  generalize sealL k d = s at *
  cases f <;> simp [tlC, b19_0, h34, hw, hle, hts, hm', hel']
theorem rn19 (call : Oracle) (fuel : Nat) (f : Bool) (l r r0 : List Nat) (e : Int) (he : e ≠ 0) (b : Bool) (es : ES) (h34 : call 34 [su8 false r] = some (oE e)) :
  nxt h19_0 (run call fuel (tlC b19_0) (I19 l f b es r r0)) = some (.ex 1, O19 l f b es r r0) := by
  unfold I19 O19
  unfold oE at h34
  cases f <;> simp [tlC, b19_0, h34, he]

/-- Reading on. -/
def finN : Nat → ES × List Nat → ES × List Nat
  | 0, a => a
  | n + 1, a => if okS a.2 then finN n (a.1 ++ [(nth a.2 0 1, (a.2.drop 5).take (len3 a.2))], a.2.drop (len3 a.2 + 9)) else a
theorem ok_seal {r : List Nat} (hb : By r) (h : okS r) : r = sealL (nth r 0 1) ((r.drop 5).take (len3 r)) ++ r.drop (len3 r + 9) := by
  obtain ⟨h1, h2, h3, h4, h5, h6⟩ := h
  exact (seal_open hb h2 h3 h5 h6).symm
structure PaI (l : List Nat) (a : ES × List Nat) : Prop where
  cat : jbL a.1 ++ a.2 = l
  by8 : ∀ e ∈ a.1, e.1 < 256 ∧ By e.2 ∧ e.2.length ≤ 8192
theorem pa_step {l : List Nat} (hb : By l) {a : ES × List Nat} (h : PaI l a) (ho : okS a.2) : PaI l (a.1 ++ [(nth a.2 0 1, (a.2.drop 5).take (len3 a.2))], a.2.drop (len3 a.2 + 9)) := by
  have hb2 : By a.2 := by
    intro x hx
    apply hb
    rw [← h.cat]
    simp [hx]
  have e := ok_seal hb2 ho
  refine ⟨?_, fun x hx => ?_⟩
  · show jbL (a.1 ++ _) ++ _ = l
    rw [jb_snoc, List.append_assoc]
    dsimp only
    rw [← e, h.cat]
  · rcases List.mem_append.1 hx with hx | hx
    · exact h.by8 x hx
    · rw [List.mem_singleton.1 hx]
      refine ⟨hb2.nth 1, (hb2.drop 5).take _, ?_⟩
      have := ho.2.2.2.1
      show ((a.2.drop 5).take (len3 a.2)).length ≤ 8192
      rw [List.length_take]; omega
theorem fin_pa {l : List Nat} (hb : By l) : ∀ (n : Nat) (a : ES × List Nat), PaI l a → PaI l (finN n a)
  | 0, a, h => h
  | n + 1, a, h => by
    unfold finN
    by_cases ho : okS a.2
    · rw [if_pos ho]; exact fin_pa hb n _ (pa_step hb h ho)
    · rw [if_neg ho]; exact h
theorem jb_ge : ∀ (es : ES), es.length * 9 ≤ (jbL es).length := by
  intro es
  induction es with
  | nil => exact Nat.zero_le _
  | cons e es ih =>
    have : (jbL (e :: es)).length = (jbL es).length + (e.2.length + 9) := by
      unfold jbL
      simp [seal_len]
      omega
    rw [this, List.length_cons]; omega
theorem loop19 (call : Oracle) (fuel : Nat) (l r0 : List Nat) (hb : By l) (hl : l.length ≤ 20000)
    (h34 : ∀ l : List Nat, By l → l.length ≤ 20000 → call 34 [su8 false l] = some (opnD l)) (fu : Nat) (hfu : 20000 < fu) (hr0 : r0.length ≤ 10000) (h0 : PaI l ([], r0)) (st : St)
    (hst : drops st h19_0 = I19 l true true [] r0 r0) :
    run.loopN (run call fuel b19_0) fu st = some (.ex 1, O19 l ((finN (r0.length + 1) ([], r0)).1.length == 0) ((finN (r0.length + 1) ([], r0)).1.length == 0) (finN (r0.length + 1) ([], r0)).1 (finN (r0.length + 1) ([], r0)).2 r0) := by
  have key : ∀ (n : Nat) (fu : Nat) (a : ES × List Nat) (b : Bool) (st : St), n < fu → a.2.length < n → PaI l a → b = (a.1.length == 0) → drops st h19_0 = I19 l b b a.1 a.2 r0 →
      run.loopN (run call fuel b19_0) fu st = some (.ex 1, O19 l ((finN n a).1.length == 0) ((finN n a).1.length == 0) (finN n a).1 (finN n a).2 r0) := by
    intro n
    induction n with
    | zero => intro fu a b st _ h; omega
    | succ n ih =>
      intro fu a b st hfu ha hp hbe hd
      have hb2 : By a.2 := by
        intro x hx
        apply hb
        rw [← hp.cat]
        simp [hx]
      have hlen : (jbL a.1).length + a.2.length = l.length := by rw [← hp.cat, List.length_append]
      have hge := jb_ge a.1
      have k34 := h34 a.2 hb2 (by omega)
      obtain ⟨fu, rfl⟩ : ∃ m, fu = m + 1 := ⟨fu - 1, by omega⟩
      unfold finN
      rw [loop_succ, show b19_0 = .seq (.scr h19_0) (tlC b19_0) from rfl, run_scr, hd]
      by_cases ho : okS a.2
      · rw [opn_ok ho] at k34
        have h1 := ro19 call fuel b l a.2 _ r0 _ _ b a.1 k34 (ok_seal hb2 ho) (by omega) (by omega) (by omega)
        obtain ⟨st', e1, e2⟩ := nxt_inv h1
        rw [e1, if_pos ho]
        exact ih fu _ false st' (by omega) (by have := ho.1; show (a.2.drop _).length < n; rw [List.length_drop]; omega) (pa_step hb hp ho) (by simp) e2
      · obtain ⟨e, he, h1⟩ := opn_no ho
        rw [h1] at k34
        have h2 := nxt_inv' (by simp) (rn19 call fuel b l a.2 r0 e he b a.1 k34)
        rw [h2, if_neg ho]
        rw [hbe]
  exact key (r0.length + 1) fu ([], r0) true st (by omega) (by show r0.length < _; omega) h0 rfl hst

/-- What Open returns. -/
def pal (l : List Nat) : ES × List Nat := finN ((l.drop 5).length + 1) ([], l.drop 5)
def opJ (l : List Nat) : D := if l.length < 5 then .nd .tu [ptr0, nV 0, nV 4] else if l.take 5 = magL then .nd .tu [jD ((pal l).1.length == 0) (pal l).1, nV (pal l).2.length, nV 0] else .nd .tu [ptr0, nV 0, nV 3]
def opW (l : List Nat) : D := if l.length < 5 then .nd .tu [ptr0, nV 0, nV 4] else if l.take 5 = magL then .nd .tu [wD ((pal l).1.length == 0) (pal l).1, nV (pal l).2.length, nV 0] else .nd .tu [ptr0, nV 0, nV 3]
theorem pa_0 {l : List Nat} (hm : l.take 5 = magL) : PaI l ([], l.drop 5) := by
  refine ⟨?_, by simp⟩
  show jbL [] ++ l.drop 5 = l
  rw [show jbL [] = l.take 5 by rw [hm]; simp [jbL]]
  exact List.take_append_drop 5 l
theorem f19 (call : Oracle) (fuel : Nat) (hF : 20000 < fuel) (b : Bool) (l : List Nat) (hbl : b = true → l = []) (hb : By l) (hl : l.length ≤ 10000)
    (h34 : ∀ l : List Nat, By l → l.length ≤ 20000 → call 34 [su8 false l] = some (opnD l)) (h33 : 5 ≤ l.length → call 33 [txV l, magV] = some (bV (l.take 5 == magL))) (h12 : call 12 [] = some (jD true [])) :
    callF call fuel c19 [su8 b l] = some (opJ l) := by
  rw [callF_tab call fuel c19 66 _ (by exact Nat.le_of_ble_eq_true rfl) (by exact Nat.le_of_ble_eq_true rfl)]
  have i1 : ¬ (65536 : Int) < (l.length : Int) := by omega
  unfold opJ
  by_cases h5 : l.length < 5
  · rw [if_pos h5]
    have i2 : (l.length : Int) < 5 := by omega
    simp [c19, i1, i2]
  rw [if_neg h5]
  have i2 : ¬ (l.length : Int) < 5 := by omega
  have i3 : 5 ≤ l.length := by omega
  have h33 := h33 i3
  obtain rfl : b = false := by
    cases b with
    | false => rfl
    | true => rw [hbl rfl] at i3; simp at i3
  by_cases hm : l.take 5 = magL
  · rw [if_pos hm]
    rw [hm] at h33
    have hdl : (l.drop 5).length ≤ 10000 := by rw [List.length_drop]; omega
    have e1 : l.drop 5 = List.take (l.length - 5) (List.drop 5 l) := by rw [List.take_of_length_le]; rw [List.length_drop]; omega
    have L := loop19 call fuel l (l.drop 5) hb (by omega) h34 fuel hF hdl (pa_0 hm)
    simp [c19, i1, i2, i3, h33, h12]
    rw [L _ (by simp; rw [← e1]; rfl)]
    unfold pal
    cases (finN ((l.drop 5).length + 1) ([], l.drop 5)).1.length == 0 <;> simp [O19]
  · rw [if_neg hm]
    rw [beq_eq_false_iff_ne.2 hm] at h33
    simp [c19, i1, i2, h33]

/-! ### the reference reads -/
def I20 (l : List Nat) (f b : Bool) (es : ES) (r r0 : List Nat) : St := match f with
  | true => L20_0 (.ro (su8 false l)) (.own (wD b es)) (.ro (su8 false r)) (.sc undef) (.ro (su8 false l)) (.ro (su8 false r0)) (.sc undef)
  | false => L20_0 (.ro (su8 false l)) (.own (wD b es)) (.own (su8 false r)) (.ref 6 []) (.ro (su8 false l)) (.ro (su8 false r0)) .dead
theorem ro20 (call : Oracle) (fuel : Nat) (f : Bool) (l r r' r0 d : List Nat) (k : Nat) (b : Bool) (es : ES) (h35 : call 35 [su8 false r] = some (.nd .tu [kV k, su8 false d, su8 false r', errD 0]))
  (hel : es.length ≤ 20000) :
  nxt h20_0 (run call fuel (tlC b20_0) (I20 l f b es r r0)) = some (.norm, I20 l false false (es ++ [(k, d)]) r' r0) := by
  have hel' : es.length + 1 ≤ most := by unfold most; omega
  have e1 : wD false (es ++ [(k, d)]) = .nd (.bx false) [gsl eE false (wE es ++ [(k, (false, d))])] := by unfold wD; rw [wE_snoc]
  unfold I20
  dsimp only
  rw [e1]
  cases f <;> simp [tlC, b20_0, h35, hel']
theorem rn20 (call : Oracle) (fuel : Nat) (f : Bool) (l r r0 : List Nat) (e : Int) (he : e ≠ 0) (b : Bool) (es : ES) (h35 : call 35 [su8 false r] = some (oE e)) :
  nxt h20_0 (run call fuel (tlC b20_0) (I20 l f b es r r0)) = some (.ret, R20 (.own (wD b es)) (ii r.length) (ii 0)) := by
  unfold I20
  unfold oE at h35
  cases f <;> simp [tlC, b20_0, h35, he]
theorem loop20 (call : Oracle) (fuel : Nat) (l r0 : List Nat) (hb : By l) (hl : l.length ≤ 20000)
    (h35 : ∀ l : List Nat, By l → l.length ≤ 20000 → call 35 [su8 false l] = some (opnD l)) (fu : Nat) (hfu : 20000 < fu) (hr0 : r0.length ≤ 10000) (h0 : PaI l ([], r0)) (st : St)
    (hst : drops st h20_0 = I20 l true true [] r0 r0) :
    run.loopN (run call fuel b20_0) fu st = some (.ret, R20 (.own (wD ((finN (r0.length + 1) ([], r0)).1.length == 0) (finN (r0.length + 1) ([], r0)).1)) (ii (finN (r0.length + 1) ([], r0)).2.length) (ii 0)) := by
  have key : ∀ (n : Nat) (fu : Nat) (a : ES × List Nat) (b : Bool) (st : St), n < fu → a.2.length < n → PaI l a → b = (a.1.length == 0) → drops st h20_0 = I20 l b b a.1 a.2 r0 →
      run.loopN (run call fuel b20_0) fu st = some (.ret, R20 (.own (wD ((finN n a).1.length == 0) (finN n a).1)) (ii (finN n a).2.length) (ii 0)) := by
    intro n
    induction n with
    | zero => intro fu a b st _ h; omega
    | succ n ih =>
      intro fu a b st hfu ha hp hbe hd
      have hb2 : By a.2 := by
        intro x hx
        apply hb
        rw [← hp.cat]
        simp [hx]
      have hlen : (jbL a.1).length + a.2.length = l.length := by rw [← hp.cat, List.length_append]
      have hge := jb_ge a.1
      have k35 := h35 a.2 hb2 (by omega)
      obtain ⟨fu, rfl⟩ : ∃ m, fu = m + 1 := ⟨fu - 1, by omega⟩
      unfold finN
      rw [loop_succ, show b20_0 = .seq (.scr h20_0) (tlC b20_0) from rfl, run_scr, hd]
      by_cases ho : okS a.2
      · rw [opn_ok ho] at k35
        have h1 := ro20 call fuel b l a.2 _ r0 _ _ b a.1 k35 (by omega)
        obtain ⟨st', e1, e2⟩ := nxt_inv h1
        rw [e1, if_pos ho]
        exact ih fu _ false st' (by omega) (by have := ho.1; show (a.2.drop _).length < n; rw [List.length_drop]; omega) (pa_step hb hp ho) (by simp) e2
      · obtain ⟨e, he, h1⟩ := opn_no ho
        rw [h1] at k35
        have h2 := nxt_inv' (by simp) (rn20 call fuel b l a.2 r0 e he b a.1 k35)
        rw [h2, if_neg ho]
        rw [hbe]
  exact key (r0.length + 1) fu ([], r0) true st (by omega) (by show r0.length < _; omega) h0 rfl hst
theorem f20 (call : Oracle) (fuel : Nat) (hF : 20000 < fuel) (b : Bool) (l : List Nat) (hbl : b = true → l = []) (hb : By l) (hl : l.length ≤ 10000)
    (h35 : ∀ l : List Nat, By l → l.length ≤ 20000 → call 35 [su8 false l] = some (opnD l)) (h13 : call 13 [] = some (wD true [])) :
    callF call fuel c20 [su8 b l] = some (opW l) := by
  rw [callF_tab call fuel c20 49 _ (by exact Nat.le_of_ble_eq_true rfl) (by exact Nat.le_of_ble_eq_true rfl)]
  have i1 : ¬ (65536 : Int) < (l.length : Int) := by omega
  unfold opW
  by_cases h5 : l.length < 5
  · rw [if_pos h5]
    have i2 : (l.length : Int) < 5 := by omega
    simp [c20, i1, i2]
  rw [if_neg h5]
  have i2 : ¬ (l.length : Int) < 5 := by omega
  have i3 : 5 ≤ l.length := by omega
  obtain rfl : b = false := by
    cases b with
    | false => rfl
    | true => rw [hbl rfl] at i3; simp at i3
  have h3 := tx5' hb
  by_cases hm : l.take 5 = magL
  · rw [if_pos hm]
    replace h3 := h3.2 hm
    have hdl : (l.drop 5).length ≤ 10000 := by rw [List.length_drop]; omega
    have e1 : l.drop 5 = List.take (l.length - 5) (List.drop 5 l) := by rw [List.take_of_length_le]; rw [List.length_drop]; omega
    have L := loop20 call fuel l (l.drop 5) hb (by omega) h35 fuel hF hdl (pa_0 hm)
    simp [c20, i1, i2, i3, h3, h13]
    rw [L _ (by simp; rw [← e1]; rfl)]
    unfold pal
    simp
  · rw [if_neg hm]
    replace h3 : ¬ List.take 5 (List.map UInt8.ofNat l) = [67, 79, 73, 78, 49] := fun h => hm (h3.1 h)
    simp [c20, i1, i2, i3, h3]
end Go.Mx
