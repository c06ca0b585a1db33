import Derived.Test.YtldfddgdcjaogaaDiL
/-
  Cycles: the search for one.
-/
namespace Go.Mx
set_option linter.unusedVariables false
set_option linter.unusedSimpArgs false
set_option linter.unusedSectionVars false
open Go

def zl (l : List Nat) : List Int := l.map fun (v : Nat) => (v : Int)
@[simp] theorem zl_len (l : List Nat) : (zl l).length = l.length := by simp [zl]
@[simp] theorem zl_nth (l : List Nat) (i : Nat) : nth (zl l) 0 i = ((nth l 0 i : Nat) : Int) := nth_map (fun (v : Nat) => (v : Int)) l 0 i
@[simp] theorem zl_app1 (l : List Nat) (x : Nat) : zl l ++ [(x : Int)] = zl (l ++ [x]) := by simp [zl]

/-- A place behind another one. -/
def ad (q j : Nat) : Nat := q + j

/-- A bound that goes on. -/
def cndT (l : List Bn) (w : Nat → Nat → Lm) (left : Nat) (sum : Int) (at' t : Nat) : Bool :=
  decide ((nth l zN t).1 = at') && match w left (nth l zN t).2.1 with
    | some r => decide (sum + (nth l zN t).2.2 + r < 0)
    | none => false
def pickT (l : List Bn) (w : Nat → Nat → Lm) (s left : Nat) (sum : Int) (at' : Nat) : Option Nat := (List.range (l.length - (s + 1))).find? fun j => cndT l w left sum at' (ad (s + 1) j)
abbrev CS := List Nat × Int × Nat
def goT (l : List Bn) (q : CS) (t : Nat) : CS := (q.1 ++ [t], q.2.1 + (nth l zN t).2.2, (nth l zN t).2.1)
def stp (l : List Bn) (w : Nat → Nat → Lm) (s left : Nat) (q : CS) : CS := (pickT l w s left q.2.1 q.2.2).elim q fun j => goT l q (ad (s + 1) j)
def stK (l : List Bn) (w : Nat → Nat → Lm) (s len : Nat) : Nat → CS
  | 0 => ([s], (nth l zN s).2.2, (nth l zN s).2.1)
  | k + 1 => stp l w s (len - 2 - k) (stK l w s len k)
/-- The least sums for a search. -/
def wC (l : List Bn) (s : Nat) : Nat → Nat → Lm := W (l.drop (s + 1)) (nth l zN s).1
def ngC (l : List Bn) (s len : Nat) : Bool := match wC l s (len - 1) (nth l zN s).2.1 with
  | some r => decide ((nth l zN s).2.2 + r < 0)
  | none => false

/-! ### the search goes on -/
theorem wS_some {l : List Bn} {g : Nat → Lm} {v : Nat} {x : Int} (h : wS l g v = some x) : ∃ c ∈ l, c.1 = v ∧ ∃ y, g c.2.1 = some y ∧ x = c.2.2 + y := by
  have : ∀ (l : List Bn) (f : Nat → Lm), (∀ v x, f v = some x → ∃ c ∈ l, c.1 = v ∧ ∃ y, g c.2.1 = some y ∧ x = c.2.2 + y) → ∀ (m : List Bn), (∀ c ∈ m, c ∈ l) → ∀ v x, m.foldl (wStep g) f v = some x → ∃ c ∈ l, c.1 = v ∧ ∃ y, g c.2.1 = some y ∧ x = c.2.2 + y := by
    intro l f hf m
    induction m generalizing f with
    | nil => intro _ v x h; exact hf v x h
    | cons c m ih =>
      intro hm v x h
      refine ih (wStep g f c) ?_ (fun d hd => hm d (List.mem_cons_of_mem _ hd)) v x h
      intro v x hx
      unfold wStep updF at hx
      split at hx
      · rename_i hv
        rcases less_eq (f c.1) (plus (some c.2.2) (g c.2.1)) with e | e
        · rw [e] at hx; rw [hv]; exact hf _ _ hx
        · rw [e] at hx
          cases hg : g c.2.1 with
          | none => rw [hg] at hx; simp at hx
          | some y =>
            rw [hg, plus_some] at hx
            exact ⟨c, hm c (List.mem_cons_self ..), hv.symm, y, hg, (Option.some.inj hx).symm⟩
      · exact hf _ _ hx
  exact this l (fun _ => none) (fun v x h => by cases h) l (fun c hc => hc) v x h
theorem wS_le {l : List Bn} {g : Nat → Lm} {c : Bn} (hc : c ∈ l) : lle (wS l g c.1) (plus (some c.2.2) (g c.2.1)) := by
  have mono : ∀ (m : List Bn) (f : Nat → Lm) (v : Nat), lle (m.foldl (wStep g) f v) (f v) := by
    intro m
    induction m with
    | nil => intro f v; exact lle_refl _
    | cons d m ih =>
      intro f v
      refine lle_trans (ih _ v) ?_
      unfold wStep updF
      split
      · rename_i h; subst h; exact less_left _ _
      · exact lle_refl _
  have : ∀ (m : List Bn) (f : Nat → Lm), c ∈ m → lle (m.foldl (wStep g) f c.1) (plus (some c.2.2) (g c.2.1)) := by
    intro m
    induction m with
    | nil => intro f h; cases h
    | cons d m ih =>
      intro f h
      rcases List.mem_cons.1 h with rfl | h
      · refine lle_trans (mono m _ _) ?_
        unfold wStep
        rw [updF_same]
        exact less_right _ _
      · exact ih _ h
  exact this l _ hc

theorem mem_drop_nth {l : List Bn} {s : Nat} {c : Bn} (h : c ∈ l.drop (s + 1)) : ∃ j, j < l.length - (s + 1) ∧ nth l zN (ad (s + 1) j) = c := by
  obtain ⟨j, hj, rfl⟩ := List.mem_iff_getElem.1 h
  rw [List.length_drop] at hj
  refine ⟨j, hj, ?_⟩
  rw [nth_get zN (by unfold ad; omega)]
  simp [ad]
theorem nth_mem_drop {l : List Bn} {s j : Nat} (h : j < l.length - (s + 1)) : nth l zN (ad (s + 1) j) ∈ l.drop (s + 1) := by
  rw [nth_get zN (by unfold ad; omega)]
  have : (l.drop (s + 1))[j]'(by rw [List.length_drop]; exact h) = l[ad (s + 1) j]'(by unfold ad; omega) := by simp [ad]
  rw [← this]
  exact List.getElem_mem _

/-- As long as a walk is left. -/
theorem pick_some {l : List Bn} {s left : Nat} {sum : Int} {at' : Nat} {r : Int} (h : wC l s (left + 1) at' = some r) (hr : sum + r < 0) :
    ∃ j, pickT l (wC l s) s left sum at' = some j ∧ j < l.length - (s + 1) ∧ cndT l (wC l s) left sum at' (ad (s + 1) j) = true := by
  obtain ⟨c, hc, rfl, y, hy, rfl⟩ := wS_some h
  obtain ⟨j, hj, rfl⟩ := mem_drop_nth hc
  have h1 : cndT l (wC l s) left sum (nth l zN (ad (s + 1) j)).1 (ad (s + 1) j) = true := by
    unfold cndT
    rw [show wC l s left (nth l zN (ad (s + 1) j)).2.1 = some y from hy]
    simp; omega
  have h2 : (pickT l (wC l s) s left sum (nth l zN (ad (s + 1) j)).1).isSome = true := by
    unfold pickT
    rw [List.find?_isSome]
    exact ⟨j, List.mem_range.2 hj, h1⟩
  obtain ⟨j', h3⟩ := Option.isSome_iff_exists.1 h2
  have h4 : (List.range (l.length - (s + 1))).find? (fun j' => cndT l (wC l s) left sum (nth l zN (ad (s + 1) j)).1 (ad (s + 1) j')) = some j' := h3
  exact ⟨j', h3, List.mem_range.1 (List.mem_of_find?_eq_some h4), by simpa using List.find?_some h4⟩
theorem cnd_iff {l : List Bn} {w : Nat → Nat → Lm} {left : Nat} {sum : Int} {at' t : Nat} : cndT l w left sum at' t = true ↔ (nth l zN t).1 = at' ∧ ∃ r, w left (nth l zN t).2.1 = some r ∧ sum + (nth l zN t).2.2 + r < 0 := by
  unfold cndT
  cases h : w left (nth l zN t).2.1 with
  | none => simp
  | some r => simp

/-- How the search stands. -/
structure StI (n : Nat) (l : List Bn) (s len k : Nat) (q : CS) : Prop where
  cnt : q.1.length = k + 1
  at' : q.2.2 < n
  left : ∃ r, wC l s (len - 1 - k) q.2.2 = some r ∧ q.2.1 + r < 0
  lo : -1000000 * ((k : Int) + 1) ≤ q.2.1
  hi : q.2.1 ≤ 1000000 * ((k : Int) + 1)
theorem stK_ok {n : Nat} {l : List Bn} (h : VB n l) {s len : Nat} (hs : s < l.length) (hg : ngC l s len = true) : ∀ k, k ≤ len - 1 → StI n l s len k (stK l (wC l s) s len k)
  | 0, _ => by
    have h1 := h.at hs
    have h2 := h.c _ (nth_mem zN hs)
    refine ⟨rfl, h1.2.1, ?_, ?_, ?_⟩
    · unfold ngC at hg
      cases e : wC l s (len - 1) (nth l zN s).2.1 with
      | none => rw [e] at hg; cases hg
      | some r =>
        rw [e] at hg
        exact ⟨r, e, of_decide_eq_true hg⟩
    · show _ ≤ (nth l zN s).2.2; omega
    · show (nth l zN s).2.2 ≤ _; omega
  | k + 1, hk => by
    have ih := stK_ok h hs hg k (by omega)
    show StI n l s len (k + 1) (stp l (wC l s) s (len - 2 - k) (stK l (wC l s) s len k))
    generalize stK l (wC l s) s len k = q at *
    obtain ⟨r, h1, h2⟩ := ih.left
    rw [show len - 1 - k = (len - 2 - k) + 1 by omega] at h1
    obtain ⟨j, h3, h4, h5⟩ := pick_some h1 h2
    unfold stp
    rw [h3]
    have h6 := h.at (i := ad (s + 1) j) (by unfold ad; omega)
    have h7 := h.c _ (nth_mem zN (i := ad (s + 1) j) (l := l) (by unfold ad; omega))
    obtain ⟨h8, r', h9, h10⟩ := cnd_iff.1 h5
    have := ih.lo
    have := ih.hi
    refine ⟨?_, h6.2.1, ⟨r', ?_, h10⟩, ?_, ?_⟩
    · show (q.1 ++ [_]).length = _
      rw [List.length_append, ih.cnt]; rfl
    · rw [show len - 1 - (k + 1) = len - 2 - k by omega]; exact h9
    · show _ ≤ q.2.1 + _; omega
    · show q.2.1 + _ ≤ _; omega

/-! ### Cycles: the program. -/

theorem wC_bd {n : Nat} {l : List Bn} (h : VB n l) (s k v : Nat) (hk : k ≤ 16) : Bd 16000000 (wC l s k v) :=
  (W_bd (fun c hc => h.c c (List.mem_of_mem_drop hc)) _ k v).mono (by omega)

theorem loop39_1 (call : Oracle) (fuel : Nat) (n : Nat) (l : List Bn) (h : VB n l) (b : Bool) (s : Nat) (len0 : Int) (m left : Nat) (hm : left < m) (hm16 : m ≤ 16) (q : CS) (hq : q.1.length ≤ 16) (h1 : -16000000 ≤ q.2.1) (h2 : q.2.1 ≤ 16000000) (fu : Nat) (hf : 100 < fu) (st : St)
    (h0 : drops st h39_1 = L39_1 (.ro (sd b (nbL l))) (ii s) (ii len0) (.own (wT m n (l.drop (s + 1)) (nth l zN s).1)) (.own (si false (zl q.1))) (ii q.2.1) (ii q.2.2) (ii left) (ii (ad (s + 1) 0))) (hs : s < l.length) :
    run.loopN (run call fuel b39_1) fu st = some ((pickT l (wC l s) s left q.2.1 q.2.2).elim (.ex 2, X39_2 (.ro (sd b (nbL l))) (ii s) (ii len0) (.own (wT m n (l.drop (s + 1)) (nth l zN s).1)) (.own (si false (zl q.1))) (ii q.2.1) (ii q.2.2))
      fun j => (.ex 2, X39_2 (.ro (sd b (nbL l))) (ii s) (ii len0) (.own (wT m n (l.drop (s + 1)) (nth l zN s).1)) (.own (si false (zl (goT l q (ad (s + 1) j)).1))) (ii (goT l q (ad (s + 1) j)).2.1) (ii (goT l q (ad (s + 1) j)).2.2))) := by
  have hlen := h.len
  have hl' : ad (s + 1) (l.length - (s + 1)) = l.length := by unfold ad; omega
  refine loop_find call fuel h39_1 _ (l.length - (s + 1)) (fun j => cndT l (wC l s) left q.2.1 q.2.2 (ad (s + 1) j)) (fun j => L39_1 (.ro (sd b (nbL l))) (ii s) (ii len0) (.own (wT m n (l.drop (s + 1)) (nth l zN s).1)) (.own (si false (zl q.1))) (ii q.2.1) (ii q.2.2) (ii left) (ii (ad (s + 1) j))) _ _ (by simp) (by simp) ?_ (by rw [hl']; simp) fu st (by rw [h0]) (by omega)
  intro j hj _
  have ht : ad (s + 1) j < l.length := by unfold ad; omega
  have hw : IntKind.i64.wrap (((ad (s + 1) j : Nat) : Int) + 1) = ((ad (s + 1) (j + 1) : Nat) : Int) := by
    rw [wrap_eq (by unfold I64; omega)]; unfold ad; omega
  have hv := h.at ht
  have hx := h.c _ (nth_mem zN ht)
  have hB := wC_bd h s left (nth l zN (ad (s + 1) j)).2.1 (by omega)
  have hG : wC l s = W (l.drop (s + 1)) (nth l zN s).1 := rfl
  have hmo : q.1.length + 1 ≤ most := by unfold most; omega
  unfold goT cndT
  rw [hG] at hB ⊢
  dsimp only [wT]
  generalize (nth l zN s).1 = to at *
  generalize W (l.drop (s + 1)) to = w at *
  generalize ad (s + 1) (j + 1) = t1 at *
  generalize ad (s + 1) j = t at *
  obtain ⟨out, sum, at'⟩ := q
  simp only at h1 h2 hmo
  generalize hq' : nth l zN t = c at *
  obtain ⟨a, b', x⟩ := c
  have k1 : b' < n := hv.2.1
  simp only at hx hB
  have e : rlR (w left) b' = rl (w left b') := rfl
  by_cases c1 : a = at'
  · subst c1
    cases hr : w left b' with
    | none =>
      rw [hr, rl_none] at e
      simp [ht, hw, hq', k1, hm, tb2_nth, nth_row, e]
    | some r =>
      rw [hr, rl_some] at e
      have hr' := hB r hr
      have e1 : IntKind.i64.wrap (sum + x) = sum + x := wrap_eq (by unfold I64; omega)
      have e2 : IntKind.i64.wrap (sum + x + r) = sum + x + r := wrap_eq (by unfold I64; omega)
      by_cases c2 : sum + x + r < 0
      · simp [ht, hw, hq', k1, hm, tb2_nth, nth_row, e, e1, e2, c2, hmo]
      · simp [ht, hw, hq', k1, hm, tb2_nth, nth_row, e, e1, e2, c2]
  · have c1' : ¬ (a : Int) = (at' : Int) := by omega
    simp [ht, hw, hq', k1, hm, tb2_nth, nth_row, c1, c1']
theorem loop39_0 (call : Oracle) (fuel : Nat) (hF : 100 < fuel) (n : Nat) (l : List Bn) (h : VB n l) (b : Bool) (s len : Nat) (hs : s < l.length) (h2 : 2 ≤ len) (h16 : len ≤ 16) (hg : ngC l s len = true) (fu : Nat) (hf : 100 < fu) (st : St)
    (h0 : drops st h39_0 = L39_0 (.ro (sd b (nbL l))) (ii s) (ii len) (.own (wT (len - 1 + 1) n (l.drop (s + 1)) (nth l zN s).1)) (.own (si false (zl (stK l (wC l s) s len 0).1))) (ii (stK l (wC l s) s len 0).2.1) (ii (stK l (wC l s) s len 0).2.2)) :
    run.loopN (run call fuel b39_0) fu st = some (.ex 0, X39_0 (.own (si false (zl (stK l (wC l s) s len (len - 1)).1)))) := by
  refine loop_cnt call fuel h39_0 _ (len - 1) (fun k => L39_0 (.ro (sd b (nbL l))) (ii s) (ii len) (.own (wT (len - 1 + 1) n (l.drop (s + 1)) (nth l zN s).1)) (.own (si false (zl (stK l (wC l s) s len k).1))) (ii (stK l (wC l s) s len k).2.1) (ii (stK l (wC l s) s len k).2.2)) _ (by simp) ?_ ?_ fu st h0 (by omega)
  · intro k hk
    have hI := stK_ok h hs hg k (by omega)
    have hN : stK l (wC l s) s len (k + 1) = stp l (wC l s) s (len - 2 - k) (stK l (wC l s) s len k) := rfl
    rw [hN]
    generalize stK l (wC l s) s len k = q at *
    obtain ⟨r, h3, h4⟩ := hI.left
    rw [show len - 1 - k = (len - 2 - k) + 1 by omega] at h3
    obtain ⟨j, h5, _, _⟩ := pick_some h3 h4
    have hlo := hI.lo
    have hhi := hI.hi
    have hc := hI.cnt
    have hL := loop39_1 call fuel n l h b s len (len - 1 + 1) (len - 2 - k) (by omega) (by omega) q (by omega) (by omega) (by omega) fuel hF
    rw [h5] at hL
    unfold stp
    rw [h5]
    simp only [Option.elim_some] at hL ⊢
    generalize goT l q (ad (s + 1) j) = q' at *
    generalize hle : len - 2 - k = left at *
    have hlen := h.len
    obtain ⟨c, hcc⟩ : ∃ c, c = q.1.length := ⟨_, rfl⟩
    have hlt : c < len := by omega
    have e1 : IntKind.i64.wrap ((len : Int) - (c : Int)) = ((left + 1 : Nat) : Int) := by rw [wrap_eq (by unfold I64; omega)]; omega
    have e2 : IntKind.i64.wrap (left : Int) = (left : Int) := wrap_eq (by unfold I64; omega)
    have e3 : IntKind.i64.wrap ((s : Int) + 1) = ((ad (s + 1) 0 : Nat) : Int) := by rw [wrap_eq (by unfold I64; omega)]; unfold ad; omega
    simp [← hcc, hlt, e1, e2, e3]
    rw [hL _ (by simp) hs]
    simp
  · have hI := stK_ok h hs hg (len - 1) (by omega)
    generalize stK l (wC l s) s len (len - 1) = q at *
    have hc := hI.cnt
    obtain ⟨c, hcc⟩ : ∃ c, c = q.1.length := ⟨_, rfl⟩
    have hlt : ¬ c < len := by omega
    simp [← hcc, hlt]

/-- A cycle, or none. -/
def cyc (l : List Bn) (s len : Nat) : Option (List Nat) := if ngC l s len = true then some (stK l (wC l s) s len (len - 1)).1 else none
def cycD (l : List Bn) (s len : Nat) : D := match cyc l s len with
  | some c => si false (zl c)
  | none => nilI
theorem f39 (call : Oracle) (fuel : Nat) (hF : 100 < fuel) (n : Nat) (l : List Bn) (h : VB n l) (b : Bool) (s len : Nat) (hs : s < l.length) (h2 : 2 ≤ len) (h16 : len ≤ 16)
    (h50 : call 50 [nV n, sd b (nbL l), nV ((s + 1 : Nat) : Int), nV (nth l zN s).1, nV ((len - 1 : Nat) : Int)] = some (wT (len - 1 + 1) n (l.drop (s + 1)) (nth l zN s).1)) :
    callF call fuel c39 [nV n, sd b (nbL l), nV s, nV len] = some (cycD l s len) := by
  rw [callF_tab call fuel c39 17 _ (by exact Nat.le_of_ble_eq_true rfl) (by exact Nat.le_of_ble_eq_true rfl)]
  have hlen := h.len
  obtain ⟨s1, hs1⟩ : ∃ s1, s1 = s + 1 := ⟨_, rfl⟩
  obtain ⟨l1, hl1⟩ : ∃ l1, l1 = len - 1 := ⟨_, rfl⟩
  have e1 : IntKind.i64.wrap ((s : Int) + 1) = (s1 : Int) := by rw [wrap_eq (by unfold I64; omega)]; omega
  have e2 : IntKind.i64.wrap ((len : Int) - 1) = (l1 : Int) := by rw [wrap_eq (by unfold I64; omega)]; omega
  have hB := wC_bd h s l1 (nth l zN s).2.1 (by omega)
  have hL := loop39_0 call fuel hF n l h b s len hs h2 h16
  have hv := h.at hs
  have hx := h.c _ (nth_mem zN hs)
  have hq0 : stK l (wC l s) s len 0 = ([s], (nth l zN s).2.2, (nth l zN s).2.1) := rfl
  rw [hq0] at hL
  unfold cycD cyc
  unfold ngC at hL ⊢
  rw [← hs1, ← hl1] at h50
  rw [← hl1] at hL ⊢
  have hG : wC l s = W (l.drop (s + 1)) (nth l zN s).1 := rfl
  dsimp only [wT] at hL h50
  rw [← hs1] at hL
  rw [hG, ← hs1] at hB
  generalize hw : wC l s = w at *
  rw [← hs1] at hG
  rw [← hG] at hL h50 hB
  generalize hq' : nth l zN s = c at *
  obtain ⟨a, b', x⟩ := c
  simp only at hL h50 hB hv hx ⊢
  have k1 : b' < n := hv.2.1
  have k2 : l1 < l1 + 1 := by omega
  have e : rlR (w l1) b' = rl (w l1 b') := rfl
  have hz : T.nd (K.sl false 1 1) [T.v (Value.int .i64 (s : Int))] = si false (zl [s]) := rfl
  cases hr : w l1 b' with
  | none =>
    rw [hr, rl_none] at e
    simp [c39, hs, hq', e1, e2, h50, k1, k2, tb2_nth, nth_row, e]
    rfl
  | some r =>
    rw [hr, rl_some] at e
    rw [hr] at hL
    have hr' := hB r hr
    have e3 : IntKind.i64.wrap (x + r) = x + r := wrap_eq (by unfold I64; omega)
    by_cases c2 : x + r < 0
    · have c3 : ¬ 0 ≤ x + r := by omega
      have hL := hL (by simpa using c2) fuel hF
      simp [c39, hs, hq', e1, e2, h50, k1, k2, tb2_nth, nth_row, e, e3, c2, c3, hz]
      rw [hL _ (by simp)]
      simp
    · have c3 : 0 ≤ x + r := by omega
      simp [c39, hs, hq', e1, e2, h50, k1, k2, tb2_nth, nth_row, e, e3, c2, c3, hz]
      rfl

/-! ### Refute: the program. -/

def cS (l : List Bn) (len : Nat) : Option Nat := (List.range l.length).find? fun s => ngC l s len
def cC (l : List Bn) (s len : Nat) : List Nat := (stK l (wC l s) s len (len - 1)).1
def cR (l : List Bn) (len : Nat) : List Nat := cC l ((cS l len).getD 0) len
def cF (n : Nat) (l : List Bn) : Option Nat := (List.range (n - 1)).find? fun i => (cS l (i + 2)).isSome
def srD (n : Nat) (l : List Bn) : D := match cF n l with
  | some i => slD (si false (zl (cR l (i + 2)))) 0
  | none => slD nilI 7
def refD (n : Nat) (l : List Bn) : D := if bad n l = true then srD n l else slD nilI 7

theorem loop21_1 (call : Oracle) (fuel : Nat) (n : Nat) (l : List Bn) (hlen : l.length ≤ 80) (b : Bool) (len : Nat) (h39 : ∀ s : Nat, s < l.length → call 39 [nV n, sd b (nbL l), nV s, nV len] = some (cycD l s len)) (fu : Nat) (hf : 100 < fu) (st : St)
    (h0 : drops st h21_1 = L21_1 (ii n) (.ro (sd b (nbL l))) (ii len) (ii l.length) (ii 0)) :
    run.loopN (run call fuel b21_1) fu st = some ((cS l len).elim (.ex 2, X21_2 (ii n) (.ro (sd b (nbL l))) (ii len)) fun s => (.ret, R21 (.own (si false (zl (cC l s len)))) (ii 0))) := by
  refine loop_find call fuel h21_1 _ l.length (fun s => ngC l s len) (fun s => L21_1 (ii n) (.ro (sd b (nbL l))) (ii len) (ii l.length) (ii s)) (fun s => (.ret, R21 (.own (si false (zl (cC l s len)))) (ii 0))) _ (by simp) (by simp) ?_ (by simp) fu st (by rw [h0]; rfl) (by omega)
  intro s hs _
  have hw := wrap_succ (i := s) (by omega)
  have e := h39 s hs
  unfold cycD cyc at e
  unfold cC
  cases hg : ngC l s len with
  | true =>
    rw [hg, if_pos rfl] at e
    simp only at e
    generalize (stK l (wC l s) s len (len - 1)).1 = c at *
    simp [hs, e]
  | false =>
    rw [hg, if_neg (by simp)] at e
    simp only at e
    simp [hs, e, hw]
theorem loop21_0 (call : Oracle) (fuel : Nat) (hF : 100 < fuel) (n : Nat) (l : List Bn) (h : VB n l) (b : Bool) (h39 : ∀ s len : Nat, s < l.length → 2 ≤ len → len ≤ 16 → call 39 [nV n, sd b (nbL l), nV s, nV len] = some (cycD l s len)) (fu : Nat) (hf : 100 < fu) (st : St)
    (h0 : drops st h21_0 = L21_0 (ii n) (.ro (sd b (nbL l))) (ii ((ad 2 0 : Nat) : Int))) :
    run.loopN (run call fuel b21_0) fu st = some ((cF n l).elim (.ex 0, X21_0) fun i => (.ret, R21 (.own (si false (zl (cR l (i + 2))))) (ii 0))) := by
  have hn := h.n16
  have hn1 := h.n1
  have hend : ¬ ad 2 (n - 1) ≤ n := by unfold ad; omega
  refine loop_find call fuel h21_0 _ (n - 1) (fun i => (cS l (i + 2)).isSome) (fun i => L21_0 (ii n) (.ro (sd b (nbL l))) (ii ((ad 2 i : Nat) : Int))) (fun i => (.ret, R21 (.own (si false (zl (cR l (i + 2))))) (ii 0))) _ (by simp) (by simp) ?_ (by simp [hend]) fu st h0 (by omega)
  intro i hi _
  have hle : ad 2 i ≤ n := by unfold ad; omega
  have hw : IntKind.i64.wrap (((ad 2 i : Nat) : Int) + 1) = ((ad 2 (i + 1) : Nat) : Int) := by
    rw [wrap_eq (by unfold I64; omega)]; unfold ad; omega
  have hL := loop21_1 call fuel n l h.len b (ad 2 i) (fun s hs => h39 s (ad 2 i) hs (by unfold ad; omega) (by omega)) fuel hF
  have he : i + 2 = ad 2 i := by unfold ad; omega
  unfold cR
  rw [he]
  simp [hle]
  rw [hL _ (by simp)]
  cases cS l (ad 2 i) with
  | none => simp [hw]
  | some s => simp
theorem f21 (call : Oracle) (fuel : Nat) (hF : 100 < fuel) (n : Nat) (l : List Bn) (h : VB n l) (b : Bool) (h16 : call 16 [nV n, sd b (nbL l)] = some (bV true)) (h32 : call 32 [nV n, sd b (nbL l)] = some (limD n l))
    (h39 : ∀ s len : Nat, s < l.length → 2 ≤ len → len ≤ 16 → call 39 [nV n, sd b (nbL l), nV s, nV len] = some (cycD l s len)) :
    callF call fuel c21 [nV n, sd b (nbL l)] = some (refD n l) := by
  rw [callF_tab call fuel c21 30 _ (by exact Nat.le_of_ble_eq_true rfl) (by exact Nat.le_of_ble_eq_true rfl)]
  have hL := loop21_0 call fuel hF n l h b h39 fuel hF
  unfold refD srD
  unfold limD at h32
  cases hb : bad n l with
  | false =>
    rw [hb, if_neg (by simp)] at h32
    simp [c21, h16, h32]
    rfl
  | true =>
    rw [hb, if_pos rfl] at h32
    simp [c21, h16, h32]
    rw [hL _ (by simp; rfl)]
    cases cF n l with
    | none => simp; rfl
    | some i => simp
theorem f21e (call : Oracle) (fuel : Nat) (n : Int) (b : Bool) (l : List (Int × Int × Int)) (h16 : call 16 [nV n, sd b l] = some (bV false)) :
    callF call fuel c21 [nV n, sd b l] = some (slD nilI 1) := by
  rw [callF_tab call fuel c21 30 _ (by exact Nat.le_of_ble_eq_true rfl) (by exact Nat.le_of_ble_eq_true rfl)]
  simp [c21, h16]
  rfl
end Go.Mx
