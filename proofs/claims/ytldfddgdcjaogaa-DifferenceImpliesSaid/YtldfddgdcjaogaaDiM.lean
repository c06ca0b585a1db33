import Derived.Test.YtldfddgdcjaogaaDiL
/-
  Cycles: the search for one.
-/
namespace Go.Mx
set_option linter.unusedVariables false
set_option linter.unusedSimpArgs false
set_option linter.unusedSectionVars false
open Go

def zl (l : List Nat) : List Int := l.map fun (v : Nat) => (v : Int)
@[simp] theorem zl_len (l : List Nat) : (zl l).length = l.length := by simp [zl]
@[simp] theorem zl_nth (l : List Nat) (i : Nat) : nth (zl l) 0 i = ((nth l 0 i : Nat) : Int) := nth_map (fun (v : Nat) => (v : Int)) l 0 i
@[simp] theorem zl_app1 (l : List Nat) (x : Nat) : zl l ++ [(x : Int)] = zl (l ++ [x]) := by simp [zl]

/-- A place behind another one. -/
def ad (q j : Nat) : Nat := q + j

/-- A bound that goes on. -/
def cndT (l : List Bn) (w : Nat → Nat → Lm) (left : Nat) (sum : Int) (at' t : Nat) : Bool :=
  decide ((nth l zN t).1 = at') && match w left (nth l zN t).2.1 with
    | some r => decide (sum + (nth l zN t).2.2 + r < 0)
    | none => false
def pickT (l : List Bn) (w : Nat → Nat → Lm) (s left : Nat) (sum : Int) (at' : Nat) : Option Nat := (List.range (l.length - (s + 1))).find? fun j => cndT l w left sum at' (ad (s + 1) j)
abbrev CS := List Nat × Int × Nat
def goT (l : List Bn) (q : CS) (t : Nat) : CS := (q.1 ++ [t], q.2.1 + (nth l zN t).2.2, (nth l zN t).2.1)
def stp (l : List Bn) (w : Nat → Nat → Lm) (s left : Nat) (q : CS) : CS := (pickT l w s left q.2.1 q.2.2).elim q fun j => goT l q (ad (s + 1) j)
def stK (l : List Bn) (w : Nat → Nat → Lm) (s len : Nat) : Nat → CS
  | 0 => ([s], (nth l zN s).2.2, (nth l zN s).2.1)
  | k + 1 => stp l w s (len - 2 - k) (stK l w s len k)
/-- The least sums for a search. -/
def wC (l : List Bn) (s : Nat) : Nat → Nat → Lm := W (l.drop (s + 1)) (nth l zN s).1
def ngC (l : List Bn) (s len : Nat) : Bool := match wC l s (len - 1) (nth l zN s).2.1 with
  | some r => decide ((nth l zN s).2.2 + r < 0)
  | none => false

/-! ### the search goes on -/
theorem wS_some {l : List Bn} {g : Nat → Lm} {v : Nat} {x : Int} (h : wS l g v = some x) : ∃ c ∈ l, c.1 = v ∧ ∃ y, g c.2.1 = some y ∧ x = c.2.2 + y := by
  have : ∀ (l : List Bn) (f : Nat → Lm), (∀ v x, f v = some x → ∃ c ∈ l, c.1 = v ∧ ∃ y, g c.2.1 = some y ∧ x = c.2.2 + y) → ∀ (m : List Bn), (∀ c ∈ m, c ∈ l) → ∀ v x, m.foldl (wStep g) f v = some x → ∃ c ∈ l, c.1 = v ∧ ∃ y, g c.2.1 = some y ∧ x = c.2.2 + y := by
    intro l f hf m
    induction m generalizing f with
    | nil => intro _ v x h; exact hf v x h
    | cons c m ih =>
      intro hm v x h
      refine ih (wStep g f c) ?_ (fun d hd => hm d (List.mem_cons_of_mem _ hd)) v x h
      intro v x hx
      unfold wStep updF at hx
      split at hx
      · rename_i hv
        rcases less_eq (f c.1) (plus (some c.2.2) (g c.2.1)) with e | e
        · rw [e] at hx; rw [hv]; exact hf _ _ hx
        · rw [e] at hx
          cases hg : g c.2.1 with
          | none => rw [hg] at hx; simp at hx
          | some y =>
            rw [hg, plus_some] at hx
            exact ⟨c, hm c (List.mem_cons_self ..), hv.symm, y, hg, (Option.some.inj hx).symm⟩
      · exact hf _ _ hx
  exact this l (fun _ => none) (fun v x h => by cases h) l (fun c hc => hc) v x h
theorem wS_le {l : List Bn} {g : Nat → Lm} {c : Bn} (hc : c ∈ l) : lle (wS l g c.1) (plus (some c.2.2) (g c.2.1)) := by
  have mono : ∀ (m : List Bn) (f : Nat → Lm) (v : Nat), lle (m.foldl (wStep g) f v) (f v) := by
    intro m
    induction m with
    | nil => intro f v; exact lle_refl _
    | cons d m ih =>
      intro f v
      refine lle_trans (ih _ v) ?_
      unfold wStep updF
      split
      · rename_i h; subst h; exact less_left _ _
      · exact lle_refl _
  have : ∀ (m : List Bn) (f : Nat → Lm), c ∈ m → lle (m.foldl (wStep g) f c.1) (plus (some c.2.2) (g c.2.1)) := by
    intro m
    induction m with
    | nil => intro f h; cases h
    | cons d m ih =>
      intro f h
      rcases List.mem_cons.1 h with rfl | h
      · refine lle_trans (mono m _ _) ?_
        unfold wStep
        rw [updF_same]
        exact less_right _ _
      · exact ih _ h
  exact this l _ hc

theorem mem_drop_nth {l : List Bn} {s : Nat} {c : Bn} (h : c ∈ l.drop (s + 1)) : ∃ j, j < l.length - (s + 1) ∧ nth l zN (ad (s + 1) j) = c := by
  obtain ⟨j, hj, rfl⟩ := List.mem_iff_getElem.1 h
  rw [List.length_drop] at hj
  refine ⟨j, hj, ?_⟩
  rw [nth_get zN (by unfold ad; omega)]
  simp [ad]
theorem nth_mem_drop {l : List Bn} {s j : Nat} (h : j < l.length - (s + 1)) : nth l zN (ad (s + 1) j) ∈ l.drop (s + 1) := by
  rw [nth_get zN (by unfold ad; omega)]
  have : (l.drop (s + 1))[j]'(by rw [List.length_drop]; exact h) = l[ad (s + 1) j]'(by unfold ad; omega) := by simp [ad]
  rw [← this]
  exact List.getElem_mem _

/-- As long as a walk is left. -/
theorem pick_some {l : List Bn} {s left : Nat} {sum : Int} {at' : Nat} {r : Int} (h : wC l s (left + 1) at' = some r) (hr : sum + r < 0) :
    ∃ j, pickT l (wC l s) s left sum at' = some j ∧ j < l.length - (s + 1) ∧ cndT l (wC l s) left sum at' (ad (s + 1) j) = true := by
  obtain ⟨c, hc, rfl, y, hy, rfl⟩ := wS_some h
  obtain ⟨j, hj, rfl⟩ := mem_drop_nth hc
  have h1 : cndT l (wC l s) left sum (nth l zN (ad (s + 1) j)).1 (ad (s + 1) j) = true := by
    unfold cndT
    rw [show wC l s left (nth l zN (ad (s + 1) j)).2.1 = some y from hy]
    simp; omega
  have h2 : (pickT l (wC l s) s left sum (nth l zN (ad (s + 1) j)).1).isSome = true := by
    unfold pickT
    rw [List.find?_isSome]
    exact ⟨j, List.mem_range.2 hj, h1⟩
  obtain ⟨j', h3⟩ := Option.isSome_iff_exists.1 h2
  have h4 : (List.range (l.length - (s + 1))).find? (fun j' => cndT l (wC l s) left sum (nth l zN (ad (s + 1) j)).1 (ad (s + 1) j')) = some j' := h3
  exact ⟨j', h3, List.mem_range.1 (List.mem_of_find?_eq_some h4), by simpa using List.find?_some h4⟩
theorem cnd_iff {l : List Bn} {w : Nat → Nat → Lm} {left : Nat} {sum : Int} {at' t : Nat} : cndT l w left sum at' t = true ↔ (nth l zN t).1 = at' ∧ ∃ r, w left (nth l zN t).2.1 = some r ∧ sum + (nth l zN t).2.2 + r < 0 := by
  unfold cndT
  cases h : w left (nth l zN t).2.1 with
  | none => simp
  | some r => simp

/-- How the search stands. -/
structure StI (n : Nat) (l : List Bn) (s len k : Nat) (q : CS) : Prop where
  cnt : q.1.length = k + 1
  at' : q.2.2 < n
  left : ∃ r, wC l s (len - 1 - k) q.2.2 = some r ∧ q.2.1 + r < 0
  lo : -1000000 * ((k : Int) + 1) ≤ q.2.1
  hi : q.2.1 ≤ 1000000 * ((k : Int) + 1)
theorem stK_ok {n : Nat} {l : List Bn} (h : VB n l) {s len : Nat} (hs : s < l.length) (hg : ngC l s len = true) : ∀ k, k ≤ len - 1 → StI n l s len k (stK l (wC l s) s len k)
  | 0, _ => by
    have h1 := h.at hs
    have h2 := h.c _ (nth_mem zN hs)
    refine ⟨rfl, h1.2.1, ?_, ?_, ?_⟩
    · unfold ngC at hg
      cases e : wC l s (len - 1) (nth l zN s).2.1 with
      | none => rw [e] at hg; cases hg
      | some r =>
        rw [e] at hg
        exact ⟨r, e, of_decide_eq_true hg⟩
    · show _ ≤ (nth l zN s).2.2; omega
    · show (nth l zN s).2.2 ≤ _; omega
  | k + 1, hk => by
    have ih := stK_ok h hs hg k (by omega)
    show StI n l s len (k + 1) (stp l (wC l s) s (len - 2 - k) (stK l (wC l s) s len k))
    generalize stK l (wC l s) s len k = q at *
    obtain ⟨r, h1, h2⟩ := ih.left
    rw [show len - 1 - k = (len - 2 - k) + 1 by omega] at h1
    obtain ⟨j, h3, h4, h5⟩ := pick_some h1 h2
    unfold stp
    rw [h3]
    have h6 := h.at (i := ad (s + 1) j) (by unfold ad; omega)
    have h7 := h.c _ (nth_mem zN (i := ad (s + 1) j) (l := l) (by unfold ad; omega))
    obtain ⟨h8, r', h9, h10⟩ := cnd_iff.1 h5
    have := ih.lo
    have := ih.hi
    refine ⟨?_, h6.2.1, ⟨r', ?_, h10⟩, ?_, ?_⟩
    · show (q.1 ++ [_]).length = _
      rw [List.length_append, ih.cnt]; rfl
    · rw [show len - 1 - (k + 1) = len - 2 - k by omega]; exact h9
    · show _ ≤ q.2.1 + _; omega
    · show q.2.1 + _ ≤ _; omega
end Go.Mx
