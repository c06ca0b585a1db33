import Derived.Test.YtgbikojcpfdbiaaDoorMxZ
/-
  Mx, part Ya: states as tables: locals and the rest, each a function with its changes.
-/
namespace Go.Mx
set_option linter.unusedVariables false
set_option linter.unusedSimpArgs false
set_option linter.unusedSectionVars false
open Go

@[simp] theorem fu_apply (f : Nat → V) (i : Nat) (v : V) (j : Nat) : fu f i v j = if j = i then v else f j := rfl
@[simp] theorem dd_apply (j : Nat) : dd j = .dead := rfl
@[simp] theorem un_apply (j : Nat) : un' j = .sc undef := rfl
@[simp] theorem kl_apply (r : Nat) (p : List Nat) (f : Nat → V) (j : Nat) : kl r p f j = V.kill r p (f j) := rfl
@[simp] theorem kl_dd (r : Nat) (p : List Nat) : kl r p dd = dd := rfl
@[simp] theorem kl_un (r : Nat) (p : List Nat) : kl r p un' = un' := rfl

section
variable (n K : Nat) (g f : Nat → V)
@[simp high] theorem tab_get (j : Nat) : (tab n K g f)[j]? = if j < n then some (if j < K then g j else f j) else none := by
  unfold tab
  rw [List.getElem?_map]
  by_cases h : j < n
  · rw [List.getElem?_range h, if_pos h]; rfl
  · rw [List.getElem?_eq_none (by simpa using h), if_neg h]; rfl
@[simp] theorem tab_len : (tab n K g f).length = n := by simp [tab]
@[simp] theorem tab_set (i : Nat) (v : V) : (tab n K g f).set i v = if i < K then tab n K (fu g i v) f else tab n K g (fu f i v) := by
  apply List.ext_getElem?
  intro j
  by_cases hj : j < n
  · by_cases hi : j = i
    · subst hi
      rw [List.getElem?_set_self (by simpa using hj)]
      split <;> rename_i hk <;> rw [tab_get] <;> simp [hj, hk]
    · rw [List.getElem?_set_ne (Ne.symm hi)]
      split <;> rw [tab_get, tab_get] <;> simp [hj, hi]
  · rw [List.getElem?_eq_none (by simpa using hj), List.getElem?_eq_none (by split <;> simpa using hj)]
@[simp] theorem tab_kill (r : Nat) (p : List Nat) : kill r p (tab n K g f) = tab n K (kl r p g) (kl r p f) := by
  unfold kill tab
  rw [List.map_map]
  apply List.map_congr_left
  intro i _
  simp only [Function.comp, kl]
  split <;> rfl

theorem st_tab (st : St) : st = tab st.length 0 dd (fun i => st.getD i .dead) := by
  apply List.ext_getElem?
  intro j
  rw [tab_get]
  by_cases h : j < st.length
  · simp [h]
  · simp [List.getElem?_eq_none (Nat.le_of_not_lt h), h]

/-! ### masks -/
theorem bits_cons (ls : List Nat) : bits (n + 1) ls = ls.contains 0 :: (List.range n).map (fun i => ls.contains (i + 1)) := by
  unfold bits
  rw [List.range_succ_eq_map, List.map_cons, List.map_map]; rfl

theorem ownDrop_iff : ∀ (m : List Bool) (st : St), ownDrop m st = true ↔ ∃ (i : Nat) (d : D), m[i]? = some false ∧ st[i]? = some (V.own d)
  | [], st => by simp [ownDrop]
  | _ :: _, [] => by simp [ownDrop]
  | b :: m, x :: s => by
    simp only [ownDrop, Bool.or_eq_true, Bool.and_eq_true, Bool.not_eq_true', ownDrop_iff m s]
    constructor
    · rintro (⟨h1, h2⟩ | ⟨i, d, h1, h2⟩)
      · subst h1
        cases x <;> simp [isOwn] at h2
        rename_i d
        exact ⟨0, d, rfl, rfl⟩
      · exact ⟨i + 1, d, h1, h2⟩
    · rintro ⟨i, d, h1, h2⟩
      cases i with
      | zero =>
        simp only [List.getElem?_cons_zero, Option.some.injEq] at h1 h2
        subst h1 h2
        exact .inl ⟨rfl, rfl⟩
      | succ i => exact .inr ⟨i, d, h1, h2⟩

theorem ownOuts_iff : ∀ (k : Nat) (m : List Bool) (st : St) (i : Nat), i ∈ ownOuts k m st ↔ ∃ (j : Nat) (d : D), i = k + j ∧ m[j]? = some false ∧ st[j]? = some (V.own d)
  | k, [], st, i => by simp [ownOuts]
  | k, _ :: _, [], i => by simp [ownOuts]
  | k, b :: m, x :: s, i => by
    have ih := ownOuts_iff (k + 1) m s i
    have key : (∃ (j : Nat) (d : D), i = k + j ∧ (b :: m)[j]? = some false ∧ (x :: s)[j]? = some (V.own d)) ↔ ((i = k ∧ b = false ∧ ∃ d : D, x = V.own d) ∨ i ∈ ownOuts (k + 1) m s) := by
      rw [ih]
      constructor
      · rintro ⟨j, d, h1, h2, h3⟩
        cases j with
        | zero => simp at h2 h3; exact .inl ⟨by omega, h2, d, h3⟩
        | succ j => exact .inr ⟨j, d, by omega, by simpa using h2, by simpa using h3⟩
      · rintro (⟨h1, h2, d, h3⟩ | ⟨j, d, h1, h2, h3⟩)
        · exact ⟨0, d, by omega, by simp [h2], by simp [h3]⟩
        · exact ⟨j + 1, d, by omega, by simpa using h2, by simpa using h3⟩
    rw [key]
    simp only [ownOuts]
    split
    · rename_i hc
      simp only [Bool.and_eq_true, Bool.not_eq_true'] at hc
      obtain ⟨hb, hx⟩ := hc
      cases x <;> simp [isOwn] at hx
      rename_i d
      simp [hb]
    · rename_i hc
      constructor
      · exact .inr
      · rintro (⟨_, hb, d, hx⟩ | h)
        · subst hb hx; simp [isOwn] at hc
        · exact h

theorem msk_getD : ∀ (m : List Bool) (st : St) (i : Nat), (msk m st)[i]? = (st[i]?).map fun x => if m[i]? = some false then .dead else x
  | [], st, i => by
    have : msk [] st = st := by cases st <;> rfl
    rw [this]
    cases st[i]? <;> simp
  | _ :: _, [], i => by simp [msk]
  | b :: m, x :: s, 0 => by cases b <;> simp [msk]
  | b :: m, x :: s, i + 1 => by simp [msk, msk_getD m s i]

theorem drop1_get (st : St) (i j : Nat) : (drop1 st i)[j]? = (st[j]?).map fun x => if j = i then .dead else if (match st[i]? with | some (.own _) => true | _ => false) then x.kill i [] else x := by
  unfold drop1
  split
  · rename_i d hd
    rw [hd]
    by_cases hj : j = i
    · subst hj
      rw [List.getElem?_set_self (by rw [kill, List.length_map]; exact (List.getElem?_eq_some_iff.1 hd).1), hd]
      simp
    · rw [List.getElem?_set_ne (Ne.symm hj), kill, List.getElem?_map]
      simp [hj]
  · rename_i hno
    have e : (match st[i]? with | some (.own _) => true | _ => false) = false := by
      split
      · rename_i d hd; exact absurd hd (hno d)
      · rfl
    by_cases hj : j = i
    · subst hj
      rcases Nat.lt_or_ge j st.length with h | h
      · rw [List.getElem?_set_self h, List.getElem?_eq_getElem h]; simp
      · rw [List.getElem?_eq_none (by simpa using h), List.getElem?_eq_none h]; rfl
    · rw [List.getElem?_set_ne (Ne.symm hj)]
      cases st[j]? <;> simp [hj]

theorem kill_own' (r : Nat) (p : List Nat) (x : V) (d : D) : x.kill r p = V.own d ↔ x = V.own d := by
  unfold V.kill
  constructor
  · intro h
    split at h
    · cases h
    · exact h
  · rintro rfl
    rfl

theorem dead_fold (l : List Nat) : l.foldl (fun (x : V) i => x.kill i []) .dead = .dead := by
  induction l with
  | nil => rfl
  | cons k l ih => exact ih

theorem drops_fold : ∀ (l : List Nat) (st : St), l.Nodup → (∀ i ∈ l, ∃ d : D, st[i]? = some (V.own d)) → ∀ j, (l.foldl drop1 st)[j]? = (st[j]?).map fun x => if j ∈ l then .dead else l.foldl (fun x i => x.kill i []) x
  | [], st, _, _, j => by rw [List.foldl_nil]; generalize st[j]? = o; cases o <;> simp
  | i :: l, st, hn, ho, j => by
    obtain ⟨hi, hn⟩ := List.nodup_cons.1 hn
    obtain ⟨d, hd⟩ := ho i (List.mem_cons_self ..)
    have hg := drop1_get st i
    rw [hd] at hg
    simp only [if_true] at hg
    have := drops_fold l (drop1 st i) hn (fun k hk => by
      obtain ⟨d', hd'⟩ := ho k (List.mem_cons_of_mem _ hk)
      refine ⟨d', ?_⟩
      rw [hg k, hd']
      have hki : k ≠ i := fun e => hi (e ▸ hk)
      simp [hki]) j
    rw [List.foldl_cons, this, hg j]
    cases hx : st[j]? with
    | none => rfl
    | some x =>
      simp only [Option.map_some, Option.some.injEq, List.mem_cons, List.foldl_cons]
      by_cases hji : j = i
      · subst hji
        rw [if_neg hi, if_pos rfl, if_pos (.inl rfl)]
        exact dead_fold l
      · simp [hji]

/-- The slots that a value borrows from. -/
def roots : V → List Nat
  | .ref r _ => [r]
  | .sub r _ _ _ _ => [r]
  | .ad r _ _ => [r]
  | .vn _ vs => rootsL vs
  | _ => []
where rootsL : List V → List Nat
  | [] => []
  | x :: xs => roots x ++ rootsL xs

mutual
theorem under_roots (r : Nat) : ∀ x : V, V.under r [] x = (roots x).contains r
  | .ref s q => by
    simp only [V.under, roots, pre, Bool.and_true, List.contains_cons, List.contains_nil, Bool.or_false]
    exact Bool.beq_comm
  | .sub s q _ _ _ => by
    simp only [V.under, roots, pre, Bool.and_true, List.contains_cons, List.contains_nil, Bool.or_false]
    exact Bool.beq_comm
  | .ad s q _ => by
    simp only [V.under, roots, pre, Bool.and_true, List.contains_cons, List.contains_nil, Bool.or_false]
    exact Bool.beq_comm
  | .vn k vs => by simp only [V.under, roots]; exact underL_roots r vs
  | .sc _ => rfl
  | .own _ => rfl
  | .ro _ => rfl
  | .rad _ _ => rfl
  | .dead => rfl
theorem underL_roots (r : Nat) : ∀ xs : List V, V.underL r [] xs = (roots.rootsL xs).contains r
  | [] => rfl
  | x :: xs => by
    simp only [V.underL, roots.rootsL, under_roots r x, underL_roots r xs]
    simp
end

theorem kills (l : List Nat) (x : V) : l.foldl (fun x i => x.kill i []) x = if l.any (fun i => (roots x).contains i) then .dead else x := by
  induction l generalizing x with
  | nil => simp
  | cons i l ih =>
    rw [List.foldl_cons, ih, List.any_cons]
    unfold V.kill
    rw [under_roots]
    by_cases h : (roots x).contains i = true
    · rw [if_pos h, h]
      simp
    · rw [if_neg h]
      have h' : (roots x).contains i = false := by simpa using h
      rw [h', Bool.false_or]

/-- What is left of a kept slot when others are given up. -/
def kvv (n : Nat) (ls : List Nat) (f : Nat → V) (x : V) : V := if (roots x).any (fun r => decide (r < n) && !ls.contains r && isOwn (f r)) then .dead else x
@[simp] theorem kvv_sc (ls : List Nat) (x : Value) : kvv n ls f (.sc x) = .sc x := rfl
@[simp] theorem kvv_own (ls : List Nat) (x : D) : kvv n ls f (.own x) = .own x := rfl
@[simp] theorem kvv_ro (ls : List Nat) (x : D) : kvv n ls f (.ro x) = .ro x := rfl
@[simp] theorem kvv_rad (ls : List Nat) (x : List D) (c : Nat) : kvv n ls f (.rad x c) = .rad x c := rfl
@[simp] theorem kvv_dead (ls : List Nat) : kvv n ls f .dead = .dead := rfl
@[simp] theorem kvv_ref (ls : List Nat) (r : Nat) (p : List Nat) : kvv n ls f (.ref r p) = if (decide (r < n) && !ls.contains r && isOwn (f r)) = true then .dead else .ref r p := by simp [kvv, roots]
@[simp] theorem kvv_sub (ls : List Nat) (r : Nat) (p : List Nat) (a b c : Nat) : kvv n ls f (.sub r p a b c) = if (decide (r < n) && !ls.contains r && isOwn (f r)) = true then .dead else .sub r p a b c := by simp [kvv, roots]
@[simp] theorem kvv_ad (ls : List Nat) (r : Nat) (p : List Nat) (c : Nat) : kvv n ls f (.ad r p c) = if (decide (r < n) && !ls.contains r && isOwn (f r)) = true then .dead else .ad r p c := by simp [kvv, roots]
@[simp] theorem kvv_vn (ls : List Nat) (k : Mx.K Bool) (vs : List V) : kvv n ls f (.vn k vs) = if ((roots.rootsL vs).any (fun r => decide (r < n) && !ls.contains r && isOwn (f r))) = true then .dead else .vn k vs := by simp [kvv, roots]
attribute [simp] roots.rootsL roots

/-- The kept slots. -/
def keepF (h : V → V) (f : Nat → V) : List Nat → Nat → V
  | [] => dd
  | i :: ls => fu (keepF h f ls) i (h (f i))
@[simp] theorem keepF_nil (h : V → V) : keepF h f [] = dd := rfl
@[simp] theorem keepF_cons (h : V → V) (i : Nat) (ls : List Nat) : keepF h f (i :: ls) = fu (keepF h f ls) i (h (f i)) := rfl
theorem keepF_get (h : V → V) (ls : List Nat) (j : Nat) : keepF h f ls j = if ls.contains j then h (f j) else .dead := by
  induction ls with
  | nil => rfl
  | cons i ls ih =>
    rw [keepF_cons, fu_apply, ih]
    by_cases hj : j = i
    · subst hj; simp
    · simp [hj]

/-- The slots by one function. -/
def both (K : Nat) (g f : Nat → V) : Nat → V := fun j => if j < K then g j else f j
@[simp] theorem both_apply (j : Nat) : both K g f j = if j < K then g j else f j := rfl

theorem drops_get (st : St) (m : List Bool) (j : Nat) : (drops st m)[j]? = (st[j]?).map fun x => if m[j]? = some false then .dead else if (ownOuts 0 m st).any (fun i => (roots x).contains i) then .dead else x := by
  unfold drops
  have hnd : ∀ (k : Nat) (m : List Bool) (st : St), (ownOuts k m st).Nodup := by
    intro k m
    induction m generalizing k with
    | nil => intro st; simp [ownOuts]
    | cons b m ih =>
      intro st
      cases st with
      | nil => simp [ownOuts]
      | cons x s =>
        simp only [ownOuts]
        split
        · refine List.nodup_cons.2 ⟨?_, ih _ _⟩
          rw [ownOuts_iff]
          rintro ⟨j, d, h1, _⟩
          omega
        · exact ih _ _
  split
  · have hf := drops_fold (ownOuts 0 m st) st (hnd 0 m st) (fun i hi => by
      rw [ownOuts_iff] at hi
      obtain ⟨k, d, h1, _, h3⟩ := hi
      exact ⟨d, by rw [h1, Nat.zero_add]; exact h3⟩)
    have hno : ownDrop m ((ownOuts 0 m st).foldl drop1 st) = false := by
      rw [Bool.eq_false_iff]
      intro hc
      obtain ⟨i, d, h1, h2⟩ := (ownDrop_iff _ _).1 hc
      rw [hf i] at h2
      cases hx : st[i]? with
      | none => rw [hx] at h2; simp at h2
      | some x =>
        rw [hx] at h2
        simp only [Option.map_some, Option.some.injEq] at h2
        split at h2
        · cases h2
        · rename_i hni
          rw [kills] at h2
          split at h2
          · cases h2
          · subst h2
            exact hni ((ownOuts_iff 0 m st i).2 ⟨i, d, by omega, h1, hx⟩)
    simp only [hno, Bool.false_eq_true, if_false]
    rw [msk_getD, hf j]
    cases hx : st[j]? with
    | none => rfl
    | some x =>
      simp only [Option.map_some, Option.some.injEq]
      by_cases hm : m[j]? = some false
      · rw [if_pos hm, if_pos hm]
      · rw [if_neg hm, if_neg hm, if_neg, kills]
        rw [ownOuts_iff]
        rintro ⟨k, d, h1, h2, _⟩
        exact hm (by rw [h1, Nat.zero_add]; exact h2)
  · rename_i hno
    rw [msk_getD]
    cases hx : st[j]? with
    | none => rfl
    | some x =>
      have he : (ownOuts 0 m st).any (fun i => (roots x).contains i) = false := by
        rw [List.any_eq_false]
        intro i hi
        rw [ownOuts_iff] at hi
        obtain ⟨k, d, h1, h2, h3⟩ := hi
        rw [Nat.zero_add] at h1
        exact absurd ((ownDrop_iff m st).2 ⟨k, d, h2, h3⟩) hno
      rw [Option.map_some, Option.map_some, he]
      simp

theorem drops_tab (ls : List Nat) (hl : ls.all (fun i => decide (i < n)) = true) : drops (tab n K g f) (bits n ls) = tab n n (keepF (kvv n ls (both K g f)) (both K g f) ls) dd := by
  apply List.ext_getElem?
  intro j
  rw [drops_get, tab_get, tab_get]
  by_cases hj : j < n
  · rw [if_pos hj, if_pos hj, if_pos hj]
    simp only [Option.map_some, Option.some.injEq]
    rw [keepF_get]
    have hm : (bits n ls)[j]? = some (ls.contains j) := by
      unfold bits
      rw [List.getElem?_map, List.getElem?_range hj]; rfl
    rw [hm]
    by_cases hc : ls.contains j = true
    · rw [hc, if_neg (by simp), if_pos rfl]
      show _ = kvv n ls (both K g f) (if j < K then g j else f j)
      unfold kvv
      generalize (if j < K then g j else f j) = x
      have : (ownOuts 0 (bits n ls) (tab n K g f)).any (fun i => (roots x).contains i) = (roots x).any (fun r => decide (r < n) && !ls.contains r && isOwn (both K g f r)) := by
        rw [Bool.eq_iff_iff]
        simp only [List.any_eq_true]
        constructor
        · rintro ⟨i, h1, h2⟩
          rw [ownOuts_iff] at h1
          obtain ⟨k, d, g1, g2, g3⟩ := h1
          rw [Nat.zero_add] at g1
          subst g1
          rw [tab_get] at g3
          split at g3
          · rename_i hin
            unfold bits at g2
            rw [List.getElem?_map, List.getElem?_range hin] at g2
            refine ⟨i, by simpa using h2, ?_⟩
            simp only [Option.map_some, Option.some.injEq] at g2 g3
            rw [both_apply, g3, g2]
            simp [hin, isOwn]
          · cases g3
        · rintro ⟨r, h1, h2⟩
          simp only [Bool.and_eq_true, decide_eq_true_eq, Bool.not_eq_true'] at h2
          obtain ⟨⟨h2, h3⟩, h4⟩ := h2
          refine ⟨r, ?_, by simpa using h1⟩
          rw [ownOuts_iff]
          rw [both_apply] at h4
          obtain ⟨d, hd⟩ : ∃ d, (if r < K then g r else f r) = .own d := by
            generalize (if r < K then g r else f r) = y at h4
            cases y <;> simp [isOwn] at h4
            exact ⟨_, rfl⟩
          refine ⟨r, d, by omega, ?_, ?_⟩
          · unfold bits
            rw [List.getElem?_map, List.getElem?_range h2, Option.map_some, h3]
          · rw [tab_get, if_pos h2, hd]
      rw [this]
    · have hc' : ls.contains j = false := by simpa using hc
      rw [hc', if_pos rfl, if_neg (by simp)]
  · rw [if_neg hj, if_neg hj]; rfl

end

/-- The table of a kept state: all kept slots are locals. -/
theorem tab_cut (n K : Nat) (h : V → V) (f : Nat → V) (ls : List Nat) (hl : ls.all (fun i => decide (i < K)) = true) : tab n n (keepF h f ls) dd = tab n K (keepF h f ls) dd := by
  apply List.ext_getElem?
  intro j
  rw [tab_get, tab_get]
  by_cases hj : j < n
  · rw [if_pos hj, if_pos hj, if_pos hj]
    by_cases hk : j < K
    · rw [if_pos hk]
    · rw [if_neg hk, keepF_get, if_neg]
      · rfl
      · intro hc
        rw [List.all_eq_true] at hl
        have := hl j (by simpa using hc)
        simp at this
        exact hk this
  · rw [if_neg hj, if_neg hj]

/-- The check that the kept slots are locals. -/
@[simp] def lsOk (n K : Nat) (ls : List Nat) : Bool := ls.all fun i => decide (i < n) && decide (i < K)
theorem drops_tb (n K : Nat) (g f : Nat → V) (ls : List Nat) (hl : lsOk n K ls = true) : drops (tab n K g f) (bits n ls) = tab n K (keepF (kvv n ls (both K g f)) (both K g f) ls) dd := by
  unfold lsOk at hl
  rw [List.all_eq_true] at hl
  rw [drops_tab n K g f ls (by rw [List.all_eq_true]; intro i hi; have := hl i hi; simp at this ⊢; exact this.1), tab_cut n K _ _ ls (by rw [List.all_eq_true]; intro i hi; have := hl i hi; simp at this ⊢; exact this.2)]

def drt (o : Bool) (n K : Nat) (g f : Nat → V) (ls : List Nat) : St :=
  match o with
  | true => tab n K (keepF (kvv n ls (both K g f)) (both K g f) ls) dd
  | false => drops (tab n K g f) (bits n ls)
@[congr] theorem drt_congr {o o' : Bool} {n K : Nat} {g f : Nat → V} {ls : List Nat} (h : ∀ _ : Unit, o = o') : drt o n K g f ls = drt o' n K g f ls := by rw [h ()]
@[simp, simp ↓] theorem drt_true (n K : Nat) (g f : Nat → V) (ls : List Nat) : drt true n K g f ls = tab n K (keepF (kvv n ls (both K g f)) (both K g f) ls) dd := rfl
@[simp] theorem drops_tt (n K : Nat) (g f : Nat → V) (ls : List Nat) : drops (tab n K g f) (bits n ls) = drt (lsOk n K ls) n K g f ls := by
  cases h : lsOk n K ls with
  | true => exact drops_tb n K g f ls h
  | false => rfl
theorem drops_nil (n K : Nat) (g f : Nat → V) : drops (tab n K g f) (bits n []) = tab n K dd dd := drops_tb n K g f [] rfl

def entF (ds : List D) : Nat → V := fun i => match ds[i]? with
  | some d => mkRo d
  | none => .sc undef
def entV (o : Option D) : V := match o with
  | some d => mkRo d
  | none => .sc undef
@[simp] theorem entF_apply (ds : List D) (j : Nat) : entF ds j = entV ds[j]? := rfl
@[simp] theorem entV_some (d : D) : entV (some d) = mkRo d := rfl
@[simp] theorem entV_none : entV none = .sc undef := rfl

theorem enter_tab (mf : MF) (K : Nat) (ds : List D) (h : ds.length ≤ mf.ntmps) (hk : ds.length ≤ K) : enterF mf ds = tab mf.ntmps K (entF ds) un' := by
  apply List.ext_getElem?
  intro j
  rw [tab_get]
  unfold enterF
  by_cases hj : j < ds.length
  · rw [List.getElem?_append_left (by simpa using hj), List.getElem?_map, List.getElem?_eq_getElem hj, if_pos (by omega), if_pos (by omega)]
    simp [hj]
  · rw [List.getElem?_append_right (by simpa using hj), List.getElem?_replicate, List.length_map]
    by_cases hn : j < mf.ntmps
    · rw [if_pos (by omega), if_pos hn]
      simp only [entF_apply, un_apply, List.getElem?_eq_none (Nat.le_of_not_lt hj), entV_none]
      split <;> rfl
    · rw [if_neg (by omega), if_neg hn]

theorem callF_tab (call : Oracle) (fuel : Nat) (mf : MF) (K : Nat) (ds : List D) (h : ds.length ≤ mf.ntmps) (hk : ds.length ≤ K) : callF call fuel mf ds = fk (run call fuel mf.code (tab mf.ntmps K (entF ds) un')) (fun st => resF st mf.res) := by
  rw [callF_eq, enter_tab mf K ds h hk]

/-! ### functions that change what their first argument points to -/
def entI (d0 : D) (ds : List D) : Nat → V := fun i => match i with
  | 0 => .own d0
  | i + 1 => entV ds[i]?
@[simp] theorem entI_zero (d0 : D) (ds : List D) : entI d0 ds 0 = .own d0 := rfl
@[simp] theorem entI_succ (d0 : D) (ds : List D) (i : Nat) : entI d0 ds (i + 1) = entV ds[i]? := rfl
@[simp] theorem entI_lit (d0 : D) (ds : List D) (i : Nat) [h : NeZero i] : entI d0 ds (OfNat.ofNat i) = entV ds[i - 1]? := by
  show entI d0 ds i = _
  cases i with
  | zero => exact absurd rfl h.out
  | succ i => rfl
theorem enterI_tab (mf : MF) (K : Nat) (d0 : D) (ds : List D) (h : ds.length + 1 ≤ mf.ntmps) (hk : ds.length + 1 ≤ K) : enterI mf d0 ds = tab mf.ntmps K (entI d0 ds) un' := by
  apply List.ext_getElem?
  intro j
  rw [tab_get]
  unfold enterI
  cases j with
  | zero =>
    rw [if_pos (by omega), if_pos (by omega)]
    rfl
  | succ j =>
    rw [List.getElem?_cons_succ]
    by_cases hj : j < ds.length
    · rw [List.getElem?_append_left (by simpa using hj), List.getElem?_map, List.getElem?_eq_getElem hj, if_pos (by omega), if_pos (by omega)]
      simp [entI, hj]
    · rw [List.getElem?_append_right (by simpa using hj), List.getElem?_replicate, List.length_map]
      by_cases hn : j + 1 < mf.ntmps
      · rw [if_pos (by omega), if_pos hn]
        simp only [entI, un_apply, List.getElem?_eq_none (Nat.le_of_not_lt hj), entV_none]
        split <;> rfl
      · rw [if_neg (by omega), if_neg hn]
def ioD (ds : List D) (o : Option V) : Option D :=
  match o with
  | some (.own (.nd (.bx b) kids)) => some (.nd .tu [fromD ds, .nd (.bx b) kids])
  | _ => none
@[simp] theorem ioD_own (ds : List D) (b : Bool) (kids : List D) : ioD ds (some (.own (.nd (.bx b) kids))) = some (.nd .tu [fromD ds, .nd (.bx b) kids]) := rfl
@[simp] theorem fromD_one (d : D) : fromD [d] = d := rfl
theorem resI_eq {st : St} {rs : List Nat} (h : resCell rs = none) : resI st rs = ob (takeAll st (rs.map .t)) (fun q => ioD q.1 q.2[0]?) := by
  unfold resI
  rw [h]
  cases takeAll st (rs.map .t) with
  | none => rfl
  | some q =>
    obtain ⟨ds, s2⟩ := q
    simp only [ob_some]
    unfold ioD
    cases s2[0]? with
    | none => rfl
    | some v => cases v with
      | own d => cases d with
        | nd k kids => cases k <;> rfl
        | _ => rfl
      | _ => rfl
theorem callI_tab (call : Oracle) (fuel : Nat) (mf : MF) (K : Nat) (d0 : D) (ds : List D) (h : ds.length + 1 ≤ mf.ntmps) (hk : ds.length + 1 ≤ K) (ho : offM 0 mf.code = true) (hb : hasB mf.code = false) (hr : resCell mf.res = none) :
    callI call fuel mf d0 ds = fk (run call fuel mf.code (tab mf.ntmps K (entI d0 ds) un')) (fun st => ob (takeAll st (mf.res.map .t)) (fun q => ioD q.1 q.2[0]?)) := by
  unfold callI
  rw [ho, hb, enterI_tab mf K d0 ds h hk]
  simp only [Bool.not_false, Bool.and_self, if_true, resI_eq hr]
  unfold fk
  split <;> simp_all
theorem sem_io {tbl : FuncId → Option MF} {fuel n : Nat} {f : FuncId} {d0 : D} {ds : List D} {mf : MF} (h : tbl f = some mf) (hn : tbl (f + ioB) = none) : sem tbl fuel (n + 1) (f + ioB) (d0 :: ds) = callI (sem tbl fuel n) fuel mf d0 ds := by
  simp only [sem]
  rw [hn]
  simp only [ge_iff_le, Nat.le_add_left, if_true, Nat.add_sub_cancel, h]

end Go.Mx
