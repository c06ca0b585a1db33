import Derived.Test.YtgbikojcpfdbiaaDoorMxQ
/-
  Mx, part Qf: an operation that changes its own slot alone looks at the slots that it names, and at the trees that these borrow from, and at no others.
-/
namespace Go.Mx
set_option linter.unusedVariables false
set_option linter.unusedSimpArgs false
set_option linter.unusedSectionVars false
open Go

mutual
/-- All trees that a value borrows from lie in these slots. -/
def V.within (I : Nat → Prop) : V → Prop
  | .ref r _ => I r
  | .sub r _ _ _ _ => I r
  | .ad r _ _ => I r
  | .vn _ vs => V.withinL I vs
  | _ => True
def V.withinL (I : Nat → Prop) : List V → Prop
  | [] => True
  | x :: xs => V.within I x ∧ V.withinL I xs
end

/-- Two states are one on these slots, and what lies there borrows from there. -/
structure Like (I : Nat → Prop) (st st' : St) : Prop where
  same : ∀ i, I i → st'[i]? = st[i]?
  clos : ∀ i x, I i → st[i]? = some x → x.within I

def MO.inI (I : Nat → Prop) (m : MO) : Prop := ∀ i ∈ m.slots, I i

set_option linter.unusedSectionVars false
section
variable {I : Nat → Prop} {st st' : St} (L : Like I st st')
include L

theorem ev_like {m : MO} (h : m.inI I) : ev st' m = ev st m ∧ (ev st m).within I := by
  cases m with
  | t i =>
    have hi : I i := h i (by simp [MO.slots])
    simp only [ev, L.same i hi, true_and]
    cases hx : st[i]? with
    | none => trivial
    | some x =>
      have := L.clos i x hi hx
      cases x <;> first | exact hi | exact this | trivial
  | c d =>
    refine ⟨rfl, ?_⟩
    cases d <;> trivial

theorem root_like {r : Nat} (h : I r) : rootD st' r = rootD st r := by simp only [rootD, L.same r h]

theorem place_like {r : Nat} {p : List Nat} (h : I r) : placeD st' r p = placeD st r p := by simp only [placeD, root_like L h]

mutual
theorem rd_like : ∀ (x : V), x.within I → rd st' x = rd st x
  | .sc _, _ => rfl
  | .own _, _ => rfl
  | .ro _, _ => rfl
  | .ref r p, h => by simp only [rd]; exact place_like L h
  | .sub r p lo es n, h => by
    have : I r := h
    simp only [rd, place_like L this]
  | .ad _ _ _, _ => rfl
  | .rad _ _, _ => rfl
  | .vn k vs, h => by simp only [rd, rdL_like vs h]
  | .dead, _ => rfl
theorem rdL_like : ∀ (xs : List V), V.withinL I xs → rdL st' xs = rdL st xs
  | [], _ => rfl
  | x :: xs, h => by simp only [rdL, rd_like x h.1, rdL_like xs h.2]
end

theorem cellV_within {r : Nat} {p : List Nat} {kids : List D} {c : Nat} {y : V} (h : I r) (hy : cellV r p kids c = some y) : y.within I := by
  unfold cellV at hy
  split at hy
  · cases hy; trivial
  · cases hy; exact h
  · cases hy

theorem cellR_within {kids : List D} {c : Nat} {y : V} (hy : cellR kids c = some y) : y.within I := by
  unfold cellR at hy
  split at hy
  · cases hy; trivial
  · cases hy; trivial
  · cases hy

theorem load1_like {x : V} (h : x.within I) : load1 st' x = load1 st x ∧ ∀ y, load1 st x = some y → y.within I := by
  cases x with
  | ad r p c =>
    have hr : I r := h
    simp only [load1, place_like L hr, true_and]
    intro y hy
    split at hy
    · split at hy
      · exact cellV_within L hr hy
      · cases hy
    · cases hy
  | ref r p =>
    have hr : I r := h
    simp only [load1, place_like L hr, true_and]
    intro y hy
    split at hy
    · split at hy
      · exact cellV_within L hr hy
      · cases hy
    · cases hy
  | rad kids c => exact ⟨rfl, fun y hy => cellR_within L hy⟩
  | ro d =>
    refine ⟨by cases d <;> first | rfl | (rename_i k _; cases k <;> rfl), fun y hy => ?_⟩
    unfold load1 at hy
    split at hy
    · rename_i heq; cases heq
    · rename_i heq; cases heq
    · rename_i heq; cases heq
    · exact cellR_within L hy
    · cases hy
  | sc _ => exact ⟨rfl, fun y hy => by simp [load1] at hy⟩
  | own _ => exact ⟨rfl, fun y hy => by simp [load1] at hy⟩
  | sub _ _ _ _ _ => exact ⟨rfl, fun y hy => by simp [load1] at hy⟩
  | vn _ _ => exact ⟨rfl, fun y hy => by simp [load1] at hy⟩
  | dead => exact ⟨rfl, fun y hy => by simp [load1] at hy⟩

theorem seqM_within {r : Nat} {p : List Nat} {kids : List D} (h : I r) : ∀ (l : List Nat) (c : Nat) (vs : List V), seqM (l.map fun i => cellV r p kids (c + i)) = some vs → V.withinL I vs
  | [], _, vs, hv => by simp only [List.map_nil, seqM, Option.some.injEq] at hv; subst hv; trivial
  | i :: l, c, vs, hv => by
    simp only [List.map_cons] at hv
    cases h1 : cellV r p kids (c + i) with
    | none => simp [h1, seqM] at hv
    | some y =>
      simp only [h1, seqM] at hv
      cases h2 : seqM (l.map fun i => cellV r p kids (c + i)) with
      | none => simp [h2] at hv
      | some ys =>
        simp only [h2, Option.some.injEq] at hv
        subst hv
        exact ⟨cellV_within L h h1, seqM_within h l c ys h2⟩

theorem aggV_within {r : Nat} {p : List Nat} {kids : List D} {c m : Nat} {y : V} (h : I r) (hy : aggV r p kids c m = some y) : y.within I := by
  unfold aggV at hy
  split at hy
  · simp only at hy
    split at hy
    · cases hy; trivial
    · split at hy
      · rename_i vs hvs
        cases hy
        exact seqM_within L h _ _ _ hvs
      · cases hy
  · cases hy

theorem aggR_within {kids : List D} {c m : Nat} {y : V} (hy : aggR kids c m = some y) : y.within I := by
  unfold aggR at hy
  split at hy
  · cases hy; trivial
  · cases hy

theorem loadN_like {x : V} {m : Nat} (h : x.within I) : loadN st' x m = loadN st x m ∧ ∀ y, loadN st x m = some y → y.within I := by
  cases x with
  | ad r p c =>
    have hr : I r := h
    simp only [loadN, place_like L hr, true_and]
    intro y hy
    split at hy
    · split at hy
      · exact aggV_within L hr hy
      · cases hy
    · cases hy
  | ref r p =>
    have hr : I r := h
    simp only [loadN, place_like L hr, true_and]
    intro y hy
    split at hy
    · split at hy
      · exact aggV_within L hr hy
      · cases hy
    · cases hy
  | rad kids c => exact ⟨rfl, fun y hy => aggR_within L hy⟩
  | ro d =>
    refine ⟨by cases d <;> first | rfl | (rename_i k _; cases k <;> rfl), fun y hy => ?_⟩
    unfold loadN at hy
    split at hy
    · rename_i heq; cases heq
    · rename_i heq; cases heq
    · rename_i heq; cases heq
    · exact aggR_within L hy
    · cases hy
  | sc _ => exact ⟨rfl, fun y hy => by simp [loadN] at hy⟩
  | own _ => exact ⟨rfl, fun y hy => by simp [loadN] at hy⟩
  | sub _ _ _ _ _ => exact ⟨rfl, fun y hy => by simp [loadN] at hy⟩
  | vn _ _ => exact ⟨rfl, fun y hy => by simp [loadN] at hy⟩
  | dead => exact ⟨rfl, fun y hy => by simp [loadN] at hy⟩

theorem elem_like {x : V} {es i : Nat} (h : x.within I) : elemAt st' es x i = elemAt st es x i ∧ ∀ y, elemAt st es x i = some y → y.within I := by
  cases x with
  | ref r p =>
    have hr : I r := h
    simp only [elemAt, place_like L hr, true_and]
    intro y hy
    split at hy
    · split at hy
      · cases hy; exact hr
      · cases hy
    · cases hy
  | sub r p lo es' n =>
    have hr : I r := h
    simp only [elemAt, place_like L hr, true_and]
    intro y hy
    split at hy
    · split at hy
      · cases hy; exact hr
      · cases hy
    · cases hy
  | ro d =>
    refine ⟨by cases d <;> first | rfl | (rename_i k _; cases k <;> rfl), fun y hy => ?_⟩
    unfold elemAt at hy
    split at hy
    · rename_i heq; cases heq
    · rename_i heq; cases heq
    · split at hy
      · cases hy; trivial
      · cases hy
    · cases hy
  | sc _ => exact ⟨rfl, fun y hy => by simp [elemAt] at hy⟩
  | own _ => exact ⟨rfl, fun y hy => by simp [elemAt] at hy⟩
  | ad _ _ _ => exact ⟨rfl, fun y hy => by simp [elemAt] at hy⟩
  | rad _ _ => exact ⟨rfl, fun y hy => by simp [elemAt] at hy⟩
  | vn _ _ => exact ⟨rfl, fun y hy => by simp [elemAt] at hy⟩
  | dead => exact ⟨rfl, fun y hy => by simp [elemAt] at hy⟩

theorem add_like {x : V} {o : Nat} (h : x.within I) : addAt st' x o = addAt st x o ∧ ∀ y, addAt st x o = some y → y.within I := by
  cases x with
  | ad r p c => exact ⟨rfl, fun y hy => by simp only [addAt, Option.some.injEq] at hy; subst hy; exact h⟩
  | ref r p =>
    have hr : I r := h
    simp only [addAt, place_like L hr, true_and]
    intro y hy
    split at hy
    · cases hy; exact hr
    · cases hy
  | rad kids c => exact ⟨rfl, fun y hy => by simp only [addAt, Option.some.injEq] at hy; subst hy; trivial⟩
  | ro d =>
    refine ⟨by cases d <;> first | rfl | (rename_i k _; cases k <;> rfl), fun y hy => ?_⟩
    unfold addAt at hy
    split at hy
    · rename_i heq; cases heq
    · rename_i heq; cases heq
    · rename_i heq; cases heq
    · cases hy; trivial
    · cases hy
  | sc _ => exact ⟨rfl, fun y hy => by simp [addAt] at hy⟩
  | own _ => exact ⟨rfl, fun y hy => by simp [addAt] at hy⟩
  | sub _ _ _ _ _ => exact ⟨rfl, fun y hy => by simp [addAt] at hy⟩
  | vn _ _ => exact ⟨rfl, fun y hy => by simp [addAt] at hy⟩
  | dead => exact ⟨rfl, fun y hy => by simp [addAt] at hy⟩

theorem withinL_get : ∀ {vs : List V} {i : Nat} {y : V}, V.withinL I vs → vs[i]? = some y → y.within I
  | [], _, _, _, h => by simp at h
  | x :: xs, 0, y, hw, h => by simp at h; subst h; exact hw.1
  | x :: xs, i + 1, y, hw, h => by simp at h; exact withinL_get hw.2 h

theorem field_like {x : V} {o : Nat} {m : Option Nat} (h : x.within I) : fieldV st' x o m = fieldV st x o m ∧ ∀ y, fieldV st x o m = some y → y.within I := by
  cases m with
  | some m =>
    simp only [fieldV, rd_like L x h, true_and]
    intro y hy
    split at hy
    · split at hy
      · cases hy; trivial
      · cases hy
    · cases hy
  | none =>
    cases x with
    | ref r p =>
      have hr : I r := h
      simp only [fieldV, place_like L hr, true_and]
      intro y hy
      split at hy
      · exact cellV_within L hr hy
      · cases hy
    | ro d =>
      refine ⟨by cases d <;> first | rfl | (rename_i k _; cases k <;> rfl), fun y hy => ?_⟩
      simp only [fieldV] at hy
      split at hy
      · rename_i heq; cases heq
      · exact cellR_within L hy
      · rename_i heq; cases heq
      · cases hy
    | vn k vs =>
      refine ⟨by cases k <;> rfl, fun y hy => ?_⟩
      cases k with
      | ag => simp only [fieldV] at hy; exact withinL_get L h hy
      | _ => simp [fieldV] at hy
    | sc _ => exact ⟨rfl, fun y hy => by simp [fieldV] at hy⟩
    | own _ => exact ⟨rfl, fun y hy => by simp [fieldV] at hy⟩
    | ad _ _ _ => exact ⟨rfl, fun y hy => by simp [fieldV] at hy⟩
    | rad _ _ => exact ⟨rfl, fun y hy => by simp [fieldV] at hy⟩
    | sub _ _ _ _ _ => exact ⟨rfl, fun y hy => by simp [fieldV] at hy⟩
    | dead => exact ⟨rfl, fun y hy => by simp [fieldV] at hy⟩

theorem slice_like {x : V} {es : Nat} {lo hi : Option Nat} (h : x.within I) : slice st' es x lo hi = slice st es x lo hi ∧ ∀ y, slice st es x lo hi = some y → y.within I := by
  cases x with
  | ref r p =>
    have hr : I r := h
    simp only [slice, place_like L hr, true_and]
    intro y hy
    split at hy
    · split at hy
      · simp only [Option.some.injEq] at hy
        subst hy
        split
        · trivial
        · exact hr
      · cases hy
    · cases hy
  | sub r p lo0 es' n =>
    have hr : I r := h
    simp only [slice, place_like L hr, true_and]
    intro y hy
    split at hy
    · split at hy
      · cases hy; exact hr
      · cases hy
    · cases hy
  | ro d =>
    refine ⟨by cases d <;> first | rfl | (rename_i k _; cases k <;> rfl), fun y hy => ?_⟩
    unfold slice at hy
    split at hy
    · rename_i heq; cases heq
    · rename_i heq; cases heq
    · simp only at hy
      split at hy
      · cases hy; trivial
      · cases hy
    · cases hy
  | sc _ => exact ⟨rfl, fun y hy => by simp [slice] at hy⟩
  | own _ => exact ⟨rfl, fun y hy => by simp [slice] at hy⟩
  | ad _ _ _ => exact ⟨rfl, fun y hy => by simp [slice] at hy⟩
  | rad _ _ => exact ⟨rfl, fun y hy => by simp [slice] at hy⟩
  | vn _ _ => exact ⟨rfl, fun y hy => by simp [slice] at hy⟩
  | dead => exact ⟨rfl, fun y hy => by simp [slice] at hy⟩

theorem cp_like {x : V} (h : x.within I) : cp st' x = cp st x := by
  cases x with
  | ref r p =>
    have hr : I r := h
    simp only [cp, place_like L hr]
  | _ => rfl

theorem cpAll_like : ∀ (l : List MO), (∀ m ∈ l, m.inI I) → cpAll st' l = cpAll st l
  | [], _ => rfl
  | x :: xs, h => by
    obtain ⟨e1, e2⟩ := ev_like L (h x (by simp))
    simp only [cpAll, e1, cp_like L e2, cpAll_like xs fun m hm => h m (by simp [hm])]

theorem rdAll_like : ∀ (l : List MO), (∀ m ∈ l, m.inI I) → rdAll st' l = rdAll st l
  | [], _ => rfl
  | x :: xs, h => by
    obtain ⟨e1, e2⟩ := ev_like L (h x (by simp))
    simp only [rdAll, e1, rd_like L _ e2, rdAll_like xs fun m hm => h m (by simp [hm])]

theorem optNat_like {x : Option MO} (h : ∀ i ∈ oslots x, I i) : optNat st' x = optNat st x := by
  cases x with
  | none => rfl
  | some m => simp only [optNat, (ev_like L (m := m) h).1]

theorem isNil_like {x : V} {ptr : Bool} (h : x.within I) : isNil st' ptr x = isNil st ptr x := by simp only [isNil, rd_like L x h]

theorem lenOf_like {x : V} {str : Bool} (h : x.within I) : lenOf st' str x = lenOf st str x := by
  cases str
  · cases x <;> first | rfl | (simp only [lenOf, rd_like L _ h])
  · rfl

omit L in
theorem mkRo_within (d : D) : (mkRo d).within I := by cases d <;> trivial

omit L in
theorem withinL_set : ∀ (l : List V) (i : Nat) (x : V), V.withinL I l → x.within I → V.withinL I (l.set i x)
  | [], _, _, h, _ => h
  | y :: l, 0, x, h, hx => ⟨hx, h.2⟩
  | y :: l, i + 1, x, h, hx => ⟨h.1, withinL_set l i x h.2 hx⟩

omit L in
theorem zV_within (l : List D) : V.withinL I (zV l) := by
  induction l with
  | nil => trivial
  | cons d l ih => exact ⟨mkRo_within d, ih⟩

theorem oneV_like {x : V} (h : x.within I) : oneV st' x = oneV st x := by simp only [oneV, rd_like L x h]

theorem bvL_like : ∀ (ps : List (Nat × Nat × MO)) (cells : List V), (∀ m ∈ ps.map (·.2.2), m.inI I) → V.withinL I cells → bvL st' cells ps = bvL st cells ps ∧ ∀ y, bvL st cells ps = some y → V.withinL I y
  | [], cells, _, hc => ⟨rfl, fun y hy => by simp only [bvL, Option.some.injEq] at hy; subst hy; exact hc⟩
  | (off, sz, x) :: ps, cells, h, hc => by
    obtain ⟨e1, e2⟩ := ev_like L (m := x) (h x (by simp))
    obtain ⟨h1, h2⟩ := bvL_like ps (cells.set off (ev st x)) (fun m hm => h m (by simp only [List.map_cons, List.mem_cons]; exact .inr hm)) (withinL_set _ _ _ hc e2)
    simp only [bvL, e1, oneV_like L e2, h1, true_and]
    intro y hy
    split at hy
    · exact h2 y hy
    · cases hy

omit L in
theorem mkOwn_within (d : D) : (mkOwn d).within I := by cases d <;> trivial

theorem exV_like {x : V} {i : Nat} (h : x.within I) : exV st' x i = exV st x i ∧ ∀ y, exV st x i = some y → y.within I := by
  cases x with
  | ref r p =>
    have hr : I r := h
    simp only [exV, place_like L hr, true_and]
    intro y hy
    split at hy
    · split at hy
      · cases hy; trivial
      · cases hy; exact hr
      · cases hy
    · cases hy
  | _ => exact ⟨rfl, fun y hy => by simp [exV] at hy⟩

theorem val1_like (call : Oracle) (op : MOp) (h : ∀ i ∈ op.rds, I i) : val1 call st' op = val1 call st op ∧ ∀ y, val1 call st op = some y → y.within I := by
  have two : ∀ {x y : MO}, (∀ i ∈ x.slots ++ y.slots, I i) → x.inI I ∧ y.inI I := fun h => ⟨fun i hi => h i (List.mem_append_left _ hi), fun i hi => h i (List.mem_append_right _ hi)⟩
  cases op with
  | mv d x =>
    obtain ⟨e1, e2⟩ := ev_like L (m := x) h
    simp only [val1, e1, true_and]
    intro y hy
    split at hy
    · cases hy
    · cases hy; exact e2
  | alc d z => exact ⟨rfl, fun y hy => by simp only [val1, Option.some.injEq] at hy; subst hy; trivial⟩
  | asg d x =>
    obtain ⟨e1, e2⟩ := ev_like L (m := x) h
    simp only [val1, e1, true_and]
    intro y hy
    split at hy
    · cases hy; trivial
    · cases hy
  | pick d c a b =>
    have hc : c.inI I := fun i hi => h i (List.mem_append_left _ hi)
    obtain ⟨ha, hb⟩ := two (x := a) (y := b) fun i hi => h i (List.mem_append_right _ hi)
    obtain ⟨e1, _⟩ := ev_like L hc
    obtain ⟨e3, e4⟩ := ev_like L ha
    obtain ⟨e5, e6⟩ := ev_like L hb
    simp only [val1, e1]
    split
    · rename_i t _
      cases t
      · simp only [Bool.false_eq_true, if_false, e5, true_and]
        intro y hy
        split at hy
        · cases hy
        · cases hy; exact e6
      · simp only [if_true, e3, true_and]
        intro y hy
        split at hy
        · cases hy
        · cases hy; exact e4
    · exact ⟨rfl, fun y hy => by cases hy⟩
  | ixs d es x i =>
    obtain ⟨hx, hi⟩ := two h
    obtain ⟨e1, e2⟩ := ev_like L hx
    obtain ⟨e3, _⟩ := ev_like L hi
    simp only [val1, e1, e3]
    split
    · exact elem_like L e2
    · exact ⟨rfl, fun y hy => by cases hy⟩
  | ixa d es n x i =>
    obtain ⟨hx, hi⟩ := two h
    obtain ⟨e1, e2⟩ := ev_like L hx
    obtain ⟨e3, _⟩ := ev_like L hi
    simp only [val1, e1, e3]
    split
    · split
      · exact add_like L e2
      · exact ⟨rfl, fun y hy => by cases hy⟩
    · exact ⟨rfl, fun y hy => by cases hy⟩
  | ld1 d x =>
    obtain ⟨e1, e2⟩ := ev_like L (m := x) h
    simp only [val1, e1]
    exact load1_like L e2
  | ldn d m x =>
    obtain ⟨e1, e2⟩ := ev_like L (m := x) h
    simp only [val1, e1]
    exact loadN_like L e2
  | bin d op bt x y =>
    obtain ⟨hx, hy⟩ := two h
    obtain ⟨e1, e2⟩ := ev_like L hx
    obtain ⟨e3, e4⟩ := ev_like L hy
    have hsc : ∀ z, val1 call st (.bin d op bt x y) = some z → z.within I := by
      intro z hz
      simp only [val1] at hz
      repeat' split at hz
      all_goals first | (cases hz; trivial) | cases hz
    refine ⟨?_, hsc⟩
    cases bt with
    | nilT ptr => simp only [val1, e1, e3, isNil_like L e2, isNil_like L e4]
    | ag ks => simp only [val1, e1, e3, rd_like L _ e2, rd_like L _ e4]
    | num => simp only [val1, e1, e3]
    | bool => simp only [val1, e1, e3]
    | no => simp only [val1, e1, e3]
  | un d op x =>
    obtain ⟨e1, e2⟩ := ev_like L (m := x) h
    simp only [val1, e1, true_and]
    intro y hy
    repeat' split at hy
    all_goals first | (cases hy; trivial) | cases hy
  | len d str x =>
    obtain ⟨e1, e2⟩ := ev_like L (m := x) h
    simp only [val1, e1, lenOf_like L e2, true_and]
    intro y hy
    repeat' split at hy
    all_goals first | (cases hy; trivial) | cases hy
  | mm d mx x y =>
    obtain ⟨hx, hy⟩ := two h
    obtain ⟨e1, e2⟩ := ev_like L hx
    obtain ⟨e3, e4⟩ := ev_like L hy
    simp only [val1, e1, e3, true_and]
    intro z hz
    repeat' split at hz
    all_goals first | (cases hz; trivial) | cases hz
  | call dst f xs =>
    have hxs : ∀ m ∈ xs, m.inI I := fun m hm i hi => h i (List.mem_flatMap.2 ⟨m, hm, hi⟩)
    simp only [val1, rdAll_like L xs hxs, true_and]
    intro y hy
    repeat' split at hy
    all_goals first | (cases hy; exact mkOwn_within _) | cases hy
  | bs d es n z ps =>
    have hxs : ∀ m ∈ ps.map (·.2.2), m.inI I := fun m hm i hi => h i (List.mem_flatMap.2 ⟨m, hm, hi⟩)
    simp only [val1, cpAll_like L _ hxs, true_and]
    intro y hy
    repeat' split at hy
    all_goals first | (cases hy; trivial) | cases hy
  | bld d z ps =>
    have hxs : ∀ m ∈ ps.map (·.2.2), m.inI I := fun m hm i hi => h i (List.mem_flatMap.2 ⟨m, hm, hi⟩)
    simp only [val1, cpAll_like L _ hxs, true_and]
    intro y hy
    repeat' split at hy
    all_goals first | (cases hy; trivial) | cases hy
  | bv d z ps =>
    have hxs : ∀ m ∈ ps.map (·.2.2), m.inI I := fun m hm i hi => h i (List.mem_flatMap.2 ⟨m, hm, hi⟩)
    obtain ⟨h1, h2⟩ := bvL_like L ps (zV z) hxs (zV_within z)
    simp only [val1, h1, true_and]
    intro y hy
    split at hy
    · rename_i cs hcs; cases hy; exact h2 cs hcs
    · cases hy
  | mks d es z l c =>
    obtain ⟨hx, hy⟩ := two h
    obtain ⟨e1, e2⟩ := ev_like L hx
    obtain ⟨e3, e4⟩ := ev_like L hy
    simp only [val1, e1, e3, true_and]
    intro y hy
    repeat' split at hy
    all_goals first | (cases hy; trivial) | cases hy
  | sl d es x lo hi =>
    have hx : x.inI I := fun i hi => h i (List.mem_append_left _ hi)
    have h1 : ∀ i ∈ oslots lo, I i := fun i hi => h i (List.mem_append_right _ (List.mem_append_left _ hi))
    have h2 : ∀ i ∈ oslots hi, I i := fun i hi' => h i (List.mem_append_right _ (List.mem_append_right _ hi'))
    obtain ⟨e1, e2⟩ := ev_like L hx
    simp only [val1, e1, optNat_like L h1, optNat_like L h2]
    split
    · exact slice_like L e2
    · exact ⟨rfl, fun y hy => by cases hy⟩
  | fa d o x =>
    obtain ⟨e1, e2⟩ := ev_like L (m := x) h
    simp only [val1, e1]
    exact add_like L e2
  | fld d o m x =>
    obtain ⟨e1, e2⟩ := ev_like L (m := x) h
    simp only [val1, e1]
    exact field_like L e2
  | cvi d k x =>
    obtain ⟨e1, e2⟩ := ev_like L (m := x) h
    simp only [val1, e1, true_and]
    intro y hy
    repeat' split at hy
    all_goals first | (cases hy; trivial) | cases hy
  | ix d es n x i =>
    obtain ⟨hx, hi⟩ := two h
    obtain ⟨e1, e2⟩ := ev_like L hx
    obtain ⟨e3, _⟩ := ev_like L hi
    simp only [val1, e1, e3]
    split
    · split
      · exact field_like L e2
      · exact ⟨rfl, fun y hy => by cases hy⟩
    · exact ⟨rfl, fun y hy => by cases hy⟩
  | exb d x i =>
    obtain ⟨e1, e2⟩ := ev_like L (m := x) h
    simp only [val1, e1]
    exact exV_like L e2
  | nc d x =>
    obtain ⟨e1, e2⟩ := ev_like L (m := x) h
    simp only [val1, e1, isNil_like L e2, true_and]
    intro y hy
    split at hy
    · cases hy; exact e2
    · cases hy
  | ssl d x lo hi =>
    have h0 : x.inI I := fun i hi' => h i (by simp [MOp.rds, hi'])
    have h1 : ∀ i ∈ oslots lo, I i := fun i hi' => h i (by simp [MOp.rds, hi'])
    have h2 : ∀ i ∈ oslots hi, I i := fun i hi' => h i (by simp [MOp.rds, hi'])
    obtain ⟨e1, e2⟩ := ev_like L h0
    simp only [val1, e1, optNat_like L h1, optNat_like L h2, true_and]
    intro y hy
    split at hy
    · split at hy
      · unfold strSl at hy
        split at hy
        · cases hy; trivial
        · cases hy
      · cases hy
    · cases hy
  | mz d es =>
    refine ⟨rfl, fun y hy => ?_⟩
    simp only [val1, Option.some.injEq] at hy
    subst hy
    trivial
  | app d es x y =>
    obtain ⟨hx, hy⟩ := two h
    obtain ⟨e1, _⟩ := ev_like L hx
    obtain ⟨e3, e4⟩ := ev_like L hy
    refine ⟨by simp only [val1, e1, e3, rd_like L _ e4], fun z hz => ?_⟩
    simp only [val1] at hz
    split at hz
    · split at hz
      · split at hz
        · cases hz; trivial
        · cases hz
      · cases hz
    · cases hz
  | _ => exact ⟨rfl, fun y hy => by simp [val1] at hy⟩

theorem valG_like (call : Oracle) (o : MG) (h : ∀ i ∈ o.rds, I i) : valG call st' o = valG call st o ∧ ∀ y, valG call st o = some y → y.within I := by
  have hop : ∀ i ∈ o.op.rds, I i := by
    intro i hi
    refine h i ?_
    unfold MG.rds
    split
    · exact List.mem_cons_of_mem _ hi
    · exact hi
  have hw : wanted st' o.g = wanted st o.g := by
    cases hg : o.g with
    | none => rfl
    | some q =>
      obtain ⟨s, w⟩ := q
      simp only [wanted]
      rw [L.same s (h s (by simp [MG.rds, hg]))]
  obtain ⟨e1, e2⟩ := val1_like L call o.op hop
  unfold valG
  rw [hw, e1]
  refine ⟨rfl, fun y hy => ?_⟩
  split at hy
  · exact e2 y hy
  · cases hy; trivial
  · cases hy

end

/-! ### the step that gives the value -/

theorem cpAll_take (st : St) : ∀ (l : List MO) (ds : List D), cpAll st l = some ds → takeAll st l = some (ds, st)
  | [], ds, h => by simp only [cpAll, Option.some.injEq] at h; subst h; rfl
  | x :: xs, ds, h => by
    simp only [cpAll] at h
    cases h1 : cp st (ev st x) with
    | none => simp [h1] at h
    | some d =>
      simp only [h1] at h
      cases h2 : cpAll st xs with
      | none => simp [h2] at h
      | some ds' =>
        simp only [h2, Option.some.injEq] at h
        subst h
        have ht : Mx.take st (ev st x) = some (d, st) := by
          generalize ev st x = v at h1
          cases v with
          | sc y => simp only [cp, Option.some.injEq] at h1; subst h1; rfl
          | ro dd =>
            cases dd with
            | v y => simp only [cp, noMem, if_true, Option.some.injEq] at h1; subst h1; rfl
            | hole b => simp [cp, noMem] at h1
            | nd k kids =>
              cases k with
              | ag =>
                simp only [cp] at h1
                split at h1
                · rename_i hn
                  cases h1
                  simp [Mx.take, hn]
                · cases h1
              | _ =>
                simp only [cp] at h1
                split at h1
                · rename_i hn
                  cases h1
                  simp [Mx.take, hn]
                · cases h1
          | ref r p =>
            simp only [cp, placeD] at h1
            cases hr : rootD st r with
            | none => simp [hr] at h1
            | some d0 =>
              simp only [hr] at h1
              split at h1
              · rename_i kids hg
                split at h1
                · rename_i hn
                  cases h1
                  simp [Mx.take, hr, hg, hn]
                · cases h1
              · cases h1
          | _ => simp [cp] at h1
        simp [takeAll, ht, cpAll_take st xs ds' h2]

theorem val1_step {call : Oracle} {st : St} {op : MOp} {y : V} {d : Nat} (h : val1 call st op = some y) (hd : op.dst = some d) : step call st op = some (setv st d y) := by
  cases op with
  | mv e x =>
    simp only [MOp.dst, Option.some.injEq] at hd; subst hd
    simp only [val1] at h
    simp only [step]
    split at h
    · cases h
    · rename_i hne
      cases h
      first
        | rfl
        | (split
           · rename_i h'; exact absurd h' hne
           · rfl)
  | alc e z =>
    simp only [MOp.dst, Option.some.injEq] at hd; subst hd
    simp only [val1, Option.some.injEq] at h
    subst h; rfl
  | asg e x =>
    simp only [MOp.dst, Option.some.injEq] at hd; subst hd
    simp only [val1] at h
    simp only [step]
    split at h
    · rename_i v hv
      cases h
      rw [hv]; rfl
    · cases h
  | pick e c a b =>
    simp only [MOp.dst, Option.some.injEq] at hd; subst hd
    simp only [val1] at h
    simp only [step]
    split at h
    · rename_i t hc
      try rw [hc]
      try simp only
      split at h
      · cases h
      · rename_i hne
        cases h
        first
          | rfl
          | (split
             · rename_i h'; exact absurd h' hne
             · rfl)
    · cases h
  | ixs e es x i =>
    simp only [MOp.dst, Option.some.injEq] at hd; subst hd
    simp only [val1] at h
    simp only [step]
    split at h
    · rename_i n hn; try (try rw [hn])
      simp only [h]
    · cases h
  | ixa e es n x i =>
    simp only [MOp.dst, Option.some.injEq] at hd; subst hd
    simp only [val1] at h
    simp only [step]
    split at h
    · rename_i n hn
      (try rw [hn])
      try simp only
      split at h
      · rename_i hlt; (try rw [if_pos hlt]); (try simp only [h])
      · cases h
    · cases h
  | ld1 e x => simp only [MOp.dst, Option.some.injEq] at hd; subst hd; simp only [val1] at h; simp only [step, h]
  | ldn e m x => simp only [MOp.dst, Option.some.injEq] at hd; subst hd; simp only [val1] at h; simp only [step, h]
  | bin e op bt x z =>
    simp only [MOp.dst, Option.some.injEq] at hd; subst hd
    cases bt with
    | nilT ptr =>
      simp only [val1] at h
      simp only [step]
      cases h1 : isNil st ptr (ev st x) with
      | none => simp [h1] at h
      | some t1 =>
        cases h2 : isNil st ptr (ev st z) with
        | none => simp [h1, h2] at h
        | some t2 =>
          simp only [h1, h2] at h ⊢
          split at h
          · rename_i hc
            (try rw [if_pos hc])
            cases op <;> first | (simp only [Option.some.injEq] at h; subst h; rfl) | cases h
          · cases h
    | ag ks =>
      simp only [val1] at h
      simp only [step]
      split at h
      · rename_i as bs h1 h2
        (try rw [h1, h2])
        try simp only
        cases h3 : eqAll ks as bs with
        | none => simp [h3] at h
        | some t =>
          simp only [h3] at h ⊢
          cases op <;> first | (simp only [Option.some.injEq] at h; subst h; rfl) | cases h
      · cases h
    | num =>
      simp only [val1] at h
      simp only [step]
      split at h
      · rename_i a b h1 h2
        (try rw [h1, h2])
        try simp only
        split at h
        · rename_i z hz; cases h; (try rw [hz]); (try rfl)
        · cases h
      · cases h
    | bool =>
      simp only [val1] at h
      simp only [step]
      split at h
      · rename_i a b h1 h2
        (try rw [h1, h2])
        try simp only
        split at h
        · rename_i z hz; cases h; (try rw [hz]); (try rfl)
        · cases h
      · cases h
    | no =>
      simp only [val1] at h
      simp only [step]
      split at h
      · rename_i a b h1 h2
        (try rw [h1, h2])
        try simp only
        split at h
        · rename_i z hz; cases h; (try rw [hz]); (try rfl)
        · cases h
      · cases h
  | un e op x =>
    simp only [MOp.dst, Option.some.injEq] at hd; subst hd
    simp only [val1] at h
    simp only [step]
    split at h
    · rename_i a h1
      (try rw [h1])
      try simp only
      split at h
      · rename_i z hz; cases h; (try rw [hz]); (try rfl)
      · cases h
    · cases h
  | len e str x =>
    simp only [MOp.dst, Option.some.injEq] at hd; subst hd
    simp only [val1] at h
    simp only [step]
    split at h
    · rename_i n h1; cases h; (try rw [h1]); (try rfl)
    · cases h
  | mm e mx x z =>
    simp only [MOp.dst, Option.some.injEq] at hd; subst hd
    simp only [val1] at h
    simp only [step]
    split at h
    · rename_i k a k' b h1 h2; cases h; (try rw [h1, h2]); (try rfl)
    · cases h
  | call dst f xs =>
    simp only [MOp.dst] at hd; subst hd
    simp only [val1] at h
    simp only [step]
    split at h
    · rename_i ds h1
      (try rw [h1])
      try simp only
      split at h
      · rename_i dd h2; cases h; (try rw [h2]); rfl
      · cases h
    · cases h
  | bs e es n z ps =>
    simp only [MOp.dst, Option.some.injEq] at hd; subst hd
    simp only [val1] at h
    simp only [step]
    split at h
    · rename_i ds h1
      rw [cpAll_take st _ _ h1]
      try simp only
      split at h
      · rename_i cells h2; cases h; (try rw [h2]); (try rfl)
      · cases h
    · cases h
  | bld e z ps =>
    simp only [MOp.dst, Option.some.injEq] at hd; subst hd
    simp only [val1] at h
    simp only [step]
    split at h
    · rename_i ds h1
      rw [cpAll_take st _ _ h1]
      try simp only
      split at h
      · rename_i cells h2; cases h; (try rw [h2]); (try rfl)
      · cases h
    · cases h
  | bv e z ps =>
    simp only [MOp.dst, Option.some.injEq] at hd; subst hd
    simp only [val1] at h
    simp only [step]
    split at h
    · rename_i cs h1; cases h; (try rw [h1]); (try rfl)
    · cases h
  | mks e es z l c =>
    simp only [MOp.dst, Option.some.injEq] at hd; subst hd
    simp only [val1] at h
    simp only [step]
    split at h
    · rename_i n m h1 h2
      (try rw [h1, h2])
      try simp only
      split at h
      · rename_i hc; cases h; (try rw [if_pos hc]); (try rfl)
      · cases h
    · cases h
  | sl e es x lo hi =>
    simp only [MOp.dst, Option.some.injEq] at hd; subst hd
    simp only [val1] at h
    simp only [step]
    split at h
    · rename_i l hh h1 h2
      (try rw [h1, h2])
      simp only [h]
    · cases h
  | fa e o x => simp only [MOp.dst, Option.some.injEq] at hd; subst hd; simp only [val1] at h; simp only [step, h]
  | fld e o m x => simp only [MOp.dst, Option.some.injEq] at hd; subst hd; simp only [val1] at h; simp only [step, h]
  | cvi e k x =>
    simp only [MOp.dst, Option.some.injEq] at hd; subst hd
    simp only [val1] at h
    simp only [step]
    split at h
    · rename_i k' n h1; cases h; (try rw [h1]); (try rfl)
    · cases h
  | ix e es n x i =>
    simp only [MOp.dst, Option.some.injEq] at hd; subst hd
    simp only [val1] at h
    simp only [step]
    split at h
    · rename_i n hn
      (try rw [hn])
      try simp only
      split at h
      · rename_i hlt; (try rw [if_pos hlt]); (try simp only [h])
      · cases h
    · cases h
  | exb e x i => simp only [MOp.dst, Option.some.injEq] at hd; subst hd; simp only [val1] at h; simp only [step, h]
  | nc e x =>
    simp only [MOp.dst, Option.some.injEq] at hd; subst hd
    simp only [val1] at h
    simp only [step]
    split at h
    · rename_i h1; cases h; simp only [h1]
    · cases h
  | ssl e x lo hi =>
    simp only [MOp.dst, Option.some.injEq] at hd; subst hd
    simp only [val1] at h
    simp only [step]
    split at h
    · rename_i s h0
      split at h
      · rename_i l hh h1 h2
        simp only [h0, h1, h2, h]
      · cases h
    · cases h
  | mz e es =>
    simp only [MOp.dst, Option.some.injEq] at hd; subst hd
    simp only [val1, Option.some.injEq] at h
    subst h
    rfl
  | app e es x z =>
    simp only [MOp.dst, Option.some.injEq] at hd; subst hd
    simp only [val1] at h
    split at h
    · rename_i es' hx
      split at h
      · rename_i b2 es2 n kids hy
        split at h
        · rename_i hc
          obtain ⟨rfl, h2, h3, h4, h5, h6⟩ := hc
          cases h
          have hsrc : appSrc st es' z = some (n, kids, st) := by
            simp only [appSrc, hy]
            rw [if_pos ⟨h2, h3⟩, if_pos h4, if_pos h5]
          have htk : take st (V.vn (.sl false es' 0) []) = some (.nd (.sl false es' 0) [], st) := by
            simp [take, memB, mzD]
          simp only [step, append, hsrc, hx, htk]
          simp [h6]
        · cases h
      · cases h
    · cases h
  | _ => simp [val1] at h

theorem setv_free {st : St} {d : Nat} (h : free st d = true) (y : V) : setv st d y = st.set d y := by
  unfold setv
  split
  · rename_i dd hd; simp [free, hd, isOwn] at h
  · rfl

theorem valG_step {call : Oracle} {st : St} {o : MG} {y : V} {d : Nat} (h : valG call st o = some y) (hd : o.op.dst = some d) (hf : free st d = true) : Mx.stepG call st o = some (st.set d y) := by
  unfold valG at h
  unfold Mx.stepG
  split at h
  · rename_i hw
    (try rw [hw])
    (try simp only)
    rw [val1_step h hd, setv_free hf]
  · rename_i hw
    cases h
    (try rw [hw])
    simp only [put, hd]
    rw [setv_free hf]
  · cases h

end Go.Mx
