/-
  Plain: pooling neighbours that do not fall gives the nearest falling list.
-/
namespace Go.Mx
set_option linter.unusedVariables false
set_option linter.unusedSimpArgs false
set_option linter.unusedSectionVars false

abbrev Itm := Rat × Rat
def sumV : List Itm → Rat
  | [] => 0
  | p :: l => p.2 * p.1 + sumV l
def sumW : List Itm → Rat
  | [] => 0
  | p :: l => p.2 + sumW l
theorem sumV_app (l m : List Itm) : sumV (l ++ m) = sumV l + sumV m := by
  induction l with
  | nil => simp [sumV]; grind
  | cons p l ih => simp only [List.cons_append, sumV, ih]; grind
theorem sumW_app (l m : List Itm) : sumW (l ++ m) = sumW l + sumW m := by
  induction l with
  | nil => simp [sumW]; grind
  | cons p l ih => simp only [List.cons_append, sumW, ih]; grind
def PosW (l : List Itm) : Prop := ∀ p ∈ l, (0 : Rat) < p.2
theorem sumW_nonneg {l : List Itm} (h : PosW l) : 0 ≤ sumW l := by
  induction l with
  | nil => simp [sumW]
  | cons p l ih =>
    have h1 := h p (by simp)
    have h2 := ih fun q hq => h q (by simp [hq])
    simp only [sumW]; grind
theorem sumW_pos {l : List Itm} (h : PosW l) (hl : l ≠ []) : 0 < sumW l := by
  cases l with
  | nil => exact absurd rfl hl
  | cons p l =>
    have h1 := h p (by simp)
    have h2 := sumW_nonneg (l := l) fun q hq => h q (by simp [hq])
    simp only [sumW]; grind
def mean (l : List Itm) : Rat := sumV l / sumW l
theorem mean_mul {l : List Itm} (h : 0 < sumW l) : mean l * sumW l = sumV l := by
  unfold mean
  exact Rat.div_mul_cancel (by grind)
/-- A block: no beginning has a greater mean. -/
structure Blk (g : List Itm) : Prop where
  ne : g ≠ []
  pos : PosW g
  pre : ∀ k, sumV (g.take k) ≤ mean g * sumW (g.take k)
theorem Blk.w {g : List Itm} (h : Blk g) : 0 < sumW g := sumW_pos h.pos h.ne
theorem PosW.app {a b : List Itm} (ha : PosW a) (hb : PosW b) : PosW (a ++ b) := fun p hp => (List.mem_append.1 hp).elim (ha p) (hb p)
theorem PosW.take {a : List Itm} (ha : PosW a) (k : Nat) : PosW (a.take k) := fun p hp => ha p (List.mem_of_mem_take hp)
theorem PosW.drop {a : List Itm} (ha : PosW a) (k : Nat) : PosW (a.drop k) := fun p hp => ha p (List.mem_of_mem_drop hp)
theorem mul_mono {x y w : Rat} (h : x ≤ y) (hw : 0 ≤ w) : x * w ≤ y * w := Rat.mul_le_mul_of_nonneg_right h hw
theorem Blk.one {p : Itm} (h : 0 < p.2) : Blk [p] := by
  have hp : PosW [p] := by intro q hq; rw [List.mem_singleton] at hq; rw [hq]; exact h
  have hw := sumW_pos hp (by simp)
  have hm := mean_mul hw
  refine ⟨by simp, hp, fun k => ?_⟩
  cases k with
  | zero => simp [sumV, sumW]
  | succ k =>
    have : ([p] : List Itm).take (k + 1) = [p] := by simp
    rw [this, hm]
    exact Rat.le_refl
theorem Blk.pool {a b : List Itm} (ha : Blk a) (hb : Blk b) (h : mean a ≤ mean b) : Blk (a ++ b) := by
  have wa := ha.w
  have wb := hb.w
  have ma := mean_mul wa
  have mb := mean_mul wb
  have hp := ha.pos.app hb.pos
  have wab : 0 < sumW (a ++ b) := by rw [sumW_app]; grind
  have mab := mean_mul wab
  rw [sumW_app, sumV_app] at mab
  have pa := ha.pre
  have pb := hb.pre
  generalize hm : mean (a ++ b) = m at mab
  generalize mean a = x at *
  generalize mean b = y at *
  have hS : m * (sumW a + sumW b) = x * sumW a + y * sumW b := by rw [mab, ma, mb]
  have hxm : x ≤ m := by
    apply Rat.not_lt.1
    intro hlt
    have h1 := Rat.mul_lt_mul_of_pos_right hlt (show 0 < sumW a + sumW b by grind)
    have h2 := mul_mono h (Rat.le_of_lt wb)
    grind
  have hmy : m ≤ y := by
    apply Rat.not_lt.1
    intro hlt
    have h1 := Rat.mul_lt_mul_of_pos_right hlt (show 0 < sumW a + sumW b by grind)
    have h2 := mul_mono h (Rat.le_of_lt wa)
    grind
  refine ⟨by simp [ha.ne], hp, fun k => ?_⟩
  rw [hm]
  by_cases hk : k ≤ a.length
  · rw [List.take_append_of_le_length hk]
    have h1 := pa k
    have h2 := mul_mono hxm (sumW_nonneg (ha.pos.take k))
    grind
  · obtain ⟨j, rfl⟩ : ∃ j, k = a.length + j := ⟨k - a.length, by omega⟩
    have e : (a ++ b).take (a.length + j) = a ++ b.take j := by
      rw [List.take_append, List.take_of_length_le (by omega)]
      congr 2
      omega
    rw [e, sumV_app, sumW_app]
    have h1 := pb j
    clear e
    have h2 : sumV b = sumV (b.take j) + sumV (b.drop j) := by rw [← sumV_app, List.take_append_drop]
    have h3 : sumW b = sumW (b.take j) + sumW (b.drop j) := by rw [← sumW_app, List.take_append_drop]
    have h4 := mul_mono hmy (sumW_nonneg (hb.pos.drop j))
    have h5 : y * sumW b = y * sumW (b.take j) + y * sumW (b.drop j) := by rw [h3, Rat.mul_add]
    have h6 : m * sumW b = m * sumW (b.take j) + m * sumW (b.drop j) := by rw [h3, Rat.mul_add]
    clear pa pb h3 hS hp wab
    grind
/-- Pooling, the last block first. -/
def pool : List (List Itm) → List Itm → List (List Itm)
  | [], g => [g]
  | a :: s, g => if mean a ≤ mean g then pool s (a ++ g) else g :: a :: s
structure Stk (s : List (List Itm)) : Prop where
  blk : ∀ g ∈ s, Blk g
  fall : s.Pairwise fun x y => mean x < mean y
theorem Stk.tail {a : List Itm} {s : List (List Itm)} (h : Stk (a :: s)) : Stk s := ⟨fun g hg => h.blk g (by simp [hg]), (List.pairwise_cons.1 h.fall).2⟩
theorem Stk.pool {s : List (List Itm)} (h : Stk s) {g : List Itm} (hg : Blk g) : Stk (pool s g) := by
  induction s generalizing g with
  | nil => exact ⟨fun x hx => by simp [Mx.pool] at hx; rw [hx]; exact hg, by simp [Mx.pool]⟩
  | cons a s ih =>
    unfold Mx.pool
    split
    · rename_i hle
      exact ih h.tail ((h.blk a (by simp)).pool hg hle)
    · rename_i hlt
      have hlt := Rat.not_le.1 hlt
      refine ⟨fun x hx => ?_, ?_⟩
      · rcases List.mem_cons.1 hx with rfl | hx
        · exact hg
        · exact h.blk x hx
      · rw [List.pairwise_cons]
        refine ⟨fun x hx => ?_, h.fall⟩
        rcases List.mem_cons.1 hx with rfl | hx
        · exact hlt
        · exact Std.lt_trans hlt ((List.pairwise_cons.1 h.fall).1 x hx)
/-! ### costs -/
def cost : List Itm → List Rat → Rat
  | p :: l, x :: f => p.2 * ((p.1 - x) * (p.1 - x)) + cost l f
  | _, _ => 0
/-- The distance of two lists, with the weights. -/
def dist : List Itm → List Rat → List Rat → Rat
  | p :: l, x :: f, y :: g => p.2 * ((x - y) * (x - y)) + dist l f g
  | _, _, _ => 0
theorem cost_app {l m : List Itm} {f g : List Rat} (h : l.length = f.length) : cost (l ++ m) (f ++ g) = cost l f + cost m g := by
  induction l generalizing f with
  | nil =>
    cases f with
    | nil => simp [cost]; grind
    | cons => simp at h
  | cons p l ih =>
    cases f with
    | nil => simp at h
    | cons x f =>
      simp only [List.cons_append, cost]
      rw [ih (by simpa using h)]; grind
theorem dist_app {l m : List Itm} {f g f' g' : List Rat} (h : l.length = f.length) (h' : l.length = f'.length) : dist (l ++ m) (f ++ g) (f' ++ g') = dist l f f' + dist m g g' := by
  induction l generalizing f f' with
  | nil =>
    cases f with
    | nil =>
      cases f' with
      | nil => simp [dist]; grind
      | cons => simp at h'
    | cons => simp at h
  | cons p l ih =>
    cases f with
    | nil => simp at h
    | cons x f =>
      cases f' with
      | nil => simp at h'
      | cons y f' =>
        simp only [List.cons_append, dist]
        rw [ih (by simpa using h) (by simpa using h')]; grind
def cross (m : Rat) : List Itm → List Rat → Rat
  | p :: l, x :: f => p.2 * (p.1 - m) * (m - x) + cross m l f
  | _, _ => 0
theorem cost_cross (m : Rat) (l : List Itm) (f : List Rat) (h : l.length = f.length) :
    cost l f = cost l (List.replicate l.length m) + 2 * cross m l f + dist l (List.replicate l.length m) f := by
  induction l generalizing f with
  | nil => simp [cost, dist, cross]; grind
  | cons p l ih =>
    cases f with
    | nil => simp at h
    | cons x f =>
      have := ih f (by simpa using h)
      simp only [List.length_cons, List.replicate_succ, cost, dist, cross]
      rw [this]; grind
def Falls (f : List Rat) : Prop := f.Pairwise fun x y => y ≤ x
theorem abel (m : Rat) (l : List Itm) (f : List Rat) (h : l.length = f.length) (T g0 : Rat) (hpre : ∀ k, T + (sumV (l.take k) - m * sumW (l.take k)) ≤ 0) (htot : T + (sumV l - m * sumW l) = 0)
    (hf : Falls (g0 :: f)) : 0 ≤ T * (m - g0) + cross m l f := by
  induction l generalizing f T g0 with
  | nil =>
    simp only [sumV, sumW] at htot
    have : T = 0 := by grind
    subst this
    simp [cross]; grind
  | cons p l ih =>
    cases f with
    | nil => simp at h
    | cons x f =>
      have hx : x ≤ g0 := (List.pairwise_cons.1 hf).1 x (by simp)
      have h0 := hpre 0
      simp only [List.take_zero, sumV, sumW] at h0
      have hT : T ≤ 0 := by grind
      have h1 := Rat.mul_nonneg (show 0 ≤ -T by grind) (show 0 ≤ g0 - x by grind)
      have h2 := ih f (by simpa using h) (T + p.2 * (p.1 - m)) x (fun k => by
        have := hpre (k + 1)
        simp only [List.take_succ_cons, sumV, sumW] at this
        grind) (by simp only [sumV, sumW] at htot; grind) (List.pairwise_cons.1 hf).2
      simp only [cross]
      grind
theorem cross_nonneg {g : List Itm} (hg : Blk g) {f : List Rat} (h : g.length = f.length) (hf : Falls f) : 0 ≤ cross (mean g) g f := by
  cases f with
  | nil => exact absurd (List.length_eq_zero_iff.1 h) hg.ne
  | cons x f =>
    have hm := mean_mul hg.w
    have := abel (mean g) g (x :: f) h 0 x (fun k => by have := hg.pre k; grind) (by grind) (by
      rw [Falls, List.pairwise_cons]
      refine ⟨fun y hy => ?_, hf⟩
      rcases List.mem_cons.1 hy with rfl | hy
      · exact Rat.le_refl
      · exact (List.pairwise_cons.1 hf).1 y hy)
    grind
/-- The values of some blocks. -/
def vals (bs : List (List Itm)) : List Rat := bs.flatMap fun g => List.replicate g.length (mean g)
theorem nearest {bs : List (List Itm)} (hb : ∀ g ∈ bs, Blk g) {f : List Rat} (h : bs.flatten.length = f.length) (hf : Falls f) :
    cost bs.flatten (vals bs) + dist bs.flatten (vals bs) f ≤ cost bs.flatten f := by
  induction bs generalizing f with
  | nil => simp [vals, cost, dist]; grind
  | cons g bs ih =>
    rw [List.flatten_cons] at h ⊢
    obtain ⟨f1, f2, rfl, h1⟩ : ∃ f1 f2, f = f1 ++ f2 ∧ g.length = f1.length := ⟨f.take g.length, f.drop g.length, (List.take_append_drop ..).symm, by
      rw [List.length_append] at h
      rw [List.length_take]; omega⟩
    have h2 : bs.flatten.length = f2.length := by rw [List.length_append, List.length_append] at h; omega
    have hf' := List.pairwise_append.1 hf
    have e : vals (g :: bs) = List.replicate g.length (mean g) ++ vals bs := rfl
    rw [e, cost_app (by simp), dist_app (by simp) h1, cost_app h1]
    have i1 := ih (fun x hx => hb x (by simp [hx])) h2 hf'.2.1
    have i2 := cost_cross (mean g) g f1 h1
    have i3 := cross_nonneg (hb g (by simp)) h1 hf'.1
    grind
section
variable {l : List Itm} (h : PosW l)
include h
end
end Go.Mx
