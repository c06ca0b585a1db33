/-
  Plain: pooling neighbours that do not fall gives the nearest falling list.
-/
namespace Go.Mx
set_option linter.unusedVariables false
set_option linter.unusedSimpArgs false
set_option linter.unusedSectionVars false

abbrev Itm := Rat × Rat
def sumV : List Itm → Rat
  | [] => 0
  | p :: l => p.2 * p.1 + sumV l
def sumW : List Itm → Rat
  | [] => 0
  | p :: l => p.2 + sumW l
theorem sumV_app (l m : List Itm) : sumV (l ++ m) = sumV l + sumV m := by
  induction l with
  | nil => simp [sumV]; grind
  | cons p l ih => simp only [List.cons_append, sumV, ih]; grind
theorem sumW_app (l m : List Itm) : sumW (l ++ m) = sumW l + sumW m := by
  induction l with
  | nil => simp [sumW]; grind
  | cons p l ih => simp only [List.cons_append, sumW, ih]; grind
def PosW (l : List Itm) : Prop := ∀ p ∈ l, (0 : Rat) < p.2
theorem sumW_nonneg {l : List Itm} (h : PosW l) : 0 ≤ sumW l := by
  induction l with
  | nil => simp [sumW]
  | cons p l ih =>
    have h1 := h p (by simp)
    have h2 := ih fun q hq => h q (by simp [hq])
    simp only [sumW]; grind
theorem sumW_pos {l : List Itm} (h : PosW l) (hl : l ≠ []) : 0 < sumW l := by
  cases l with
  | nil => exact absurd rfl hl
  | cons p l =>
    have h1 := h p (by simp)
    have h2 := sumW_nonneg (l := l) fun q hq => h q (by simp [hq])
    simp only [sumW]; grind
def mean (l : List Itm) : Rat := sumV l / sumW l
theorem mean_mul {l : List Itm} (h : 0 < sumW l) : mean l * sumW l = sumV l := by
  unfold mean
  exact Rat.div_mul_cancel (by grind)
/-- A block: no beginning has a greater mean. -/
structure Blk (g : List Itm) : Prop where
  ne : g ≠ []
  pos : PosW g
  pre : ∀ k, sumV (g.take k) ≤ mean g * sumW (g.take k)
theorem Blk.w {g : List Itm} (h : Blk g) : 0 < sumW g := sumW_pos h.pos h.ne
theorem PosW.app {a b : List Itm} (ha : PosW a) (hb : PosW b) : PosW (a ++ b) := fun p hp => (List.mem_append.1 hp).elim (ha p) (hb p)
theorem PosW.take {a : List Itm} (ha : PosW a) (k : Nat) : PosW (a.take k) := fun p hp => ha p (List.mem_of_mem_take hp)
theorem PosW.drop {a : List Itm} (ha : PosW a) (k : Nat) : PosW (a.drop k) := fun p hp => ha p (List.mem_of_mem_drop hp)
theorem mul_mono {x y w : Rat} (h : x ≤ y) (hw : 0 ≤ w) : x * w ≤ y * w := Rat.mul_le_mul_of_nonneg_right h hw
theorem Blk.one {p : Itm} (h : 0 < p.2) : Blk [p] := by
  have hp : PosW [p] := by intro q hq; rw [List.mem_singleton] at hq; rw [hq]; exact h
  have hw := sumW_pos hp (by simp)
  have hm := mean_mul hw
  refine ⟨by simp, hp, fun k => ?_⟩
  cases k with
  | zero => simp [sumV, sumW]
  | succ k =>
    have : ([p] : List Itm).take (k + 1) = [p] := by simp
    rw [this, hm]
    exact Rat.le_refl
theorem Blk.pool {a b : List Itm} (ha : Blk a) (hb : Blk b) (h : mean a ≤ mean b) : Blk (a ++ b) := by
  have wa := ha.w
  have wb := hb.w
  have ma := mean_mul wa
  have mb := mean_mul wb
  have hp := ha.pos.app hb.pos
  have wab : 0 < sumW (a ++ b) := by rw [sumW_app]; grind
  have mab := mean_mul wab
  rw [sumW_app, sumV_app] at mab
  have pa := ha.pre
  have pb := hb.pre
  generalize hm : mean (a ++ b) = m at mab
  generalize mean a = x at *
  generalize mean b = y at *
  have hS : m * (sumW a + sumW b) = x * sumW a + y * sumW b := by rw [mab, ma, mb]
  have hxm : x ≤ m := by
    apply Rat.not_lt.1
    intro hlt
    have h1 := Rat.mul_lt_mul_of_pos_right hlt (show 0 < sumW a + sumW b by grind)
    have h2 := mul_mono h (Rat.le_of_lt wb)
    grind
  have hmy : m ≤ y := by
    apply Rat.not_lt.1
    intro hlt
    have h1 := Rat.mul_lt_mul_of_pos_right hlt (show 0 < sumW a + sumW b by grind)
    have h2 := mul_mono h (Rat.le_of_lt wa)
    grind
  refine ⟨by simp [ha.ne], hp, fun k => ?_⟩
  rw [hm]
  by_cases hk : k ≤ a.length
  · rw [List.take_append_of_le_length hk]
    have h1 := pa k
    have h2 := mul_mono hxm (sumW_nonneg (ha.pos.take k))
    grind
  · obtain ⟨j, rfl⟩ : ∃ j, k = a.length + j := ⟨k - a.length, by omega⟩
    have e : (a ++ b).take (a.length + j) = a ++ b.take j := by
      rw [List.take_append, List.take_of_length_le (by omega)]
      congr 2
      omega
    rw [e, sumV_app, sumW_app]
    have h1 := pb j
    clear e
    have h2 : sumV b = sumV (b.take j) + sumV (b.drop j) := by rw [← sumV_app, List.take_append_drop]
    have h3 : sumW b = sumW (b.take j) + sumW (b.drop j) := by rw [← sumW_app, List.take_append_drop]
    have h4 := mul_mono hmy (sumW_nonneg (hb.pos.drop j))
    have h5 : y * sumW b = y * sumW (b.take j) + y * sumW (b.drop j) := by rw [h3, Rat.mul_add]
    have h6 : m * sumW b = m * sumW (b.take j) + m * sumW (b.drop j) := by rw [h3, Rat.mul_add]
    clear pa pb h3 hS hp wab
    grind
/-- Pooling, the last block first. -/
def pool : List (List Itm) → List Itm → List (List Itm)
  | [], g => [g]
  | a :: s, g => if mean a ≤ mean g then pool s (a ++ g) else g :: a :: s
structure Stk (s : List (List Itm)) : Prop where
  blk : ∀ g ∈ s, Blk g
  fall : s.Pairwise fun x y => mean x < mean y
theorem Stk.tail {a : List Itm} {s : List (List Itm)} (h : Stk (a :: s)) : Stk s := ⟨fun g hg => h.blk g (by simp [hg]), (List.pairwise_cons.1 h.fall).2⟩
theorem Stk.pool {s : List (List Itm)} (h : Stk s) {g : List Itm} (hg : Blk g) : Stk (pool s g) := by
  induction s generalizing g with
  | nil => exact ⟨fun x hx => by simp [Mx.pool] at hx; rw [hx]; exact hg, by simp [Mx.pool]⟩
  | cons a s ih =>
    unfold Mx.pool
    split
    · rename_i hle
      exact ih h.tail ((h.blk a (by simp)).pool hg hle)
    · rename_i hlt
      have hlt := Rat.not_le.1 hlt
      refine ⟨fun x hx => ?_, ?_⟩
      · rcases List.mem_cons.1 hx with rfl | hx
        · exact hg
        · exact h.blk x hx
      · rw [List.pairwise_cons]
        refine ⟨fun x hx => ?_, h.fall⟩
        rcases List.mem_cons.1 hx with rfl | hx
        · exact hlt
        · exact Std.lt_trans hlt ((List.pairwise_cons.1 h.fall).1 x hx)
theorem pool_flat (s : List (List Itm)) (g : List Itm) : (pool s g).reverse.flatten = s.reverse.flatten ++ g := by
  induction s generalizing g with
  | nil => simp [pool]
  | cons a s ih =>
    unfold pool
    split
    · rw [ih]; simp
    · simp
/-- The blocks of a list, the last first. -/
def pav (l : List Itm) : List (List Itm) := l.foldl (fun s p => pool s [p]) []
theorem pav_snoc (l : List Itm) (p : Itm) : pav (l ++ [p]) = pool (pav l) [p] := by simp [pav]
theorem pav_stk' (l : List Itm) (h : PosW l) : Stk (pav l) ∧ (pav l).reverse.flatten = l := by
  obtain ⟨n, hn⟩ : ∃ n, l.length = n := ⟨_, rfl⟩
  induction n generalizing l with
  | zero =>
    have : l = [] := List.length_eq_zero_iff.1 hn
    subst this
    exact ⟨⟨by simp [pav], by simp [pav]⟩, by simp [pav]⟩
  | succ n ih =>
    have hne : l ≠ [] := by intro h; rw [h] at hn; simp at hn
    obtain ⟨m, p, rfl⟩ : ∃ m p, l = m ++ [p] := ⟨l.dropLast, l.getLast hne, (List.dropLast_concat_getLast hne).symm⟩
    have hm : PosW m := fun q hq => h q (by simp [hq])
    have := ih m hm (by simpa using hn)
    rw [pav_snoc]
    exact ⟨this.1.pool (Blk.one (h p (by simp))), by rw [pool_flat, this.2]⟩

/-! ### costs -/
def cost : List Itm → List Rat → Rat
  | p :: l, x :: f => p.2 * ((p.1 - x) * (p.1 - x)) + cost l f
  | _, _ => 0
/-- The distance of two lists, with the weights. -/
def dist : List Itm → List Rat → List Rat → Rat
  | p :: l, x :: f, y :: g => p.2 * ((x - y) * (x - y)) + dist l f g
  | _, _, _ => 0
theorem cost_app {l m : List Itm} {f g : List Rat} (h : l.length = f.length) : cost (l ++ m) (f ++ g) = cost l f + cost m g := by
  induction l generalizing f with
  | nil =>
    cases f with
    | nil => simp [cost]; grind
    | cons => simp at h
  | cons p l ih =>
    cases f with
    | nil => simp at h
    | cons x f =>
      simp only [List.cons_append, cost]
      rw [ih (by simpa using h)]; grind
theorem dist_app {l m : List Itm} {f g f' g' : List Rat} (h : l.length = f.length) (h' : l.length = f'.length) : dist (l ++ m) (f ++ g) (f' ++ g') = dist l f f' + dist m g g' := by
  induction l generalizing f f' with
  | nil =>
    cases f with
    | nil =>
      cases f' with
      | nil => simp [dist]; grind
      | cons => simp at h'
    | cons => simp at h
  | cons p l ih =>
    cases f with
    | nil => simp at h
    | cons x f =>
      cases f' with
      | nil => simp at h'
      | cons y f' =>
        simp only [List.cons_append, dist]
        rw [ih (by simpa using h) (by simpa using h')]; grind
theorem sq_nonneg (x : Rat) : 0 ≤ x * x := by
  by_cases h : 0 ≤ x
  · exact Rat.mul_nonneg h h
  · have := Rat.mul_nonneg (show 0 ≤ -x by grind) (show 0 ≤ -x by grind)
    grind
theorem cost_nonneg {l : List Itm} (h : PosW l) (f : List Rat) : 0 ≤ cost l f := by
  induction l generalizing f with
  | nil => simp [cost]
  | cons p l ih =>
    cases f with
    | nil => simp [cost]
    | cons x f =>
      have h1 := ih (fun q hq => h q (by simp [hq])) f
      have h2 := Rat.mul_nonneg (Rat.le_of_lt (h p (by simp))) (sq_nonneg (p.1 - x))
      simp only [cost]; grind
theorem dist_nonneg {l : List Itm} (h : PosW l) (f g : List Rat) : 0 ≤ dist l f g := by
  induction l generalizing f g with
  | nil => simp [dist]
  | cons p l ih =>
    cases f with
    | nil => simp [dist]
    | cons x f =>
      cases g with
      | nil => simp [dist]
      | cons y g =>
        have h1 := ih (fun q hq => h q (by simp [hq])) f g
        have h2 := Rat.mul_nonneg (Rat.le_of_lt (h p (by simp))) (sq_nonneg (x - y))
        simp only [dist]; grind
theorem sq_zero {w x : Rat} (hw : 0 < w) (h : w * (x * x) ≤ 0) : x = 0 := by
  apply Classical.byContradiction
  intro hx
  have : 0 < x * x := by
    rcases Std.lt_trichotomy x 0 with h1 | h1 | h1
    · have := Rat.mul_pos (show 0 < -x by grind) (show 0 < -x by grind)
      grind
    · exact absurd h1 hx
    · exact Rat.mul_pos h1 h1
  have := Rat.mul_pos hw this
  grind
theorem dist_zero {l : List Itm} (h : PosW l) {f g : List Rat} (hf : l.length = f.length) (hg : l.length = g.length) (hd : dist l f g ≤ 0) : f = g := by
  induction l generalizing f g with
  | nil =>
    have h1 : f = [] := List.length_eq_zero_iff.1 hf.symm
    have h2 : g = [] := List.length_eq_zero_iff.1 hg.symm
    rw [h1, h2]
  | cons p l ih =>
    cases f with
    | nil => simp at hf
    | cons x f =>
      cases g with
      | nil => simp at hg
      | cons y g =>
        have hl : PosW l := fun q hq => h q (by simp [hq])
        have hp := h p (by simp)
        have h1 := dist_nonneg hl f g
        have h2 := Rat.mul_nonneg (Rat.le_of_lt hp) (sq_nonneg (x - y))
        simp only [dist] at hd
        have h3 := sq_zero hp (x := x - y) (by grind)
        have h4 := ih hl (by simpa using hf) (by simpa using hg) (by grind)
        rw [h4, show x = y by grind]
theorem dist_self (l : List Itm) (f : List Rat) : dist l f f = 0 := by
  induction l generalizing f with
  | nil => simp [dist]
  | cons p l ih =>
    cases f with
    | nil => simp [dist]
    | cons x f => simp only [dist, ih]; grind
theorem cost_dist (l : List Itm) (f : List Rat) : cost l f = dist l (l.map (·.1)) f := by
  induction l generalizing f with
  | nil => simp [cost, dist]
  | cons p l ih =>
    cases f with
    | nil => simp [cost, dist]
    | cons x f => simp only [List.map_cons, cost, dist, ih]
def cross (m : Rat) : List Itm → List Rat → Rat
  | p :: l, x :: f => p.2 * (p.1 - m) * (m - x) + cross m l f
  | _, _ => 0
theorem cost_cross (m : Rat) (l : List Itm) (f : List Rat) (h : l.length = f.length) :
    cost l f = cost l (List.replicate l.length m) + 2 * cross m l f + dist l (List.replicate l.length m) f := by
  induction l generalizing f with
  | nil => simp [cost, dist, cross]; grind
  | cons p l ih =>
    cases f with
    | nil => simp at h
    | cons x f =>
      have := ih f (by simpa using h)
      simp only [List.length_cons, List.replicate_succ, cost, dist, cross]
      rw [this]; grind
def Falls (f : List Rat) : Prop := f.Pairwise fun x y => y ≤ x
theorem abel (m : Rat) (l : List Itm) (f : List Rat) (h : l.length = f.length) (T g0 : Rat) (hpre : ∀ k, T + (sumV (l.take k) - m * sumW (l.take k)) ≤ 0) (htot : T + (sumV l - m * sumW l) = 0)
    (hf : Falls (g0 :: f)) : 0 ≤ T * (m - g0) + cross m l f := by
  induction l generalizing f T g0 with
  | nil =>
    simp only [sumV, sumW] at htot
    have : T = 0 := by grind
    subst this
    simp [cross]; grind
  | cons p l ih =>
    cases f with
    | nil => simp at h
    | cons x f =>
      have hx : x ≤ g0 := (List.pairwise_cons.1 hf).1 x (by simp)
      have h0 := hpre 0
      simp only [List.take_zero, sumV, sumW] at h0
      have hT : T ≤ 0 := by grind
      have h1 := Rat.mul_nonneg (show 0 ≤ -T by grind) (show 0 ≤ g0 - x by grind)
      have h2 := ih f (by simpa using h) (T + p.2 * (p.1 - m)) x (fun k => by
        have := hpre (k + 1)
        simp only [List.take_succ_cons, sumV, sumW] at this
        grind) (by simp only [sumV, sumW] at htot; grind) (List.pairwise_cons.1 hf).2
      simp only [cross]
      grind
theorem cross_nonneg {g : List Itm} (hg : Blk g) {f : List Rat} (h : g.length = f.length) (hf : Falls f) : 0 ≤ cross (mean g) g f := by
  cases f with
  | nil => exact absurd (List.length_eq_zero_iff.1 h) hg.ne
  | cons x f =>
    have hm := mean_mul hg.w
    have := abel (mean g) g (x :: f) h 0 x (fun k => by have := hg.pre k; grind) (by grind) (by
      rw [Falls, List.pairwise_cons]
      refine ⟨fun y hy => ?_, hf⟩
      rcases List.mem_cons.1 hy with rfl | hy
      · exact Rat.le_refl
      · exact (List.pairwise_cons.1 hf).1 y hy)
    grind
/-- The values of some blocks. -/
def vals (bs : List (List Itm)) : List Rat := bs.flatMap fun g => List.replicate g.length (mean g)
theorem vals_len (bs : List (List Itm)) : (vals bs).length = bs.flatten.length := by
  induction bs with
  | nil => rfl
  | cons g bs ih =>
    simp only [vals, List.flatMap_cons, List.length_append, List.flatten_cons, List.length_replicate] at *
    rw [ih]
theorem nearest {bs : List (List Itm)} (hb : ∀ g ∈ bs, Blk g) {f : List Rat} (h : bs.flatten.length = f.length) (hf : Falls f) :
    cost bs.flatten (vals bs) + dist bs.flatten (vals bs) f ≤ cost bs.flatten f := by
  induction bs generalizing f with
  | nil => simp [vals, cost, dist]; grind
  | cons g bs ih =>
    rw [List.flatten_cons] at h ⊢
    obtain ⟨f1, f2, rfl, h1⟩ : ∃ f1 f2, f = f1 ++ f2 ∧ g.length = f1.length := ⟨f.take g.length, f.drop g.length, (List.take_append_drop ..).symm, by
      rw [List.length_append] at h
      rw [List.length_take]; omega⟩
    have h2 : bs.flatten.length = f2.length := by rw [List.length_append, List.length_append] at h; omega
    have hf' := List.pairwise_append.1 hf
    have e : vals (g :: bs) = List.replicate g.length (mean g) ++ vals bs := rfl
    rw [e, cost_app (by simp), dist_app (by simp) h1, cost_app h1]
    have i1 := ih (fun x hx => hb x (by simp [hx])) h2 hf'.2.1
    have i2 := cost_cross (mean g) g f1 h1
    have i3 := cross_nonneg (hb g (by simp)) h1 hf'.1
    grind
theorem vals_falls {bs : List (List Itm)} (h : bs.Pairwise fun x y => mean y < mean x) : Falls (vals bs) := by
  induction bs with
  | nil => exact List.Pairwise.nil
  | cons g bs ih =>
    rw [List.pairwise_cons] at h
    have e : vals (g :: bs) = List.replicate g.length (mean g) ++ vals bs := rfl
    rw [e, Falls, List.pairwise_append]
    refine ⟨?_, ih h.2, ?_⟩
    · rw [List.pairwise_replicate]
      exact .inr Rat.le_refl
    · intro x hx y hy
      rw [List.mem_replicate] at hx
      obtain ⟨b, hb, hy⟩ := List.mem_flatMap.1 hy
      rw [List.mem_replicate] at hy
      rw [hx.2, hy.2]
      exact Rat.le_of_lt (h.1 b hb)
/-- The fit. -/
def fitL (l : List Itm) : List Rat := vals (pav l).reverse
section
variable {l : List Itm} (h : PosW l)
include h
theorem fit_len : (fitL l).length = l.length := by rw [fitL, vals_len, (pav_stk' l h).2]
theorem fit_falls : Falls (fitL l) := vals_falls (List.pairwise_reverse.2 (pav_stk' l h).1.fall)
theorem fit_near {f : List Rat} (hl : l.length = f.length) (hf : Falls f) : cost l (fitL l) + dist l (fitL l) f ≤ cost l f := by
  have hs := pav_stk' l h
  have := nearest (bs := (pav l).reverse) (fun g hg => hs.1.blk g (List.mem_reverse.1 hg)) (f := f) (by rw [hs.2]; exact hl) hf
  rwa [hs.2] at this
theorem fit_le {f : List Rat} (hl : l.length = f.length) (hf : Falls f) : cost l (fitL l) ≤ cost l f := by
  have h1 := fit_near h hl hf
  have h2 := dist_nonneg h (fitL l) f
  grind
theorem fit_same {f : List Rat} (hl : l.length = f.length) (hf : Falls f) : fitL l = f ↔ cost l (fitL l) = cost l f := by
  constructor
  · intro e; rw [e]
  · intro e
    have h1 := fit_near h hl hf
    exact dist_zero h (fit_len h).symm hl (by grind)
theorem fit_exact : Falls (l.map (·.1)) ↔ cost l (fitL l) = 0 := by
  constructor
  · intro hf
    have h1 := fit_le h (f := l.map (·.1)) (by simp) hf
    rw [cost_dist l (l.map (·.1)), dist_self] at h1
    have h2 := cost_nonneg h (fitL l)
    grind
  · intro e
    rw [cost_dist] at e
    have := dist_zero h (f := l.map (·.1)) (by simp) (fit_len h).symm (by grind)
    rw [this]
    exact fit_falls h
end
end Go.Mx
