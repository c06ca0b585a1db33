import Derived.Test.YtldfddgdcjaogaaDiS
/-
  Least sums of walks with so many bounds.
-/
namespace Go.Mx
set_option linter.unusedVariables false
set_option linter.unusedSimpArgs false
set_option linter.unusedSectionVars false
open Go

def wStep (g : Nat → Lm) (h : Nat → Lm) (c : Bn) : Nat → Lm := updF h c.1 (less (h c.1) (plus (some c.2.2) (g c.2.1)))
def wS (l : List Bn) (g : Nat → Lm) : Nat → Lm := l.foldl (wStep g) fun _ => none
def W (l : List Bn) (to : Nat) : Nat → Nat → Lm
  | 0 => fun v => if v = to then some 0 else none
  | k + 1 => wS l (W l to k)

theorem wS_bd {l : List Bn} (h : ∀ c ∈ l, -1000000 ≤ c.2.2 ∧ c.2.2 ≤ 1000000) {N : Int} (hN : 0 ≤ N) {g : Nat → Lm} (hg : ∀ v, Bd N (g v)) (v : Nat) : Bd (N + 1000000) (wS l g v) := by
  have : ∀ (l : List Bn) (f : Nat → Lm), (∀ c ∈ l, -1000000 ≤ c.2.2 ∧ c.2.2 ≤ 1000000) → (∀ v, Bd (N + 1000000) (f v)) → ∀ v, Bd (N + 1000000) (l.foldl (wStep g) f v) := by
    intro l
    induction l with
    | nil => intro f _ h; exact h
    | cons c l ih =>
      intro f hc hf
      refine ih _ (fun d hd => hc d (List.mem_cons_of_mem _ hd)) fun v => ?_
      unfold wStep updF
      split
      · refine (hf _).less ?_
        have h1 : Bd 1000000 (some c.2.2) := fun v hv => by cases hv; exact hc c (List.mem_cons_self ..)
        exact (h1.plus (hg _)).mono (by omega)
      · exact hf v
  exact this l _ h (fun v x hx => by cases hx) v
theorem W_bd {l : List Bn} (h : ∀ c ∈ l, -1000000 ≤ c.2.2 ∧ c.2.2 ≤ 1000000) (to : Nat) : ∀ (k v : Nat), Bd (1000000 * (k : Int)) (W l to k v)
  | 0, v => by
    intro x hx
    unfold W at hx
    split at hx
    · cases hx; omega
    · cases hx
  | k + 1, v => (wS_bd h (by omega) (W_bd h to k) v).mono (by omega)

def wA (l : List Bn) (g : Nat → Lm) (i : Nat) : Nat → Lm := (l.take i).foldl (wStep g) fun _ => none
theorem wA_succ {l : List Bn} (g : Nat → Lm) {i : Nat} (h : i < l.length) : wA l g (i + 1) = wStep g (wA l g i) (nth l zN i) := by
  unfold wA
  rw [nth_get zN h, List.take_add_one, List.getElem?_eq_getElem h, List.foldl_append]; rfl
theorem wA_end (l : List Bn) (g : Nat → Lm) : wA l g l.length = wS l g := by unfold wA; rw [List.take_length]; rfl

def rlR (g : Nat → Lm) : Nat → Int × Bool := fun v => rl (g v)
theorem set_rlR (g : Nat → Lm) (i : Nat) (x : Lm) : updF (rlR g) i (rl x) = rlR (updF g i x) := by
  funext j
  by_cases h : j = i
  · subst h; simp [updF, rlR]
  · simp [updF, rlR, h]
/-- The table of the least sums. -/
abbrev wT (m n : Nat) (l : List Bn) (to : Nat) : D := gsl (eL eM) false (tb2 m n (fun k => rlR (W l to k)))

theorem loop50_1 (call : Oracle) (fuel : Nat) (n : Nat) (l : List Bn) (hl : OkB n l) (hlen : l.length ≤ 80) (b : Bool) (a1 a2 a4 a5 : V) (m k : Nat) (hk : k < m) (G : Nat → Nat → Int × Bool) (g : Nat → Lm) (hG : G k = rlR g) (sd1 : D)
    (hn : n ≤ 16) (hB : ∀ v, Bd 20000000 (g v)) (hc : ∀ c ∈ l, -1000000 ≤ c.2.2 ∧ c.2.2 ≤ 1000000)
    (h47 : ∀ x y, call 47 [mD (rl x), mD (rl y)] = some (mD (rl (less x y)))) (h48 : ∀ x y, (∀ a b, x = some a → y = some b → I64 (a + b)) → call 48 [mD (rl x), mD (rl y)] = some (mD (rl (plus x y))))
    (n0 from0 len0 k0 : Int) (fu : Nat) (hf : 100 < fu) (st : St)
    (h0 : drops st h50_1 = L50_1 (ii n0) (.ro sd1) (ii from0) (.own (gsl (eL eM) false (tb2 m n G))) (.own (gsl eM false (row n (rlR (wA l g 0))))) (.ref 11 [k]) (ii len0) (ii k0) (.ref 11 []) (.ad 11 [] k) (.ref 11 [k]) (.ro sd1) (.ro (sd b (nbL l))) (ii l.length) (ii 0)) :
    run.loopN (run call fuel b50_1) fu st = some (.ex 2, X50_2 (ii n0) (.ro sd1) (ii from0) (.own (gsl (eL eM) false (tb2 m n G))) (.own (gsl eM false (row n (rlR (wS l g))))) (ii len0) (ii k0)) := by
  rw [← wA_end]
  refine loop_cnt call fuel h50_1 _ l.length (fun i => L50_1 (ii n0) (.ro sd1) (ii from0) (.own (gsl (eL eM) false (tb2 m n G))) (.own (gsl eM false (row n (rlR (wA l g i))))) (.ref 11 [k]) (ii len0) (ii k0) (.ref 11 []) (.ad 11 [] k) (.ref 11 [k]) (.ro sd1) (.ro (sd b (nbL l))) (ii l.length) (ii i)) _ (by simp) ?_ (by simp) fu st (by rw [h0]; rfl) (by omega)
  intro i hi
  have hw := wrap_succ (i := i) (by omega)
  have hx := hc _ (nth_mem zN hi)
  have hv := hl _ (nth_mem zN hi)
  rw [wA_succ g hi]
  generalize hA : wA l g i = h at *
  generalize hq : nth l zN i = c at *
  obtain ⟨a, b', x⟩ := c
  have h1 : a < n := hv.1
  have h2 : b' < n := hv.2.1
  have e1 := h48 (some x) (g b') fun p q hp hq => by
    cases hp
    have := hB _ _ hq
    simp at hx
    unfold I64; omega
  have e2 := h47 (h a) (plus (some x) (g b'))
  have hs := set_rlR h a (less (h a) (plus (some x) (g b')))
  have ha : wStep g h (a, b', x) = updF h a (less (h a) (plus (some x) (g b'))) := rfl
  rw [ha]
  generalize rl (less (h a) (plus (some x) (g b'))) = y at *
  generalize rl (plus (some x) (g b')) = z at *
  rw [rl_some] at e1
  have e3 : rl (g b') = rlR g b' := rfl
  have e4 : rl (h a) = rlR h a := rfl
  rw [e3] at e1
  rw [e4] at e2
  generalize rlR g = gg at *
  generalize rlR h = hh at *
  simp [hi, hw, hq, h1, h2, hk, tb2_nth, nth_row, hG, e1, e2, hs]
theorem loop50_0 (call : Oracle) (fuel : Nat) (hF : 100 < fuel) (n : Nat) (l : List Bn) (b : Bool) (from' to len : Nat) (hft : from' ≤ l.length) (hl : OkB n l) (hlen : l.length ≤ 80) (hn : n ≤ 16) (hln : len ≤ 16) (hc : ∀ c ∈ l, -1000000 ≤ c.2.2 ∧ c.2.2 ≤ 1000000)
    (h47 : ∀ x y, call 47 [mD (rl x), mD (rl y)] = some (mD (rl (less x y)))) (h48 : ∀ x y, (∀ a b, x = some a → y = some b → I64 (a + b)) → call 48 [mD (rl x), mD (rl y)] = some (mD (rl (plus x y))))
    (fu : Nat) (hf : 100 < fu) (st : St)
    (h0 : drops st h50_0 = L50_0 (ii n) (.ro (sd b (nbL l))) (ii from') (.own (wT 1 n (l.drop from') to)) (ii len) (ii 0)) :
    run.loopN (run call fuel b50_0) fu st = some (.ex 0, X50_0 (.own (wT (len + 1) n (l.drop from') to))) := by
  refine loop_cnt call fuel h50_0 _ len (fun k => L50_0 (ii n) (.ro (sd b (nbL l))) (ii from') (.own (wT (k + 1) n (l.drop from') to)) (ii len) (ii k)) _ (by simp) ?_ (by simp) fu st (by rw [h0]; rfl) (by omega)
  intro k hk
  have hw := wrap_succ (i := k) (by omega)
  have hcd : ∀ c ∈ l.drop from', -1000000 ≤ c.2.2 ∧ c.2.2 ≤ 1000000 := fun c hc' => hc c (List.mem_of_mem_drop hc')
  have hld : OkB n (l.drop from') := fun c hc' => hl c (List.mem_of_mem_drop hc')
  have hL := loop50_1 call fuel n (l.drop from') hld (by rw [List.length_drop]; omega) b (.dead) (.dead) (.dead) (.dead) (k + 1) k (by omega) (fun k => rlR (W (l.drop from') to k)) (W (l.drop from') to k) rfl (sd b (nbL l)) hn
    (fun v => (W_bd hcd to k v).mono (by omega)) hcd h47 h48 n from' len k fuel hF
  have hm : n ≤ most := by unfold most; omega
  have hm2 : k + 1 + 1 ≤ most := by unfold most; omega
  have hr : List.replicate n zM = row n (rlR (wA (l.drop from') (W (l.drop from') to k) 0)) := by rw [row_rep]; rfl
  have e1 : IntKind.i64.wrap (k : Int) = (k : Int) := wrap_eq (by unfold I64; omega)
  have e7 : List.take (l.length - from') (l.drop from') = l.drop from' := List.take_of_length_le (by simp)
  have hs := tb2_succ (k + 1) n (fun k => rlR (W (l.drop from') to k))
  have hW : W (l.drop from') to (k + 1) = wS (l.drop from') (W (l.drop from') to k) := rfl
  rw [hW] at hs
  simp [hk, hm, hr, e1]
  rw [hL _ (by simp [e7, hft])]
  simp [hw, hm2, ← hs, hft]
/-- walks. -/
theorem f50 (call : Oracle) (fuel : Nat) (hF : 100 < fuel) (n : Nat) (l : List Bn) (b : Bool) (from' to len : Nat) (hft : from' ≤ l.length) (hto : to < n) (hl : OkB n l) (hlen : l.length ≤ 80) (hn : n ≤ 16) (hln : len ≤ 16) (hc : ∀ c ∈ l, -1000000 ≤ c.2.2 ∧ c.2.2 ≤ 1000000)
    (h47 : ∀ x y, call 47 [mD (rl x), mD (rl y)] = some (mD (rl (less x y)))) (h48 : ∀ x y, (∀ a b, x = some a → y = some b → I64 (a + b)) → call 48 [mD (rl x), mD (rl y)] = some (mD (rl (plus x y)))) :
    callF call fuel c50 [nV n, sd b (nbL l), nV from', nV to, nV len] = some (wT (len + 1) n (l.drop from') to) := by
  rw [callF_tab call fuel c50 41 _ (by exact Nat.le_of_ble_eq_true rfl) (by exact Nat.le_of_ble_eq_true rfl)]
  have hL := loop50_0 call fuel hF n l b from' to len hft hl hlen hn hln hc h47 h48 fuel hF
  have hm : n ≤ most := by unfold most; omega
  have hr : List.replicate n zM = row n (fun _ => zM) := row_rep _ _
  have hE : ∀ h : Nat → Int × Bool, T.nd (K.sl false 1 1) [gsl eM false (row n h)] = gsl (eL eM) false (tb2 1 n fun _ => h) := fun h => rfl
  have hs : gsl (eL eM) false (tb2 1 n (updF (fun _ _ => zM) 0 (updF (fun _ => zM) to (0, true)))) = wT 1 n (l.drop from') to := by
    refine congrArg (gsl (eL eM) false) (tb2_ext fun i j hi hj => ?_)
    have : i = 0 := by omega
    subst this
    rw [updF_same]
    show updF (fun _ => zM) to (0, true) j = rl (W (l.drop from') to 0 j)
    unfold updF W
    split <;> rfl
  simp [c50, hm, hr, hE, tb2_nth, hto, nth_row, hs]
  rw [hL _ (by simp)]
  simp
end Go.Mx
