import Derived.Test.YtgbikojcpfdbiaaPoB
/-
  Sets of vertices: what the arcs lead to, what is reached.
-/
namespace Go.Mx
set_option linter.unusedVariables false
set_option linter.unusedSimpArgs false
set_option linter.unusedSectionVars false
open Go

abbrev NA := List (Nat × Nat)
/-- Arcs of numbers. -/
def arcZ (p : Nat × Nat) : Int × Int := ((p.1 : Int), (p.2 : Int))
def arcsZ (a : NA) : List (Int × Int) := a.map arcZ
@[simp] theorem arcsZ_len (a : NA) : (arcsZ a).length = a.length := by simp [arcsZ]
@[simp] theorem arcsZ_nth (a : NA) (i : Nat) : nth (arcsZ a) (0, 0) i = (((nth a (0, 0) i).1 : Int), ((nth a (0, 0) i).2 : Int)) := nth_map arcZ a (0, 0) i

/-- A row of sets. -/
def zr (n : Nat) (g : Nat → Nat) : List Int := row n (fun i => (g i : Int))
@[simp] theorem zr_len (n : Nat) (g : Nat → Nat) : (zr n g).length = n := row_len _ _
theorem zr_nth (n : Nat) (g : Nat → Nat) {i : Nat} (h : i < n) : nth (zr n g) 0 i = (g i : Int) := nth_row _ _ _ h
@[simp] theorem zr_set (n : Nat) (g : Nat → Nat) (i y : Nat) : (zr n g).set i (y : Int) = zr n (updF g i y) := by
  unfold zr
  rw [row_set]
  congr 1
  funext j
  simp only [updF]
  split <;> rfl
theorem zr_ext {n : Nat} {g h : Nat → Nat} (e : ∀ i, i < n → g i = h i) : zr n g = zr n h := row_ext _ fun i hi => by rw [e i hi]
abbrev su (n : Nat) (g : Nat → Nat) : D := gsl (eI .u32) false (zr n g)

theorem f28 (call : Oracle) (fuel : Nat) (s t : Nat) (hs : s < 2 ^ 32) (ht : t < 32) : callF call fuel c28 [.v (.int .u32 (s : Int)), .v (.int .i64 (t : Int))] = some (.v (.bool (s.testBit t))) := by
  rw [callF_tab call fuel c28 5 _ (by exact Nat.le_of_ble_eq_true rfl) (by exact Nat.le_of_ble_eq_true rfl)]
  have h1 := bits_shr .u32 s t (by simpa [IntKind.bits] using Nat.le_of_lt ht)
  have h2 := bits_bit .u32 hs t
  simp [c28, h1, h2]
  cases s.testBit t <;> rfl

def addArc (g : Nat → Nat) (p : Nat × Nat) : Nat → Nat := updF g p.1 (g p.1 ||| pw p.2)
def nextG (a : NA) : Nat → Nat := a.foldl addArc fun _ => 0

theorem take_succ_nth {α : Type} {l : List α} {i : Nat} (d : α) (h : i < l.length) : l.take (i + 1) = l.take i ++ [nth l d i] := by
  rw [nth_get d h, List.take_succ_eq_append_getElem h]

theorem foldl_take {α β : Type} (f : β → α → β) (b : β) {l : List α} {i : Nat} (d : α) (h : i < l.length) : (l.take (i + 1)).foldl f b = f ((l.take i).foldl f b) (nth l d i) := by
  rw [take_succ_nth d h, List.foldl_append]; rfl

theorem nextG_lt {n : Nat} (hn : n ≤ 32) {a : NA} (h : ∀ p ∈ a, p.1 < n ∧ p.2 < n) (i : Nat) : nextG a i < 2 ^ 32 := by
  suffices ∀ (a : NA) (g : Nat → Nat), (∀ p ∈ a, p.1 < n ∧ p.2 < n) → (∀ i, g i < 2 ^ 32) → ∀ i, a.foldl addArc g i < 2 ^ 32 from this a _ h (fun _ => by simp) i
  intro a
  induction a with
  | nil => intro g _ hg i; exact hg i
  | cons p a ih =>
    intro g h hg i
    apply ih
    · exact fun q hq => h q (List.mem_cons_of_mem _ hq)
    · intro j
      unfold addArc updF
      split
      · exact Nat.or_lt_two_pow (hg _) (pw_lt (by have := (h p (List.mem_cons_self ..)).2; omega))
      · exact hg j

theorem loop29 (call : Oracle) (fuel : Nat) (b : Bool) (n : Nat) (hn : n ≤ 24) (a : NA) (hv : ∀ p ∈ a, p.1 < n ∧ p.2 < n) (hl : a.length ≤ 1000) (fu : Nat) (hf : 1000 < fu) (st : St)
    (h0 : drops st h29_0 = L29_0 (.ro (sa b (arcsZ a))) (.own (su n fun _ => 0)) (.ro (sa b (arcsZ a))) (ii a.length) (ii 0)) :
    run.loopN (run call fuel b29_0) fu st = some (.ex 0, X29_0 (.own (su n (nextG a)))) := by
  refine loop_cnt call fuel h29_0 _ a.length (fun i => L29_0 (.ro (sa b (arcsZ a))) (.own (su n (nextG (a.take i)))) (.ro (sa b (arcsZ a))) (ii a.length) (ii i)) (.ex 0, X29_0 (.own (su n (nextG a)))) (by simp) ?_ (by simp) fu st h0 (by omega)
  intro i hi
  have hw := wrap_succ (i := i) (by omega)
  obtain ⟨h1, h2⟩ := hv _ (nth_mem (0, 0) hi)
  have hs : nextG (a.take (i + 1)) = _ := foldl_take addArc _ (0, 0) hi
  have hb : ∀ j, nextG (a.take i) j < 2 ^ 32 := nextG_lt (by omega) fun p hp => hv p (List.mem_of_mem_take hp)
  rw [hs]
  change _ = some (Ex.norm, L29_0 _ (.own (su n (addArc (nextG (a.take i)) (nth a (0, 0) i)))) _ _ _)
  generalize nextG (a.take i) = g at *
  generalize hp : nth a (0, 0) i = p at *
  obtain ⟨f, t⟩ := p
  simp only at h1 h2
  have e1 := zr_nth n g h1
  have e2 := bits_shl1 .u32 (t := t) (Nat.lt_of_lt_of_le h2 (Nat.le_trans hn (by decide)))
  have e3 := bits_or .u32 (hb f) (b := pw t) (pw_lt (m := 32) (by omega))
  simp [hi, hw, hp, h1, h2, e1, e2, e3, addArc]

theorem f29 (call : Oracle) (fuel : Nat) (hf : 1000 < fuel) (b : Bool) (n : Nat) (hn : n ≤ 24) (a : NA) (hv : ∀ p ∈ a, p.1 < n ∧ p.2 < n) (hl : a.length ≤ 1000) :
    callF call fuel c29 [.v (.int .i64 (n : Int)), sa b (arcsZ a)] = some (su n (nextG a)) := by
  have e := loop29 call fuel b n hn a hv hl fuel hf
  have h0 : (List.replicate n (0 : Int)) = zr n fun _ => 0 := row_rep n 0
  have hm : n ≤ most := by unfold most; omega
  rw [callF_tab call fuel c29 13 _ (by exact Nat.le_of_ble_eq_true rfl) (by exact Nat.le_of_ble_eq_true rfl)]
  simp [c29, h0, hm]
  rw [e _ (by simp)]
  simp

def stp (g : Nat → Nat) (m : Nat) : Nat → Nat := fun j => if (g j).testBit m then g j ||| g m else g j
def warr (g : Nat → Nat) : Nat → Nat → Nat
  | 0 => g
  | k + 1 => stp (warr g k) k
def prt (g : Nat → Nat) (m i : Nat) : Nat → Nat := fun j => if j < i then stp g m j else g j

theorem stp_lt {g : Nat → Nat} (h : ∀ i, g i < 2 ^ 32) (m i : Nat) : stp g m i < 2 ^ 32 := by
  unfold stp
  split
  · exact Nat.or_lt_two_pow (h _) (h _)
  · exact h i

theorem warr_lt {g : Nat → Nat} (h : ∀ i, g i < 2 ^ 32) (k i : Nat) : warr g k i < 2 ^ 32 := by
  induction k generalizing i with
  | zero => exact h i
  | succ k ih => exact stp_lt ih k i

theorem prt_lt {g : Nat → Nat} (h : ∀ i, g i < 2 ^ 32) (m k i : Nat) : prt g m k i < 2 ^ 32 := by
  unfold prt
  split
  · exact stp_lt h m i
  · exact h i

theorem prt_m (g : Nat → Nat) (m i : Nat) : prt g m i m = g m := by simp [prt, stp]
theorem prt_i (g : Nat → Nat) (m i : Nat) : prt g m i i = g i := by simp [prt]
theorem prt_succ (g : Nat → Nat) (m i : Nat) : prt g m (i + 1) = if (g i).testBit m then updF (prt g m i) i (g i ||| g m) else prt g m i := by
  funext j
  by_cases hb : (g i).testBit m = true
  · simp only [hb, if_true, updF, prt]
    by_cases hj : j = i
    · subst hj; simp [stp, hb]
    · have : (j < i + 1) ↔ j < i := by omega
      simp [hj, this]
  · simp only [hb, prt]
    by_cases hj : j = i
    · subst hj; simp [stp, hb, prt]
    · have : (j < i + 1) ↔ j < i := by omega
      simp [this, prt]

/-- What 'has' returns. -/
def Bit28 (call : Oracle) : Prop := ∀ s t : Nat, s < 2 ^ 32 → t < 32 → call 28 [.v (.int .u32 (s : Int)), .v (.int .i64 (t : Int))] = some (.v (.bool (s.testBit t)))

theorem loop31_1 (call : Oracle) (fuel : Nat) (n : Nat) (hn : n ≤ 24) (g : Nat → Nat) (hg : ∀ i, g i < 2 ^ 32) (m : Nat) (hm : m < n) (h28 : Bit28 call) (fu : Nat) (hf : 1000 < fu) (st : St)
    (h0 : drops st h31_1 = L31_1 (ii n) (.own (su n g)) (ii m) (ii n) (ii m) (ii n) (ii 0)) :
    run.loopN (run call fuel b31_1) fu st = some (.ex 2, X31_2 (ii n) (.own (su n (stp g m))) (ii n) (ii m)) := by
  have he : su n (prt g m n) = su n (stp g m) := congrArg (gsl (eI .u32) false) (zr_ext fun j hj => by simp [prt, hj])
  have hz : prt g m 0 = g := by funext j; simp [prt]
  refine loop_cnt call fuel h31_1 _ n (fun i => L31_1 (ii n) (.own (su n (prt g m i))) (ii m) (ii n) (ii m) (ii n) (ii i)) _ (by simp) ?_ (by simp [he]) fu st (by rw [hz]; exact h0) (by omega)
  intro i hi
  have hw := wrap_succ (i := i) (by omega)
  have e1 := zr_nth n (prt g m i) hi
  have e2 := zr_nth n (prt g m i) hm
  have e3 := bits_or .u32 (hg i) (hg m)
  have e4 := h28 (g i) m (hg i) (by omega)
  have hs := prt_succ g m i
  rw [prt_i] at e1
  rw [prt_m] at e2
  rw [hs]
  generalize prt g m i = p at *
  cases hb : (g i).testBit m <;> rw [hb] at e4 <;> simp [hi, hm, hw, e1, e2, e3, e4]

theorem loop31_0 (call : Oracle) (fuel : Nat) (hf : 1000 < fuel) (n : Nat) (hn : n ≤ 24) (g : Nat → Nat) (hg : ∀ i, g i < 2 ^ 32) (h28 : Bit28 call) (st : St)
    (h0 : drops st h31_0 = L31_0 (ii n) (.own (su n g)) (ii n) (ii 0)) :
    run.loopN (run call fuel b31_0) fuel st = some (.ex 0, X31_0 (.own (su n (warr g n)))) := by
  refine loop_cnt call fuel h31_0 _ n (fun i => L31_0 (ii n) (.own (su n (warr g i))) (ii n) (ii i)) _ (by simp) ?_ (by simp) fuel st h0 (by omega)
  intro i hi
  have hw := wrap_succ (i := i) (by omega)
  have e := loop31_1 call fuel n hn (warr g i) (warr_lt hg i) i hi h28 fuel hf
  simp [hi]
  rw [e _ (by simp)]
  simp [hw, warr]

theorem f31 (call : Oracle) (fuel : Nat) (hf : 1000 < fuel) (b : Bool) (n : Nat) (hn : n ≤ 24) (a : NA) (hv : ∀ p ∈ a, p.1 < n ∧ p.2 < n) (h28 : Bit28 call)
    (h29 : call 29 [.v (.int .i64 (n : Int)), sa b (arcsZ a)] = some (su n (nextG a))) :
    callF call fuel c31 [.v (.int .i64 (n : Int)), sa b (arcsZ a)] = some (su n (warr (nextG a) n)) := by
  have e := loop31_0 call fuel hf n hn (nextG a) (nextG_lt (by omega) hv) h28
  rw [callF_tab call fuel c31 17 _ (by exact Nat.le_of_ble_eq_true rfl) (by exact Nat.le_of_ble_eq_true rfl)]
  simp [c31, h29]
  rw [e _ (by simp)]
  simp

theorem loop34 (call : Oracle) (fuel : Nat) (n : Nat) (hn : n ≤ 24) (g : Nat → Nat) (hg : ∀ i, g i < 2 ^ 32) (h28 : Bit28 call) (fu : Nat) (hf : 1000 < fu) (st : St)
    (h0 : drops st h34_0 = L34_0 (.ro (su n g)) (.ro (su n g)) (ii n) (ii 0)) :
    run.loopN (run call fuel b34_0) fu st = some (if (List.range n).any (fun i => (g i).testBit i) = true then (.ret, R34 (bb false)) else (.ex 0, X34_0)) := by
  refine loop_any call fuel h34_0 _ n (fun i => (g i).testBit i) (fun i => L34_0 (.ro (su n g)) (.ro (su n g)) (ii n) (ii i)) _ _ (by simp) (by simp) ?_ (by simp) fu st h0 (by omega)
  intro i hi _
  have hw := wrap_succ (i := i) (by omega)
  have e1 := zr_nth n g hi
  have e4 := h28 (g i) i (hg i) (by omega)
  cases hb : (g i).testBit i <;> rw [hb] at e4 <;> simp [hi, hw, e1, e4]

theorem f34 (call : Oracle) (fuel : Nat) (hf : 1000 < fuel) (n : Nat) (hn : n ≤ 24) (g : Nat → Nat) (hg : ∀ i, g i < 2 ^ 32) (h28 : Bit28 call) :
    callF call fuel c34 [su n g] = some (.v (.bool (!(List.range n).any (fun i => (g i).testBit i)))) := by
  have e := loop34 call fuel n hn g hg h28 fuel hf
  rw [callF_tab call fuel c34 8 _ (by exact Nat.le_of_ble_eq_true rfl) (by exact Nat.le_of_ble_eq_true rfl)]
  simp [c34]
  rw [e _ (by simp)]
  cases (List.range n).any (fun i => (g i).testBit i) <;> simp

end Go.Mx
