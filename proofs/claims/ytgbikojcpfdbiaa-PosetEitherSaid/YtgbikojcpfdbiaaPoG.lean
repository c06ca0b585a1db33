import Derived.Test.YtgbikojcpfdbiaaPoF
/-
  Levels: the program's and the reference's.
-/
namespace Go.Mx
set_option linter.unusedVariables false
set_option linter.unusedSimpArgs false
set_option linter.unusedSectionVars false
open Go

/-- A row of numbers. -/
abbrev lz (n : Nat) (lv : Nat → Nat) : D := si false (zr n lv)

/-- The levels behind a vertex. -/
def relV (g : Nat → Nat) (lv : Nat → Nat) (v : Nat) : Nat → Nat := fun u => if (g v).testBit u then max (lv u) (lv v + 1) else lv u
def relP (g : Nat → Nat) (lv : Nat → Nat) (v i : Nat) : Nat → Nat := fun u => if u < i then relV g lv v u else lv u
def levP (g : Nat → Nat) (l : List Nat) : Nat → Nat := l.foldl (relV g) fun _ => 0

theorem relP_succ (g lv : Nat → Nat) (v i : Nat) : relP g lv v (i + 1) = if (g v).testBit i then updF (relP g lv v i) i (max (lv i) (lv v + 1)) else relP g lv v i := by
  funext u
  by_cases hu : u = i
  · subst hu
    have h1 : u < u + 1 := by omega
    have h2 : ¬ u < u := by omega
    by_cases hb : (g v).testBit u = true
    · simp [relP, relV, hb, updF]
    · simp [relP, relV, hb]
  · have : u < i + 1 ↔ u < i := by omega
    split
    · simp [relP, this, updF, hu]
    · simp [relP, this]

theorem max_cast (x y : Nat) : max (x : Int) ((y : Int) + 1) = ((max x (y + 1) : Nat) : Int) := by omega

theorem loop12_1 (call : Oracle) (fuel : Nat) (n : Nat) (hn : n ≤ 24) (g : Nat → Nat) (hg : ∀ i, g i < 2 ^ 32) (hself : ∀ i, (g i).testBit i = false) (h28 : Bit28 call) (ord : List Nat) (lv : Nat → Nat) (hb : ∀ u, lv u ≤ 1000) (v : Nat) (hv : v < n) (k m : Int) (fu : Nat) (hf : 1000 < fu) (st : St)
    (h0 : drops st h12_1 = L12_1 (ii n) (.own (so ord)) (.own (su n g)) (.own (lz n lv)) (ii v) (.ref 6 []) (ii m) (ii k) (ii n) (ii 0)) :
    run.loopN (run call fuel b12_1) fu st = some (.ex 2, X12_2 (ii n) (.own (so ord)) (.own (su n g)) (.own (lz n (relV g lv v))) (.ref 6 []) (ii m) (ii k)) := by
  have hend : lz n (relP g lv v n) = lz n (relV g lv v) := congrArg (gsl (eI .i64) false) (zr_ext fun u hu => by simp [relP, hu])
  have hz : relP g lv v 0 = lv := by funext u; simp [relP]
  refine loop_cnt call fuel h12_1 _ n (fun i => L12_1 (ii n) (.own (so ord)) (.own (su n g)) (.own (lz n (relP g lv v i))) (ii v) (.ref 6 []) (ii m) (ii k) (ii n) (ii i)) _ (by simp) ?_ (by simp [hend]) fu st (by rw [hz]; exact h0) (by omega)
  intro i hi
  have hw := wrap_succ (i := i) (by omega)
  have e1 := zr_nth n g hv
  have e2 := h28 (g v) i (hg v) (by omega)
  have e3 := zr_nth n (relP g lv v i) hi
  have e4 := zr_nth n (relP g lv v i) hv
  have r1 : relP g lv v i i = lv i := by simp [relP]
  have r2 : relP g lv v i v = lv v := by simp [relP, relV, hself]
  rw [r1] at e3
  rw [r2] at e4
  have hw2 : IntKind.i64.wrap ((lv v : Int) + 1) = (lv v : Int) + 1 := wrap_eq (by have := hb v; unfold I64; omega)
  have hm := max_cast (lv i) (lv v)
  rw [relP_succ]
  generalize relP g lv v i = p at *
  generalize max (lv i) (lv v + 1) = w at *
  cases c : (g v).testBit i <;> rw [c] at e2 <;> simp [hi, hv, hw, e1, e2, e3, e4, hw2, hm]

theorem relV_le {g lv : Nat → Nat} {B : Nat} (h : ∀ u, lv u ≤ B) (v u : Nat) : relV g lv v u ≤ B + 1 := by
  have h1 := h u
  have h2 := h v
  unfold relV
  split <;> omega

theorem levP_le (g : Nat → Nat) (l : List Nat) (u : Nat) : levP g l u ≤ l.length := by
  suffices ∀ (l : List Nat) (lv : Nat → Nat) (B : Nat), (∀ u, lv u ≤ B) → ∀ u, l.foldl (relV g) lv u ≤ B + l.length by
    have := this l (fun _ => 0) 0 (fun _ => Nat.le_refl _) u
    simpa [levP] using this
  intro l
  induction l with
  | nil => intro lv B h u; simpa using h u
  | cons v l ih =>
    intro lv B h u
    have := ih (relV g lv v) (B + 1) (relV_le h v) u
    simp only [List.foldl_cons, List.length_cons]
    omega

theorem loop12_0 (call : Oracle) (fuel : Nat) (n : Nat) (hn : n ≤ 24) (g : Nat → Nat) (hg : ∀ i, g i < 2 ^ 32) (hself : ∀ i, (g i).testBit i = false) (h28 : Bit28 call) (ord : List Nat) (ho : ∀ v ∈ ord, v < n) (hl : ord.length ≤ 24) (hf : 1000 < fuel) (st : St)
    (h0 : drops st h12_0 = L12_0 (ii n) (.own (so ord)) (.own (su n g)) (.own (lz n fun _ => 0)) (.ref 6 []) (ii ord.length) (ii 0)) :
    run.loopN (run call fuel b12_0) fuel st = some (.ex 0, X12_0 (.own (lz n (levP g ord)))) := by
  refine loop_cnt call fuel h12_0 _ ord.length (fun i => L12_0 (ii n) (.own (so ord)) (.own (su n g)) (.own (lz n (levP g (ord.take i)))) (.ref 6 []) (ii ord.length) (ii i)) _ (by simp) ?_ (by simp) fuel st h0 (by omega)
  intro i hi
  have hw := wrap_succ (i := i) (by omega)
  have hv := ho _ (nth_mem 0 hi)
  have hs : levP g (ord.take (i + 1)) = relV g (levP g (ord.take i)) (nth ord 0 i) := foldl_take (relV g) _ 0 hi
  have hb : ∀ u, levP g (ord.take i) u ≤ 1000 := fun u => by
    have := levP_le g (ord.take i) u
    have h2 : (ord.take i).length ≤ ord.length := by simp; omega
    omega
  have e1 : nth (zl ord) 0 i = ((nth ord 0 i : Nat) : Int) := nth_map (fun (v : Nat) => (v : Int)) ord 0 i
  have e := loop12_1 call fuel n hn g hg hself h28 ord _ hb (nth ord 0 i) hv i ord.length fuel hf
  rw [hs]
  simp [hi, e1]
  rw [e _ (by simp)]
  simp [hw]

/-- Levels, from an order. -/
def levD (n : Nat) (a : NA) (o : Option (List Nat)) : D :=
  match o with
  | some l => .nd .tu [lz n (levP (nextG a) l), .v (.int .i64 0)]
  | none => .nd .tu [si true [], .v (.int .i64 11)]
def levelsD (n : Int) (a : List (Int × Int)) : D := if validB n a then levD n.toNat (natA a) (ordR n.toNat (natA a) []) else .nd .tu [si true [], .v (.int .i64 1)]

theorem ordL_lt {n : Nat} {a : NA} : ∀ (k : Nat) (out l : List Nat), (∀ v ∈ out, v < n) → ordL n a k out = some l → (∀ v ∈ l, v < n) ∧ l.length = out.length + k
  | 0, out, l, h, e => by simp [ordL] at e; subst e; exact ⟨h, rfl⟩
  | k + 1, out, l, h, e => by
    simp only [ordL] at e
    split at e
    · rename_i v hv
      have hvn : v < n := List.mem_range.1 (List.mem_of_find?_eq_some hv)
      obtain ⟨h1, h2⟩ := ordL_lt k (out ++ [v]) l (fun w hw => by
        rcases List.mem_append.1 hw with h' | h'
        · exact h w h'
        · simp at h'; omega) e
      exact ⟨h1, by simp at h2; omega⟩
    · cases e

theorem f12 (call : Oracle) (fuel : Nat) (hf : 1000 < fuel) (b : Bool) (n : Int) (a : List (Int × Int)) (hl : a.length ≤ 1000) (h28 : Bit28 call)
    (h11 : call 11 [.v (.int .i64 n), sa b a] = some (ordD n a))
    (h29 : validB n a = true → call 29 [.v (.int .i64 n), sa b a] = some (su n.toNat (nextG (natA a)))) : callF call fuel c12 [.v (.int .i64 n), sa b a] = some (levelsD n a) := by
  rw [callF_tab call fuel c12 35 _ (by exact Nat.le_of_ble_eq_true rfl) (by exact Nat.le_of_ble_eq_true rfl)]
  by_cases hv : validB n a = true
  · obtain ⟨k, rfl, hk, ha, hp⟩ := valid_nat hv
    have hp' : ∀ p ∈ natA a, p.1 < k ∧ p.2 < k := fun p h => ⟨(hp p h).1, (hp p h).2.1⟩
    have h2 := h29 hv
    unfold ordD at h11
    unfold levelsD
    rw [if_pos hv] at h11 ⊢
    have hz : List.replicate k (0 : Int) = zr k fun _ => 0 := row_rep k 0
    have hm : k ≤ most := by unfold most; omega
    have hg := nextG_lt (n := k) (by omega) hp'
    have hself : ∀ i, (nextG (natA a) i).testBit i = false := by
      intro i
      rw [next_bit, Bool.eq_false_iff]
      intro hc
      have := (hp (i, i) (by simpa using hc)).2.2
      exact this rfl
    simp only [Int.toNat_natCast] at h11 h2 ⊢
    cases ho : ordR k (natA a) [] with
    | none =>
      rw [ho] at h11
      simp only at h11
      simp [c12, h11, levD]
      rfl
    | some l =>
      rw [ho] at h11
      simp only at h11
      obtain ⟨g1, g2⟩ := ordL_lt _ _ _ (by simp) ho
      have e := loop12_0 call fuel k hk (nextG (natA a)) hg hself h28 l g1 (by simp at g2; omega) hf
      simp [c12, h11, h2, hz, hm, levD]
      rw [e _ (by simp)]
      simp
  · unfold ordD at h11
    unfold levelsD
    rw [if_neg hv] at h11 ⊢
    simp [c12, h11]
    rfl

/-! ### the reference -/
def relA (lv : Nat → Nat) (p : Nat × Nat) : Nat → Nat := updF lv p.2 (max (lv p.2) (lv p.1 + 1))
def levA (a : NA) (lv : Nat → Nat) : Nat → Nat := a.foldl relA lv
def levR (a : NA) : Nat → Nat → Nat
  | 0 => fun _ => 0
  | k + 1 => levA a (levR a k)

theorem relA_le {lv : Nat → Nat} {B : Nat} (h : ∀ u, lv u ≤ B) (p : Nat × Nat) (u : Nat) : relA lv p u ≤ B + 1 := by
  have h1 := h u
  have h2 := h p.1
  have h3 := h p.2
  unfold relA updF
  split <;> omega

theorem levA_le (a : NA) (lv : Nat → Nat) (B : Nat) (h : ∀ u, lv u ≤ B) (u : Nat) : levA a lv u ≤ B + a.length := by
  induction a generalizing lv B with
  | nil => simpa [levA] using h u
  | cons p a ih =>
    have := ih (relA lv p) (B + 1) (relA_le h p)
    simp only [levA, List.foldl_cons, List.length_cons] at *
    omega

theorem levR_le (a : NA) (k u : Nat) : levR a k u ≤ k * a.length := by
  induction k generalizing u with
  | zero => simp [levR]
  | succ k ih =>
    have := levA_le a (levR a k) (k * a.length) ih u
    rw [Nat.succ_mul]
    exact this

theorem loop14_1 (call : Oracle) (fuel : Nat) (b : Bool) (n : Nat) (hn : n ≤ 24) (a : NA) (hv : ∀ p ∈ a, p.1 < n ∧ p.2 < n) (hl : a.length ≤ 1000) (lv : Nat → Nat) (hb : ∀ u, lv u ≤ 100000) (k : Int) (fu : Nat) (hf : 1000 < fu) (st : St)
    (h0 : drops st h14_1 = L14_1 (ii n) (.ro (sa b (arcsZ a))) (.own (lz n lv)) (ii k) (ii 0)) :
    run.loopN (run call fuel b14_1) fu st = some (.ex 2, X14_2 (ii n) (.ro (sa b (arcsZ a))) (.own (lz n (levA a lv))) (ii k)) := by
  refine loop_cnt call fuel h14_1 _ a.length (fun i => L14_1 (ii n) (.ro (sa b (arcsZ a))) (.own (lz n (levA (a.take i) lv))) (ii k) (ii i)) _ (by simp) ?_ (by simp) fu st h0 (by omega)
  intro i hi
  have hw := wrap_succ (i := i) (by omega)
  obtain ⟨h1, h2⟩ := hv _ (nth_mem (0, 0) hi)
  have hs : levA (a.take (i + 1)) lv = relA (levA (a.take i) lv) (nth a (0, 0) i) := foldl_take relA _ (0, 0) hi
  have hb2 := levA_le (a.take i) lv 100000 hb
  have hlen : (a.take i).length ≤ a.length := by simp; omega
  rw [hs]
  generalize levA (a.take i) lv = q at *
  generalize hp : nth a (0, 0) i = p at *
  obtain ⟨f, t⟩ := p
  simp only at h1 h2
  have e1 := zr_nth n q h1
  have e2 := zr_nth n q h2
  have hw2 : IntKind.i64.wrap ((q f : Int) + 1) = (q f : Int) + 1 := wrap_eq (by have := hb2 f; unfold I64; omega)
  have hm := max_cast (q t) (q f)
  generalize hx : max (q t) (q f + 1) = w at *
  simp [hi, hw, hp, h1, h2, e1, e2, hw2, hm, relA, hx]

theorem loop14_0 (call : Oracle) (fuel : Nat) (b : Bool) (n : Nat) (hn : n ≤ 24) (a : NA) (hv : ∀ p ∈ a, p.1 < n ∧ p.2 < n) (hl : a.length ≤ 1000) (hf : 1000 < fuel) (st : St)
    (h0 : drops st h14_0 = L14_0 (ii n) (.ro (sa b (arcsZ a))) (.own (lz n fun _ => 0)) (ii 0)) :
    run.loopN (run call fuel b14_0) fuel st = some (.ex 0, X14_0 (.own (lz n (levR a n)))) := by
  refine loop_cnt call fuel h14_0 _ n (fun i => L14_0 (ii n) (.ro (sa b (arcsZ a))) (.own (lz n (levR a i))) (ii i)) _ (by simp) ?_ (by simp) fuel st h0 (by omega)
  intro i hi
  have hw := wrap_succ (i := i) (by omega)
  have hb : ∀ u, levR a i u ≤ 100000 := fun u => by
    have h1 := levR_le a i u
    have : i * a.length ≤ 24 * 1000 := Nat.mul_le_mul (by omega) hl
    omega
  have e := loop14_1 call fuel b n hn a hv hl (levR a i) hb i fuel hf
  simp [hi]
  rw [e _ (by simp)]
  simp [hw, levR]

def levelsR (n : Int) (a : List (Int × Int)) : D :=
  if validB n a then
    if acyB n a then .nd .tu [lz n.toNat (levR (natA a) n.toNat), .v (.int .i64 0)] else .nd .tu [si true [], .v (.int .i64 11)]
  else .nd .tu [si true [], .v (.int .i64 1)]

theorem f14 (call : Oracle) (fuel : Nat) (hf : 1000 < fuel) (b : Bool) (n : Int) (a : List (Int × Int)) (hl : a.length ≤ 1000)
    (h21 : call 21 [.v (.int .i64 n), sa b a] = some (.v (.bool (validB n a)))) (h23 : call 23 [.v (.int .i64 n), sa b a] = some (.v (.bool (acyB n a)))) :
    callF call fuel c14 [.v (.int .i64 n), sa b a] = some (levelsR n a) := by
  rw [callF_tab call fuel c14 9 _ (by exact Nat.le_of_ble_eq_true rfl) (by exact Nat.le_of_ble_eq_true rfl)]
  by_cases hv : validB n a = true
  · obtain ⟨k, rfl, hk, ha, hp⟩ := valid_nat hv
    have hp' : ∀ p ∈ natA a, p.1 < k ∧ p.2 < k := fun p h => ⟨(hp p h).1, (hp p h).2.1⟩
    have e := loop14_0 call fuel b k hk (natA a) hp' (by simpa [natA] using hl) hf
    rw [← ha] at e
    rw [hv] at h21
    unfold levelsR
    rw [if_pos hv]
    have hz : List.replicate k (0 : Int) = zr k fun _ => 0 := row_rep k 0
    have hm : k ≤ most := by unfold most; omega
    cases hc : acyB k a
    · rw [hc] at h23
      simp [c14, h21, h23]
      rfl
    · rw [hc] at h23
      simp [c14, h21, h23, hz, hm]
      rw [e _ (by simp)]
      simp
  · have hv' : validB n a = false := by simpa using hv
    rw [hv'] at h21
    unfold levelsR
    rw [if_neg hv]
    simp [c14, h21]
    rfl

end Go.Mx
