import Derived.Test.YtgbikojcpfdbiaaPoH
/-
  Induced: the program's and the reference's.
-/
namespace Go.Mx
set_option linter.unusedVariables false
set_option linter.unusedSimpArgs false
set_option linter.unusedSectionVars false
open Go

/-- A list of arcs that was made by appending. -/
abbrev sao (l : List (Int × Int)) : D := sa l.isEmpty l
theorem sao_snoc (l : List (Int × Int)) (p : Int × Int) : sao (l ++ [p]) = gsl eA false (l ++ [p]) := by
  have h : (l ++ [p]).isEmpty = false := by simp
  show gsl eA (l ++ [p]).isEmpty (l ++ [p]) = _
  rw [h]

/-- A row of numbers with sign. -/
abbrev ri (n : Nat) (g : Nat → Int) : D := si false (row n g)

theorem loop17_0 (call : Oracle) (fuel : Nat) (n : Nat) (hn : n ≤ 24) (x y : D) (hx : ∃ b l, x = sa b l) (hy : ∃ b l, y = si b l) (fu : Nat) (hf : 1000 < fu) (st : St)
    (h0 : drops st h17_0 = L17_0 (ii n) (.ro x) (.ro y) (.own (ri n fun _ => 0)) (ii n) (ii 0)) :
    run.loopN (run call fuel b17_0) fu st = some (.ex 0, X17_0 (ii n) (.ro x) (.ro y) (.own (ri n fun _ => -1))) := by
  obtain ⟨b, a, rfl⟩ := hx
  obtain ⟨c, l, rfl⟩ := hy
  have e0 : ri n (fun j => if j < 0 then (-1 : Int) else 0) = ri n (fun _ => 0) := by simp
  have e1 : ri n (fun j => if j < n then (-1 : Int) else 0) = ri n (fun _ => -1) := congrArg (gsl (eI .i64) false) (row_ext _ fun i hi => by simp [hi])
  refine loop_cnt call fuel h17_0 _ n (fun i => L17_0 (ii n) (.ro (sa b a)) (.ro (si c l)) (.own (ri n fun j => if j < i then -1 else 0)) (ii n) (ii i)) _ (by simp) ?_ (by simp [e1]) fu st (by rw [e0]; exact h0) (by omega)
  intro i hi
  have hw := wrap_succ (i := i) (by omega)
  have e2 : row n (updF (fun j => if j < i then (-1 : Int) else 0) i (-1)) = row n (fun j => if j < i + 1 then (-1 : Int) else 0) := row_ext _ fun j _ => by
    simp only [updF]
    by_cases h : j = i
    · subst h; simp
    · have : j < i + 1 ↔ j < i := by omega
      simp [h, this]
  simp [hi, hw, e2]

/-- Where the kept vertices stand. -/
def plG (keep : List Int) : Nat → Nat → Int
  | 0 => fun _ => -1
  | i + 1 => updF (plG keep i) (nth keep 0 i).toNat (i : Int)

theorem loop17_1 (call : Oracle) (fuel : Nat) (n : Nat) (hn : n ≤ 24) (x : D) (hx : ∃ b l, x = sa b l) (c : Bool) (keep : List Int) (hk : keep.length ≤ 1000) (fu : Nat) (hf : 1000 < fu) (st : St)
    (h0 : drops st h17_1 = L17_1 (ii n) (.ro x) (.ro (si c keep)) (.own (ri n fun _ => -1)) (.ro (si c keep)) (ii keep.length) (ii 0)) :
    run.loopN (run call fuel b17_1) fu st = some (if (List.range keep.length).any (fun i => !okL keep 0 ((n : Int) - 1) i) = true then (.ret, R17 (.own (.nd (.sl true 2 0) [])) (ii 1)) else (.ex 2, X17_2 (.ro x) (.own (ri n (plG keep keep.length))))) := by
  obtain ⟨b, a, rfl⟩ := hx
  refine loop_any call fuel h17_1 _ keep.length (fun i => !okL keep 0 ((n : Int) - 1) i) (fun i => L17_1 (ii n) (.ro (sa b a)) (.ro (si c keep)) (.own (ri n (plG keep i))) (.ro (si c keep)) (ii keep.length) (ii i)) _ _ (by simp) (by simp) ?_ (by simp) fu st h0 (by omega)
  intro i hi _
  have hw := wrap_succ (i := i) (by omega)
  have hp := wrap_pred (i := i) (by omega)
  have hi' : i - 1 < keep.length := by omega
  have hs : plG keep (i + 1) = updF (plG keep i) (nth keep 0 i).toNat (i : Int) := rfl
  rw [hs]
  unfold okL
  generalize plG keep i = g
  by_cases h1 : 0 ≤ nth keep 0 i
  · obtain ⟨v, hv⟩ := Int.eq_ofNat_of_zero_le h1
    by_cases h2 : v < n
    · have h3 : (v : Int) ≤ (n : Int) - 1 := by omega
      simp [hi, hw, hp, hi', hv, h2, h3]
      generalize nth keep 0 (i - 1) = q
      grind
    · have h3 : ¬ (v : Int) ≤ (n : Int) - 1 := by omega
      have h4 : (n : Int) ≤ (v : Int) := by omega
      simp [hi, hw, hp, hi', hv, h2, h3, h4]
  · have h3 : nth keep 0 i < 0 := by omega
    simp [hi, hw, hp, hi', h1, h3]

/-- The arcs between the kept vertices. -/
def indP (g : Nat → Int) (a : NA) : List (Int × Int) := a.filterMap fun p => if 0 ≤ g p.1 ∧ 0 ≤ g p.2 then some (g p.1, g p.2) else none
theorem indP_len (g : Nat → Int) (a : NA) : (indP g a).length ≤ a.length := List.length_filterMap_le _ _

theorem loop17_2 (call : Oracle) (fuel : Nat) (b : Bool) (n : Nat) (a : NA) (hv : ∀ p ∈ a, p.1 < n ∧ p.2 < n) (hl : a.length ≤ 1000) (g : Nat → Int) (fu : Nat) (hf : 1000 < fu) (st : St)
    (h0 : drops st h17_2 = L17_2 (.ro (sa b (arcsZ a))) (.own (ri n g)) (.own (sao [])) (.ro (sa b (arcsZ a))) (ii a.length) (ii 0)) :
    run.loopN (run call fuel b17_2) fu st = some (.ex 4, X17_4 (.own (sao (indP g a)))) := by
  refine loop_cnt call fuel h17_2 _ a.length (fun i => L17_2 (.ro (sa b (arcsZ a))) (.own (ri n g)) (.own (sao (indP g (a.take i)))) (.ro (sa b (arcsZ a))) (ii a.length) (ii i)) _ (by simp) ?_ (by simp) fu st h0 (by omega)
  intro i hi
  have hw := wrap_succ (i := i) (by omega)
  obtain ⟨h1, h2⟩ := hv _ (nth_mem (0, 0) hi)
  have hlen := indP_len g (a.take i)
  have hle : (a.take i).length ≤ a.length := by simp; omega
  have hm : (indP g (a.take i)).length + 1 ≤ most := by unfold most; omega
  have hs : indP g (a.take (i + 1)) = indP g (a.take i) ++ (if 0 ≤ g (nth a (0, 0) i).1 ∧ 0 ≤ g (nth a (0, 0) i).2 then [(g (nth a (0, 0) i).1, g (nth a (0, 0) i).2)] else []) := by
    rw [take_succ_nth (0, 0) hi]
    unfold indP
    rw [List.filterMap_append]
    congr 1
    rw [List.filterMap_cons]
    split <;> split at * <;> simp_all
  rw [hs]
  generalize indP g (a.take i) = o at *
  generalize hp : nth a (0, 0) i = p at *
  obtain ⟨f, t⟩ := p
  simp only at h1 h2
  have e1 := nth_row n g 0 h1
  have e2 := nth_row n g 0 h2
  by_cases c1 : 0 ≤ g f
  · by_cases c2 : 0 ≤ g t
    · simp [hi, hw, hp, h1, h2, e1, e2, c1, c2, hm, sao_snoc]
    · simp [hi, hw, hp, h1, h2, e1, e2, c1, c2, hm]
  · simp [hi, hw, hp, h1, h2, e1, e2, c1, hm]

def indD (n : Int) (a : List (Int × Int)) (keep : List Int) : D :=
  if validB n a && !(List.range keep.length).any (fun i => !okL keep 0 (n - 1) i) then .nd .tu [sao (indP (plG keep keep.length) (natA a)), .v (.int .i64 0)]
  else .nd .tu [sa true [], .v (.int .i64 1)]

theorem f17 (call : Oracle) (fuel : Nat) (hf : 1000 < fuel) (b c : Bool) (n : Int) (a : List (Int × Int)) (hl : a.length ≤ 1000) (keep : List Int) (hk : keep.length ≤ 1000)
    (h20 : call 20 [.v (.int .i64 n), sa b a] = some (.v (.bool (validB n a)))) :
    callF call fuel c17 [.v (.int .i64 n), sa b a, si c keep] = some (indD n a keep) := by
  rw [callF_tab call fuel c17 65 _ (by exact Nat.le_of_ble_eq_true rfl) (by exact Nat.le_of_ble_eq_true rfl)]
  by_cases hv : validB n a = true
  · obtain ⟨k, rfl, hk2, ha, hp⟩ := valid_nat hv
    have hp' : ∀ p ∈ natA a, p.1 < k ∧ p.2 < k := fun p h => ⟨(hp p h).1, (hp p h).2.1⟩
    have e0 := loop17_0 call fuel k hk2 (sa b a) (si c keep) ⟨_, _, rfl⟩ ⟨_, _, rfl⟩ fuel hf
    have e1 := loop17_1 call fuel k hk2 (sa b a) ⟨_, _, rfl⟩ c keep hk fuel hf
    have e2 := loop17_2 call fuel b k (natA a) hp' (by simpa [natA] using hl) (plG keep keep.length) fuel hf
    have hz : List.replicate k (0 : Int) = row k fun _ => 0 := row_rep k 0
    have hm : k ≤ most := by unfold most; omega
    have hlen : (natA a).length = a.length := by simp [natA]
    rw [← ha, hlen] at e2
    rw [hv] at h20
    simp [c17, h20, hz, hm]
    rw [e0 _ (by simp)]
    simp
    rw [e1 _ (by simp)]
    unfold indD
    rw [hv]
    cases (List.range keep.length).any (fun i => !okL keep 0 ((k : Int) - 1) i)
    · simp
      rw [e2 _ (by simp; rfl)]
      simp
    · simp
      rfl
  · have hv' : validB n a = false := by simpa using hv
    rw [hv'] at h20
    simp [c17, h20, indD, hv']
    rfl

/-! ### the reference -/
def celR (a : List (Int × Int)) (keep : List Int) (i k : Nat) : List (Int × Int) := (a.filter (fun p => p.1 == nth keep 0 i && p.2 == nth keep 0 k)).map (fun _ => ((i : Int), (k : Int)))
def rowR (a : List (Int × Int)) (keep : List Int) (i m : Nat) : List (Int × Int) := (List.range m).flatMap (celR a keep i)
def allR (a : List (Int × Int)) (keep : List Int) (m : Nat) : List (Int × Int) := (List.range m).flatMap (fun i => rowR a keep i keep.length)

theorem celR_len (a : List (Int × Int)) (keep : List Int) (i k : Nat) : (celR a keep i k).length ≤ a.length := by
  unfold celR; rw [List.length_map]; exact List.length_filter_le _ _
theorem flat_len {α : Type} (f : Nat → List α) (B m : Nat) (h : ∀ i, (f i).length ≤ B) : ((List.range m).flatMap f).length ≤ m * B := by
  induction m with
  | zero => simp
  | succ m ih =>
    rw [List.range_succ, List.flatMap_append, List.length_append, Nat.succ_mul]
    have := h m
    simp only [List.flatMap_cons, List.flatMap_nil, List.append_nil]
    omega
theorem flat_succ {α : Type} (f : Nat → List α) (m : Nat) : (List.range (m + 1)).flatMap f = (List.range m).flatMap f ++ f m := by
  rw [List.range_succ, List.flatMap_append]; simp

theorem loop18_2 (call : Oracle) (fuel : Nat) (b c : Bool) (a : List (Int × Int)) (hl : a.length ≤ 1000) (keep : List Int) (hk : keep.length ≤ 1000) (i k : Nat) (hi : i < keep.length) (hkk : k < keep.length) (o : List (Int × Int)) (ho : o.length ≤ 2000000000) (fu : Nat) (hf : 1000 < fu) (st : St)
    (h0 : drops st h18_2 = L18_2 (.ro (sa b a)) (.ro (si c keep)) (.own (sao o)) (ii i) (ii k) (ii 0)) :
    run.loopN (run call fuel b18_2) fu st = some (.ex 4, X18_4 (.ro (sa b a)) (.ro (si c keep)) (.own (sao (o ++ celR a keep i k))) (ii i) (ii k)) := by
  refine loop_cnt call fuel h18_2 _ a.length (fun m => L18_2 (.ro (sa b a)) (.ro (si c keep)) (.own (sao (o ++ celR (a.take m) keep i k))) (ii i) (ii k) (ii m)) _ (by simp) ?_ (by simp) fu st (by simpa [celR] using h0) (by omega)
  intro m hm
  have hw := wrap_succ (i := m) (by omega)
  have hlen := celR_len (a.take m) keep i k
  have hle : (a.take m).length ≤ a.length := by simp; omega
  have hmo : (o ++ celR (a.take m) keep i k).length + 1 ≤ most := by unfold most; rw [List.length_append]; omega
  have hs : o ++ celR (a.take (m + 1)) keep i k = (o ++ celR (a.take m) keep i k) ++ (if (nth a (0, 0) m).1 = nth keep 0 i ∧ (nth a (0, 0) m).2 = nth keep 0 k then [((i : Int), (k : Int))] else []) := by
    rw [take_succ_nth (0, 0) hm]
    unfold celR
    rw [List.filter_append, List.map_append, List.append_assoc]
    congr 2
    by_cases hc : (nth a (0, 0) m).1 = nth keep 0 i ∧ (nth a (0, 0) m).2 = nth keep 0 k
    · rw [if_pos hc]; simp [hc.1, hc.2]
    · rw [if_neg hc]
      simp
      intro h1 h2
      exact hc ⟨h1, h2⟩
  rw [hs]
  generalize o ++ celR (a.take m) keep i k = q at *
  by_cases c1 : (nth a (0, 0) m).1 = nth keep 0 i
  · by_cases c2 : (nth a (0, 0) m).2 = nth keep 0 k
    · simp [hm, hi, hkk, hw, c1, c2, hmo, sao_snoc]
    · simp [hm, hi, hkk, hw, c1, c2, hmo]
  · simp [hm, hi, hkk, hw, c1, hmo]

theorem loop18_1 (call : Oracle) (fuel : Nat) (b c : Bool) (a : List (Int × Int)) (hl : a.length ≤ 1000) (keep : List Int) (hk : keep.length ≤ 1000) (i : Nat) (hi : i < keep.length) (o : List (Int × Int)) (ho : o.length ≤ 1000000000) (fu : Nat) (hf : 1000 < fu) (hf2 : 1000 < fuel) (st : St)
    (h0 : drops st h18_1 = L18_1 (.ro (sa b a)) (.ro (si c keep)) (.own (sao o)) (ii i) (ii 0)) :
    run.loopN (run call fuel b18_1) fu st = some (.ex 2, X18_2 (.ro (sa b a)) (.ro (si c keep)) (.own (sao (o ++ rowR a keep i keep.length))) (ii i)) := by
  refine loop_cnt call fuel h18_1 _ keep.length (fun k => L18_1 (.ro (sa b a)) (.ro (si c keep)) (.own (sao (o ++ rowR a keep i k))) (ii i) (ii k)) _ (by simp) ?_ (by simp) fu st (by simpa [rowR] using h0) (by omega)
  intro k hkk
  have hw := wrap_succ (i := k) (by omega)
  have hlen : (rowR a keep i k).length ≤ k * 1000 := flat_len _ _ _ fun j => Nat.le_trans (celR_len a keep i j) hl
  have e := loop18_2 call fuel b c a hl keep hk i k hi hkk (o ++ rowR a keep i k) (by rw [List.length_append]; omega) fuel hf2
  have hs : o ++ rowR a keep i (k + 1) = o ++ rowR a keep i k ++ celR a keep i k := by
    unfold rowR; rw [flat_succ, List.append_assoc]
  rw [hs]
  simp [hkk]
  rw [e _ (by simp)]
  simp [hw]

theorem loop18_0 (call : Oracle) (fuel : Nat) (b c : Bool) (a : List (Int × Int)) (hl : a.length ≤ 1000) (keep : List Int) (hk : keep.length ≤ 1000) (hf : 1000 < fuel) (st : St)
    (h0 : drops st h18_0 = L18_0 (.ro (sa b a)) (.ro (si c keep)) (.own (sao [])) (ii 0)) :
    run.loopN (run call fuel b18_0) fuel st = some (.ex 0, X18_0 (.own (sao (allR a keep keep.length)))) := by
  refine loop_cnt call fuel h18_0 _ keep.length (fun i => L18_0 (.ro (sa b a)) (.ro (si c keep)) (.own (sao (allR a keep i))) (ii i)) _ (by simp) ?_ (by simp) fuel st h0 (by omega)
  intro i hi
  have hw := wrap_succ (i := i) (by omega)
  have hlen : (allR a keep i).length ≤ i * 1000000 := flat_len _ _ _ fun j => by
    have : (rowR a keep j keep.length).length ≤ keep.length * 1000 := flat_len _ _ _ fun j' => Nat.le_trans (celR_len a keep j j') hl
    omega
  have e := loop18_1 call fuel b c a hl keep hk i hi (allR a keep i) (by omega) fuel hf hf
  have hs : allR a keep (i + 1) = allR a keep i ++ rowR a keep i keep.length := flat_succ _ _
  rw [hs]
  simp [hi]
  rw [e _ (by simp)]
  simp [hw]

def indR (n : Int) (a : List (Int × Int)) (keep : List Int) : D :=
  if validB n a && !(List.range keep.length).any (fun i => !okL keep 0 (n - 1) i) then .nd .tu [sao (allR a keep keep.length), .v (.int .i64 0)]
  else .nd .tu [sa true [], .v (.int .i64 1)]

theorem f18 (call : Oracle) (fuel : Nat) (hf : 1000 < fuel) (b c : Bool) (n : Int) (a : List (Int × Int)) (hl : a.length ≤ 1000) (keep : List Int) (hk : keep.length ≤ 1000)
    (h21 : call 21 [.v (.int .i64 n), sa b a] = some (.v (.bool (validB n a))))
    (h32 : ∀ hi, call 32 [si c keep, .v (.int .i64 0), .v (.int .i64 hi)] = some (.v (.bool (!(List.range keep.length).any (fun i => !okL keep 0 hi i))))) :
    callF call fuel c18 [.v (.int .i64 n), sa b a, si c keep] = some (indR n a keep) := by
  rw [callF_tab call fuel c18 12 _ (by exact Nat.le_of_ble_eq_true rfl) (by exact Nat.le_of_ble_eq_true rfl)]
  by_cases hv : validB n a = true
  · obtain ⟨k, rfl, hk2, ha, hp⟩ := valid_nat hv
    have e0 := loop18_0 call fuel b c a hl keep hk hf
    have hw : IntKind.i64.wrap ((k : Int) - 1) = (k : Int) - 1 := wrap_eq (by unfold I64; omega)
    have e2 := h32 ((k : Int) - 1)
    rw [hv] at h21
    unfold indR
    rw [hv]
    cases hc : (List.range keep.length).any (fun i => !okL keep 0 ((k : Int) - 1) i)
    · rw [hc] at e2
      simp [c18, h21, hw, e2]
      rw [e0 _ (by simp; rfl)]
      simp
    · rw [hc] at e2
      simp [c18, h21, hw, e2]
      rfl
  · have hv' : validB n a = false := by simpa using hv
    rw [hv'] at h21
    simp [c18, h21, indR, hv']
    rfl

end Go.Mx
