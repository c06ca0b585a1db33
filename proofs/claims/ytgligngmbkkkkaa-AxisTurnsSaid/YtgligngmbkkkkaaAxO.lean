import Derived.Test.YtgligngmbkkkkaaAxN
/-
  The axis: turning all hours.
-/
namespace Go.Mx
set_option linter.unusedVariables false
set_option linter.unusedSimpArgs false
set_option linter.unusedSectionVars false
open Go

/-- A turn by r hours. -/
structure Turn (l l' : List Int) (r : Nat) : Prop where
  lt : r < 12
  eq : l' = l.map fun x => (((x.toNat + r) % 12 : Nat) : Int)
  hours : ∀ x ∈ l, hourB x = true

theorem fin_t1 : ∀ x r : Fin 12, modZ (IntKind.i64.wrap ((x.val : Int) + (r.val : Int))) 12 = (((x.val + r.val) % 12 : Nat) : Int) := by decide +kernel

theorem mod12_nat (n : Int) : ∃ r : Nat, r < 12 ∧ modZ n 12 = (r : Int) := by
  obtain ⟨i, hi⟩ := hour_fin (mod12 n)
  exact ⟨i.val, i.isLt, hi⟩

theorem turn_of {l : List Int} (h : checkZ l = 0) {n : Int} {r : Nat} (hr : r < 12) (hm : modZ n 12 = (r : Int)) : Turn l (l.map fun x => turnZ x n) r := by
  have hh := (checkZ_len h).2
  refine ⟨hr, ?_, hh⟩
  refine List.map_congr_left fun x hx => ?_
  rw [turn_rturn (hh x hx) n]
  unfold rturn
  rw [hm]
  obtain ⟨i, rfl⟩ := hour_fin (hh x hx)
  exact fin_t1 i ⟨r, hr⟩

theorem Turn.hours' {l l' : List Int} {r : Nat} (t : Turn l l' r) : ∀ x ∈ l', hourB x = true := by
  intro x hx
  rw [t.eq] at hx
  obtain ⟨y, _, rfl⟩ := List.mem_map.1 hx
  exact hour_nat (Nat.mod_lt _ (by omega))

theorem Turn.len {l l' : List Int} {r : Nat} (t : Turn l l' r) : l'.length = l.length := by rw [t.eq, List.length_map]

theorem Turn.check {l l' : List Int} {r : Nat} (t : Turn l l' r) (h : checkZ l = 0) : checkZ l' = 0 := by
  have h1 := (checkZ_len h).1
  unfold checkZ
  rw [if_neg (by rw [t.len]; omega), if_pos (List.all_eq_true.2 t.hours')]

theorem Turn.filled {l l' : List Int} {r : Nat} (t : Turn l l' r) (h : checkZ l = 0) : filledZ l' = filledZ l := by
  unfold filledZ
  rw [t.check h, h, t.len]

/-- What is counted of a turned list is counted of the list. -/
theorem Turn.countP {l l' : List Int} {r : Nat} (t : Turn l l' r) {p p' : Int → Bool} (h : ∀ a : Fin 12, p' (((a.val + r) % 12 : Nat) : Int) = p (a.val : Int)) : l'.countP p' = l.countP p := by
  rw [t.eq, List.countP_map]
  apply List.countP_congr
  intro x hx
  obtain ⟨i, rfl⟩ := hour_fin (t.hours x hx)
  have := h i
  simp only [Function.comp, Int.toNat_natCast, this]

theorem fin_t2 : ∀ x r f : Fin 12, turnZ (((x.val + r.val) % 12 : Nat) : Int) (IntKind.i64.wrap (-(((f.val + r.val) % 12 : Nat) : Int))) = turnZ x.val (IntKind.i64.wrap (-(f.val : Int))) := by decide +kernel
theorem fin_t3 : ∀ x r h : Fin 12, distZ (((h.val + r.val) % 12 : Nat) : Int) (((x.val + r.val) % 12 : Nat) : Int) = distZ h.val x.val := by decide +kernel

theorem Turn.within {l l' : List Int} {r : Nat} (t : Turn l l' r) {f : Nat} (hf : f < 12) (n : Int) : l'.countP (withinP (((f + r) % 12 : Nat) : Int) n) = l.countP (withinP (f : Int) n) := by
  apply t.countP
  intro a
  have := fin_t2 a ⟨r, t.lt⟩ ⟨f, hf⟩
  simp only at this
  simp only [withinP, this]

theorem back12 {f r : Nat} (hf : f < 12) (hr : r < 12) : ((f + 12 - r) % 12 + r) % 12 = f := by omega

theorem Turn.within' {l l' : List Int} {r : Nat} (t : Turn l l' r) {f : Nat} (hf : f < 12) (n : Int) : l'.countP (withinP (f : Int) n) = l.countP (withinP (((f + 12 - r) % 12 : Nat) : Int) n) := by
  have := t.within (f := (f + 12 - r) % 12) (Nat.mod_lt _ (by omega)) n
  rwa [back12 hf t.lt] at this

theorem Turn.arc {l l' : List Int} {r : Nat} (t : Turn l l' r) {F K F' K' : Nat} (o : ArcOK l F K) (o' : ArcOK l' F' K') : K = K' := by
  have h1 : ¬ K < K' := fun h => by
    refine o'.less K o.k1 h ((F + r) % 12) (Nat.mod_lt _ (by omega)) ?_
    rw [t.within o.f, o.all, t.len]
  have h2 : ¬ K' < K := fun h => by
    refine o.less K' o'.k1 h ((F' + 12 - r) % 12) (Nat.mod_lt _ (by omega)) ?_
    rw [← t.within' o'.f, o'.all, t.len]
  omega

theorem Turn.sum {l l' : List Int} {r : Nat} (t : Turn l l' r) {h : Nat} (hh : h < 12) : sumD (distZ (((h + r) % 12 : Nat) : Int)) l' = sumD (distZ (h : Int)) l := by
  unfold sumD
  rw [t.eq, List.map_map]
  congr 1
  refine List.map_congr_left fun x hx => ?_
  obtain ⟨i, rfl⟩ := hour_fin (t.hours x hx)
  have := fin_t3 i ⟨r, t.lt⟩ ⟨h, hh⟩
  simpa [Function.comp] using this

theorem Turn.med {l l' : List Int} {r : Nat} (t : Turn l l' r) {B B' : Nat} {M M' : Int} (o : MedOK (fun h => sumD (distZ (h : Nat)) l) B M) (o' : MedOK (fun h => sumD (distZ (h : Nat)) l') B' M') : M = M' := by
  have h1 : M' ≤ M := by
    have e1 := o'.le ((B + r) % 12) (Nat.mod_lt _ (by omega))
    have e2 := t.sum o.lt
    have e3 := o.val
    (try simp only at e1 e3)
    rw [e2] at e1
    omega
  have h2 : M ≤ M' := by
    have e1 := o.le ((B' + 12 - r) % 12) (Nat.mod_lt _ (by omega))
    have e2 := t.sum (h := (B' + 12 - r) % 12) (Nat.mod_lt _ (by omega))
    rw [back12 o'.lt t.lt] at e2
    have e3 := o'.val
    (try simp only at e1 e3)
    rw [← e2] at e1
    omega
  omega

theorem Turn.den {l l' : List Int} {r : Nat} (t : Turn l l' r) {k : Int} {B B' M M' : Nat} (o : DenOK (fun f => l.countP (withinP (f : Nat) k)) B M) (o' : DenOK (fun f => l'.countP (withinP (f : Nat) k)) B' M') : M = M' := by
  have h1 : M ≤ M' := by
    rcases o.val with h | ⟨j, hj, h⟩
    · omega
    · have := o'.le ((j + r) % 12) (Nat.mod_lt _ (by omega))
      (try simp only at this)
      rw [t.within hj] at this
      omega
  have h2 : M' ≤ M := by
    rcases o'.val with h | ⟨j, hj, h⟩
    · omega
    · have := o.le ((j + 12 - r) % 12) (Nat.mod_lt _ (by omega))
      (try simp only at this)
      rw [← t.within' hj] at this
      omega
  omega

theorem Turn.near {l l' : List Int} {r : Nat} (t : Turn l l' r) (tol : Int) {h : Nat} (hh : h < 12) : nearB l' tol ((h + r) % 12) = nearB l tol h := by
  unfold nearB
  rw [t.eq, List.all_map, Bool.eq_iff_iff, List.all_eq_true, List.all_eq_true]
  refine forall_congr' fun x => forall_congr' fun hx => ?_
  obtain ⟨i, rfl⟩ := hour_fin (t.hours x hx)
  have := fin_t3 i ⟨r, t.lt⟩ ⟨h, hh⟩
  simp only [Function.comp, Int.toNat_natCast, decide_eq_true_eq]
  simp only at this
  rw [this]

theorem find_iff (p : Nat → Bool) : (findFrom p 0 12).isSome = true ↔ ∃ h, h < 12 ∧ p h = true := by
  constructor
  · intro hs
    obtain ⟨h, hf⟩ := Option.isSome_iff_exists.1 hs
    obtain ⟨_, h2, h3⟩ := findFrom_some hf
    exact ⟨h, by omega, h3⟩
  · rintro ⟨h, h1, h2⟩
    cases hq : findFrom p 0 12 with
    | some f => rfl
    | none =>
      have := findFrom_none hq h (by omega) (by omega)
      rw [h2] at this; cases this

theorem Turn.fix {l l' : List Int} {r : Nat} (t : Turn l l' r) (hc : checkZ l = 0) (tol : Int) : fixB l' tol = fixB l tol := by
  unfold fixB
  rw [t.filled hc]
  congr 1
  rw [Bool.eq_iff_iff, find_iff, find_iff]
  constructor
  · rintro ⟨h, h1, h2⟩
    refine ⟨(h + 12 - r) % 12, Nat.mod_lt _ (by omega), ?_⟩
    rw [← t.near tol (Nat.mod_lt _ (by omega)), back12 h1 t.lt]
    exact h2
  · rintro ⟨h, h1, h2⟩
    exact ⟨(h + r) % 12, Nat.mod_lt _ (by omega), by rw [t.near tol h1]; exact h2⟩

theorem fin_t4 : ∀ a r o : Fin 12, ((((a.val + r.val) % 12 : Nat) : Int) == (((o.val + r.val) % 12 : Nat) : Int)) = ((a.val : Int) == (o.val : Int)) := by decide +kernel

theorem Turn.cnt {l l' : List Int} {r : Nat} (t : Turn l l' r) {o : Nat} (ho : o < 12) : (l'.countP fun x => x == (((o + r) % 12 : Nat) : Int)) = l.countP fun x => x == (o : Int) :=
  t.countP fun a => fin_t4 a ⟨r, t.lt⟩ ⟨o, ho⟩

theorem fin_t5 : ∀ a r : Fin 12, turnZ (((a.val + r.val) % 12 : Nat) : Int) (IntKind.i64.wrap (-(r.val : Int))) = (a.val : Int) := by decide +kernel

theorem Turn.back {l l' : List Int} {r : Nat} (t : Turn l l' r) : (l'.map fun x => turnZ x (IntKind.i64.wrap (-(r : Int)))) = l := by
  rw [t.eq, List.map_map]
  conv => rhs; rw [← List.map_id l]
  refine List.map_congr_left fun x hx => ?_
  obtain ⟨i, rfl⟩ := hour_fin (t.hours x hx)
  have := fin_t5 i ⟨r, t.lt⟩
  simpa [Function.comp] using this

/-! ### the answers' sizes -/
theorem arc_pair {l l' : List Int} {r : Nat} (t : Turn l l' r) (hc : checkZ l = 0) : ∃ a a' k e : Int, arcD (filledZ l) (fun n f => decide (l.countP (withinP (f : Nat) (n : Nat)) = l.length)) = tri a k e ∧
    arcD (filledZ l') (fun n f => decide (l'.countP (withinP (f : Nat) (n : Nat)) = l'.length)) = tri a' k e := by
  by_cases h : filledZ l = 0
  · obtain ⟨F, K, h1, o⟩ := arc_ok t.hours h
    obtain ⟨F', K', h1', o'⟩ := arc_ok t.hours' (by rw [t.filled hc]; exact h)
    have := t.arc o o'
    subst this
    exact ⟨_, _, _, _, h1, h1'⟩
  · refine ⟨0, 0, 0, filledZ l, ?_, ?_⟩
    · unfold arcD; rw [if_neg h]
    · unfold arcD; rw [t.filled hc, if_neg h]

theorem med_pair {l l' : List Int} {r : Nat} (t : Turn l l' r) (hc : checkZ l = 0) : ∃ a a' k e : Int, medD (filledZ l) (fun h => sumD (distZ (h : Nat)) l) = tri a k e ∧ medD (filledZ l') (fun h => sumD (distZ (h : Nat)) l') = tri a' k e := by
  by_cases h : filledZ l = 0
  · obtain ⟨B, M, h1, o⟩ := med_ok (fun h => sumD (distZ (h : Nat)) l) (fun j hj => (sumD_range _ l fun y hy => dist_range (hour_nat hj) (t.hours y hy)).1)
    obtain ⟨B', M', h1', o'⟩ := med_ok (fun h => sumD (distZ (h : Nat)) l') (fun j hj => (sumD_range _ l' fun y hy => dist_range (hour_nat hj) (t.hours' y hy)).1)
    have := t.med o o'
    subst this
    refine ⟨(B : Nat), (B' : Nat), M, 0, ?_, ?_⟩
    · unfold medD; rw [if_pos h, h1]
    · unfold medD; rw [t.filled hc, if_pos h, h1']
  · refine ⟨0, 0, 0, filledZ l, ?_, ?_⟩
    · unfold medD; rw [if_neg h]
    · unfold medD; rw [t.filled hc, if_neg h]

theorem den_pair {l l' : List Int} {r : Nat} (t : Turn l l' r) (hc : checkZ l = 0) (k : Int) : ∃ a a' m e : Int, denD l k (fun f => l.countP (withinP (f : Nat) k)) = tri a m e ∧ denD l' k (fun f => l'.countP (withinP (f : Nat) k)) = tri a' m e := by
  by_cases hk : 1 ≤ k ∧ k ≤ 12
  · have o := den_ok (fun f => l.countP (withinP (f : Nat) k))
    have o' := den_ok (fun f => l'.countP (withinP (f : Nat) k))
    have := t.den o o'
    refine ⟨((denFrom (fun f => l.countP (withinP (f : Nat) k)) 0 12 0 0).1 : Nat), ((denFrom (fun f => l'.countP (withinP (f : Nat) k)) 0 12 0 0).1 : Nat), ((denFrom (fun f => l.countP (withinP (f : Nat) k)) 0 12 0 0).2 : Nat), 0, ?_, ?_⟩
    · unfold denD; rw [if_pos hc, if_pos hk]
    · unfold denD; rw [if_pos (t.check hc), if_pos hk, ← this]
  · refine ⟨0, 0, 0, 2, ?_, ?_⟩
    · unfold denD; rw [if_pos hc, if_neg hk]
    · unfold denD; rw [if_pos (t.check hc), if_neg hk]

end Go.Mx
