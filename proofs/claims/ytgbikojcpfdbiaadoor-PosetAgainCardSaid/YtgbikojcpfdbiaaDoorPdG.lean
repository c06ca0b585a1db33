import Derived.Test.YtgbikojcpfdbiaaDoorPdF
/-
  Closures and reductions of valid digraphs (plain).
-/
namespace Go.Mx
set_option linter.unusedVariables false
set_option linter.unusedSimpArgs false
set_option linter.unusedSectionVars false
open Go

section
variable {n : Int} {a : List (Int × Int)} (hv : validB n a = true)
include hv
theorem va_bnd : ∀ i j, (nextG (natA a) i).testBit j = true → i < n.toNat ∧ j < n.toNat := by
  obtain ⟨k, rfl, h1, h2, h3⟩ := valid_nat hv
  intro i j h
  rw [next_bit, List.contains_iff_mem] at h
  rw [Int.toNat_natCast]
  exact ⟨(h3 _ h).1, (h3 _ h).2.1⟩
theorem va_bit (i k : Nat) (h : (rea n a i).testBit k = true) : k < n.toNat := (Rr_lt (va_bnd hv) (i := i) (j := k) h).2
theorem va_24 : n.toNat ≤ 24 := by
  obtain ⟨k, rfl, h1, _⟩ := valid_nat hv
  simpa using h1
theorem va_cast : ((n.toNat : Nat) : Int) = n := by
  obtain ⟨k, rfl, h1, _⟩ := valid_nat hv
  simp
/-- The closure. -/
abbrev cloL (n : Int) (a : List (Int × Int)) : List (Int × Int) := arcL n.toNat (pL (rea n a))
abbrev reL (n : Int) (a : List (Int × Int)) : List (Int × Int) := arcL n.toNat (pR (rea n a) n.toNat)
omit hv in
theorem cl_len (n : Int) (hn : n.toNat ≤ 24) (p : Nat → Nat → Bool) : (arcL n.toNat p).length ≤ 600 := by
  have h1 := arcP_len n.toNat p n.toNat
  have h2 : n.toNat * n.toNat ≤ 24 * 24 := Nat.mul_le_mul hn hn
  unfold arcL
  omega
omit hv in
theorem pL_irr (g : Nat → Nat) (i : Nat) : pL g i i = false := by simp [pL]
theorem cl_valid : validB n (cloL n a) = true := by
  have := arcL_valid (va_24 hv) (p := pL (rea n a)) fun i _ => pL_irr _ i
  rwa [va_cast hv] at this
theorem cl_closed : cloL n (cloL n a) = cloL n a := by
  refine arcL_ext fun i j hi hj => ?_
  unfold pL
  by_cases hij : i = j
  · simp [hij]
  · have hd : decide (i ≠ j) = true := by simpa using hij
    rw [hd, Bool.true_and, Bool.true_and]
    refine Rr_closed (va_bnd hv) (fun i j h => ?_) (fun i j hne h => ?_) hij
    · rw [arcL_bit] at h
      simp only [pL, Bool.and_eq_true] at h
      exact h.2.2
    · obtain ⟨h1, h2⟩ := Rr_lt (va_bnd hv) h
      rw [arcL_bit]
      simp only [pL, Bool.and_eq_true, decide_eq_true_eq]
      exact ⟨⟨h1, h2⟩, hne, h⟩
variable (hac : acyB n a = true)
include hac
theorem ac_irr : ∀ i, i < n.toNat → Rr (nextG (natA a)) n.toNat i i = false := by
  intro i hi
  unfold acyB at hac
  rw [hv, Bool.true_and, Bool.not_eq_true', any_range] at hac
  exact hac i hi
omit hac hv in
theorem pR_red (i j : Nat) : pR (rea n a) n.toNat i j = redB (nextG (natA a)) n.toNat i j := rfl
theorem red_irr (i : Nat) (hi : i < n.toNat) : redB (nextG (natA a)) n.toNat i i = false := by
  unfold redB; rw [ac_irr hv hac i hi]; rfl
/-- Both reductions are one. -/
theorem red_eq : arcL n.toNat (pL (redS (rea n a))) = reL n a := by
  refine arcL_ext fun i j hi hj => ?_
  rw [pR_red]
  unfold pL
  rw [show (redS (rea n a) i).testBit j = redB (nextG (natA a)) n.toNat i j from redS_bit (by have := va_24 hv; omega) (rea_lt hv) (va_bnd hv) i j]
  by_cases hij : i = j
  · subst hij; rw [red_irr hv hac i hi]; simp
  · simp [hij]
theorem rd_valid : validB n (reL n a) = true := by
  have := arcL_valid (va_24 hv) (p := pR (rea n a) n.toNat) fun i hi => by rw [pR_red]; exact red_irr hv hac i hi
  rwa [va_cast hv] at this
theorem rd_reach (i j : Nat) : Rr (nextG (natA (reL n a))) n.toNat i j = Rr (nextG (natA a)) n.toNat i j := by
  refine red_reach (va_bnd hv) (ac_irr hv hac) (fun i j hi hj => ?_) (fun i j h => ?_) i j
  · rw [arcL_bit, pR_red]; simp [hi, hj]
  · rw [arcL_bit] at h
    simp only [Bool.and_eq_true, decide_eq_true_eq] at h
    exact h.1
theorem rd_closed : cloL n (reL n a) = cloL n a := by
  refine arcL_ext fun i j hi hj => ?_
  unfold pL
  rw [show (rea n (reL n a) i).testBit j = (rea n a i).testBit j from rd_reach hv hac i j]
theorem rd_nil (h : reL n a = []) : cloL n a = [] := by
  have h1 := rd_closed hv hac
  rw [h] at h1
  rw [← h1]
  have : ∀ i j, pL (rea n []) i j = false := by
    intro i j
    have hz : Rr (nextG (natA [])) n.toNat i j = false := by
      cases hc : Rr (nextG (natA [])) n.toNat i j with
      | false => rfl
      | true =>
        exact absurd (warr_ind (nextG (natA [])) (fun _ _ => False) (fun i j h => by simp [natA, nextG] at h) (fun _ _ _ h _ => h) n.toNat i j hc) id
    unfold pL
    rw [show (rea n [] i).testBit j = false from hz, Bool.and_false]
  apply List.eq_nil_iff_forall_not_mem.2
  intro x hx
  obtain ⟨i, j, _, _, h3, _⟩ := mem_arcL.1 hx
  rw [this] at h3
  cases h3
/-- Without one arc of the reduction. -/
theorem rd_less (k : Nat) (hk : k < (reL n a).length) : validB n ((reL n a).take k ++ (reL n a).drop (k + 1)) = true ∧ cloL n ((reL n a).take k ++ (reL n a).drop (k + 1)) ≠ cloL n a := by
  have hsplit : reL n a = (reL n a).take k ++ (reL n a)[k] :: (reL n a).drop (k + 1) := by
    rw [← List.drop_eq_getElem_cons hk, List.take_append_drop]
  have hs : (reL n a).Pairwise lexB := arcP_sorted _ _ _
  have hmem : (reL n a)[k] ∈ reL n a := List.getElem_mem hk
  have hx := mem_arcL.1 hmem
  generalize (reL n a)[k] = x at *
  have hsub : ∀ y ∈ (reL n a).take k ++ (reL n a).drop (k + 1), y ∈ reL n a := by
    intro y hy
    rcases List.mem_append.1 hy with hy | hy
    · exact List.mem_of_mem_take hy
    · exact List.mem_of_mem_drop hy
  have hs2 := hs
  rw [hsplit, List.pairwise_append] at hs2
  obtain ⟨p1, p2, p3⟩ := hs2
  obtain ⟨p4, p5⟩ := List.pairwise_cons.1 p2
  have hno : x ∉ (reL n a).take k ++ (reL n a).drop (k + 1) := by
    intro h
    rcases List.mem_append.1 h with h | h
    · exact lexB_irr x (p3 x h x (List.mem_cons_self ..))
    · exact lexB_irr x (p4 x h)
  have hsl : ((reL n a).take k ++ (reL n a).drop (k + 1)).Pairwise lexB := by
    rw [List.pairwise_append]
    exact ⟨p1, p5, fun y hy z hz => p3 y hy z (List.mem_cons_of_mem _ hz)⟩
  have hin : ∀ y ∈ reL n a, ∃ i j, i < n.toNat ∧ j < n.toNat ∧ redB (nextG (natA a)) n.toNat i j = true ∧ y = ((i : Int), (j : Int)) := fun y hy => mem_arcL.1 hy
  generalize hL : (reL n a).take k ++ (reL n a).drop (k + 1) = L at *
  have hLv : validB n L = true := by
    have := valid_of (va_24 hv) (a := L) hsl fun y hy => by
      obtain ⟨i, j, h1, h2, h3, rfl⟩ := hin y (hsub y hy)
      have : i ≠ j := by rintro rfl; rw [red_irr hv hac i h1] at h3; cases h3
      dsimp only
      omega
    rwa [va_cast hv] at this
  refine ⟨hLv, fun he => ?_⟩
  obtain ⟨u, v, hu, hvn, huv, rfl⟩ := hx
  rw [pR_red] at huv
  have hnn : ∀ y ∈ L, 0 ≤ y.1 ∧ 0 ≤ y.2 := fun y hy => by obtain ⟨i, j, _, _, _, rfl⟩ := hin y (hsub y hy); dsimp only; omega
  have hfalse : Rr (nextG (natA L)) n.toNat u v = false := by
    refine red_less (va_bnd hv) (fun i j h => ?_) huv ?_
    · rw [next_bit, List.contains_iff_mem, nat_mem (n := n.toNat) hnn] at h
      obtain ⟨i', j', _, _, h3, e⟩ := hin _ (hsub _ h)
      have e1 : (i : Int) = i' := congrArg Prod.fst e
      have e2 : (j : Int) = j' := congrArg Prod.snd e
      obtain rfl : i = i' := by omega
      obtain rfl : j = j' := by omega
      exact h3
    · rw [next_bit]
      cases hc : (natA L).contains (u, v) with
      | false => rfl
      | true =>
        rw [List.contains_iff_mem, nat_mem (n := n.toNat) hnn] at hc
        exact absurd hc hno
  have huv' : u ≠ v := by rintro rfl; rw [red_irr hv hac u hu] at huv; cases huv
  have h1 : ((u : Int), (v : Int)) ∈ cloL n a := mem_arcL.2 ⟨u, v, hu, hvn, by
    unfold pL
    rw [show (rea n a u).testBit v = true from (red_iff.1 huv).1]
    simpa using huv', rfl⟩
  rw [← he] at h1
  obtain ⟨i, j, _, _, h3, e⟩ := mem_arcL.1 h1
  have e1 : (u : Int) = i := congrArg Prod.fst e
  have e2 : (v : Int) = j := congrArg Prod.snd e
  obtain rfl : u = i := by omega
  obtain rfl : v = j := by omega
  unfold pL at h3
  rw [show (rea n L u).testBit v = false from hfalse, Bool.and_false] at h3
  cases h3
end
end Go.Mx
