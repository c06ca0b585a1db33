import Derived.Test.YtgbikojcpfdbiaaDoorPdH
/-
  Posets behind the door: the law on closures of closures and reductions.
-/
namespace Go.Mx
set_option linter.unusedVariables false
set_option linter.unusedSimpArgs false
set_option linter.unusedSectionVars false
open Go

@[simp] theorem A_slP (r : Nat) (p : List Nat) (lo hi : Option Nat) (b : Bool) (l : List (Int × Int)) : slP r p 2 lo hi (gsl eA b l) = if lo.getD 0 ≤ hi.getD l.length ∧ hi.getD l.length ≤ l.length then some (if b then .ro (.nd (.sl true 2 0) []) else .sub r p (lo.getD 0 * 2) 2 (hi.getD l.length - lo.getD 0)) else none := slP_ge eA r p lo hi b l
@[simp] theorem A_subD (i n : Nat) (l : List (Int × Int)) : subD (i * 2) 2 n (gsl eA false l) = if i + n ≤ l.length then some (gsl eA false ((l.drop i).take n)) else none := subD_ge eA i n l
@[simp] theorem A_subD0 (n : Nat) (l : List (Int × Int)) : subD 0 2 n (gsl eA false l) = if n ≤ l.length then some (gsl eA false (l.take n)) else none := by
  have := subD_ge eA 0 n l
  rw [Nat.zero_mul, Nat.zero_add, List.drop_zero] at this
  exact this
@[simp] theorem A_apZ (b : Bool) (l : List (Int × Int)) : apZ 2 (gsl eA b l) = if l.length ≤ most then some (.own (gsl eA false l)) else none := apZ_ge eA b l (sc_A l)
theorem f4x (call : Oracle) (fuel : Nat) (b : Bool) (n : Int) (a : List (Int × Int)) (at' : Nat) (h5 : call 5 [] = some (.v (.bool true))) (h6 : call 6 [sa b a] = some (.v (.bool false))) :
    callF call fuel c4 [nI n, sa b a, .v (.int .u8 (at' : Int))] = some (.v (.bool true)) := by
  rw [callF_tab call fuel c4 106 _ (by exact Nat.le_of_ble_eq_true rfl) (by exact Nat.le_of_ble_eq_true rfl)]
  simp [c4, h5, h6]
theorem f4i (call : Oracle) (fuel : Nat) (b : Bool) (n : Int) (a : List (Int × Int)) (at' : Nat) (h5 : call 5 [] = some (.v (.bool true))) (h6 : call 6 [sa b a] = some (.v (.bool true)))
    (h7 : call 7 [nI n, sa b a] = some (.nd .tu [saE [], nI 1])) (h12 : call 12 [nI n, sa b a] = some (.v (.bool false))) :
    callF call fuel c4 [nI n, sa b a, .v (.int .u8 (at' : Int))] = some (.v (.bool true)) := by
  rw [callF_tab call fuel c4 106 _ (by exact Nat.le_of_ble_eq_true rfl) (by exact Nat.le_of_ble_eq_true rfl)]
  simp [c4, h5, h6, h7, h12]
theorem f4c (call : Oracle) (fuel : Nat) (b : Bool) (n : Int) (a : List (Int × Int)) (at' : Nat) (h5 : call 5 [] = some (.v (.bool true))) (h6 : call 6 [sa b a] = some (.v (.bool true))) (C : List (Int × Int))
    (h7 : call 7 [nI n, sa b a] = some (.nd .tu [saE C, nI 0])) (h7' : call 7 [nI n, saE C] = some (.nd .tu [saE C, nI 0])) (h11 : call 11 [saE C, saE C] = some (.v (.bool true)))
    (h8 : call 8 [nI n, sa b a] = some (.nd .tu [saE [], nI 11])) (h13 : call 13 [nI n, sa b a] = some (.v (.bool false))) :
    callF call fuel c4 [nI n, sa b a, .v (.int .u8 (at' : Int))] = some (.v (.bool true)) := by
  rw [callF_tab call fuel c4 106 _ (by exact Nat.le_of_ble_eq_true rfl) (by exact Nat.le_of_ble_eq_true rfl)]
  simp [c4, h5, h6, h7, h7', h11, h8, h13]
theorem f4e (call : Oracle) (fuel : Nat) (b : Bool) (n : Int) (a : List (Int × Int)) (at' : Nat) (h5 : call 5 [] = some (.v (.bool true))) (h6 : call 6 [sa b a] = some (.v (.bool true)))
    (h7 : call 7 [nI n, sa b a] = some (.nd .tu [sa true [], nI 0])) (h7' : call 7 [nI n, sa true []] = some (.nd .tu [sa true [], nI 0])) (h11 : call 11 [sa true [], sa true []] = some (.v (.bool true)))
    (h8 : call 8 [nI n, sa b a] = some (.nd .tu [sa true [], nI 0])) :
    callF call fuel c4 [nI n, sa b a, .v (.int .u8 (at' : Int))] = some (.v (.bool true)) := by
  rw [callF_tab call fuel c4 106 _ (by exact Nat.le_of_ble_eq_true rfl) (by exact Nat.le_of_ble_eq_true rfl)]
  simp [c4, h5, h6, h7, h7', h11, h8]
theorem f4 (call : Oracle) (fuel : Nat) (b : Bool) (n : Int) (a : List (Int × Int)) (at' : Nat) (hat : at' < 256) (h5 : call 5 [] = some (.v (.bool true))) (h6 : call 6 [sa b a] = some (.v (.bool true))) (C R E : List (Int × Int)) (hRl : R.length ≤ 600) (hRn : ¬ R = [])
    (h7 : call 7 [nI n, sa b a] = some (.nd .tu [saE C, nI 0])) (h7' : call 7 [nI n, saE C] = some (.nd .tu [saE C, nI 0])) (h11 : call 11 [saE C, saE C] = some (.v (.bool true)))
    (h8 : call 8 [nI n, sa b a] = some (.nd .tu [sa false R, nI 0])) (h7r : call 7 [nI n, sa false R] = some (.nd .tu [saE C, nI 0]))
    (h7e : ∀ c, call 7 [nI n, sa c (R.take (at' % R.length) ++ R.drop (at' % R.length + 1))] = some (.nd .tu [saE E, nI 0])) (h11' : call 11 [saE C, saE E] = some (.v (.bool false))) :
    callF call fuel c4 [nI n, sa b a, .v (.int .u8 (at' : Int))] = some (.v (.bool true)) := by
  have hp : 0 < R.length := List.length_pos_iff.2 hRn
  have w1 : IntKind.i64.wrap (at' : Int) = (at' : Int) := wrap_eq (by unfold I64; omega)
  have w2 : (at' : Int).tmod (R.length : Int) = ((at' % R.length : Nat) : Int) := by rw [Int.tmod_eq_emod_of_nonneg (by omega)]; rfl
  have hk : at' % R.length < R.length := Nat.mod_lt _ hp
  generalize at' % R.length = k at *
  have w3 := wrap_succ (i := k) (by omega)
  have hk' : k ≤ R.length := by omega
  have hnz : ¬ (R.length : Int) = 0 := by omega
  have m1 : k ≤ most := by unfold most; omega
  have m2 : k + (R.length - (k + 1)) ≤ most := by unfold most; omega
  have nk : natOf ((k : Int) + 1) = some (k + 1) := by unfold natOf; rw [if_pos (by omega)]; congr 1
  rw [callF_tab call fuel c4 106 _ (by exact Nat.le_of_ble_eq_true rfl) (by exact Nat.le_of_ble_eq_true rfl)]
  have hap : apD 2 (R.length - (k + 1)) (gk eA (R.drop (k + 1))) (gsl eA false (R.take k)) = some (gsl eA false (R.take k ++ R.drop (k + 1))) := by
    have := A_apD false (R.take k) (R.drop (k + 1))
    rw [List.length_drop, List.length_take, if_pos (by unfold most; omega)] at this
    exact this
  have d1 : k + 1 + (R.length - (k + 1)) ≤ R.length := by omega
  have d2 : k + 1 ≤ R.length := hk
  have d3 : (R.drop (k + 1)).take (R.length - (k + 1)) = R.drop (k + 1) := by rw [List.take_of_length_le]; rw [List.length_drop]; omega
  simp [c4, h5, h6, h7, h7', h11, h8, h7r, hRn, hnz, w1, w2, w3, hk, hk', m1, m2, nk, hap, d1, d2, d3, h7e, h11']
theorem saE_ne {l : List (Int × Int)} (h : ¬ l = []) : saE l = sa false l := by
  have : (l.length == 0) = false := by
    rw [beq_eq_false_iff_ne]
    exact fun h2 => h (List.length_eq_zero_iff.1 h2)
  unfold saE
  rw [this]
theorem law4 (b : Bool) (n : Int) (a : List (Int × Int)) (at' : Nat) (hat : at' < 256) : S 11 4 [nI n, sa b a, .v (.int .u8 (at' : Int))] = some (.v (.bool true)) := by
  rw [S, semB_succ (mf := c4) rfl]
  have h6 := s6 9 b a
  by_cases hl : a.length ≤ 150
  · rw [decide_eq_true hl] at h6
    have h7 := s7 7 b n a (by omega)
    have h8 := s8 6 b n a (by omega)
    have h12 := s12 9 b n a (by omega)
    have h13 := s13 7 b n a (by omega)
    have self : ∀ l : List (Int × Int), l.length ≤ 600 → S 10 11 [saE l, saE l] = some (.v (.bool true)) := fun l h => by
      have := s11 9 (l.length == 0) (l.length == 0) l l (by omega)
      simpa using this
    by_cases hv : validB n a = true
    · have hn := va_24 hv
      have hcl : ∀ (c : Bool) (x : List (Int × Int)), x.length ≤ 600 → validB n x = true → S 10 7 [nI n, sa c x] = some (.nd .tu [saE (cloL n x), nI 0]) := fun c x hx hxv => by
        have := s7 7 c n x (by omega)
        unfold clD at this
        rwa [if_pos hxv] at this
      have hC := cl_len n hn (pL (rea n a))
      have k7 := hcl b a (by omega) hv
      have k7' := hcl ((cloL n a).length == 0) (cloL n a) hC (cl_valid hv)
      rw [cl_closed hv] at k7'
      have k11 := self (cloL n a) hC
      unfold rdD at h8
      rw [if_pos hv] at h8
      by_cases hac : acyB n a = true
      · rw [if_pos hac] at h8
        have hR := cl_len n hn (pR (rea n a) n.toNat)
        by_cases hRn : reL n a = []
        · have hCn := rd_nil hv hac hRn
          rw [hCn] at k7 k7' k11
          rw [show arcL n.toNat (pR (rea n a) n.toNat) = [] from hRn] at h8
          exact f4e _ _ b n a at' awake_ok h6 k7 k7' k11 h8
        · have k7r := hcl ((reL n a).length == 0) (reL n a) hR (rd_valid hv hac)
          rw [rd_closed hv hac] at k7r
          have hp : 0 < (reL n a).length := List.length_pos_iff.2 hRn
          have hk : at' % (reL n a).length < (reL n a).length := Nat.mod_lt _ hp
          obtain ⟨g1, g2⟩ := rd_less hv hac _ hk
          have hle : ((reL n a).take (at' % (reL n a).length) ++ (reL n a).drop (at' % (reL n a).length + 1)).length ≤ 600 := by
            rw [List.length_append, List.length_take, List.length_drop]
            have : (reL n a).length ≤ 600 := hR
            omega
          have k7e := fun c => hcl c _ hle g1
          have hE := cl_len n hn (pL (rea n ((reL n a).take (at' % (reL n a).length) ++ (reL n a).drop (at' % (reL n a).length + 1))))
          have k11' := s11 9 ((cloL n a).length == 0) ((cloL n ((reL n a).take (at' % (reL n a).length) ++ (reL n a).drop (at' % (reL n a).length + 1))).length == 0) (cloL n a) (cloL n ((reL n a).take (at' % (reL n a).length) ++ (reL n a).drop (at' % (reL n a).length + 1))) (by have : (cloL n a).length ≤ 600 := hC; omega)
          rw [beq_eq_false_iff_ne.2 fun h => g2 h.symm] at k11'
          rw [show saE (arcL n.toNat (pR (rea n a) n.toNat)) = sa false (reL n a) from saE_ne hRn] at h8
          rw [show sa ((reL n a).length == 0) (reL n a) = sa false (reL n a) from saE_ne hRn] at k7r
          exact f4 _ _ b n a at' hat awake_ok h6 (cloL n a) (reL n a) _ hR hRn k7 k7' k11 h8 k7r k7e k11'
      · rw [if_neg hac] at h8
        rw [show acyB n a = false by simpa using hac] at h13
        exact f4c _ _ b n a at' awake_ok h6 (cloL n a) k7 k7' k11 h8 h13
    · unfold clD at h7
      rw [if_neg hv] at h7
      rw [show validB n a = false by simpa using hv] at h12
      exact f4i _ _ b n a at' awake_ok h6 h7 h12
  · rw [decide_eq_false hl] at h6
    exact f4x _ _ b n a at' awake_ok h6
theorem wf_nat {k : IntKind} {n : Int} (h : (Lit.int k n).wf = true) (hk : k.signed = false) : ∃ m : Nat, n = (m : Int) ∧ m < 2 ^ k.bits := by
  simp [Lit.wf, IntKind.min, IntKind.max, hk] at h
  refine ⟨n.toNat, by omega, ?_⟩
  have h1 : ((n.toNat : Nat) : Int) = n := by omega
  have h2 : n < ((2 ^ k.bits : Nat) : Int) := by
    rw [Int.natCast_pow]
    show n < (2 : Int) ^ k.bits
    omega
  omega
end Go.Mx
