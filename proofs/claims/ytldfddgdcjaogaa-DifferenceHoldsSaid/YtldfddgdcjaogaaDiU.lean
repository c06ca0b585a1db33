import Derived.Test.YtldfddgdcjaogaaDiT
/-
  Differences: laws against the reference.
-/
namespace Go.Mx
set_option linter.unusedVariables false
set_option linter.unusedSimpArgs false
set_option linter.unusedSectionVars false
open Go

theorem f3 (call : Oracle) (fuel : Nat) (n : Int) (b : Bool) (l : List (Int × Int × Int)) (x y : Int) (h12 : call 12 [] = some (bV true)) (h13 : call 13 [sd b l] = some (bV (decide (l.length ≤ 90)))) (d : Int) (t : Bool) (e : Int)
    (h14 : l.length ≤ 90 → call 14 [nV n, sd b l, nV x, nV y] = some (tgD d t e)) (h15 : l.length ≤ 90 → call 15 [nV n, sd b l, nV x, nV y] = some (tgD d t e)) (v : Bool) (h16 : call 16 [nV n, sd b l] = some (bV v)) (h17 : l.length ≤ 90 → call 17 [nV n, sd b l] = some (bV v)) :
    callF call fuel c3 [nV n, sd b l, .nd .ag [nV x, nV y]] = some (bV true) := by
  rw [callF_tab call fuel c3 33 _ (by exact Nat.le_of_ble_eq_true rfl) (by exact Nat.le_of_ble_eq_true rfl)]
  by_cases hl : l.length ≤ 90
  · have h14 := h14 hl
    have h15 := h15 hl
    have h17 := h17 hl
    cases t <;> cases v <;> simp [c3, h12, h13, hl, h14, h15, h16, h17]
  · simp [c3, h12, h13, hl]
theorem law3 (n : Int) (b : Bool) (l : List (Int × Int × Int)) (x y : Int) : S 10 3 [nV n, sd b l, .nd .ag [nV x, nV y]] = some (bV true) := by
  rw [S, sem_succ (mf := c3) rfl]
  obtain ⟨d, t, e, ht⟩ := tigI_shape n l x y
  exact f3 _ _ n b l x y (s12 1) (s13 8 b l) d t e (fun h => (s14 2 n b l x y).trans (by rw [ht])) (fun h => (s15 5 n b l (by omega) x y).trans (by rw [ht])) _ (s16 3 n b l) (fun h => s17 6 n b l (by omega))

theorem f4 (call : Oracle) (fuel : Nat) (n : Int) (b : Bool) (l : List (Int × Int × Int)) (h12 : call 12 [] = some (bV true)) (h13 : call 13 [sd b l] = some (bV (decide (l.length ≤ 90)))) (t : Bool) (m : List Int) (e : Int)
    (h18 : l.length ≤ 90 → call 18 [nV n, sd b l] = some (slD (si t m) e)) (h19 : l.length ≤ 90 → call 19 [nV n, sd b l] = some (slD (si t m) e)) (h20 : call 20 [si t m, si t m] = some (bV true)) :
    callF call fuel c4 [nV n, sd b l] = some (bV true) := by
  rw [callF_tab call fuel c4 24 _ (by exact Nat.le_of_ble_eq_true rfl) (by exact Nat.le_of_ble_eq_true rfl)]
  by_cases hl : l.length ≤ 90
  · have h18 := h18 hl
    have h19 := h19 hl
    simp [c4, h12, h13, hl, h18, h19, h20]
  · simp [c4, h12, h13, hl]
theorem law4 (n : Int) (b : Bool) (l : List (Int × Int × Int)) : S 10 4 [nV n, sd b l] = some (bV true) := by
  rw [S, sem_succ (mf := c4) rfl]
  obtain ⟨t, m, e, ht, hm⟩ := solI_shape n l
  exact f4 _ _ n b l (s12 1) (s13 8 b l) t m e (fun h => (s18 2 n b l).trans (by rw [ht])) (fun h => (s19 5 n b l (by omega)).trans (by rw [ht])) ((s20 8 t t m m (by omega)).trans (by simp))

theorem refI_shape (n : Int) (l : List (Int × Int × Int)) : ∃ b m e, refI n l = slD (si b m) e ∧ m.length ≤ 16 := by
  unfold refI
  split
  · rename_i hv
    obtain ⟨n, l, rfl, rfl, h⟩ := valid_vb hv
    rw [nat3_nb]
    show ∃ b m e, srD n l = _ ∧ _
    unfold srD
    cases hf : cF n l with
    | none => exact ⟨_, _, _, rfl, by simp⟩
    | some i =>
      refine ⟨_, _, _, rfl, ?_⟩
      rw [zl_len]
      unfold cF at hf
      have hi := List.mem_range.1 (List.mem_of_find?_eq_some hf)
      have hs := List.find?_some hf
      obtain ⟨s, hs⟩ := Option.isSome_iff_exists.1 hs
      unfold cR
      rw [hs]
      show (cC l s (i + 2)).length ≤ 16
      unfold cS at hs
      have h1 := List.mem_range.1 (List.mem_of_find?_eq_some hs)
      have h2 := List.find?_some hs
      have := (stK_ok h h1 h2 (i + 2 - 1) (Nat.le_refl _)).cnt
      have := h.n16
      unfold cC
      omega
  · exact ⟨_, _, _, rfl, by simp⟩
theorem f5 (call : Oracle) (fuel : Nat) (n : Int) (b : Bool) (l : List (Int × Int × Int)) (h12 : call 12 [] = some (bV true)) (h13 : call 13 [sd b l] = some (bV (decide (l.length ≤ 90)))) (t : Bool) (m : List Int) (e : Int)
    (h21 : l.length ≤ 90 → call 21 [nV n, sd b l] = some (slD (si t m) e)) (h22 : l.length ≤ 90 → call 22 [nV n, sd b l] = some (slD (si t m) e)) (h20 : call 20 [si t m, si t m] = some (bV true)) :
    callF call fuel c5 [nV n, sd b l] = some (bV true) := by
  rw [callF_tab call fuel c5 24 _ (by exact Nat.le_of_ble_eq_true rfl) (by exact Nat.le_of_ble_eq_true rfl)]
  by_cases hl : l.length ≤ 90
  · have h21 := h21 hl
    have h22 := h22 hl
    simp [c5, h12, h13, hl, h21, h22, h20]
  · simp [c5, h12, h13, hl]
theorem law5 (n : Int) (b : Bool) (l : List (Int × Int × Int)) : S 10 5 [nV n, sd b l] = some (bV true) := by
  rw [S, sem_succ (mf := c5) rfl]
  obtain ⟨t, m, e, ht, hm⟩ := refI_shape n l
  exact f5 _ _ n b l (s12 1) (s13 8 b l) t m e (fun h => (s21 2 n b l).trans (by rw [ht])) (fun h => (s22 5 n b l (by omega)).trans (by rw [ht])) ((s20 8 t t m m (by omega)).trans (by simp))

/-- Implied. -/
theorem f25 (call : Oracle) (fuel : Nat) (n : Int) (b : Bool) (l : List (Int × Int × Int)) (c : Int × Int × Int) (v r : Bool) (h16 : call 16 [nV n, sd b l] = some (bV v)) (h37 : call 37 [nV n, bD c] = some (bV r)) (d : Int) (t : Bool) (e : Int)
    (h14 : call 14 [nV n, sd b l, nV c.1, nV c.2.1] = some (tgD d t e)) :
    callF call fuel c25 [nV n, sd b l, bD c] = some (bV (v && r && (decide (e = 0) && t && decide (d ≤ c.2.2)))) := by
  rw [callF_tab call fuel c25 21 _ (by exact Nat.le_of_ble_eq_true rfl) (by exact Nat.le_of_ble_eq_true rfl)]
  cases v with
  | false => simp [c25, h16]
  | true =>
    cases r with
    | false => simp [c25, h16, h37]
    | true =>
      by_cases he : e = 0
      · cases t <;> simp [c25, h16, h37, h14, he]
      · simp [c25, h16, h37, h14, he]
theorem f9 (call : Oracle) (fuel : Nat) (n : Int) (b : Bool) (l : List (Int × Int × Int)) (c : Int × Int × Int) (h12 : call 12 [] = some (bV true)) (h13 : call 13 [sd b l] = some (bV (decide (l.length ≤ 90)))) (d : Int) (t : Bool) (e : Int)
    (h14 : call 14 [nV n, sd b l, nV c.1, nV c.2.1] = some (tgD d t e)) (v : Bool) (h16 : call 16 [nV n, sd false [c]] = some (bV v)) (h25 : call 25 [nV n, sd b l, bD c] = some (bV (v && decide (e = 0) && t && decide (d ≤ c.2.2)))) :
    callF call fuel c9 [nV n, sd b l, bD c] = some (bV true) := by
  rw [callF_tab call fuel c9 20 _ (by exact Nat.le_of_ble_eq_true rfl) (by exact Nat.le_of_ble_eq_true rfl)]
  have hE : T.nd (K.sl false 3 1) [T.v (Value.int .i64 c.1), T.v (Value.int .i64 c.2.1), T.v (Value.int .i64 c.2.2)] = sd false [c] := rfl
  by_cases hl : l.length ≤ 90
  · cases v with
    | false => simp [c9, h12, h13, hl, h14, hE, h16, h25]
    | true =>
      by_cases he : e = 0
      · cases t <;> simp [c9, h12, h13, hl, h14, hE, h16, h25, he]
      · simp [c9, h12, h13, hl, h14, hE, h16, h25, he]
  · simp [c9, h12, h13, hl]
theorem tig_bad {n : Int} {l : List (Int × Int × Int)} (h : validB n l = false) (i j : Int) : tigI n l i j = tgD 0 false 1 := by
  unfold tigI; rw [h]; rfl
theorem s25 (k : Nat) (n : Int) (b : Bool) (l : List (Int × Int × Int)) (c : Int × Int × Int) (d : Int) (t : Bool) (e : Int) (ht : tigI n l c.1 c.2.1 = tgD d t e) :
    S (k + 8) 25 [nV n, sd b l, bD c] = some (bV (validB n l && rightB n c && (decide (e = 0) && t && decide (d ≤ c.2.2)))) := by
  rw [S, sem_succ (mf := c25) rfl]
  exact f25 _ _ n b l c _ _ (s16 (k + 1) n b l) (s37 (k + 5) n c) d t e ((s14 k n b l _ _).trans (by rw [ht]))
theorem law9 (n : Int) (b : Bool) (l : List (Int × Int × Int)) (c : Int × Int × Int) : S 10 9 [nV n, sd b l, bD c] = some (bV true) := by
  rw [S, sem_succ (mf := c9) rfl]
  obtain ⟨d, t, e, ht⟩ := tigI_shape n l c.1 c.2.1
  refine f9 _ _ n b l c (s12 1) (s13 8 b l) d t e ((s14 2 n b l _ _).trans (by rw [ht])) _ (s16 3 n false [c]) ?_
  refine (s25 1 n b l c d t e ht).trans (congrArg (fun q => some (bV q)) ?_)
  cases hv : validB n l with
  | false =>
    rw [tig_bad hv] at ht
    simp only [T.nd.injEq, List.cons.injEq, T.v.injEq, Value.int.injEq, Value.bool.injEq, true_and, and_true] at ht
    obtain ⟨_, _, rfl⟩ := ht
    simp
  | true =>
    have h1 := valid_iff.1 hv
    have : validB n [c] = rightB n c := by
      unfold validB
      have := h1.1
      have := h1.2.1
      simp [*]
    rw [this]
    simp [Bool.and_assoc]

/-! ### Differences: arguments. -/

abbrev tdB : TD := .st [.int .i64, .int .i64, .int .i64]
theorem rd_bound {ds : List D} (h : tdB.rd ds) : ∃ c : Int × Int × Int, ds = [nV c.1, nV c.2.1, nV c.2.2] ∧ I64 c.1 ∧ I64 c.2.1 ∧ I64 c.2.2 := by
  obtain ⟨d1, d2, rfl, ⟨x, hx, rfl⟩, d3, d4, rfl, ⟨y, hy, rfl⟩, d5, d6, rfl, ⟨z, hz, rfl⟩, rfl⟩ := h
  exact ⟨(x, y, z), rfl, wf_i64 hx, wf_i64 hy, wf_i64 hz⟩
theorem rd_pair {ds : List D} (h : (TD.st [.int .i64, .int .i64]).rd ds) : ∃ x y : Int, ds = [nV x, nV y] ∧ I64 x ∧ I64 y := by
  obtain ⟨d1, d2, rfl, ⟨x, hx, rfl⟩, d3, d4, rfl, ⟨y, hy, rfl⟩, rfl⟩ := h
  exact ⟨x, y, rfl, wf_i64 hx, wf_i64 hy⟩
theorem rd_bnds {d : D} (h : (TD.sl tdB).rd [d]) : ∃ b l, d = sd b l ∧ (b = true → l = []) ∧ ∀ c ∈ l, I64 c.1 ∧ I64 c.2.1 ∧ I64 c.2.2 := by
  obtain ⟨b, kss, h1, hb, _, h2⟩ := h
  have : ∀ kss : List (List D), (∀ ks ∈ kss, tdB.rd ks) → ∃ l : List (Int × Int × Int), kss.flatten = gk eD l ∧ l.length = kss.length ∧ ∀ c ∈ l, I64 c.1 ∧ I64 c.2.1 ∧ I64 c.2.2 := by
    intro kss
    induction kss with
    | nil => intro _; exact ⟨[], rfl, rfl, by simp⟩
    | cons ks kss ih =>
      intro h
      obtain ⟨l, e1, e2, e3⟩ := ih fun k hk => h k (List.mem_cons_of_mem _ hk)
      obtain ⟨c, rfl, hc⟩ := rd_bound (h ks (List.mem_cons_self ..))
      refine ⟨c :: l, by rw [List.flatten_cons, e1]; rfl, by simp [e2], ?_⟩
      intro p hp
      rcases List.mem_cons.1 hp with rfl | hp
      · exact hc
      · exact e3 p hp
  obtain ⟨l, e1, e2, e3⟩ := this kss h2
  refine ⟨b, l, ?_, fun h => by rw [hb h] at e2; simpa using e2, e3⟩
  rw [e1, ← e2] at h1
  exact (List.cons.inj h1).1
theorem rd_ints {d : D} (h : (TD.sl (.int .i64)).rd [d]) : ∃ b l, d = si b l ∧ (b = true → l = []) ∧ ∀ x ∈ l, I64 x := by
  obtain ⟨b, kss, h1, hb, _, h2⟩ := h
  have : ∀ kss : List (List D), (∀ ks ∈ kss, (TD.int .i64).rd ks) → ∃ l : List Int, kss.flatten = gk (eI .i64) l ∧ l.length = kss.length ∧ ∀ x ∈ l, I64 x := by
    intro kss
    induction kss with
    | nil => intro _; exact ⟨[], rfl, rfl, by simp⟩
    | cons ks kss ih =>
      intro h
      obtain ⟨l, e1, e2, e3⟩ := ih fun k hk => h k (List.mem_cons_of_mem _ hk)
      obtain ⟨x, hx, rfl⟩ := h ks (List.mem_cons_self ..)
      refine ⟨x :: l, by rw [List.flatten_cons, e1]; rfl, by simp [e2], ?_⟩
      intro p hp
      rcases List.mem_cons.1 hp with rfl | hp
      · exact wf_i64 hx
      · exact e3 p hp
  obtain ⟨l, e1, e2, e3⟩ := this kss h2
  refine ⟨b, l, ?_, fun h => by rw [hb h] at e2; simpa using e2, e3⟩
  rw [e1, ← e2] at h1
  exact (List.cons.inj h1).1
theorem rd_u8s {n : Nat} {ds : List D} (h : (TD.ar n (.int .u8)).rd ds) : ∃ l : List Nat, l.length = n ∧ ds = l.map (fun (x : Nat) => .v (.int .u8 (x : Int))) ∧ ∀ x ∈ l, x < 256 := by
  obtain ⟨dss, rfl, h1, h2⟩ := h
  subst h1
  induction dss with
  | nil => exact ⟨[], rfl, rfl, by simp⟩
  | cons d dss ih =>
    obtain ⟨l, e1, e2, e3⟩ := ih fun k hk => h2 k (List.mem_cons_of_mem _ hk)
    obtain ⟨x, hx, rfl⟩ := h2 d (List.mem_cons_self ..)
    have hx' : 0 ≤ x ∧ x < 256 := by
      simp [Lit.wf, IntKind.min, IntKind.max, IntKind.signed, IntKind.bits] at hx
      omega
    refine ⟨x.toNat :: l, by simp [e1], ?_, ?_⟩
    · rw [List.flatten_cons, e2]
      simp [Int.toNat_of_nonneg hx'.1]
    · intro p hp
      rcases List.mem_cons.1 hp with rfl | hp
      · omega
      · exact e3 p hp

/-! ### Differences: the triangle law. -/

@[simp] theorem natOf_1 : natOf 1 = some 1 := rfl
@[simp] theorem natOf_2 : natOf 2 = some 2 := rfl
theorem tmod_nat (a b : Nat) : (a : Int).tmod (b : Int) = ((a % b : Nat) : Int) := by
  rw [Int.tmod_eq_emod_of_nonneg (by omega)]; rfl
theorem wrapI {n : Int} (h1 : -9223372036854775808 ≤ n) (h2 : n < 9223372036854775808) : IntKind.i64.wrap n = n := wrap_eq ⟨h1, by omega⟩
abbrev u8D (x : Nat) : D := .v (.int .u8 (x : Int))

theorem tigD_in {n : Nat} {l : List Bn} {i j : Nat} (hi : i < n) (hj : j < n) : tigD n l (i : Int) (j : Int) = if bad n l = true then tgD 0 false 10 else tigM n l i j := by
  unfold tigD
  rw [if_neg (by omega)]
  simp
theorem f7 (call : Oracle) (fuel : Nat) (n : Nat) (b : Bool) (l : List Bn) (h : VB n l) (v0 v1 v2 : Nat) (u0 : v0 < 256) (u1 : v1 < 256) (u2 : v2 < 256) (h12 : call 12 [] = some (bV true)) (h13 : call 13 [sd b (nbL l)] = some (bV true))
    (h17 : call 17 [nV n, sd b (nbL l)] = some (bV true)) (h14 : ∀ i j : Nat, i < n → j < n → call 14 [nV n, sd b (nbL l), nV i, nV j] = some (if bad n l = true then tgD 0 false 10 else tigM n l i j)) :
    callF call fuel c7 [nV n, sd b (nbL l), .nd .ag [u8D v0, u8D v1, u8D v2]] = some (bV true) := by
  rw [callF_tab call fuel c7 67 _ (by exact Nat.le_of_ble_eq_true rfl) (by exact Nat.le_of_ble_eq_true rfl)]
  have hn1 := h.n1
  have hn := h.n16
  have hn0 : ¬ n = 0 := by omega
  have e0 : IntKind.i64.wrap (v0 : Int) = (v0 : Int) := wrapI (by omega) (by omega)
  have e1 : IntKind.i64.wrap (v1 : Int) = (v1 : Int) := wrapI (by omega) (by omega)
  have e2 : IntKind.i64.wrap (v2 : Int) = (v2 : Int) := wrapI (by omega) (by omega)
  have t0 := tmod_nat v0 n
  have t1 := tmod_nat v1 n
  have t2 := tmod_nat v2 n
  have hi : v0 % n < n := Nat.mod_lt _ (by omega)
  have hj : v1 % n < n := Nat.mod_lt _ (by omega)
  have hk : v2 % n < n := Nat.mod_lt _ (by omega)
  generalize v0 % n = i at *
  generalize v1 % n = j at *
  generalize v2 % n = k at *
  have a1 := h14 i j hi hj
  have a2 := h14 j k hj hk
  have a3 := h14 i k hi hk
  cases hb : bad n l with
  | true =>
    rw [hb, if_pos rfl] at a1 a2 a3
    simp [c7, h12, h13, h17, hn0, e0, e1, e2, t0, t1, t2, a1, a2, a3]
  | false =>
    rw [hb, if_neg (by simp), tigM_eq] at a1 a2 a3
    have hg := sol_of h.ok hb
    have hc := hg.cl j hj i hi k hk
    have b1 := fwN_bd16 h hn i j
    have b2 := fwN_bd16 h hn j k
    generalize fwN l n i j = p at *
    generalize fwN l n j k = q at *
    generalize fwN l n i k = r at *
    cases p with
    | none => simp [c7, h12, h13, h17, hn0, e0, e1, e2, t0, t1, t2, a1, a2, a3]
    | some p =>
      cases q with
      | none => simp [c7, h12, h13, h17, hn0, e0, e1, e2, t0, t1, t2, a1, a2, a3]
      | some q =>
        have := b1 p rfl
        have := b2 q rfl
        cases r with
        | none => exact absurd hc (by simp [lle, plus])
        | some r =>
          simp at hc
          have e3 : IntKind.i64.wrap (p + q) = p + q := wrapI (by omega) (by omega)
          simp [c7, h12, h13, h17, hn0, e0, e1, e2, t0, t1, t2, a1, a2, a3, e3, hc]
theorem f7e (call : Oracle) (fuel : Nat) (n : Int) (b : Bool) (l : List (Int × Int × Int)) (d : D) (hd : ∃ v0 v1 v2 : Nat, d = .nd .ag [u8D v0, u8D v1, u8D v2]) (h12 : call 12 [] = some (bV true)) (h13 : call 13 [sd b l] = some (bV (decide (l.length ≤ 90))))
    (h17 : l.length ≤ 90 → call 17 [nV n, sd b l] = some (bV false)) :
    callF call fuel c7 [nV n, sd b l, d] = some (bV true) := by
  obtain ⟨v0, v1, v2, rfl⟩ := hd
  rw [callF_tab call fuel c7 67 _ (by exact Nat.le_of_ble_eq_true rfl) (by exact Nat.le_of_ble_eq_true rfl)]
  by_cases hl : l.length ≤ 90
  · have h17 := h17 hl
    simp [c7, h12, h13, hl, h17]
  · simp [c7, h12, h13, hl]
theorem law7 (n : Int) (b : Bool) (l : List (Int × Int × Int)) (v0 v1 v2 : Nat) (u0 : v0 < 256) (u1 : v1 < 256) (u2 : v2 < 256) : S 10 7 [nV n, sd b l, .nd .ag [u8D v0, u8D v1, u8D v2]] = some (bV true) := by
  rw [S, sem_succ (mf := c7) rfl]
  cases hv : validB n l with
  | false => exact f7e _ _ n b l _ ⟨v0, v1, v2, rfl⟩ (s12 1) (s13 8 b l) (fun hl => (s17 6 n b l (by omega)).trans (by rw [hv]))
  | true =>
    have hl := (valid_iff.1 hv).2.2.1
    have h13 := (s13 8 b l).trans (by rw [decide_eq_true (show l.length ≤ 90 by omega)])
    have h17 := (s17 6 n b l (by omega)).trans (by rw [hv])
    obtain ⟨n, l, rfl, rfl, h⟩ := valid_vb hv
    exact f7 _ _ n b l h v0 v1 v2 u0 u1 u2 (s12 1) h13 h17 (fun i j hi hj => (s14 2 n b (nbL l) i j).trans (by rw [tigI_nb h, tigD_in hi hj]))
end Go.Mx
