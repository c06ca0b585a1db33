import Derived.Test.YtohmmlgnjiolfaaFrG
/-
  Frames: what is made is read back; what is read was made.
-/
namespace Go.Mx
set_option linter.unusedVariables false
set_option linter.unusedSimpArgs false
set_option linter.unusedSectionVars false
open Go

theorem big_succ (x n : Nat) : bigL x (n + 1) = bigL (x / 256) n ++ [x % 256] := by
  unfold bigL
  rw [row_succ]
  congr 1
  · refine row_ext _ fun i hi => ?_
    show bt x (n + 1 - 1 - i) = bt (x / 256) (n - 1 - i)
    obtain ⟨k, hk⟩ : ∃ k, n - 1 - i = k := ⟨_, rfl⟩
    have h1 : n + 1 - 1 - i = k + 1 := by omega
    rw [h1, hk, bt, bt, Nat.pow_succ, Nat.mul_comm, ← Nat.div_div_eq_div_mul]
  · have : n + 1 - 1 - n = 0 := by omega
    rw [this, bt]
    simp
theorem valF_big : ∀ (n x : Nat), valF (bigL x n) = x % 256 ^ n
  | 0, x => by simp [bigL, row, valF, Nat.mod_one]
  | n + 1, x => by
    rw [big_succ, valF_snoc, valF_big n, vaS, Nat.pow_succ, Nat.mul_comm (256 ^ n) 256, Nat.mod_mul]
    omega
theorem big_valF : ∀ (n : Nat) (q : List Nat), q.length = n → By q → bigL (valF q) n = q
  | 0, q, h, _ => by rw [List.length_eq_zero_iff.1 h]; rfl
  | n + 1, q, h, hb => by
    have hne : q ≠ [] := by rintro rfl; simp at h
    have e := List.dropLast_concat_getLast hne
    have hc : q.getLast hne < 256 := hb _ (List.getLast_mem hne)
    have hb' : By q.dropLast := fun x hx => hb x ((List.dropLast_sublist q).subset hx)
    have hl : q.dropLast.length = n := by simp [h]
    have ih := big_valF n q.dropLast hl hb'
    generalize q.getLast hne = c at *
    generalize q.dropLast = p at *
    rw [← e, valF_snoc, big_succ, vaS]
    have h1 : (valF p * 256 + c) / 256 = valF p := by omega
    have h2 : (valF p * 256 + c) % 256 = c := by omega
    rw [h1, h2, ih]

/-- A frame with what comes after. -/
theorem seal_cons (k : Nat) (d r : List Nat) : sealL k d ++ r = 209 :: k :: bt d.length 2 :: bt d.length 1 :: bt d.length 0 :: (d ++ (bigL (adler (bodyL k d)) 4 ++ r)) := by
  have : bodyL k d = 209 :: k :: bt d.length 2 :: bt d.length 1 :: bt d.length 0 :: d := rfl
  simp [sealL, this]
theorem body_cons (k : Nat) (d : List Nat) : bodyL k d = 209 :: k :: bt d.length 2 :: bt d.length 1 :: bt d.length 0 :: d := rfl
theorem len3_cons (a b : Nat) (n : Nat) (m : List Nat) (hn : n ≤ 8192) : len3 (a :: b :: bt n 2 :: bt n 1 :: bt n 0 :: m) = n := by
  have h := valF_big 3 n
  rw [big3] at h
  show valF [bt n 2, bt n 1, bt n 0] = n
  rw [h]
  omega
theorem valF_big4 (l : List Nat) : valF (bigL (adler l) 4) = adler l := by
  rw [valF_big]; exact Nat.mod_eq_of_lt (adler_lt l)

def okD (k : Nat) (d r : List Nat) : D := .nd .tu [.v (.int .u8 (k : Int)), gsl (eI .u8) false (zl d), gsl (eI .u8) false (zl r), errD 0]

theorem open_seal (k : Nat) (d r : List Nat) (hd : d.length ≤ 8192) : opnD (sealL k d ++ r) = okD k d r := by
  rw [seal_cons]
  generalize ha : bigL (adler (bodyL k d)) 4 = q
  have hq : q.length = 4 := by rw [← ha]; simp
  unfold opnD
  rw [len3_cons _ _ _ _ hd]
  rw [if_neg (by simp), if_neg (by simp [nth]), if_neg (by simp), if_neg (by omega), if_neg (by simp; omega)]
  have h1 : List.take 4 (List.drop (d.length + 5) (209 :: k :: bt d.length 2 :: bt d.length 1 :: bt d.length 0 :: (d ++ (q ++ r)))) = q := by
    show List.take 4 (List.drop d.length (d ++ (q ++ r))) = q
    rw [List.drop_left, List.take_left' hq]
  have h2 : List.take (d.length + 5) (209 :: k :: bt d.length 2 :: bt d.length 1 :: bt d.length 0 :: (d ++ (q ++ r))) = bodyL k d := by
    rw [body_cons]; simp
  rw [h1, h2, ← ha, valF_big4, if_neg (by simp), ha]
  unfold okO okD
  have h3 : List.drop (d.length + 9) (209 :: k :: bt d.length 2 :: bt d.length 1 :: bt d.length 0 :: (d ++ (q ++ r))) = r := by
    show List.drop (d.length + 4) (d ++ (q ++ r)) = r
    rw [← List.append_assoc, List.drop_left' (by simp [hq])]
  have h4 : List.take d.length (List.drop 5 (209 :: k :: bt d.length 2 :: bt d.length 1 :: bt d.length 0 :: (d ++ (q ++ r)))) = d := by
    simp
  rw [h3, h4]
  rfl
theorem five {l : List Nat} (h : 5 ≤ l.length) : ∃ a b c d e m, l = a :: b :: c :: d :: e :: m := by
  match l, h with
  | a :: b :: c :: d :: e :: m, _ => exact ⟨a, b, c, d, e, m, rfl⟩

/-- What is read well was made so. -/
theorem seal_open {l : List Nat} (hb : By l) (h0 : nth l 0 0 = 209) (h5 : 5 ≤ l.length) (h9 : len3 l + 9 ≤ l.length)
    (hs : valF ((l.drop (len3 l + 5)).take 4) = adler (l.take (len3 l + 5))) :
    sealL (nth l 0 1) ((l.drop 5).take (len3 l)) ++ l.drop (len3 l + 9) = l := by
  obtain ⟨a, k, x, y, z, m, rfl⟩ := five h5
  have ha : a = 209 := h0
  subst ha
  have hx : By [x, y, z] := by
    intro v hv
    simp at hv
    apply hb
    simp
    rcases hv with h | h | h <;> simp [h]
  have e3 : bigL (len3 (209 :: k :: x :: y :: z :: m)) 3 = [x, y, z] := big_valF 3 [x, y, z] rfl hx
  generalize hn : len3 (209 :: k :: x :: y :: z :: m) = n at *
  have hm : n + 4 ≤ m.length := by simp at h9; omega
  have hd : (m.take n).length = n := by rw [List.length_take]; omega
  have eb : bodyL k (m.take n) = 209 :: k :: x :: y :: z :: m.take n := by
    have : bodyL k (m.take n) = [209, k] ++ bigL (m.take n).length 3 ++ m.take n := rfl
    rw [this, hd, e3]; rfl
  have hs' : valF ((m.drop n).take 4) = adler (209 :: k :: x :: y :: z :: m.take n) := hs
  have hq : ((m.drop n).take 4).length = 4 := by rw [List.length_take, List.length_drop]; omega
  have hbq : By ((m.drop n).take 4) := by
    intro v hv
    apply hb
    have := List.mem_of_mem_drop (List.mem_of_mem_take hv)
    simp [this]
  have eq := big_valF 4 _ hq hbq
  rw [hs', ← eb] at eq
  show sealL k (m.take n) ++ m.drop (n + 4) = _
  rw [sealL, eq, eb]
  show 209 :: k :: x :: y :: z :: (m.take n ++ (m.drop n).take 4 ++ m.drop (n + 4)) = _
  have : (m.drop n).drop 4 = m.drop (n + 4) := List.drop_drop
  rw [List.append_assoc, ← this, List.take_append_drop, List.take_append_drop]

theorem nth_take0 {α : Type} (l : List α) (d : α) {c i : Nat} (h : i < c) : nth (l.take c) d i = nth l d i := by
  simp [nth, List.getElem?_take, h]

/-- Torn. -/
theorem open_torn (k : Nat) (d : List Nat) (hd : d.length ≤ 8192) (c : Nat) (hc : c < d.length + 9) : opnD ((sealL k d).take c) = oE 4 := by
  have e := seal_cons k d []
  rw [List.append_nil, List.append_nil] at e
  have hl : ((sealL k d).take c).length = c := by rw [List.length_take, seal_len]; omega
  unfold opnD
  rw [hl]
  by_cases h0 : c = 0
  · rw [if_pos h0]
  rw [if_neg h0, if_neg (by rw [nth_take0 _ _ (by omega), e]; simp [nth])]
  by_cases h5 : c < 5
  · rw [if_pos h5]
  rw [if_neg h5]
  have h3 : len3 ((sealL k d).take c) = d.length := by
    rw [e]
    obtain ⟨c', rfl⟩ : ∃ c', c = c' + 5 := ⟨c - 5, by omega⟩
    simp only [List.take_succ_cons]
    exact len3_cons _ _ _ _ hd
  rw [h3, if_neg (by omega), if_pos hc]

/-! ### a changed byte -/
theorem adF_fst : ∀ (l : List Nat) (s : Nat × Nat), s.1 < 65521 → (l.foldl adS s).1 = (s.1 + l.sum) % 65521
  | [], s, h => by simp; omega
  | c :: l, s, h => by
    rw [List.foldl_cons, adF_fst l (adS s c) (Nat.mod_lt _ (by decide))]
    show ((s.1 + c) % 65521 + l.sum) % 65521 = _
    rw [List.sum_cons]
    omega
theorem adler_mod (l : List Nat) : adler l % 65536 = (1 + l.sum) % 65521 := by
  have h := adF_fst l (1, 0) (by decide)
  have h2 := adF_lt l
  unfold adler adV
  rw [show (adF l).1 = _ from h] at *
  omega
theorem sum_set : ∀ (l : List Nat) (i v : Nat), i < l.length → (l.set i v).sum + nth l 0 i = l.sum + v
  | [], i, v, h => by simp at h
  | c :: l, 0, v, h => by simp [nth]; omega
  | c :: l, i + 1, v, h => by
    have ih := sum_set l i v (by simpa using h)
    have : nth (c :: l) 0 (i + 1) = nth l 0 i := rfl
    rw [this, List.set_cons_succ, List.sum_cons, List.sum_cons]
    omega
theorem adler_set {l : List Nat} {i v : Nat} (hi : i < l.length) (hv : v < 256) (hl : By l) (hne : v ≠ nth l 0 i) : adler (l.set i v) ≠ adler l := by
  intro h
  have h1 := adler_mod (l.set i v)
  have h2 := adler_mod l
  have h3 := sum_set l i v hi
  have h4 := hl.nth i
  rw [h, h2] at h1
  omega

/-- One byte is changed. -/
theorem open_set (k : Nat) (d : List Nat) (hk : k < 256) (hb : By d) (hd : d.length ≤ 8192) (i v : Nat) (hi : i < d.length + 9) (hv : v < 256) (hne : v ≠ nth (sealL k d) 0 i) (h2 : i < 2 ∨ 5 ≤ i) :
    opnD ((sealL k d).set i v) = if i = 0 then oE 3 else oE 5 := by
  have hB := By.sealL hk hb
  have e := seal_cons k d []
  rw [List.append_nil, List.append_nil] at e
  have hl : ((sealL k d).set i v).length = d.length + 9 := by rw [List.length_set, seal_len]
  by_cases h0 : i = 0
  · subst h0
    rw [if_pos rfl]
    unfold opnD
    rw [hl, if_neg (by omega), if_pos]
    rw [e] at hne ⊢
    simpa [nth] using hne
  rw [if_neg h0]
  have hBl : By (bodyL k d) := By.body hk hb
  generalize hq : bigL (adler (bodyL k d)) 4 = q at e
  have hqb : By q := by rw [← hq]; exact By.big _ _
  have hql : q.length = 4 := by rw [← hq]; simp
  have hqv : valF q = adler (bodyL k d) := by rw [← hq, valF_big4]
  have hS : sealL k d = bodyL k d ++ q := by rw [← hq]; rfl
  have hbl := body_len k d
  -- the head stays
  have hh : ∃ k' m, (sealL k d).set i v = 209 :: k' :: bt d.length 2 :: bt d.length 1 :: bt d.length 0 :: m := by
    rw [e]
    match i, h0, h2 with
    | 1, _, _ => exact ⟨v, _, rfl⟩
    | i + 5, _, _ => exact ⟨k, _, rfl⟩
    | 2, _, h => exact absurd h (by omega)
    | 3, _, h => exact absurd h (by omega)
    | 4, _, h => exact absurd h (by omega)
  obtain ⟨k', m, hm⟩ := hh
  have h3 : len3 ((sealL k d).set i v) = d.length := by rw [hm]; exact len3_cons _ _ _ _ hd
  have hn : nth ((sealL k d).set i v) 0 0 = 209 := by rw [hm]; rfl
  unfold opnD
  rw [hl, h3, if_neg (by omega), if_neg (by rw [hn]; simp), if_neg (by omega), if_neg (by omega), if_neg (by omega), if_pos]
  rw [hS] at hne ⊢
  by_cases hc : i < d.length + 5
  · -- in the body
    have e1 : (bodyL k d ++ q).set i v = (bodyL k d).set i v ++ q := List.set_append_left _ _ (by omega)
    have hl' : ((bodyL k d).set i v).length = d.length + 5 := by rw [List.length_set]; exact hbl
    rw [e1, List.drop_left' hl', List.take_left' hl', List.take_of_length_le (by omega), hqv]
    have : nth (bodyL k d ++ q) 0 i = nth (bodyL k d) 0 i := by simp [nth, List.getElem?_append, hbl, hc]
    rw [this] at hne
    exact fun h => adler_set (by omega) hv hBl hne h.symm
  · have e1 : (bodyL k d ++ q).set i v = bodyL k d ++ q.set (i - (d.length + 5)) v := by rw [List.set_append_right _ _ (by omega), hbl]
    have hl' : (q.set (i - (d.length + 5)) v).length = 4 := by rw [List.length_set]; exact hql
    rw [e1, List.drop_left' hbl, List.take_left' hbl, List.take_of_length_le (by omega), ← hqv]
    intro h
    have hj : i - (d.length + 5) < q.length := by omega
    have : nth (bodyL k d ++ q) 0 i = nth q 0 (i - (d.length + 5)) := by simp [nth, List.getElem?_append, hbl, hc]
    rw [this] at hne
    have hqb' : By (q.set (i - (d.length + 5)) v) := by
      intro x hx
      rcases List.mem_or_eq_of_mem_set hx with h | h
      · exact hqb x h
      · omega
    have e2 := big_valF 4 _ hql hqb
    have e3 := big_valF 4 _ hl' hqb'
    rw [h, e2] at e3
    apply hne
    conv => rhs; rw [e3]
    simp [nth, hj]

/-! ### integers and strings -/
theorem rdI_int {n : Int} (hn : I64 n) (r : List Nat) : rdI (bigL (tou n) 8 ++ r) = .nd .tu [.v (.int .i64 n), gsl (eI .u8) false (zl r), errD 0] := by
  unfold rdI
  rw [if_neg (by simp), List.take_left' (by simp), List.drop_left' (by simp), valF_big, Nat.mod_eq_of_lt (tou_lt n), wrap_of_tou hn]
theorem rdS_str {s : List Nat} (hs : s.length ≤ 4096) (r : List Nat) : rdS (strL s ++ r) = .nd .tu [gsl (eI .u8) false (zl s), gsl (eI .u8) false (zl r), errD 0] := by
  have e : valF ((strL s ++ r).take 2) = s.length := by
    rw [strL, List.append_assoc, List.take_left' (by simp), valF_big]; omega
  unfold rdS
  rw [e, if_neg (by simp [str_len]; omega), if_neg (by omega), if_neg (by simp [str_len])]
  have e1 : ((strL s ++ r).drop 2).take s.length = s := by
    rw [strL, List.append_assoc, List.drop_left' (by simp), List.take_left]
  have e2 : (strL s ++ r).drop (s.length + 2) = r := List.drop_left' (str_len s)
  rw [e1, e2]
end Go.Mx
