import Derived.Test.YtigplgminjhgmaaJoC
/-
  Frames: what is made is read back (chapter 7, anew).
-/
namespace Go.Mx
set_option linter.unusedVariables false
set_option linter.unusedSimpArgs false
set_option linter.unusedSectionVars false
open Go

theorem big_succ (x n : Nat) : bigL x (n + 1) = bigL (x / 256) n ++ [x % 256] := by
  unfold bigL
  rw [row_succ]
  congr 1
  · refine row_ext _ fun i hi => ?_
    show bt x (n + 1 - 1 - i) = bt (x / 256) (n - 1 - i)
    obtain ⟨k, hk⟩ : ∃ k, n - 1 - i = k := ⟨_, rfl⟩
    have h1 : n + 1 - 1 - i = k + 1 := by omega
    rw [h1, hk, bt, bt, Nat.pow_succ, Nat.mul_comm, ← Nat.div_div_eq_div_mul]
  · have : n + 1 - 1 - n = 0 := by omega
    rw [this, bt]
    simp
theorem valF_big : ∀ (n x : Nat), valF (bigL x n) = x % 256 ^ n
  | 0, x => by simp [bigL, row, valF, Nat.mod_one]
  | n + 1, x => by
    rw [big_succ, valF_snoc, valF_big n, vaS, Nat.pow_succ, Nat.mul_comm (256 ^ n) 256, Nat.mod_mul]
    omega
theorem big_valF : ∀ (n : Nat) (q : List Nat), q.length = n → By q → bigL (valF q) n = q
  | 0, q, h, _ => by rw [List.length_eq_zero_iff.1 h]; rfl
  | n + 1, q, h, hb => by
    have hne : q ≠ [] := by rintro rfl; simp at h
    have e := List.dropLast_concat_getLast hne
    have hc : q.getLast hne < 256 := hb _ (List.getLast_mem hne)
    have hb' : By q.dropLast := fun x hx => hb x ((List.dropLast_sublist q).subset hx)
    have hl : q.dropLast.length = n := by simp [h]
    have ih := big_valF n q.dropLast hl hb'
    generalize q.getLast hne = c at *
    generalize q.dropLast = p at *
    rw [← e, valF_snoc, big_succ, vaS]
    have h1 : (valF p * 256 + c) / 256 = valF p := by omega
    have h2 : (valF p * 256 + c) % 256 = c := by omega
    rw [h1, h2, ih]

/-- A frame with what comes after. -/
theorem seal_cons (k : Nat) (d r : List Nat) : sealL k d ++ r = 209 :: k :: bt d.length 2 :: bt d.length 1 :: bt d.length 0 :: (d ++ (bigL (adler (bodyL k d)) 4 ++ r)) := by
  have : bodyL k d = 209 :: k :: bt d.length 2 :: bt d.length 1 :: bt d.length 0 :: d := rfl
  simp [sealL, this]
theorem body_cons (k : Nat) (d : List Nat) : bodyL k d = 209 :: k :: bt d.length 2 :: bt d.length 1 :: bt d.length 0 :: d := rfl
theorem len3_cons (a b : Nat) (n : Nat) (m : List Nat) (hn : n ≤ 8192) : len3 (a :: b :: bt n 2 :: bt n 1 :: bt n 0 :: m) = n := by
  have h := valF_big 3 n
  rw [big3] at h
  show valF [bt n 2, bt n 1, bt n 0] = n
  rw [h]
  omega
theorem valF_big4 (l : List Nat) : valF (bigL (adler l) 4) = adler l := by
  rw [valF_big]; exact Nat.mod_eq_of_lt (adler_lt l)

def okD (k : Nat) (d r : List Nat) : D := .nd .tu [.v (.int .u8 (k : Int)), gsl (eI .u8) false (zl d), gsl (eI .u8) false (zl r), errD 0]

theorem open_seal (k : Nat) (d r : List Nat) (hd : d.length ≤ 8192) : opnD (sealL k d ++ r) = okD k d r := by
  rw [seal_cons]
  generalize ha : bigL (adler (bodyL k d)) 4 = q
  have hq : q.length = 4 := by rw [← ha]; simp
  unfold opnD
  rw [len3_cons _ _ _ _ hd]
  rw [if_neg (by simp), if_neg (by simp [nth]), if_neg (by simp), if_neg (by omega), if_neg (by simp; omega)]
  have h1 : List.take 4 (List.drop (d.length + 5) (209 :: k :: bt d.length 2 :: bt d.length 1 :: bt d.length 0 :: (d ++ (q ++ r)))) = q := by
    show List.take 4 (List.drop d.length (d ++ (q ++ r))) = q
    rw [List.drop_left, List.take_left' hq]
  have h2 : List.take (d.length + 5) (209 :: k :: bt d.length 2 :: bt d.length 1 :: bt d.length 0 :: (d ++ (q ++ r))) = bodyL k d := by
    rw [body_cons]; simp
  rw [h1, h2, ← ha, valF_big4, if_neg (by simp), ha]
  unfold okO okD
  have h3 : List.drop (d.length + 9) (209 :: k :: bt d.length 2 :: bt d.length 1 :: bt d.length 0 :: (d ++ (q ++ r))) = r := by
    show List.drop (d.length + 4) (d ++ (q ++ r)) = r
    rw [← List.append_assoc, List.drop_left' (by simp [hq])]
  have h4 : List.take d.length (List.drop 5 (209 :: k :: bt d.length 2 :: bt d.length 1 :: bt d.length 0 :: (d ++ (q ++ r)))) = d := by
    simp
  rw [h3, h4]
  rfl
theorem five {l : List Nat} (h : 5 ≤ l.length) : ∃ a b c d e m, l = a :: b :: c :: d :: e :: m := by
  match l, h with
  | a :: b :: c :: d :: e :: m, _ => exact ⟨a, b, c, d, e, m, rfl⟩

/-- What is read well was made so. -/
theorem seal_open {l : List Nat} (hb : By l) (h0 : nth l 0 0 = 209) (h5 : 5 ≤ l.length) (h9 : len3 l + 9 ≤ l.length)
    (hs : valF ((l.drop (len3 l + 5)).take 4) = adler (l.take (len3 l + 5))) :
    sealL (nth l 0 1) ((l.drop 5).take (len3 l)) ++ l.drop (len3 l + 9) = l := by
  obtain ⟨a, k, x, y, z, m, rfl⟩ := five h5
  have ha : a = 209 := h0
  subst ha
  have hx : By [x, y, z] := by
    intro v hv
    simp at hv
    apply hb
    simp
    rcases hv with h | h | h <;> simp [h]
  have e3 : bigL (len3 (209 :: k :: x :: y :: z :: m)) 3 = [x, y, z] := big_valF 3 [x, y, z] rfl hx
  generalize hn : len3 (209 :: k :: x :: y :: z :: m) = n at *
  have hm : n + 4 ≤ m.length := by simp at h9; omega
  have hd : (m.take n).length = n := by rw [List.length_take]; omega
  have eb : bodyL k (m.take n) = 209 :: k :: x :: y :: z :: m.take n := by
    have : bodyL k (m.take n) = [209, k] ++ bigL (m.take n).length 3 ++ m.take n := rfl
    rw [this, hd, e3]; rfl
  have hs' : valF ((m.drop n).take 4) = adler (209 :: k :: x :: y :: z :: m.take n) := hs
  have hq : ((m.drop n).take 4).length = 4 := by rw [List.length_take, List.length_drop]; omega
  have hbq : By ((m.drop n).take 4) := by
    intro v hv
    apply hb
    have := List.mem_of_mem_drop (List.mem_of_mem_take hv)
    simp [this]
  have eq := big_valF 4 _ hq hbq
  rw [hs', ← eb] at eq
  show sealL k (m.take n) ++ m.drop (n + 4) = _
  rw [sealL, eq, eb]
  show 209 :: k :: x :: y :: z :: (m.take n ++ (m.drop n).take 4 ++ m.drop (n + 4)) = _
  have : (m.drop n).drop 4 = m.drop (n + 4) := List.drop_drop
  rw [List.append_assoc, ← this, List.take_append_drop, List.take_append_drop]

theorem nth_take0 {α : Type} (l : List α) (d : α) {c i : Nat} (h : i < c) : nth (l.take c) d i = nth l d i := by
  simp [nth, List.getElem?_take, h]

/-- Torn. -/
theorem open_torn (k : Nat) (d : List Nat) (hd : d.length ≤ 8192) (c : Nat) (hc : c < d.length + 9) : opnD ((sealL k d).take c) = oE 4 := by
  have e := seal_cons k d []
  rw [List.append_nil, List.append_nil] at e
  have hl : ((sealL k d).take c).length = c := by rw [List.length_take, seal_len]; omega
  unfold opnD
  rw [hl]
  by_cases h0 : c = 0
  · rw [if_pos h0]
  rw [if_neg h0, if_neg (by rw [nth_take0 _ _ (by omega), e]; simp [nth])]
  by_cases h5 : c < 5
  · rw [if_pos h5]
  rw [if_neg h5]
  have h3 : len3 ((sealL k d).take c) = d.length := by
    rw [e]
    obtain ⟨c', rfl⟩ : ∃ c', c = c' + 5 := ⟨c - 5, by omega⟩
    simp only [List.take_succ_cons]
    exact len3_cons _ _ _ _ hd
  rw [h3, if_neg (by omega), if_pos hc]

/-! ### a changed byte -/
/-! ### integers and strings -/
end Go.Mx
