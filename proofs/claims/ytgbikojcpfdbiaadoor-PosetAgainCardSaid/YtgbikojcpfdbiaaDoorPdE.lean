import Derived.Test.YtgbikojcpfdbiaaDoorPdD
/-
  Posets: the program's reduction.
-/
namespace Go.Mx
set_option linter.unusedVariables false
set_option linter.unusedSimpArgs false
set_option linter.unusedSectionVars false
open Go

def tlC : MC → MC
  | .seq _ c => c
  | c => c
theorem nxt_inv {h : List Bool} {r : Mx.R} {X : St} (e : nxt h r = some (.norm, X)) : ∃ st', r = some (.norm, st') ∧ drops st' h = X := by
  cases r with
  | none => simp at e
  | some q =>
    obtain ⟨e', s'⟩ := q
    cases e' with
    | norm => simp at e; exact ⟨s', rfl, e⟩
    | ex i => simp at e
    | ret => simp at e
theorem nxt_inv' {h : List Bool} {r : Mx.R} {e : Ex} {X : St} (he : e ≠ .norm) (hr : nxt h r = some (e, X)) : r = some (e, X) := by
  cases r with
  | none => simp at hr
  | some q =>
    obtain ⟨e', s'⟩ := q
    cases e' with
    | norm => simp at hr; exact absurd hr.1.symm he
    | ex i => simpa using hr
    | ret => simpa using hr
abbrev u3 (x : Nat) : V := .sc (.int .u32 (x : Int))
def Tz20 (call : Oracle) : Prop := ∀ x : Nat, x < 2 ^ 32 → call 20 [.v (.int .u32 (x : Int))] = some (.v (.int .i64 ((Lib.ctz 32 x : Nat) : Int)))
theorem ro8 (call : Oracle) (fuel : Nat) (n : Nat) (hn : n ≤ 24) (r : Nat → Nat) (hr : ∀ i, r i < 2 ^ 32) (h20 : Tz20 call) (Z : List Int) (i s o x : Nat) (hx0 : x ≠ 0) (hx : x < 2 ^ 32) (ho : o < 2 ^ 32) (hb : ∀ k, x.testBit k = true → k < n) :
    nxt h8_1 (run call fuel (tlC b8_1) (L8_1 (.own (su n r)) (.own (gsl (eI .u32) false Z)) (ii i) (u3 s) (u3 o) (u3 x) (.ref 6 []) (ii n) (ii i))) =
      some (.norm, L8_1 (.own (su n r)) (.own (gsl (eI .u32) false Z)) (ii i) (u3 s) (u3 (o ||| r (Lib.ctz 32 x))) (u3 (x &&& (x - 1))) (.ref 6 []) (ii n) (ii i)) := by
  obtain ⟨h1, h2, h3⟩ := low_bits hx0 hx
  have k20 := h20 x hx
  have hlt := hb _ h1
  generalize Lib.ctz 32 x = c at *
  have hz := zr_nth n r hlt
  have hne : ¬ (x : Int) = 0 := by omega
  have w1 : IntKind.u32.wrap ((x : Int) - 1) = ((x - 1 : Nat) : Int) := by
    simp [IntKind.wrap, IntKind.bits, IntKind.signed]
    omega
  have b1 : intBin .or .u32 (o : Int) (r c : Int) = some (.int .u32 ((o ||| r c : Nat) : Int)) := bits_or (k := .u32) ho (hr c)
  have b2 : intBin .and .u32 (x : Int) ((x - 1 : Nat) : Int) = some (.int .u32 ((x &&& (x - 1) : Nat) : Int)) := bits_and (k := .u32) hx (show x - 1 < 2 ^ 32 by omega)
  simp [tlC, b8_1, k20, hx0, hlt, hz, hne, w1, b1, b2]
theorem rn8 (call : Oracle) (fuel : Nat) (n : Nat) (r : Nat → Nat) (Z : List Int) (i s o : Nat) :
    nxt h8_1 (run call fuel (tlC b8_1) (L8_1 (.own (su n r)) (.own (gsl (eI .u32) false Z)) (ii i) (u3 s) (u3 o) (u3 0) (.ref 6 []) (ii n) (ii i))) =
      some (.ex 2, X8_2 (.own (su n r)) (.own (gsl (eI .u32) false Z)) (ii i) (u3 s) (u3 o) (.ref 6 []) (ii n) (ii i)) := by
  simp [tlC, b8_1]
theorem loop8_1 (call : Oracle) (fuel : Nat) (n : Nat) (hn : n ≤ 24) (r : Nat → Nat) (hr : ∀ i, r i < 2 ^ 32) (h20 : Tz20 call) (Z : List Int) (i s : Nat) (hs : s < 2 ^ 32) (hb : ∀ k, s.testBit k = true → k < n) (fu : Nat) (hfu : 1000 < fu) (st : St)
    (h0 : drops st h8_1 = L8_1 (.own (su n r)) (.own (gsl (eI .u32) false Z)) (ii i) (u3 s) (u3 0) (u3 s) (.ref 6 []) (ii n) (ii i)) :
    run.loopN (run call fuel b8_1) fu st = some (.ex 2, X8_2 (.own (su n r)) (.own (gsl (eI .u32) false Z)) (ii i) (u3 s) (u3 (ovN r 33 s 0)) (.ref 6 []) (ii n) (ii i)) := by
  have key : ∀ (m fu x o : Nat) (st : St), m < fu → bcnt x < m → x < 2 ^ 32 → o < 2 ^ 32 → (∀ k, x.testBit k = true → k < n) → drops st h8_1 = L8_1 (.own (su n r)) (.own (gsl (eI .u32) false Z)) (ii i) (u3 s) (u3 o) (u3 x) (.ref 6 []) (ii n) (ii i) →
      run.loopN (run call fuel b8_1) fu st = some (.ex 2, X8_2 (.own (su n r)) (.own (gsl (eI .u32) false Z)) (ii i) (u3 s) (u3 (ovN r m x o)) (.ref 6 []) (ii n) (ii i)) := by
    intro m
    induction m with
    | zero => intro fu x o st _ h; omega
    | succ m ih =>
      intro fu x o st hfu hm hx ho hb hd
      obtain ⟨fu, rfl⟩ : ∃ k, fu = k + 1 := ⟨fu - 1, by omega⟩
      unfold ovN
      rw [loop_succ, show b8_1 = .seq (.scr h8_1) (tlC b8_1) from rfl, run_scr, hd]
      by_cases hx0 : x = 0
      · subst hx0
        rw [nxt_inv' (by simp) (rn8 call fuel n r Z i s o), if_pos rfl]
      · obtain ⟨st', e1, e2⟩ := nxt_inv (ro8 call fuel n hn r hr h20 Z i s o x hx0 hx ho hb)
        rw [e1, if_neg hx0]
        have hlt := bcnt_lt hx0 hx
        refine ih fu _ _ st' (by omega) (by omega) (Nat.lt_of_le_of_lt Nat.and_le_left hx) (Nat.or_lt_two_pow ho (hr _)) (fun k hk => ?_) e2
        rw [(low_bits hx0 hx).2.2] at hk
        simp only [Bool.and_eq_true] at hk
        exact hb k hk.1
  exact key 33 fu s 0 st (by omega) (Nat.lt_of_le_of_lt (bcnt_le _) (by decide)) hs (by decide) hb h0
def pf (r : Nat → Nat) (k i : Nat) : Nat := if i < k then redS r i else 0
theorem pf_succ (r : Nat → Nat) (k : Nat) : updF (pf r k) k (redS r k) = pf r (k + 1) := by
  funext i
  unfold updF pf
  by_cases h : i = k
  · subst h; simp
  · rw [if_neg h]
    by_cases h2 : i < k
    · rw [if_pos h2, if_pos (by omega)]
    · rw [if_neg h2, if_neg (by omega)]
theorem loop8_0 (call : Oracle) (fuel : Nat) (n : Nat) (hn : n ≤ 24) (r : Nat → Nat) (hr : ∀ i, r i < 2 ^ 32) (hb : ∀ i k, (r i).testBit k = true → k < n) (h20 : Tz20 call) (hF : 1000 < fuel) (st : St)
    (h0 : drops st h8_0 = L8_0 (.own (su n r)) (.own (su n (pf r 0))) (.ref 6 []) (ii n) (ii 0)) :
    run.loopN (run call fuel b8_0) fuel st = some (.ex 0, X8_0 (.own (su n (redS r)))) := by
  have hfin : su n (pf r n) = su n (redS r) := congrArg (gsl (eI .u32) false) (zr_ext fun i hi => by simp [pf, hi])
  rw [← hfin]
  refine loop_cnt call fuel h8_0 _ n (fun k => L8_0 (.own (su n r)) (.own (su n (pf r k))) (.ref 6 []) (ii n) (ii k)) _ (by simp) ?_ (by simp) fuel st h0 (by omega)
  intro i hi
  have hw := wrap_succ (i := i) (by omega)
  have hz := zr_nth n r hi
  have L := loop8_1 call fuel n hn r hr h20 (zr n (pf r i)) i (r i) (hr i) (hb i) fuel hF
  have b1 : intBin .andNot .u32 (r i : Int) ((ovN r 33 (r i) 0 : Nat) : Int) = some (.int .u32 ((redS r i : Nat) : Int)) := bits_andN (k := .u32) (hr i) (ov_lt r hr 33 _ _ (by decide))
  rw [← pf_succ]
  generalize redS r i = d at *
  generalize ovN r 33 (r i) 0 = o at *
  generalize pf r i = f at *
  simp [hi, hw, hz]
  rw [L _ (by simp; rfl)]
  simp [hi, hw, b1]
theorem f8 (call : Oracle) (fuel : Nat) (hF : 1000 < fuel) (b : Bool) (n : Int) (a : List (Int × Int)) (hl : a.length ≤ 1000) (h12 : call 12 [.v (.int .i64 n), sa b a] = some (.v (.bool (validB n a)))) (h18 : Reach18 call)
    (h19 : validB n a = true → call 19 [su n.toNat (rea n a)] = some (.v (.bool (acyB n a)))) (h17 : List17 call) (h20 : Tz20 call) (hb : validB n a = true → ∀ i k, (rea n a i).testBit k = true → k < n.toNat) :
    callF call fuel c8 [.v (.int .i64 n), sa b a] = some (if validB n a = true then (if acyB n a = true then .nd .tu [saE (arcL n.toNat (pL (redS (rea n a)))), .v (.int .i64 0)] else .nd .tu [sa true [], .v (.int .i64 11)]) else .nd .tu [sa true [], .v (.int .i64 1)]) := by
  rw [callF_tab call fuel c8 27 _ (by exact Nat.le_of_ble_eq_true rfl) (by exact Nat.le_of_ble_eq_true rfl)]
  by_cases hv : validB n a = true
  · rw [if_pos hv]
    rw [hv] at h12
    have k18 := h18 b n a hv hl
    have k19 := h19 hv
    have hb := hb hv
    have hr := rea_lt hv
    obtain ⟨k, rfl, hk2, _⟩ := valid_nat hv
    rw [Int.toNat_natCast] at *
    by_cases hac : acyB k a = true
    · rw [if_pos hac]
      rw [hac] at k19
      have L := loop8_0 call fuel k hk2 (rea k a) hr hb h20 hF
      have k17 := h17 k (redS (rea k a)) hk2 (redS_lt hr)
      have hm : k ≤ most := by unfold most; omega
      have hz : List.replicate k (0 : Int) = zr k (pf (rea k a) 0) := by
        unfold zr row
        apply List.ext_getElem
        · simp
        · intro i h1 h2
          simp [pf]
      generalize arcL k (pL (redS (rea k a))) = A at *
      generalize redS (rea k a) = d at *
      simp [c8, h12, k18, k19, hm]
      rw [L _ (by simp [hz])]
      simp [k17]
    · rw [if_neg hac]
      have hac : acyB k a = false := by simpa using hac
      rw [hac] at k19
      simp [c8, h12, k18, k19]
      rfl
  · rw [if_neg hv]
    have hv : validB n a = false := by simpa using hv
    rw [hv] at h12
    simp [c8, h12]
    rfl
end Go.Mx
