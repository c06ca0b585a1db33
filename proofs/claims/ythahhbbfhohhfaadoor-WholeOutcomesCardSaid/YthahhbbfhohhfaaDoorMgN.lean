import Derived.Test.YthahhbbfhohhfaaDoorMgM
import Derived.WalkKit
import Derived.Deep.LoopGhost
import Derived.WalkSpells
/-
  natural.trim, by hand: it hands back a part of its argument.
-/
namespace Go.Mx
set_option linter.unusedVariables false
set_option linter.unusedSimpArgs false
set_option linter.unusedSectionVars false
open Go Go.RowKit

theorem take_snoc (l : List Nat) {k : Nat} (h : k < l.length) : l.take (k + 1) = l.take k ++ [nth l 0 k] := take_succ_nth 0 h
theorem trn_take_zero {l : List Nat} {k : Nat} (h : k < l.length) (h0 : nth l 0 k = 0) : trn (l.take (k + 1)) = trn (l.take k) := by
  rw [take_snoc l h, trn, tr_snoc, if_pos h0]
theorem trn_take_top {l : List Nat} {k : Nat} (h : k < l.length) (h0 : nth l 0 k ≠ 0) : trn (l.take (k + 1)) = k + 1 := by
  rw [take_snoc l h, trn, tr_snoc, if_neg h0]
  simp; omega
set_option maxHeartbeats 1000000 in
theorem trim_any (l : List Nat) (a : Option Addr) (c : Nat) (w : World) (hc : l.length ≤ c) (hc2 : l.length < 4611686018427387904) (ha : a = none → c = 0) (hcell : ∀ ad, a = some ad → ∀ i, i < l.length → w.cell? (ad.add i) = some (.int .u32 (nth l 0 i : Nat))) :
    Calls Go.Proofs.Tryd.prog 85 #[.slice a l.length c] w fun e w' => e = .returned (.slice a (trn l) c) ∧ w' = w := by
  go_enter Go.Proofs.Tryd.func85, Go.Proofs.Tryd.ntmps85
  go_wp2_with fail
  go_loopg [0] l.length (fun r p wr => ∃ k : Nat, k ≤ r ∧ k ≤ l.length ∧ p = .slice a k c ∧ trn (l.take k) = trn l ∧ wr = w)
  case atStart => exact ⟨l.length, Nat.le_refl _, Nat.le_refl _, rfl, by rw [List.take_length], rfl⟩
  case round =>
    obtain ⟨k, hk, hkl, rfl, ht, rfl⟩ := hrel
    cases k with
    | zero =>
      go_wp2_with fail
      go_ret
      exact ⟨by rw [← ht]; rfl, rfl⟩
    | succ k =>
      have hw : IntKind.i64.wrap (((k + 1 : Nat) : Int) - 1) = (k : Int) := by
        rw [show ((k + 1 : Nat) : Int) - 1 = (k : Int) by omega]
        exact wrapI (by omega)
      obtain ⟨ad, rfl⟩ : ∃ ad, a = some ad := by
        cases a with
        | none => have := ha rfl; omega
        | some ad => exact ⟨ad, rfl⟩
      have h1 := hcell ad rfl k (by omega)
      go_wp2_with fail
      · rename_i h0
        have h0 : nth l 0 k = 0 := by
          have := eq_of_beq h0
          omega
        go_roundg (gk - 1)
        case measure => omega
        case rel => exact ⟨k, by omega, by omega, rfl, by rw [← trn_take_zero (by omega) h0]; exact ht, rfl⟩
      · rename_i h0
        have h0 : nth l 0 k ≠ 0 := by
          intro h
          rw [h] at h0
          simp at h0
        have h2 := trn_take_top (by omega) h0
        rw [ht] at h2
        go_ret
        exact ⟨by rw [h2]; rfl, rfl⟩

/-- The functions that are proved by hand: trim. -/
def scN (d : D) : Nat :=
  match d with
  | .v (.int _ n) => n.toNat
  | _ => 0
def isU (d : D) : Bool :=
  match d with
  | .v (.int .u32 x) => decide (0 ≤ x)
  | _ => false
theorem isU_some {d : D} (h : isU d = true) : d = .v (.int .u32 ((scN d : Nat) : Int)) := by
  unfold isU at h
  split at h
  · rename_i x
    have := of_decide_eq_true h
    show T.v _ = T.v _
    simp only [scN]
    rw [Int.toNat_of_nonneg this]
  · cases h
def baseV : Oracle := fun f ds => if f = 85 + vwB then match ds with
    | [.nd (.sl _ 1 n) kids] => if kids.length = n ∧ n < 4611686018427387904 ∧ kids.all isU = true then some (.v (.int .i64 (trn (kids.map scN) : Nat))) else none
    | _ => none
  else none
theorem isU_u (l : List Nat) : (gk (eI .u32) (zl l)).all isU = true := by
  induction l with
  | nil => rfl
  | cons x l ih =>
    show (isU (.v (.int .u32 (x : Int))) && (gk (eI .u32) (zl l)).all isU) = true
    rw [ih]
    simp [isU]
theorem scN_u (l : List Nat) : (gk (eI .u32) (zl l)).map scN = l := by
  induction l with
  | nil => rfl
  | cons x l ih =>
    show scN (.v (.int .u32 (x : Int))) :: (gk (eI .u32) (zl l)).map scN = _
    rw [ih]
    simp [scN]
theorem baseV_at (b : Bool) (l : List Nat) (hl : l.length < 4611686018427387904) : baseV (85 + vwB) [ul b l] = some (.v (.int .i64 (trn l : Nat))) := by
  have e1 : (gk (eI .u32) (zl l)).length = (zl l).length := by rw [gk_len]; show _ * 1 = _; omega
  have e2 : (zl l).length < 4611686018427387904 := by simpa [zl] using hl
  unfold baseV
  rw [if_pos rfl]
  show (if (gk (eI .u32) (zl l)).length = (zl l).length ∧ (zl l).length < 4611686018427387904 ∧ (gk (eI .u32) (zl l)).all isU = true then _ else _) = _
  rw [if_pos ⟨e1, e2, isU_u l⟩, scN_u]
theorem baseV_ok (g : Glob) : BaseVW Go.Proofs.Tryd.prog g baseV := by
  intro f d0 k n hlt h
  unfold baseV at h
  split at h
  case isFalse => cases h
  rename_i hf
  have hf : f = 85 := Nat.add_right_cancel hf
  subst hf
  split at h
  case h_2 => cases h
  rename_i b n' kids heq
  simp only [List.cons.injEq, and_true] at heq
  subst heq
  split at h
  case isFalse => cases h
  rename_i hc
  obtain ⟨c1, c2, c3⟩ := hc
  cases h
  refine ⟨⟨_, _, Go.Proofs.Tryd.func85, by kernel_rfl, rfl⟩, fun t w hg he hm hlow a m c hv => ?_⟩
  obtain ⟨k', kids', rfl, hk, hks⟩ := er_eq_nd he
  cases k' with
  | sl d es m' =>
    simp only [K.er, K.sl.injEq] at hk
    obtain ⟨rfl, rfl, rfl⟩ := hk
    simp only [val, K.val, Value.slice.injEq] at hv
    obtain ⟨rfl, rfl, rfl⟩ := hv
    obtain ⟨⟨h1, h2, h3, h4⟩, _⟩ := hm
    have hlen : (kids.map scN).length = m' := by rw [List.length_map, c1]
    have := trim_any (kids.map scN) d.a d.cap w (by rw [hlen]; exact h2) (by rw [hlen]; exact c2) h3 (by
      intro ad had i hi
      refine (h4 ad had).1 i _ ?_
      rw [List.length_map] at hi
      rw [valL_eq, List.getElem?_map]
      have hi' : i < kids'.length := by rw [← erL_len, hks]; exact hi
      rw [List.getElem?_eq_getElem hi']
      have he1 : er kids'[i] = kids[i] := by
        have : (erL kids')[i]? = kids[i]? := by rw [hks]
        rw [erL_eq, List.getElem?_map, List.getElem?_eq_getElem hi', List.getElem?_eq_getElem hi] at this
        simpa using this
      have hu := isU_some (List.all_eq_true.1 c3 _ (List.getElem_mem hi))
      rw [hu] at he1
      rw [er_eq_v he1]
      simp only [Option.map_some, val, nth]
      rw [List.getD_eq_getElem?_getD, List.getElem?_map, List.getElem?_eq_getElem hi]
      rfl)
    rw [hlen] at this
    refine Calls.mono this ?_
    rintro e w' ⟨rfl, rfl⟩
    exact ⟨by simp, RowKit.Below.refl _ _⟩
  | im d es m' => simp [K.er] at hk
  | bx d => simp [K.er] at hk
  | ag => simp [K.er] at hk
  | tu => simp [K.er] at hk
  | fn f nf => simp [K.er] at hk
end Go.Mx
