import Derived.Test.YtgbikojcpfdbiaaDoorPdE
import Derived.Shelf.Spec.TrailingZeros
import Derived.Lib.LaidTab
/-
  TrailingZeros32, by hand: the table is a package-level variable of the library's.
-/
namespace Go.Mx
set_option linter.unusedVariables false
set_option linter.unusedSimpArgs false
set_option linter.unusedSectionVars false
open Go Go.RowKit

theorem gTab : Go.Proofs.Tryd.prog.globalNamed "math/bits.deBruijn32tab" = some 0 := by kernel_rfl

set_option maxHeartbeats 1000000 in
theorem tz_core (x k idx : Nat) (w : World) (hx0 : ((x : Int) == 0) = false)
    (key : Go.bits BinOp.and IntKind.u32 (x : Int) (-(x : Int) % 4294967296) * 125613361 % 4294967296 / 134217728 = (idx : Int))
    (hi : idx < 32) (hk : k < 32) (hcell : w.cell? ⟨0, idx, none⟩ = some (.int .u8 k)) :
    Calls Go.Proofs.Tryd.prog 20 #[.int .u32 x] w fun e w' => e = .returned (.int .i64 k) ∧ w' = w := by
  go_enter Go.Proofs.Tryd.func20, Go.Proofs.Tryd.ntmps20
  go_wp2_with (simp only [key])
  go_ret
  exact ⟨rfl, rfl⟩
theorem tz_zero (w : World) : Calls Go.Proofs.Tryd.prog 20 #[.int .u32 0] w fun e w' => e = .returned (.int .i64 32) ∧ w' = w := by
  go_enter Go.Proofs.Tryd.func20, Go.Proofs.Tryd.ntmps20
  go_wp2
  go_ret
  exact ⟨rfl, rfl⟩
theorem tz_all (x : Nat) (hx : x < 4294967296) (w : World) (hT : Go.Proofs.TabAt 0 Lib.deBruijn32tab w) :
    Calls Go.Proofs.Tryd.prog 20 #[.int .u32 x] w fun e w' => e = .returned (.int .i64 (Lib.ctz 32 x)) ∧ w' = w := by
  by_cases hx0 : x = 0
  · subst hx0
    exact tz_zero w
  · obtain ⟨hlow, hk⟩ := Lib.lowest_bit 32 x hx0 hx
    obtain ⟨hi, htab⟩ := Lib.deBruijn32_at _ hk
    have hcell := hT _ hi
    rw [htab] at hcell
    exact tz_core x _ _ w (by simp; omega) (Go.Proofs.tz32_key x _ hx hx0 hlow) hi hk hcell

/-- The table is there. -/
def gT : Glob where
  blk b := b = 0
  ok w := Go.Proofs.TabAt 0 Lib.deBruijn32tab w
  st w w' h k := by
    intro j hj
    have := k j hj
    rw [← this]
    unfold World.cell?
    rw [h 0 rfl]
def baseT : Oracle := fun f ds => if f = 20 then match ds with
    | [.v (.int .u32 x)] => if 0 ≤ x ∧ x < 4294967296 then some (.v (.int .i64 ((Lib.ctz 32 x.toNat : Nat) : Int))) else none
    | _ => none
  else none
theorem baseT_at (x : Nat) (hx : x < 4294967296) : baseT 20 [.v (.int .u32 (x : Int))] = some (.v (.int .i64 ((Lib.ctz 32 x : Nat) : Int))) := by
  unfold baseT
  rw [if_pos rfl]
  dsimp only
  rw [if_pos ⟨by omega, by omega⟩, Int.toNat_natCast]
theorem baseT_ok : BaseOK Go.Proofs.Tryd.prog gT baseT := by
  intro f ds d hlt h
  unfold baseT at h
  split at h
  case isFalse => cases h
  rename_i hf
  subst hf
  split at h
  case h_2 => cases h
  rename_i x
  split at h
  case isFalse => cases h
  rename_i hx
  cases h
  refine ⟨⟨_, _, Go.Proofs.Tryd.func20, by kernel_rfl, rfl⟩, fun l w hg he _ _ => ?_⟩
  obtain ⟨n, rfl⟩ : ∃ n : Nat, x = n := ⟨x.toNat, by omega⟩
  have hl : l = [.v (.int .u32 (n : Int))] := by
    match l, he with
    | [t], he =>
      simp only [erL, List.cons.injEq, and_true] at he
      cases t with
      | v y => simp only [er, T.v.injEq] at he; rw [he]
      | hole b => simp [er] at he
      | nd k kids => simp [er] at he
    | [], he => simp [erL] at he
    | _ :: _ :: _, he => simp [erL] at he
  subst hl
  refine Calls.mono (tz_all n (by omega) w hg.ok) ?_
  rintro e w' ⟨rfl, rfl⟩
  rw [Int.toNat_natCast]
  exact ⟨.v (.int .i64 ((Lib.ctz 32 n : Nat) : Int)), rfl, rfl, RowKit.Below.refl _ _, trivial, fun b => ⟨by simp [cnt], fun h => absurd rfl h⟩⟩
end Go.Mx
