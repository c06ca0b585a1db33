import Derived.Test.YtohmmlgnjiolfaaFrI
import Derived.Test.YtohmmlgnjiolfaaFrP
/-
  Frames: the laws of sealing.
-/
namespace Go.Mx
set_option linter.unusedVariables false
set_option linter.unusedSimpArgs false
set_option linter.unusedSectionVars false
open Go

theorem f4 (call : Oracle) (fuel : Nat) (k : Nat) (b c : Bool) (d r : List Nat) (h10 : call 10 [] = some (.v (.bool true)))
    (h13 : d.length ≤ 9000 → call 13 [.v (.int .u8 (k : Int)), gsl (eI .u8) b (zl d)] = some (sealD k d))
    (h14 : d.length ≤ 9000 → call 14 [.v (.int .u8 (k : Int)), gsl (eI .u8) b (zl d)] = some (sealD k d))
    (h15n : call 15 [nilB, nilB] = some (.v (.bool true)))
    (h15 : ∀ c l, l = sealL k d ∨ l = d ∨ l = r → call 15 [gsl (eI .u8) false (zl l), gsl (eI .u8) c (zl l)] = some (.v (.bool true)))
    (h16 : d.length ≤ 8192 → r.length ≤ 100 → call 16 [gsl (eI .u8) false (zl (sealL k d ++ r))] = some (okD k d r)) :
    callF call fuel c4 [.v (.int .u8 (k : Int)), gsl (eI .u8) b (zl d), gsl (eI .u8) c (zl r)] = some (.v (.bool true)) := by
  rw [callF_tab call fuel c4 54 _ (by exact Nat.le_of_ble_eq_true rfl) (by exact Nat.le_of_ble_eq_true rfl)]
  by_cases g1 : d.length ≤ 9000
  rotate_left
  · have i1 : (9000 : Int) < (d.length : Int) := by omega
    simp [c4, h10, i1]
  have i1 : ¬ (9000 : Int) < (d.length : Int) := by omega
  by_cases g2 : r.length ≤ 100
  rotate_left
  · have i2 : (100 : Int) < (r.length : Int) := by omega
    simp [c4, h10, i1, i2]
  have i2 : ¬ (100 : Int) < (r.length : Int) := by omega
  have h13 := h13 g1
  have h14 := h14 g1
  by_cases g3 : d.length ≤ 8192
  rotate_left
  · rw [sealD, if_neg g3] at h13 h14
    simp [c4, h10, i1, i2, h13, h14, h15n]
  rw [sealD, if_pos g3] at h13 h14
  have h16 := h16 g3 g2
  have a1 := h15 false (sealL k d) (.inl rfl)
  have a2 := h15 b d (.inr (.inl rfl))
  have a3 := h15 c r (.inr (.inr rfl))
  have hl : (sealL k d).length ≤ most := by rw [seal_len]; unfold most; omega
  have hl2 : (sealL k d).length + r.length ≤ most := by rw [seal_len]; unfold most; omega
  have eA : T.nd (K.sl false 1 (sealL k d).length) (gk (eI .u8) (zl (sealL k d))) = gsl (eI .u8) false (zl (sealL k d)) := by rw [gsl, zl_len]; rfl
  simp [c4, h10, i1, i2, h13, h14, a1, a2, a3, h16, okD, hl, hl2, eA]
theorem law4 (k : Nat) (hk : k < 256) (b c : Bool) (d r : List Nat) (hd : By d) (hr : By r) : S 7 4 [.v (.int .u8 (k : Int)), gsl (eI .u8) b (zl d), gsl (eI .u8) c (zl r)] = some (.v (.bool true)) := by
  rw [S, sem_succ (mf := c4) rfl]
  refine f4 _ _ k b c d r s10 (fun h => s13 4 b k d hk hd (by omega)) (fun h => s14 4 b k d hk hd (by omega)) ?_ ?_ ?_
  · exact s15 4 true true [] [] (fun x h => by cases h) (fun x h => by cases h)
  · intro c l h
    have hb : By l := by
      rcases h with rfl | rfl | rfl
      · exact By.sealL hk hd
      · exact hd
      · exact hr
    exact (s15 4 false c l l hb hb).trans (by simp)
  · intro h1 h2
    exact (s16 4 false _ ((By.sealL hk hd).app hr) (by simp [seal_len]; omega) (by simp)).trans (by rw [open_seal k d r h1])

/-- Reading. -/
theorem f5 (call : Oracle) (fuel : Nat) (b : Bool) (l : List Nat) (h10 : call 10 [] = some (.v (.bool true))) (hb : By l)
    (h16 : l.length ≤ 10000 → call 16 [gsl (eI .u8) b (zl l)] = some (opnD l))
    (h17 : l.length ≤ 10000 → call 17 [gsl (eI .u8) b (zl l)] = some (opnD l))
    (h15n : call 15 [nilB, nilB] = some (.v (.bool true)))
    (h15 : ∀ b c m, By m → call 15 [gsl (eI .u8) b (zl m), gsl (eI .u8) c (zl m)] = some (.v (.bool true)))
    (h13n : call 13 [.v (.int .u8 0), nilB] = some (sealD 0 []))
    (h13 : ∀ (k : Nat) (d : List Nat), k < 256 → By d → d.length ≤ 8192 → call 13 [.v (.int .u8 (k : Int)), gsl (eI .u8) false (zl d)] = some (sealD k d)) :
    callF call fuel c5 [gsl (eI .u8) b (zl l)] = some (.v (.bool true)) := by
  rw [callF_tab call fuel c5 56 _ (by exact Nat.le_of_ble_eq_true rfl) (by exact Nat.le_of_ble_eq_true rfl)]
  by_cases g1 : l.length ≤ 10000
  rotate_left
  · have i1 : (10000 : Int) < (l.length : Int) := by omega
    simp [c5, h10, i1]
  have i1 : ¬ (10000 : Int) < (l.length : Int) := by omega
  have h16 := h16 g1
  have h17 := h17 g1
  rw [sealD, if_pos (by simp)] at h13n
  have hE : ∀ e : Int, ¬ e = 0 → opnD l = oE e → callF call fuel c5 [gsl (eI .u8) b (zl l)] = some (.v (.bool true)) := by
    intro e he h
    rw [h, oE] at h16 h17
    rw [callF_tab call fuel c5 56 _ (by exact Nat.le_of_ble_eq_true rfl) (by exact Nat.le_of_ble_eq_true rfl)]
    simp [c5, h10, i1, h16, h17, h15n, h13n, he]
  rw [callF_tab call fuel c5 56 _ (by exact Nat.le_of_ble_eq_true rfl) (by exact Nat.le_of_ble_eq_true rfl)] at hE
  by_cases q0 : l.length = 0
  · exact hE 4 (by decide) (by unfold opnD; rw [if_pos q0])
  by_cases q1 : nth l 0 0 = 209
  rotate_left
  · exact hE 3 (by decide) (by unfold opnD; rw [if_neg q0, if_pos q1])
  by_cases q2 : l.length < 5
  · exact hE 4 (by decide) (by unfold opnD; rw [if_neg q0, if_neg (by simpa using q1), if_pos q2])
  by_cases q3 : 8192 < len3 l
  · exact hE 6 (by decide) (by unfold opnD; rw [if_neg q0, if_neg (by simpa using q1), if_neg q2, if_pos q3])
  by_cases q4 : l.length < len3 l + 9
  · exact hE 4 (by decide) (by unfold opnD; rw [if_neg q0, if_neg (by simpa using q1), if_neg q2, if_neg q3, if_pos q4])
  by_cases q5 : valF ((l.drop (len3 l + 5)).take 4) = adler (l.take (len3 l + 5))
  rotate_left
  · exact hE 5 (by decide) (by unfold opnD; rw [if_neg q0, if_neg (by simpa using q1), if_neg q2, if_neg q3, if_neg q4, if_pos q5])
  have hS := seal_open hb q1 (by omega) (by omega) q5
  have e : opnD l = okO l (len3 l) := by unfold opnD; rw [if_neg q0, if_neg (by simpa using q1), if_neg q2, if_neg q3, if_neg q4, if_neg (by simpa using q5)]
  rw [e, okO] at h16 h17
  clear hE e
  have hdl : ((l.drop 5).take (len3 l)).length ≤ 8192 := by rw [List.length_take]; omega
  have hdb : By ((l.drop 5).take (len3 l)) := (hb.drop 5).take _
  have hrb : By (l.drop (len3 l + 9)) := hb.drop _
  have hrl : (l.drop (len3 l + 9)).length ≤ 10000 := by rw [List.length_drop]; omega
  generalize (l.drop 5).take (len3 l) = d at *
  generalize l.drop (len3 l + 9) = r at *
  have k13 := h13 (nth l 0 1) d (hb.nth 1) hdb hdl
  rw [sealD, if_pos hdl] at k13
  have a1 := h15 false false d hdb
  have a2 := h15 false false r hrb
  have a3 := h15 false b l hb
  generalize nth l 0 1 = k at *
  have hl2 : (sealL k d).length + r.length ≤ most := by rw [seal_len]; unfold most; omega
  simp [c5, h10, i1, h16, h17, a1, a2, a3, k13, hl2, hS]
theorem law5 (b : Bool) (l : List Nat) (hb : By l) (hbl : b = true → l = []) : S 7 5 [gsl (eI .u8) b (zl l)] = some (.v (.bool true)) := by
  rw [S, sem_succ (mf := c5) rfl]
  refine f5 _ _ b l s10 hb (fun h => s16 4 b l hb (by omega) hbl) (fun h => s17 4 b l hb (by omega) hbl) ?_ ?_ ?_ ?_
  · exact s15 4 true true [] [] (fun x h => by cases h) (fun x h => by cases h)
  · intro b c m hm
    exact (s15 4 b c m m hm hm).trans (by simp)
  · exact s13 4 true 0 [] (by omega) (fun x h => by cases h) (by simp)
  · intro k d hk hd hl
    exact s13 4 false k d hk hd (by omega)

/-- Torn. -/
theorem f6 (call : Oracle) (fuel : Nat) (k cut : Nat) (b : Bool) (d : List Nat) (h10 : call 10 [] = some (.v (.bool true))) (hc : cut < 65536)
    (h14 : d.length ≤ 8192 → call 14 [.v (.int .u8 (k : Int)), gsl (eI .u8) b (zl d)] = some (sealD k d))
    (h16 : ∀ c, d.length ≤ 8192 → call 16 [gsl (eI .u8) false (zl ((sealL k d).take c))] = some (opnD ((sealL k d).take c))) :
    callF call fuel c6 [.v (.int .u8 (k : Int)), gsl (eI .u8) b (zl d), .v (.int .u16 (cut : Int))] = some (.v (.bool true)) := by
  rw [callF_tab call fuel c6 28 _ (by exact Nat.le_of_ble_eq_true rfl) (by exact Nat.le_of_ble_eq_true rfl)]
  by_cases g1 : d.length ≤ 8192
  rotate_left
  · have i1 : (8192 : Int) < (d.length : Int) := by omega
    simp [c6, h10, i1]
  have i1 : ¬ (8192 : Int) < (d.length : Int) := by omega
  have h14 := h14 g1
  rw [sealD, if_pos g1] at h14
  have h16 := h16 (cut % (d.length + 9)) g1
  rw [open_torn k d g1 _ (Nat.mod_lt _ (by omega)), oE] at h16
  have e1 : IntKind.i64.wrap (cut : Int) = (cut : Int) := wrapI (by omega) (by omega)
  obtain ⟨n, hn⟩ : ∃ n, n = d.length + 9 := ⟨_, rfl⟩
  have hl : (sealL k d).length = n := by rw [seal_len, hn]
  have n0 : ¬ n = 0 := by omega
  rw [← hn] at h16
  have e2 : (cut : Int).tmod (n : Int) = ((cut % n : Nat) : Int) := tmod_nat _ _
  have e3 : cut % n ≤ n := Nat.le_of_lt (Nat.mod_lt _ (by omega))
  generalize cut % n = c at *
  simp [c6, h10, i1, h14, e1, e2, hl, n0, e3, h16]
theorem law6 (k cut : Nat) (hk : k < 256) (hc : cut < 65536) (b : Bool) (d : List Nat) (hd : By d) : S 7 6 [.v (.int .u8 (k : Int)), gsl (eI .u8) b (zl d), .v (.int .u16 (cut : Int))] = some (.v (.bool true)) := by
  rw [S, sem_succ (mf := c6) rfl]
  refine f6 _ _ k cut b d s10 hc (fun h => s14 4 b k d hk hd (by omega)) (fun c h => ?_)
  exact s16 4 false _ ((By.sealL hk hd).take _) (by rw [List.length_take, seal_len]; omega) (by simp)
end Go.Mx
