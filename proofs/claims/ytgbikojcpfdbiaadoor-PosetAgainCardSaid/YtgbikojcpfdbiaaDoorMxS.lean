import Derived.Test.YtgbikojcpfdbiaaDoorMxR
/-
  Mx, part S: loops; small facts.
-/
namespace Go.Mx
set_option linter.unusedVariables false
set_option linter.unusedSimpArgs false
set_option linter.unusedSectionVars false
open Go

theorem loop_succ (body : St → Option (Ex × St)) (n : Nat) (st : St) : run.loopN body (n + 1) st = match body st with
    | some (.norm, st1) => run.loopN body n st1
    | r => r := rfl

theorem run_scr (call : Oracle) (fuel : Nat) (m : List Bool) (c : MC) (st : St) : run call fuel (.seq (.scr m) c) st = run call fuel c (drops st m) := rfl

/-- A loop whose rounds are numbered downwards: what holds of each way out holds of the loop. -/
theorem loop_rule {body : St → Option (Ex × St)} (R : Nat → St → Prop) (Q : Option (Ex × St) → Prop)
    (h : ∀ n st, R n st → (∃ st', body st = some (.norm, st') ∧ ∃ m, m < n ∧ R m st') ∨ ∃ e st', body st = some (e, st') ∧ e ≠ .norm ∧ Q (some (e, st'))) :
    ∀ (n fuel : Nat) (st : St), R n st → n < fuel → Q (run.loopN body fuel st) := by
  intro n
  induction n using Nat.strongRecOn with
  | _ n ih =>
    intro fuel st hr hf
    obtain ⟨k, rfl⟩ : ∃ k, fuel = k + 1 := ⟨fuel - 1, by omega⟩
    rw [loop_succ]
    rcases h n st hr with ⟨st', h1, m, h2, h3⟩ | ⟨e, st', h1, h2, h3⟩
    · rw [h1]
      exact ih m h2 k st' h3 (by omega)
    · rw [h1]
      cases e with
      | norm => exact absurd rfl h2
      | _ => exact h3

/-- A slice of numbers, as a tree. -/
def sl (b : Bool) (l : List Int) : D := .nd (.sl b 1 l.length) (l.map fun n => .v (.int .i64 n))

theorem sl_get {l : List Int} {i : Nat} {x : Int} (h : l[i]? = some x) : (l.map fun n => (T.v (.int .i64 n) : D))[i]? = some (.v (.int .i64 x)) := by
  rw [List.getElem?_map, h]; rfl

theorem sem_succ {tbl : FuncId → Option MF} {fuel n : Nat} {f : FuncId} {ds : List D} {mf : MF} (h : tbl f = some mf) (hb : hasB mf.code = false := by rfl) : sem tbl fuel (n + 1) f ds = callF (sem tbl fuel n) fuel mf ds := by
  simp [sem, h, callM, hb]
theorem sem_succB {tbl : FuncId → Option MF} {fuel n : Nat} {f : FuncId} {ds : List D} {mf : MF} (h : tbl f = some mf) (hb : hasB mf.code = true := by rfl) : sem tbl fuel (n + 1) f ds = callB (sem tbl fuel n) fuel mf ds := by
  simp [sem, h, callM, hb]

/-- Values of type int. -/
def I64 (n : Int) : Prop := -9223372036854775808 ≤ n ∧ n ≤ 9223372036854775807

theorem wrap_eq {n : Int} (h : I64 n) : IntKind.i64.wrap n = n := by
  rw [IntKind.wrap_i64]
  unfold I64 at h
  omega

theorem wrap_range (n : Int) : I64 (IntKind.i64.wrap n) := by
  rw [IntKind.wrap_i64]
  unfold I64
  omega

end Go.Mx
