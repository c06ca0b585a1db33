import Derived.Test.YtgligngmbkkkkaaMxR
/-
  Mx, part S: what simp unfolds when it runs the machine.
-/
namespace Go.Mx
open Go

attribute [simp] callF enterF run stepsG Mx.stepG wanted step ev mkRo setv assign bin un intBin isShift resF takeAll Mx.take takeL rdAll rd rdL put mkOwn asNat elemAt addAt load1 cellV cellR lenOf placeD rootD
  getAt kidsOf boxKids Mx.slice optNat i64 noMem noMemL isSc drops drop1 V.kill V.under V.underL pre part MOp.dst List.replicate leave setAt kill eqSc

theorem loop_succ (body : St → Option (Ex × St)) (n : Nat) (st : St) : run.loopN body (n + 1) st = match body st with
    | some (.norm, st1) => run.loopN body n st1
    | r => r := rfl

theorem sem_succ {tbl : FuncId → Option MF} {fuel n : Nat} {f : FuncId} {ds : List D} {mf : MF} (h : tbl f = some mf) : sem tbl fuel (n + 1) f ds = callF (sem tbl fuel n) fuel mf ds := by
  simp only [sem, h]

/-- Values of type int. -/
def I64 (n : Int) : Prop := -9223372036854775808 ≤ n ∧ n ≤ 9223372036854775807

theorem wrap_eq {n : Int} (h : I64 n) : IntKind.i64.wrap n = n := by
  rw [IntKind.wrap_i64]
  unfold I64 at h
  omega

theorem wrap_range (n : Int) : I64 (IntKind.i64.wrap n) := by
  rw [IntKind.wrap_i64]
  unfold I64
  omega

end Go.Mx
