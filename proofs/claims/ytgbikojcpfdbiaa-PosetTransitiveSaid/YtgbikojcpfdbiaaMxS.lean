import Derived.Test.YtgbikojcpfdbiaaMxR
/-
  Mx, part S: what simp unfolds when it runs the machine.
-/
namespace Go.Mx
set_option linter.unusedVariables false
set_option linter.unusedSimpArgs false
set_option linter.unusedSectionVars false
open Go

attribute [simp] free valG val1 cp cpAll callF enterF Mx.stepG wanted step ev mkRo setv assign bin un intBin isShift takeAll Mx.take takeL rdAll rd rdL put mkOwn asNat elemAt addAt load1 cellV cellR lenOf placeD rootD
  getAt kidsOf boxKids Mx.slice optNat i64 noMem noMemL isSc drop1 isOwn ownDrop msk ownOuts V.kill V.under V.underL pre part MOp.dst List.replicate leave setAt kill eqSc resCell resMark

section
variable (call : Oracle) (fuel : Nat) (x : V) (s : St)
@[simp] theorem run_skip' : run call fuel .skip (x :: s) = some (.norm, x :: s) := rfl
@[simp] theorem run_ops' (l : List MG) : run call fuel (.ops l) (x :: s) = (stepsG call l (x :: s)).map fun st1 => (.norm, st1) := rfl
@[simp] theorem run_seq' (a b : MC) : run call fuel (.seq a b) (x :: s) = match run call fuel a (x :: s) with
    | some (.norm, st1) => run call fuel b st1
    | r => r := rfl
@[simp] theorem run_cnd' (c : MO) (a b : MC) : run call fuel (.cnd c a b) (x :: s) = match ev (x :: s) c with
    | .sc (.bool t) => if t then run call fuel a (x :: s) else run call fuel b (x :: s)
    | _ => none := rfl
@[simp] theorem run_blk' (id : Nat) (c : MC) : run call fuel (.blk id c) (x :: s) = match run call fuel c (x :: s) with
    | some (.ex i, st1) => if i = id then some (.norm, st1) else some (.ex i, st1)
    | r => r := rfl
@[simp] theorem run_lop' (c : MC) : run call fuel (.lop c) (x :: s) = run.loopN (run call fuel c) fuel (x :: s) := rfl
@[simp] theorem run_ex' (id : Nat) : run call fuel (.ex id) (x :: s) = some (.ex id, x :: s) := rfl
@[simp] theorem run_ret' : run call fuel .ret (x :: s) = some (.ret, x :: s) := rfl
@[simp] theorem run_scr' (m : List Bool) : run call fuel (.scr m) (x :: s) = some (.norm, drops (x :: s) m) := rfl
@[simp] theorem stepsG_nil' : stepsG call [] (x :: s) = some (x :: s) := rfl
@[simp] theorem stepsG_cons' (o : MG) (os : List MG) : stepsG call (o :: os) (x :: s) = match Mx.stepG call (x :: s) o with
    | some st1 => stepsG call os st1
    | none => none := rfl
@[simp] theorem run_drw' (f t : List MG) : run call fuel (.drw f t) (x :: s) = match stepsF call f (x :: s) with
    | some st1 => (stepsG call t st1).map fun st2 => (.norm, st2)
    | none => none := rfl
@[simp] theorem stepsF_nil' : stepsF call [] (x :: s) = some (x :: s) := rfl
@[simp] theorem stepsF_cons' (o : MG) (os : List MG) : stepsF call (o :: os) (x :: s) = match o.op.dst with
    | some d => if Mx.free (x :: s) d then match valG call (x :: s) o with
        | some y => stepsF call os ((x :: s).set d y)
        | none => none
      else none
    | none => none := rfl
@[simp] theorem drops' (m : List Bool) : drops (x :: s) m = if ownDrop m (x :: s) then (match (ownOuts 0 m (x :: s)).foldl drop1 (x :: s) with
    | st' => if ownDrop m st' then st' else msk m st') else msk m (x :: s) := rfl
@[simp] theorem resF' (rs : List Nat) : resF (x :: s) rs = match resCell rs with
    | some (a, m) => match loadN (x :: s) (ev (x :: s) (.t a)) m with
      | some y => match takeAll (setv (x :: s) a y) [.t a] with
        | some ([d], _) => some d
        | _ => none
      | none => none
    | none => match takeAll (x :: s) (rs.map .t) with
      | some ([d], _) => some d
      | some (ds, _) => some (.nd .tu ds)
      | none => none := rfl
end

theorem loop_succ (body : St → Option (Ex × St)) (n : Nat) (st : St) : run.loopN body (n + 1) st = match body st with
    | some (.norm, st1) => run.loopN body n st1
    | r => r := rfl

theorem run_scr (call : Oracle) (fuel : Nat) (m : List Bool) (c : MC) (st : St) : run call fuel (.seq (.scr m) c) st = run call fuel c (drops st m) := rfl

/-- A loop whose rounds are numbered downwards: what holds of each way out holds of the loop. -/
theorem loop_rule {body : St → Option (Ex × St)} (R : Nat → St → Prop) (Q : Option (Ex × St) → Prop)
    (h : ∀ n st, R n st → (∃ st', body st = some (.norm, st') ∧ ∃ m, m < n ∧ R m st') ∨ ∃ e st', body st = some (e, st') ∧ e ≠ .norm ∧ Q (some (e, st'))) :
    ∀ (n fuel : Nat) (st : St), R n st → n < fuel → Q (run.loopN body fuel st) := by
  intro n
  induction n using Nat.strongRecOn with
  | _ n ih =>
    intro fuel st hr hf
    obtain ⟨k, rfl⟩ : ∃ k, fuel = k + 1 := ⟨fuel - 1, by omega⟩
    rw [loop_succ]
    rcases h n st hr with ⟨st', h1, m, h2, h3⟩ | ⟨e, st', h1, h2, h3⟩
    · rw [h1]
      exact ih m h2 k st' h3 (by omega)
    · rw [h1]
      cases e with
      | norm => exact absurd rfl h2
      | _ => exact h3

/-- A slice of numbers, as a tree. -/
def sl (b : Bool) (l : List Int) : D := .nd (.sl b 1 l.length) (l.map fun n => .v (.int .i64 n))

theorem sl_get {l : List Int} {i : Nat} {x : Int} (h : l[i]? = some x) : (l.map fun n => (T.v (.int .i64 n) : D))[i]? = some (.v (.int .i64 x)) := by
  rw [List.getElem?_map, h]; rfl

theorem sem_succ {tbl : FuncId → Option MF} {fuel n : Nat} {f : FuncId} {ds : List D} {mf : MF} (h : tbl f = some mf) : sem tbl fuel (n + 1) f ds = callF (sem tbl fuel n) fuel mf ds := by
  simp only [sem, h]

/-- Values of type int. -/
def I64 (n : Int) : Prop := -9223372036854775808 ≤ n ∧ n ≤ 9223372036854775807

theorem wrap_eq {n : Int} (h : I64 n) : IntKind.i64.wrap n = n := by
  rw [IntKind.wrap_i64]
  unfold I64 at h
  omega

theorem wrap_range (n : Int) : I64 (IntKind.i64.wrap n) := by
  rw [IntKind.wrap_i64]
  unfold I64
  omega

end Go.Mx
