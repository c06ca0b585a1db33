/-
  Consistent evidence about the specimens of a corpus needs as many parallel streams as there are specimens that cannot be compared at once; one stream is enough exactly if there is only one sequence; and with enough anvils the work takes as many rounds as the longest chain has specimens; for every input, without a condition.
-/
import Derived.Test.YthahhbbfhohhfaaRows
import Derived.Test.YthahhbbfhohhfaaMgX
import Derived.WalkKit
import Derived.ProofKit
import Derived.OpenShut
import Derived.ShutString
import Derived.ChangeOld
import Derived.Below
namespace Go.Proofs.Ythahhbbfhohhfaa.wholeAnvils
open Go.ChangeShapes Go.WideShapes Go.ChangeAt Go.RowKit
open Go.ChangeMaps (open_string shut_string)
set_option linter.unusedVariables false
set_option linter.unusedSimpArgs false

theorem own : ownKnob Try.prog.godebug = none := by kernel_rfl
theorem laidOut : laidOutB Try.prog = true := by kernel_rfl

theorem walk (w : World) (v0 : Value) (d0 : Go.Mx.D) (w0 : Go.Mx.ArgOK w v0 d0) (r0 : (Go.Mx.TD.rd (.sl (.st [(.int .i64), (.int .i64), (.int .i64), (.int .i64), (.int .i64), (.int .i64), (.int .i64)])) [d0])) (v1 : Value) (d1 : Go.Mx.D) (w1 : Go.Mx.ArgOK w v1 d1) (r1 : (Go.Mx.TD.rd (.sl (.st [(.int .i64), (.int .i64)])) [d1])) (a2 : Int) (w2 : (Lit.int .u8 a2).wf = true) :
    Calls Try.prog 3 #[v0, v1, .int .u8 a2] w fun e w' => e = .returned (.bool true) ∧ Below w.heap.size w w' := by
  obtain ⟨b, l, rfl, _⟩ := Go.Mx.rd_spcs r0
  obtain ⟨b', cs, rfl, _⟩ := Go.Mx.rd_arcs r1
  exact Go.Mx.calls_semB Go.Mx.baseA_ok Go.Mx.tbl_ok (by decide) (Go.Mx.topA b b' l cs a2 (Go.Mx.wf_u8n w2)) (Go.Mx.Glob.none_at w) (.cons w0 (.cons w1 (.cons (Go.Mx.ArgOK.sc _ _) (.nil _))))

set_option maxRecDepth 100000 in
theorem lifted (os : Os) (started : os.Started) (H : Type) (enc : TypeId × Value → H) :
    ReturnsInHanded {} Try.checked os 3 .any (Rows.wholeAnvilsSpec.pre6 enc Try.prog Try.f3 Rows.wholeAnvilsRow.domain false) (Rows.wholeAnvilsSpec.post enc Try.prog Try.f3 false true false false) := by
  refine returnsInHanded_of_change (C := Try.checked) own started (by kernel_rfl) Try.func3
    (ChangeSpec.witness6 (enc := enc) (C := Try.checked) false ⟨#[], #[.slice none 0 0, .slice none 0 0, .int .u8 0], []⟩ 8 (by kernel_rfl) (by kernel_rfl) (by kernel_rfl) (by kernel_rfl)) ?_
  intro W base args ds gs before hval0 hW hcnd _
  have hval : ∀ (j : Nat) t v, Try.f3.params[j]? = some t → args[j]? = some v → Value.okWide Try.prog W .any base t v := hval0
  have hW' := hW
  obtain ⟨p, q, hA0, hV, rfl, hfz, hnd⟩ := hW
  have hA : DataW.TrodAll enc Try.prog W 0 (fun _ => true) true Try.f3.params.toList args.toList ds p := hA0
  rw [Try.params3] at hA hval
  obtain ⟨v0, vs0, d0, ds0, p0, q0, hargs, rfl, rfl, h0, r0⟩ := trodAll_cons hA
  obtain ⟨v1, vs1, d1, ds1, p1, q1, rfl, rfl, rfl, h1, r1⟩ := trodAll_cons r0
  obtain ⟨v2, vs2, d2, ds2, p2, q2, rfl, rfl, rfl, h2, r2⟩ := trodAll_cons r1
  obtain ⟨rfl, rfl, rfl⟩ := trodAll_nil r2
  obtain rfl : args = #[v0, v1, v2] := by cases args; simp_all
  obtain ⟨rfl, rfl⟩ := trodVars_none hV
  have k0 := h0
  have lt0 : ∀ x ∈ p0, x.block < W.heap.size := by obtain ⟨m, hm⟩ := k0; exact DataW.trod_lt m _ _ _ hm
  obtain ⟨b0, len0, cap0, rfl⟩ := okWide_slice Try.underlying22 (hval 0 22 v0 rfl rfl)
  obtain ⟨e0, w0, g0⟩ := Go.Mx.ArgOK.of_trod (td := (.sl (.st [(.int .i64), (.int .i64), (.int .i64), (.int .i64), (.int .i64), (.int .i64), (.int .i64)]))) (⟨97, Go.Proofs.Try.underlying22, ⟨_, Go.Proofs.Try.underlying97, ⟨_, _, rfl, rfl, Go.Proofs.Try.underlying3, by kernel_rfl, ⟨_, _, rfl, rfl, Go.Proofs.Try.underlying3, by kernel_rfl, ⟨_, _, rfl, rfl, Go.Proofs.Try.underlying3, by kernel_rfl, ⟨_, _, rfl, rfl, Go.Proofs.Try.underlying3, by kernel_rfl, ⟨_, _, rfl, rfl, Go.Proofs.Try.underlying3, by kernel_rfl, ⟨_, _, rfl, rfl, Go.Proofs.Try.underlying3, by kernel_rfl, ⟨_, _, rfl, rfl, Go.Proofs.Try.underlying3, by kernel_rfl, rfl⟩⟩⟩⟩⟩⟩⟩, by kernel_rfl⟩, by kernel_rfl, by decide⟩) h0 rfl
  have k1 := h1
  have lt1 : ∀ x ∈ p1, x.block < W.heap.size := by obtain ⟨m, hm⟩ := k1; exact DataW.trod_lt m _ _ _ hm
  obtain ⟨b1, len1, cap1, rfl⟩ := okWide_slice Try.underlying23 (hval 1 23 v1 rfl rfl)
  obtain ⟨e1, w1, g1⟩ := Go.Mx.ArgOK.of_trod (td := (.sl (.st [(.int .i64), (.int .i64)]))) (⟨65, Go.Proofs.Try.underlying23, ⟨_, Go.Proofs.Try.underlying65, ⟨_, _, rfl, rfl, Go.Proofs.Try.underlying3, by kernel_rfl, ⟨_, _, rfl, rfl, Go.Proofs.Try.underlying3, by kernel_rfl, rfl⟩⟩, by kernel_rfl⟩, by kernel_rfl, by decide⟩) h1 rfl
  obtain ⟨a2, rfl, rfl, rfl, w2⟩ := open_int Try.underlying5 (hval 2 5 v2 rfl rfl) h2
  clear hA0 hval0
  refine (walk W _ _ w0 g0 _ _ w1 g1 a2 w2).mono fun e W' ⟨he, bel⟩ => ?_
  subst he
  exact ⟨_, rfl, _, _, _, [], _, [], hW', trodAll_mk1 (shut_bool Try.underlying4 _), (trodAll_cons_mk (Below.trod laidOut (by kernel_rfl) (of_decide_eq_true (by kernel_rfl)) k0 bel lt0) (trodAll_cons_mk (Below.trod laidOut (by kernel_rfl) (of_decide_eq_true (by kernel_rfl)) k1 bel lt1) (trodAll_cons_mk (shut_int Try.underlying5 w2) trodAll_mk0))), rfl, bel.frame _, fun h => by cases h⟩

theorem over : Rows.wholeAnvilsRow.holds Try.pinned (OpenSpec.ofChange Rows.wholeAnvilsSpec) :=
  OpenClaim.holds_of_wide 3 Try.f3 rfl rfl rfl rfl rfl rfl rfl ⟨rfl, rfl, rfl, rfl, rfl⟩ rfl rfl rfl rfl rfl (by kernel_rfl) Try.func3 (by kernel_rfl)
    (of_decide_eq_true (by kernel_rfl)) (by unfold Func.isWrapper; first | (rw [if_pos (by decide +kernel)]; kernel_rfl) | (rw [if_neg (by decide +kernel)]; exact ⟨rfl, rfl⟩))
    (fun os started H enc _ => lifted os started H enc)

theorem proved : Rows.WholeAnvilsSaid := over
#print axioms proved
end Go.Proofs.Ythahhbbfhohhfaa.wholeAnvils
