/-
  Chapter 31: IsChains returns what the reference implementation returns, and Chains is a partition into the fewest chains; for every input, without a condition.
-/
import Derived.Test.YtidjaglfjinngaaRows
import Derived.Test.YtidjaglfjinngaaMgR
import Derived.Test.YtidjaglfjinngaaAq9
import Derived.WalkKit
import Derived.ProofKit
import Derived.OpenShut
import Derived.ShutString
import Derived.ChangeOld
import Derived.Below
namespace Go.Proofs.Ytidjaglfjinngaa.anvilChains
open Go.ChangeShapes Go.WideShapes Go.ChangeAt Go.RowKit
open Go.ChangeMaps (open_string shut_string)
set_option linter.unusedVariables false
set_option linter.unusedSimpArgs false

theorem own : ownKnob Try.prog.godebug = none := by kernel_rfl
theorem laidOut : laidOutB Try.prog = true := by kernel_rfl

theorem walk (w : World) (a0 : Int) (w0 : (Lit.int .i64 a0).wf = true) (v1 : Value) (d1 : Go.Mx.D) (w1 : Go.Mx.ArgOK w v1 d1) (r1 : (Go.Mx.TD.rd (.sl (.st [(.int .i64), (.int .i64)])) [d1])) (v2 : Value) (d2 : Go.Mx.D) (w2 : Go.Mx.ArgOK w v2 d2) (r2 : (Go.Mx.TD.rd (.sl (.sl (.int .i64))) [d2])) :
    Calls Try.prog 9 #[.int .i64 a0, v1, v2] w fun e w' => e = .returned (.bool true) ∧ Below w.heap.size w w' := by
  obtain ⟨ba, a, rfl, _⟩ := Go.Mx.rd_arcs r1
  obtain ⟨bc, cs, rfl⟩ := Go.Mx.rd_lists r2
  exact Go.Mx.calls_top Go.Mx.comp9 (Go.Mx.law9 ba bc a0 a cs) (.cons (Go.Mx.ArgOK.sc _ _) (.cons w1 (.cons w2 (.nil _))))

set_option maxRecDepth 100000 in
theorem lifted (os : Os) (started : os.Started) (H : Type) (enc : TypeId × Value → H) :
    ReturnsInHanded {} Try.checked os 9 .any (Rows.anvilChainsSpec.pre6 enc Try.prog Try.f9 Rows.anvilChainsRow.domain false) (Rows.anvilChainsSpec.post enc Try.prog Try.f9 false true false false) := by
  refine returnsInHanded_of_change (C := Try.checked) own started (by kernel_rfl) Try.func9
    (ChangeSpec.witness6 (enc := enc) (C := Try.checked) false ⟨#[], #[.int .i64 0, .slice none 0 0, .slice none 0 0], []⟩ 8 (by kernel_rfl) (by kernel_rfl) (by kernel_rfl) (by kernel_rfl)) ?_
  intro W base args ds gs before hval0 hW hcnd _
  have hval : ∀ (j : Nat) t v, Try.f9.params[j]? = some t → args[j]? = some v → Value.okWide Try.prog W .any base t v := hval0
  have hW' := hW
  obtain ⟨p, q, hA0, hV, rfl, hfz, hnd⟩ := hW
  have hA : DataW.TrodAll enc Try.prog W 0 (fun _ => true) true Try.f9.params.toList args.toList ds p := hA0
  rw [Try.params9] at hA hval
  obtain ⟨v0, vs0, d0, ds0, p0, q0, hargs, rfl, rfl, h0, r0⟩ := trodAll_cons hA
  obtain ⟨v1, vs1, d1, ds1, p1, q1, rfl, rfl, rfl, h1, r1⟩ := trodAll_cons r0
  obtain ⟨v2, vs2, d2, ds2, p2, q2, rfl, rfl, rfl, h2, r2⟩ := trodAll_cons r1
  obtain ⟨rfl, rfl, rfl⟩ := trodAll_nil r2
  obtain rfl : args = #[v0, v1, v2] := by cases args; simp_all
  obtain ⟨rfl, rfl⟩ := trodVars_none hV
  obtain ⟨a0, rfl, rfl, rfl, w0⟩ := open_int Try.underlying3 (hval 0 3 v0 rfl rfl) h0
  have k1 := h1
  have lt1 : ∀ x ∈ p1, x.block < W.heap.size := by obtain ⟨m, hm⟩ := k1; exact DataW.trod_lt m _ _ _ hm
  obtain ⟨b1, len1, cap1, rfl⟩ := okWide_slice Try.underlying22 (hval 1 22 v1 rfl rfl)
  obtain ⟨e1, w1, g1⟩ := Go.Mx.ArgOK.of_trod (td := (.sl (.st [(.int .i64), (.int .i64)]))) (⟨36, Go.Proofs.Try.underlying22, ⟨_, Go.Proofs.Try.underlying36, ⟨_, _, rfl, rfl, Go.Proofs.Try.underlying3, by kernel_rfl, ⟨_, _, rfl, rfl, Go.Proofs.Try.underlying3, by kernel_rfl, rfl⟩⟩, by kernel_rfl⟩, by kernel_rfl, by decide⟩) h1 rfl
  have k2 := h2
  have lt2 : ∀ x ∈ p2, x.block < W.heap.size := by obtain ⟨m, hm⟩ := k2; exact DataW.trod_lt m _ _ _ hm
  obtain ⟨b2, len2, cap2, rfl⟩ := okWide_slice Try.underlying25 (hval 2 25 v2 rfl rfl)
  obtain ⟨e2, w2, g2⟩ := Go.Mx.ArgOK.of_trod (td := (.sl (.sl (.int .i64)))) (⟨39, Go.Proofs.Try.underlying25, ⟨3, Go.Proofs.Try.underlying39, Go.Proofs.Try.underlying3, by kernel_rfl, by decide⟩, by kernel_rfl, by decide⟩) h2 rfl
  clear hA0 hval0
  refine (walk W a0 w0 _ _ w1 g1 _ _ w2 g2).mono fun e W' ⟨he, bel⟩ => ?_
  subst he
  exact ⟨_, rfl, _, _, _, [], _, [], hW', trodAll_mk1 (shut_bool Try.underlying4 _), (trodAll_cons_mk (shut_int Try.underlying3 w0) (trodAll_cons_mk (Below.trod laidOut (by kernel_rfl) (of_decide_eq_true (by kernel_rfl)) k1 bel lt1) (trodAll_cons_mk (Below.trod laidOut (by kernel_rfl) (of_decide_eq_true (by kernel_rfl)) k2 bel lt2) trodAll_mk0))), rfl, bel.frame _, fun h => by cases h⟩

theorem over : Rows.anvilChainsRow.holds Try.pinned (OpenSpec.ofChange Rows.anvilChainsSpec) :=
  OpenClaim.holds_of_wide 9 Try.f9 rfl rfl rfl rfl rfl rfl rfl ⟨rfl, rfl, rfl, rfl, rfl⟩ rfl rfl rfl rfl rfl (by kernel_rfl) Try.func9 (by kernel_rfl)
    (of_decide_eq_true (by kernel_rfl)) (by unfold Func.isWrapper; first | (rw [if_pos (by decide +kernel)]; kernel_rfl) | (rw [if_neg (by decide +kernel)]; exact ⟨rfl, rfl⟩))
    (fun os started H enc _ => lifted os started H enc)

theorem proved : Rows.AnvilChainsSaid := over
#print axioms proved
end Go.Proofs.Ytidjaglfjinngaa.anvilChains
