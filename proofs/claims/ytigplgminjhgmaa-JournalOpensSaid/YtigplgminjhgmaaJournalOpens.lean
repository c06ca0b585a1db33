/-
  Chapter 8: bytes that are cut off are read as the complete entries; for every input, without a condition.
-/
import Derived.Test.YtigplgminjhgmaaRows
import Derived.Test.YtigplgminjhgmaaJoQ
import Derived.WalkKit
import Derived.ProofKit
import Derived.OpenShut
import Derived.ShutString
import Derived.ChangeOld
import Derived.Below
namespace Go.Proofs.Ytigplgminjhgmaa.journalOpens
open Go.ChangeShapes Go.WideShapes Go.ChangeAt Go.RowKit
open Go.ChangeMaps (open_string shut_string)
set_option linter.unusedVariables false
set_option linter.unusedSimpArgs false

theorem own : ownKnob Try.prog.godebug = none := by kernel_rfl
theorem laidOut : laidOutB Try.prog = true := by kernel_rfl

theorem walk (w : World) (v0 : Value) (d0 : Go.Mx.D) (w0 : Go.Mx.ArgOK w v0 d0) (r0 : (Go.Mx.TD.rd (.sl (.st [(.int .u8), (.sl (.int .u8))])) [d0])) (a1 : Int) (w1 : (Lit.int .u16 a1).wf = true) :
    Calls Try.prog 5 #[v0, .int .u16 a1] w fun e w' => e = .returned (.bool true) ∧ Below w.heap.size w w' := by
  obtain ⟨ba, a, rfl, ha⟩ := Go.Mx.rd_ents r0
  obtain ⟨x, rfl, hx⟩ := Go.Mx.wf_nat w1 rfl
  exact Go.Mx.calls_sem Go.Mx.tbl_ok (Go.Mx.law5 ba a ha x hx) (.cons w0 (.cons (Go.Mx.ArgOK.sc _ _) (.nil _)))

set_option maxRecDepth 100000 in
theorem lifted (os : Os) (started : os.Started) (H : Type) (enc : TypeId × Value → H) :
    ReturnsInHanded {} Try.checked os 5 .any (Rows.journalOpensSpec.pre6 enc Try.prog Try.f5 Rows.journalOpensRow.domain false) (Rows.journalOpensSpec.post enc Try.prog Try.f5 false true false false) := by
  refine returnsInHanded_of_change (C := Try.checked) own started (by kernel_rfl) Try.func5
    (ChangeSpec.witness6 (enc := enc) (C := Try.checked) false ⟨#[], #[.slice none 0 0, .int .u16 0], []⟩ 8 (by kernel_rfl) (by kernel_rfl) (by kernel_rfl) (by kernel_rfl)) ?_
  intro W base args ds gs before hval0 hW hcnd _
  have hval : ∀ (j : Nat) t v, Try.f5.params[j]? = some t → args[j]? = some v → Value.okWide Try.prog W .any base t v := hval0
  have hW' := hW
  obtain ⟨p, q, hA0, hV, rfl, hfz, hnd⟩ := hW
  have hA : DataW.TrodAll enc Try.prog W 0 (fun _ => true) true Try.f5.params.toList args.toList ds p := hA0
  rw [Try.params5] at hA hval
  obtain ⟨v0, vs0, d0, ds0, p0, q0, hargs, rfl, rfl, h0, r0⟩ := trodAll_cons hA
  obtain ⟨v1, vs1, d1, ds1, p1, q1, rfl, rfl, rfl, h1, r1⟩ := trodAll_cons r0
  obtain ⟨rfl, rfl, rfl⟩ := trodAll_nil r1
  obtain rfl : args = #[v0, v1] := by cases args; simp_all
  obtain ⟨rfl, rfl⟩ := trodVars_none hV
  have k0 := h0
  have lt0 : ∀ x ∈ p0, x.block < W.heap.size := by obtain ⟨m, hm⟩ := k0; exact DataW.trod_lt m _ _ _ hm
  obtain ⟨b0, len0, cap0, rfl⟩ := okWide_slice Try.underlying22 (hval 0 22 v0 rfl rfl)
  obtain ⟨e0, w0, g0⟩ := Go.Mx.ArgOK.of_trod (td := (.sl (.st [(.int .u8), (.sl (.int .u8))]))) (⟨33, Go.Proofs.Try.underlying22, ⟨_, Go.Proofs.Try.underlying33, ⟨_, _, rfl, rfl, Go.Proofs.Try.underlying5, by kernel_rfl, ⟨_, _, rfl, rfl, ⟨5, Go.Proofs.Try.underlying31, Go.Proofs.Try.underlying5, by kernel_rfl, by decide⟩, by kernel_rfl, rfl⟩⟩, by kernel_rfl⟩, by kernel_rfl, by decide⟩) h0 rfl
  obtain ⟨a1, rfl, rfl, rfl, w1⟩ := open_int Try.underlying35 (hval 1 35 v1 rfl rfl) h1
  clear hA0 hval0
  refine (walk W _ _ w0 g0 a1 w1).mono fun e W' ⟨he, bel⟩ => ?_
  subst he
  exact ⟨_, rfl, _, _, _, [], _, [], hW', trodAll_mk1 (shut_bool Try.underlying4 _), (trodAll_cons_mk (Below.trod laidOut (by kernel_rfl) (of_decide_eq_true (by kernel_rfl)) k0 bel lt0) (trodAll_cons_mk (shut_int Try.underlying35 w1) trodAll_mk0)), rfl, bel.frame _, fun h => by cases h⟩

theorem over : Rows.journalOpensRow.holds Try.pinned (OpenSpec.ofChange Rows.journalOpensSpec) :=
  OpenClaim.holds_of_wide 5 Try.f5 rfl rfl rfl rfl rfl rfl rfl ⟨rfl, rfl, rfl, rfl, rfl⟩ rfl rfl rfl rfl rfl (by kernel_rfl) Try.func5 (by kernel_rfl)
    (of_decide_eq_true (by kernel_rfl)) (by unfold Func.isWrapper; first | (rw [if_pos (by decide +kernel)]; kernel_rfl) | (rw [if_neg (by decide +kernel)]; exact ⟨rfl, rfl⟩))
    (fun os started H enc _ => lifted os started H enc)

theorem proved : Rows.JournalOpensSaid := over
#print axioms proved
end Go.Proofs.Ytigplgminjhgmaa.journalOpens
