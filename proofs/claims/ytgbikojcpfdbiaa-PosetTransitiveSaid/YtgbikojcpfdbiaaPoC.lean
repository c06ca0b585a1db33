import Derived.Test.YtgbikojcpfdbiaaPoB
/-
  Posets: valid digraphs, the program's function.
-/
namespace Go.Mx
set_option linter.unusedVariables false
set_option linter.unusedSimpArgs false
set_option linter.unusedSectionVars false
open Go

set_option maxHeartbeats 8000000 in
set_option maxRecDepth 100000 in
theorem loop20_0 (call : Oracle) (fuel : Nat) (hf : 1000 ≤ fuel) (b : Bool) (n : Int) (a : List (Int × Int)) (hl : a.length ≤ 150) (st : St)
    (h0 : drops st h20_0 = L20_0 (ii n) (.ro (asl b a)) (.ro (asl b a)) (ii a.length) (ii 0)) :
    run.loopN (run call fuel b20_0) fuel st = if (List.range a.length).all (okArc n a) then some (.ex 0, X20_0) else some (.ret, R20 (bb false)) := by
  refine loop_rule (fun m st => ∃ i : Nat, i ≤ a.length ∧ m = a.length - i ∧ (List.range i).all (okArc n a) = true ∧ drops st h20_0 = L20_0 (ii n) (.ro (asl b a)) (.ro (asl b a)) (ii a.length) (ii (i : Nat)))
    (fun r => r = if (List.range a.length).all (okArc n a) then some (.ex 0, X20_0) else some (.ret, R20 (bb false))) ?_ a.length fuel st ⟨0, by omega, by omega, by simp, by simpa using h0⟩ (by omega)
  rintro m st ⟨i, hi, hm, hall, hst⟩
  have hkl := arcs_len a
  by_cases hlt : i < a.length
  · have hw := wrap_succ (i := i) (by omega)
    obtain ⟨f, t, hp⟩ : ∃ f t, a[i]? = some (f, t) := ⟨_, _, List.getElem?_eq_getElem hlt⟩
    have h2 := arcs_two hp
    have hnext : okArc n a i = true → (List.range (i + 1)).all (okArc n a) = true := fun h => by
      rw [List.range_succ, List.all_append, hall]; simp [h]
    have hbad : okArc n a i = false → (List.range a.length).all (okArc n a) = false := fun h => by
      rw [List.all_eq_false]
      exact ⟨i, List.mem_range.2 hlt, by simp [h]⟩
    obtain ⟨g1, g2⟩ := arcs_get hp
    have hsl : asl b a = .nd (.sl b 2 a.length) (a.flatMap arcD) := rfl
    rw [hsl] at hst
    generalize hK : a.flatMap arcD = K at *
    have hle : i * 2 + 2 ≤ K.length := by omega
    have hle2 : i * 2 + 2 ≤ a.length * 2 := by omega
    by_cases c1 : f < 0
    · have d1 : ¬ 0 ≤ f := by omega
      right
      have hb : okArc n a i = false := by simp [okArc, hp, d1]
      refine ⟨.ret, _, by rw [b20_0, run_scr, hst]; simp (maxSteps := 100000000) [hlt, hkl, hle2, aggR, h2, loadN, Mx.store, target, cellsOfD, flatOk, putCells, Value.oneCell', hw, c1]; rfl, by simp, ?_⟩
      rw [hbad hb]
      simp
    · have d1 : 0 ≤ f := by omega
      by_cases c2 : n ≤ f
      · have d2 : ¬ f < n := by omega
        right
        have hb : okArc n a i = false := by simp [okArc, hp, d2]
        refine ⟨.ret, _, by rw [b20_0, run_scr, hst]; simp (maxSteps := 100000000) [hlt, hkl, hle2, aggR, h2, loadN, Mx.store, target, cellsOfD, flatOk, putCells, Value.oneCell', hw, c1, c2]; rfl, by simp, ?_⟩
        rw [hbad hb]
        simp
      · have d2 : f < n := by omega
        by_cases c3 : t < 0
        · have d3 : ¬ 0 ≤ t := by omega
          right
          have hb : okArc n a i = false := by simp [okArc, hp, d3]
          refine ⟨.ret, _, by rw [b20_0, run_scr, hst]; simp (maxSteps := 100000000) [hlt, hkl, hle2, aggR, h2, loadN, Mx.store, target, cellsOfD, flatOk, putCells, Value.oneCell', hw, c1, c2, c3]; rfl, by simp, ?_⟩
          rw [hbad hb]
          simp
        · have d3 : 0 ≤ t := by omega
          by_cases c4 : n ≤ t
          · have d4 : ¬ t < n := by omega
            right
            have hb : okArc n a i = false := by simp [okArc, hp, d4]
            refine ⟨.ret, _, by rw [b20_0, run_scr, hst]; simp (maxSteps := 100000000) [hlt, hkl, hle2, aggR, h2, loadN, Mx.store, target, cellsOfD, flatOk, putCells, Value.oneCell', hw, c1, c2, c3, c4]; rfl, by simp, ?_⟩
            rw [hbad hb]
            simp
          · have d4 : t < n := by omega
            by_cases c5 : f = t
            · have d5 : (f == t) = true := by simpa using c5
              right
              have hb : okArc n a i = false := by simp [okArc, hp, d5]
              refine ⟨.ret, _, by rw [b20_0, run_scr, hst]; simp (maxSteps := 100000000) [hlt, hkl, hle2, aggR, h2, loadN, Mx.store, target, cellsOfD, flatOk, putCells, Value.oneCell', hw, c1, c2, c3, c4, d5]; rfl, by simp, ?_⟩
              rw [hbad hb]
              simp
            · have d5 : (f == t) = false := by simpa using c5
              by_cases c0 : i = 0
              · have e0 : (i == 0) = true := by simpa using c0
                have p0 : ¬ 0 < i := by omega
                left
                have hb : okArc n a i = true := by simp [okArc, hp, d1, d2, d3, d4, d5, e0]
                refine ⟨_, by rw [b20_0, run_scr, hst]; simp (maxSteps := 100000000) [hlt, hkl, hle2, aggR, h2, loadN, Mx.store, target, cellsOfD, flatOk, putCells, Value.oneCell', hw, p0, c1, c2, c3, c4, d5]; rfl, m - 1, by omega, i + 1, by omega, by omega, hnext hb, ?_⟩
                simp [asl, hK, hw]
              · obtain ⟨k, hk⟩ : ∃ k, i = k + 1 := ⟨i - 1, by omega⟩
                have e0 : (i == 0) = false := by simpa using c0
                have e1 : i - 1 = k := by omega
                have p0 : 0 < i := by omega
                obtain ⟨f', t', hp'⟩ : ∃ f' t', a[k]? = some (f', t') := ⟨_, _, List.getElem?_eq_getElem (by omega)⟩
                obtain ⟨k1, k2⟩ := arcs_get hp'
                rw [hK] at k1 k2
                obtain ⟨_, k3⟩ := List.getElem?_eq_some_iff.1 k1
                obtain ⟨_, k4⟩ := List.getElem?_eq_some_iff.1 k2
                have w4 : k * 2 < a.length * 2 := by omega
                have w5 : k * 2 + 1 < a.length * 2 := by omega
                have w0 : IntKind.i64.wrap ((i : Int) - 1) = (k : Int) := by rw [wrap_eq (by unfold I64; omega)]; omega
                have w2 : k < a.length := by omega
                have w3 : k * 2 + 2 ≤ a.length * 2 := by omega
                by_cases c6 : f < f'
                · right
                  have hb : okArc n a i = false := by simp [okArc, hp, hp', e0, e1, c6]
                  refine ⟨.ret, _, by rw [b20_0, run_scr, hst]; simp (maxSteps := 100000000) [hlt, hkl, hle2, aggR, h2, loadN, Mx.store, target, cellsOfD, flatOk, putCells, Value.oneCell', hw, p0, c1, c2, c3, c4, d5, w0, w2, w3, k1, k2, k3, k4, w4, w5, c6]; rfl, by simp, ?_⟩
                  rw [hbad hb]
                  simp
                · by_cases c7 : f = f'
                  · have d7 : (f == f') = true := by simpa using c7
                    by_cases c8 : t ≤ t'
                    · right
                      have hb : okArc n a i = false := by simp [okArc, hp, hp', e0, e1, d7, c8]
                      refine ⟨.ret, _, by rw [b20_0, run_scr, hst]; simp (maxSteps := 100000000) [hlt, hkl, hle2, aggR, h2, loadN, Mx.store, target, cellsOfD, flatOk, putCells, Value.oneCell', hw, p0, c1, c2, c3, c4, d5, w0, w2, w3, k1, k2, k3, k4, w4, w5, c6, d7, c8]; rfl, by simp, ?_⟩
                      rw [hbad hb]
                      simp
                    · left
                      have hb : okArc n a i = true := by simp [okArc, hp, hp', e0, e1, d1, d2, d3, d4, d5, c6, d7, c8]
                      refine ⟨_, by rw [b20_0, run_scr, hst]; simp (maxSteps := 100000000) [hlt, hkl, hle2, aggR, h2, loadN, Mx.store, target, cellsOfD, flatOk, putCells, Value.oneCell', hw, p0, c1, c2, c3, c4, d5, w0, w2, w3, k1, k2, k3, k4, w4, w5, c6, d7, c8]; rfl, m - 1, by omega, i + 1, by omega, by omega, hnext hb, ?_⟩
                      simp [asl, hK, hw]
                  · have d7 : (f == f') = false := by simpa using c7
                    left
                    have hb : okArc n a i = true := by simp [okArc, hp, hp', e0, e1, d1, d2, d3, d4, d5, c6, d7]
                    refine ⟨_, by rw [b20_0, run_scr, hst]; simp (maxSteps := 100000000) [hlt, hkl, hle2, aggR, h2, loadN, Mx.store, target, cellsOfD, flatOk, putCells, Value.oneCell', hw, p0, c1, c2, c3, c4, d5, w0, w2, w3, k1, k2, k3, k4, w4, w5, c6, d7]; rfl, m - 1, by omega, i + 1, by omega, by omega, hnext hb, ?_⟩
                    simp [asl, hK, hw]
  · right
    have : i = a.length := by omega
    subst this
    refine ⟨.ex 0, _, by rw [b20_0, run_scr, hst]; simp [asl]; rfl, by simp, ?_⟩
    simp [hall]

end Go.Mx
