import Derived.Test.YtgligngmbkkkkaaAxQ
/-
  The axis: the law on turning all hours, put together.
-/
namespace Go.Mx
set_option linter.unusedVariables false
set_option linter.unusedSimpArgs false
set_option linter.unusedSectionVars false
open Go

set_option maxHeartbeats 40000000 in
set_option maxRecDepth 100000 in
theorem f11_ok (call : Oracle) (fuel : Nat) (hf : 100 < fuel) (b : Bool) (l l' : List Int) (hl : l.length ≤ 80) (n k : Int) (r kk : Nat) (hm : modZ n 12 = (r : Int)) (t : Turn l l' r) (hk : modZ k 12 = (kk : Int)) (hkk : kk < 12) (q : Int) (hq : ((kk : Int) + 1).tdiv 2 = q)
    (w1 : IntKind.i64.wrap (1 + (kk : Int)) = (kk : Int) + 1) (w2 : IntKind.i64.wrap q = q)
    (h12 : call 12 [] = some (.v (.bool true))) (h16 : call 16 [sl b l] = some (.v (.bool true)))
    (h15 : ∀ a b : Int, b ≠ 0 → call 15 [.v (.int .i64 a), .v (.int .i64 b)] = some (.v (.int .i64 (modZ a b))))
    (h28 : call 28 [sl b l, .v (.int .i64 n)] = some (pr (sl b l') 0))
    (a1 a2 a3 a4 : Int) (h17 : call 17 [sl b l] = some (tri a1 a3 a4)) (h17' : call 17 [sl b l'] = some (tri a2 a3 a4))
    (m1 m2 m3 m4 : Int) (h19 : call 19 [sl b l] = some (tri m1 m3 m4)) (h19' : call 19 [sl b l'] = some (tri m2 m3 m4))
    (d1 d2 d3 d4 : Int) (h23 : call 23 [sl b l, .v (.int .i64 ((kk : Int) + 1))] = some (tri d1 d3 d4)) (h23' : call 23 [sl b l', .v (.int .i64 ((kk : Int) + 1))] = some (tri d2 d3 d4))
    (fx : Bool) (h22 : call 22 [sl b l, .v (.int .i64 q)] = some (.v (.bool fx))) (h22' : call 22 [sl b l', .v (.int .i64 q)] = some (.v (.bool fx)))
    (h26 : call 26 [sl b l] = some (pr (sl false (cntH l)) 0)) (h26' : call 26 [sl b l'] = some (pr (sl false (cntH l')) 0))
    (h28' : call 28 [sl b l', .v (.int .i64 (IntKind.i64.wrap (-(r : Int))))] = some (pr (sl b l) 0)) (h30 : call 30 [sl b l, sl b l] = some (.v (.bool true))) :
    callF call fuel qc11 [sl b l, .v (.int .i64 n), .v (.int .i64 k)] = some (.v (.bool true)) := by
  have e := qloop11_0 call fuel hf b l l' hl n r hm t h15
  have x1 := cntH_len l
  have x2 := cntH_len l'
  generalize cntH l = xc at *
  generalize cntH l' = yc at *
  generalize hK : (kk : Int) + 1 = K at *
  unfold sl tri pr tuD at *
  rw [x1] at h26
  rw [x2] at h26'
  rw [x1, x2] at e
  simp (maxSteps := 100000000) [qc11, h12, h16, h28, h15, hk, w1, h17, h17', h19, h19', h23, h23', hq, w2, h22, h22', h26, h26', isOwn]
  rw [e]
  · simp (maxSteps := 100000000) [hm, h15, h28', h30]
  · simp (maxSteps := 100000000)

end Go.Mx
