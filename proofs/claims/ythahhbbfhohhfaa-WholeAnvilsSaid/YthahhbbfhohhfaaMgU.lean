import Derived.Test.YthahhbbfhohhfaaMgS
import Derived.Test.YthahhbbfhohhfaaMgB
import Derived.StillTailTactics
/-
  How arcs are compared; slices.SortFunc at arcs.
-/
namespace Go.Mx
set_option linter.unusedVariables false
set_option linter.unusedSimpArgs false
set_option linter.unusedSectionVars false
open Go Go.RowKit Go.Lib Go.Sort Go.Proofs
def cfA (x y : Int × Int) : Int:=if Lib.compareInt x.1 y.1 = 0 then Lib.compareInt x.2 y.2 else Lib.compareInt x.1 y.1
theorem ltA (x y : Int × Int) : ltOf cfA x y = decide (x.1 < y.1 ∨ x.1 = y.1∧x.2 < y.2):=by
  unfold ltOf cfA Lib.compareInt
  rw [Bool.eq_iff_iff,decide_eq_true_eq,decide_eq_true_eq]
  split <;> split <;> (try split) <;> (try split) <;> omega
theorem swoA : SWO (ltOf cfA) where
  irrefl x:=by rw [ltA]; simp
  trans x y z h1 h2:=by rw [ltA] at *; simp only [decide_eq_true_eq] at *; omega
  ntrans x y z h1 h2:=by rw [ltA] at *; simp only [decide_eq_false_iff_not] at *; omega
theorem totA (x y : Int × Int) (h1 : ltOf cfA x y = false) (h2 : ltOf cfA y x = false) : x = y:=by
  rw [ltA] at *
  simp only [decide_eq_false_iff_not] at *
  exact Prod.ext (by omega) (by omega)
theorem cmp36 (x y : Int) (W : World) : Calls Try.prog 36 #[.int .i64 x,.int .i64 y] W fun e w' => e = .returned (.int .i64 (Lib.compareInt x y))∧w' = W :=
  AnyG.cmp_Compare_int cmpL x y W
set_option maxHeartbeats 1000000 in
theorem or35 (x y : Int) (b c : Nat) (W : World) (h1 : W.cell? ⟨b,0,none⟩ = some (.int .i64 x)) (h2 : W.cell? ⟨b,1,none⟩ = some (.int .i64 y)) :
    Calls Try.prog 35 #[.slice (some ⟨b,0,none⟩) 2 c] W fun e w' => e = .returned (.int .i64 (if x = 0 then y else x))∧w' = W:=by
  go_enter Try.func35,Try.ntmps35
  go_wp2_with fail
  refine wp_loop_rounds 3 ?_
  by_cases hx : x = 0
  · subst hx
    by_cases hy : y = 0
    · subst hy
      rw [rounds_succ]
      go_wp2_with fail
      rw [rounds_succ]
      go_wp2_with fail
      rw [rounds_succ]
      go_wp2_with fail
      go_ret
      exact ⟨rfl,rfl⟩
    · have hy2 : (y == 0) = false:=by simpa using hy
      rw [rounds_succ]
      go_wp2_with fail
      rw [rounds_succ]
      go_wp2_with fail
      go_ret
      exact ⟨rfl,rfl⟩
  · have hx2 : (x == 0) = false:=by simpa using hx
    rw [rounds_succ]
    go_wp2_with fail
    go_ret
    exact ⟨rfl,rfl⟩
set_option maxHeartbeats 1000000 in
theorem still_tail' {P : Program} {w : World} {id : Nat} {Q : Exit→Act→World→Prop} {a : Act} {l : List Oper} (n : Nat) (hm : P.follows .mixedOrders = true) (hB : Region.lexTailB .any l.toArray n = true)
    (h : wpStill P l.toArray w.drew (fun a' => wpList P l.toArray Q (l.drop n) a' w.drew) (l.take n) a) : (Code.region id l.toArray true).wp P Q a w:=wp_region_still_tail n hm hB h
set_option maxRecDepth 100000 in
set_option maxHeartbeats 1000000 in
theorem closure34 (x y : Int × Int) (W : World) : Calls Try.prog 34 #[.agg #[.int .i64 x.1,.int .i64 x.2],.agg #[.int .i64 y.1,.int .i64 y.2]] W fun e w' => e = .returned (.int .i64 (cfA x y))∧∃ q os',w' = grow (W.drewN q) os':=by
  unfold cfA
  have h1:=fun W' => cmp36 x.1 y.1 W'
  have h2:=fun W' => cmp36 x.2 y.2 W'
  obtain ⟨x1,x2⟩:=x
  obtain ⟨y1,y2⟩:=y
  generalize Lib.compareInt x1 y1 = r1 at h1 ⊢
  generalize Lib.compareInt x2 y2 = r2 at h2 ⊢
  go_enter Try.func34,Try.ntmps34
  go_wp2_with fail
  refine still_tail' 10 (by kernel_rfl) (by kernel_rfl) ?_
  obtain ⟨w2,hw2⟩ : ∃ w2,w2 = ((W.alloc (.cells #[.int .i64 x1,.int .i64 x2] 43)).alloc (.cells #[.int .i64 y1,.int .i64 y2] 43)).drew:=⟨_,rfl⟩
  rw [← hw2]
  have z1 : (W.alloc (.cells #[.int .i64 x1,.int .i64 x2] 43)).heap.size = W.heap.size + 1:=by simp
  have b1 : w2.heap[W.heap.size]? = some (.cells #[.int .i64 x1,.int .i64 x2] 43 (0,0)):=by
    rw [hw2]
    show ((W.alloc _).alloc _).heap[_]? = _
    rw [Below.heap_alloc _ _ _ (by omega)]
    exact heap_new _ _
  have b2 : w2.heap[W.heap.size + 1]? = some (.cells #[.int .i64 y1,.int .i64 y2] 43 (0,0)):=by
    rw [hw2,← z1]
    exact heap_new _ _
  have c1 : w2.cell? ⟨W.heap.size,0,none⟩ = some (.int .i64 x1):=by simp [World.cell?,b1]
  have c2 : w2.cell? ⟨W.heap.size,1,none⟩ = some (.int .i64 x2):=by simp [World.cell?,b1]
  have c3 : w2.cell? ⟨W.heap.size + 1,0,none⟩ = some (.int .i64 y1):=by simp [World.cell?,b2]
  have c4 : w2.cell? ⟨W.heap.size + 1,1,none⟩ = some (.int .i64 y2):=by simp [World.cell?,b2]
  have HW:=Lib.hid hw2
  clear b1 b2 z1 hw2
  simp only [List.take_succ_cons,List.take_zero,List.drop_succ_cons,List.drop_zero]
  iterate 4 still_step
  still_call (h1 _)
  iterate 4 still_step
  still_call (h2 _)
  refine wpStill_nil ?_
  go_wp2_with fail
  refine (or35 r1 r2 _ _ _ (by unfold World.cell?; rw [heap_new]; rfl) (by unfold World.cell?; rw [heap_new]; rfl)).mono ?_
  rintro e w' ⟨rfl,rfl⟩
  have HG : Hid (∀ r1 r2 : Int,∃ q os',w2.alloc (.cells #[.int .i64 r1,.int .i64 r2] 3) = grow (W.drewN q) os'):=by
    intro r1 r2
    refine ⟨1,#[.cells #[.int .i64 x1,.int .i64 x2] 43,.cells #[.int .i64 y1,.int .i64 y2] 43] ++ #[.cells #[.int .i64 r1,.int .i64 r2] 3],?_⟩
    rw [HW.out,alloc_eq_grow,alloc_eq_grow W,alloc_eq_grow,grow_grow,drew_grow,grow_grow]
    rfl
  go_wp2_with fail
  all_goals
    go_ret
    exact ⟨rfl,HG.out _ _⟩
def srtA (d : Array (Int × Int)) : Array (Int × Int):=(d.toList.mergeSort fun x y => !(ltOf cfA) y x).toArray
theorem sort33 (blk cap : Nat) (d : Array (Int × Int)) (w : World) (hH : HoldsK encA 2 w blk 0 d) (hblk : blk < w.heap.size) (hsz : d.size ≤ 1000000) :
    Calls Try.prog 33 #[.slice (some ⟨blk,0,none⟩) d.size cap,.func (.func 34) #[] #[]] w fun e w' => e = .returned (.tuple #[])∧∃ n os,w' = sortWorldK encA 2 w blk 0 n (srtA d) os :=
  AnyQ.slices_SortFunc_total sortL 2 Try.isAgg43 Try.sizeOf43 encA encA_len encA_one cfA swoA 34 #[] blk 0 cap d w (enters_of Try.func34 (by kernel_rfl) rfl) (fun _ _ _ _ x y => closure34 x y _) hH hblk (by omega) totA
theorem sort33_none (p : Option Addr) (cap : Nat) (w : World) : Calls Try.prog 33 #[.slice p 0 cap,.func (.func 34) #[] #[]] w fun e w' => e = .returned (.tuple #[])∧w' = w :=
  AnyF.slices_SortFunc_none sortL p cap _ w
end Go.Mx
