import Derived.Test.YthahhbbfhohhfaaMgN
import Derived.Shelf.SlSortCmp.NoneTotal
import Derived.WalkKit
import Derived.Deep.LoopGhost
import Derived.Deep.Draws
import Derived.Lib.Walk
import Derived.Sort.WalkB12
import Derived.Lib.SliceRun
import Derived.Lib.SlicesCompact
import Derived.Deep.QuietTactic
import Derived.BigQuiet
/-
  slices.Compact at arcs,by hand.
-/
namespace Go.Mx
set_option linter.unusedVariables false
set_option linter.unusedSimpArgs false
set_option linter.unusedSectionVars false
open Go Go.RowKit Go.Lib Go.Sort Go.Proofs
def encA (x : Int × Int) : List Value:=[.int .i64 x.1,.int .i64 x.2]
theorem encA_len (x : Int × Int) : (encA x).length = 2:=rfl
theorem encA_one (x : Int × Int) : ∀ v ∈ encA x,v.oneCell' = true:=by
  intro v hv
  simp [encA] at hv
  rcases hv with rfl | rfl <;> rfl
theorem plain43 : plainStruct Try.prog 43 = some [0,0]:=by kernel_rfl
theorem eq43 (x1 x2 y1 y2 : Int) (w : World) : (Op.equal 43 (.agg #[.int .i64 x1,.int .i64 x2]) (.agg #[.int .i64 y1,.int .i64 y2])).run Try.prog w = .ok (decide (x1 = y1) && decide (x2 = y2)) w ∧
    ∀ op X Y (w : World),(eqGuard op 43 X Y (.agg #[.int .i64 x1,.int .i64 x2]) (.agg #[.int .i64 y1,.int .i64 y2])).run Try.prog w = .ok () w :=
  run_agT («as»:=[.v (.int .i64 x1),.v (.int .i64 x2)]) (bs:=[.v (.int .i64 y1),.v (.int .i64 y2)]) plain43 (by simp [erL,er,eqAll,eqSc]; rw [Bool.eq_iff_iff]; simp) w
theorem eql43 (x1 x2 y1 y2 : Int) (w : World) : Sem.run Try.prog (binOp .eql 43 (.agg #[.int .i64 x1,.int .i64 x2]) (.agg #[.int .i64 y1,.int .i64 y2])) w = .ok (.bool (decide (x1 = y1) && decide (x2 = y2))) w:=by
  have b1 : ∀ A B,binOp .eql 43 (.agg A) (.agg B) = (do pure (.bool (← Op.equal 43 (.agg A) (.agg B))) : Sem Value):=fun _ _ => rfl
  simp [b1,(eq43 x1 x2 y1 y2 w).1]
theorem neq43 (x1 x2 y1 y2 : Int) (w : World) : Sem.run Try.prog (binOp .neq 43 (.agg #[.int .i64 x1,.int .i64 x2]) (.agg #[.int .i64 y1,.int .i64 y2])) w = .ok (.bool (!(decide (x1 = y1) && decide (x2 = y2)))) w:=by
  have b1 : ∀ A B,binOp .neq 43 (.agg A) (.agg B) = (do pure (.bool (!(← Op.equal 43 (.agg A) (.agg B)))) : Sem Value):=fun _ _ => rfl
  simp [b1,(eq43 x1 x2 y1 y2 w).1]
theorem flatA_set (d : Array (Int × Int)) (i : Nat) (x : Int × Int) (hi : i < d.size) : setMany (flatK encA 2 d) (i * 2) (encA x) = flatK encA 2 (d.setIfInBounds i x):=by
  refine ext_get! (by simp) fun t ht => ?_
  have ht' : t < d.size * 2:=by simpa using ht
  rw [get_setMany _ _ _ t (by simpa using ht'),get_flatK _ _ _ t ht',get_flatK _ _ _ t (by simpa using ht'),encA_len]
  by_cases b : t / 2 = i
  · rw [if_pos ((blk_iff 2 i t (by omega)).2 b),show t - i * 2 = t % 2 by omega,b]
    congr 1
    simp [hi]
  · rw [if_neg (fun h => b ((blk_iff 2 i t (by omega)).1 h)),getElem!_set_other d i _ _ b]
theorem putA_set (w : World) (blk : Nat) (d : Array (Int × Int)) (i : Nat) (x : Int × Int) (hi : i < d.size) :
    (putRowK encA 2 w blk 0 d).setCells blk (i * 2) (encA x) = putRowK encA 2 w blk 0 (d.setIfInBounds i x):=by
  have:=setCells_putRow w blk 0 (encA x) (i * 2) (flatK encA 2 d) (by rw [encA_len,size_flatK]; omega)
  rw [Nat.zero_add] at this
  unfold putRowK
  rw [this,flatA_set d i x hi]
theorem putA_lay (w : World) (blk : Nat) : ∀ (xs : List (Int × Int)) (d : Array (Int × Int)) (k : Nat),k + xs.length ≤ d.size→(putRowK encA 2 w blk 0 d).setCells blk (k * 2) (xs.flatMap encA) = putRowK encA 2 w blk 0 (Lib.lay d k xs)
  | [],_,_,_ => rfl
  | x :: r,d,k,h => by
    have h' : k + (r.length + 1) ≤ d.size:=by simpa using h
    have e : ((x :: r).flatMap encA) = encA x ++ r.flatMap encA:=rfl
    rw [e]
    show ((putRowK encA 2 w blk 0 d).setCells blk (k * 2) (encA x)).setCells blk (k * 2 + 1 + 1) (r.flatMap encA) = _
    rw [putA_set w blk d k x (by omega),show k * 2 + 1 + 1 = (k + 1) * 2 by omega,putA_lay w blk r _ (k + 1) (by simp; omega)]
    rfl
theorem storeA {w wr : World} {n blk kk m : Nat} {dk : Array (Int × Int)} (hk : kk < dk.size) (hwr : wr = putRowK encA 2 (Sort.ahead w n) blk 0 dk) (x y : Int) :
    ((wr.drewN m).setCell ⟨blk,kk * 2,none⟩ (.int .i64 x)).setCell ⟨blk,kk * 2 + 1,none⟩ (.int .i64 y) = putRowK encA 2 (Sort.ahead w (n + m)) blk 0 (dk.setIfInBounds kk (x,y)):=by
  rw [hwr,putRowK_drewN]
  exact putA_set _ blk dk kk (x,y) hk
theorem zero43 (w : World) : (zeroValue 43).run Try.prog w = .ok (.agg #[.int .i64 0,.int .i64 0]) w:=by
  exact Try.zeroValue43 w
theorem rep_flat (n : Nat) : (List.replicate n ((0 : Int),(0 : Int))).flatMap encA = List.replicate (n * 2) (.int .i64 0):=by
  induction n with
  | zero => rfl
  | succ n ih => rw [List.replicate_succ,List.flatMap_cons,ih,show (n + 1) * 2 = n * 2 + 1 + 1 by omega,List.replicate_succ,List.replicate_succ]; rfl
theorem clearA (w : World) (ty : TypeId) (b o n c : Nat) (hn : 0 < n) (hc : ∀ j,j < n * 2→(w.cell? ⟨b,o + j,none⟩).isSome = true) (hf : ∀ j,j < n * 2→w.frozen? ⟨b,o + j,none⟩ = false) :
    (Builtin.clear_ #[25] ty #[.slice (some ⟨b,o,none⟩) n c]).run Try.prog w = .ok (.tuple #[]) (w.setCells b o ((List.replicate n ((0 : Int),(0 : Int))).flatMap encA)):=by
  have hzc : (Builtin.zeroCells (Value.agg #[.int .i64 0,.int .i64 0]).cells n).toList = List.replicate (n * 2) (.int .i64 0):=by
    show (Builtin.zeroCells #[.int .i64 0,.int .i64 0] n).toList = _
    unfold Builtin.zeroCells
    apply List.ext_getElem
    · simp
    · intro i h1 h2
      have : i % 2 = 0 ∨ i % 2 = 1:=by omega
      rcases this with h | h <;> simp [h]
  have hst:=run_storeCells_cells (P:=Try.prog) b o (List.replicate (n * 2) (.int .i64 0)) 0 w (by simpa using hc) (by simpa using hf) (by intro v hv'; rw [List.eq_of_mem_replicate hv']; rfl)
  simp only [Nat.add_zero] at hst
  rw [rep_flat]
  obtain ⟨m,rfl⟩ : ∃ m,n = m + 1:=⟨n - 1,by omega⟩
  simp [Builtin.clear_,run_underlying Try.underlying25,zero43,hzc,hst]
theorem wrI {n : Nat} (h : n < 9223372036854775808) : IntKind.i64.wrap (n : Int) = (n : Int):=wrap_eq (by unfold I64; omega)
set_option maxHeartbeats 4000000 in
set_option maxRecDepth 1000000 in
theorem compactA_arr (blk cap : Nat) (d : Array (Int × Int)) (w : World) (hH : HoldsK encA 2 w blk 0 d) (hsz : d.size ≤ 1000000) (hcap : d.size ≤ cap) :
    Calls Try.prog 37 #[.slice (some ⟨blk,0,none⟩) d.size cap] w fun e w' => e = .returned (.slice (some ⟨blk,0,none⟩) (compactUpTo d d.size).length cap)∧∃ q,w' = putRowK encA 2 (Sort.ahead w q) blk 0 (compactUpTo d d.size ++ List.replicate (d.size - (compactUpTo d d.size).length) (0,0)).toArray:=by
  have same : ∀ q,(∀ j,j < d.size→keeps d j = true)→(compactUpTo d d.size).length = d.size∧w.drewN q = putRowK encA 2 (Sort.ahead w q) blk 0 (compactUpTo d d.size ++ List.replicate (d.size - (compactUpTo d d.size).length) (0,0)).toArray:=by
    intro q hall
    have e : compactUpTo d d.size = d.toList:=by rw [compactUpTo_all d _ hall,range_map_get]
    rw [e]
    refine ⟨by simp,?_⟩
    simp only [Array.length_toList,Nat.sub_self,List.replicate_zero,List.append_nil,Array.toArray_toList]
    exact (putRowK_self encA 2 (Sort.ahead w q) blk 0 d (holdsK_ahead encA 2 w q blk 0 d hH)).symm
  have HS : Aside (∀ q,(∀ j,j < d.size→keeps d j = true)→(compactUpTo d d.size).length = d.size∧w.drewN q = putRowK encA 2 (Sort.ahead w q) blk 0 (compactUpTo d d.size ++ List.replicate (d.size - (compactUpTo d d.size).length) (0,0)).toArray):=same
  clear same
  by_cases h2 : d.size < 2
  · have HH : Aside (HoldsK encA 2 w blk 0 d):=hH
    clear hH
    go_enter Try.func37,Try.ntmps37
    go_wp2_with fail
    go_ret
    obtain ⟨e1,e2⟩:=HS.out 0 (fun j hj => keeps_lt_one d j (by omega))
    exact ⟨by rw [e1]; rfl,0,e2⟩
  · go_enter Try.func37,Try.ntmps37
    go_wp2_with fail
    go_loopg [3] d.size (fun g s3 wr => ∃ k q : Nat,1 ≤ k∧k ≤ d.size∧d.size - k ≤ g∧s3 = .int .i64 k∧wr = w.drewN q∧∀ j,j < k→keeps d j = true)
    case atStart => exact ⟨1,0,Nat.le_refl _,by omega,by omega,rfl,rfl,keeps_lt_one d⟩
    case round =>
      obtain ⟨k,q,hk1,hk,hg,rfl,rfl,hall⟩:=hrel
      by_cases hlt : k < d.size
      · have c1:=(hH.cell (c:=0) hlt (by omega)).1
        have c2:=(hH.cell (c:=1) hlt (by omega)).1
        have c3:=(hH.cell (c:=0) (i:=k - 1) (by omega) (by omega)).1
        have c4:=(hH.cell (c:=1) (i:=k - 1) (by omega) (by omega)).1
        simp only [Nat.zero_add,Nat.add_zero] at c1 c2 c3 c4
        have A : Aside (∀ j,j < k→keeps d j = true):=hall
        have HH : Aside (HoldsK encA 2 w blk 0 d):=hH
        clear hall hH
        generalize hx : d[k]! = x at c1 c2
        generalize hy : d[k - 1]! = y at c3 c4
        have B : Aside (d[k]! = x∧d[k - 1]! = y):=⟨hx,hy⟩
        clear hx hy
        obtain ⟨x1,x2⟩:=x
        obtain ⟨y1,y2⟩:=y
        change w.cell? _ = some (.int .i64 x1) at c1
        change w.cell? _ = some (.int .i64 x2) at c2
        change w.cell? _ = some (.int .i64 y1) at c3
        change w.cell? _ = some (.int .i64 y2) at c4
        obtain ⟨p,hkp⟩ : ∃ p,k = p + 1:=⟨k - 1,by omega⟩
        have hw : IntKind.i64.wrap ((k : Int) - 1) = (p : Int):=by
          rw [show (k : Int) - 1 = (p : Int) by omega]; exact wrI (by omega)
        have hp1 : p < d.size:=by omega
        rw [show k - 1 = p by omega] at c3 c4 B
        have hP : Aside (k = p + 1):=hkp
        clear hkp
        by_cases hdup : x1 = y1∧x2 = y2
        · obtain ⟨rfl,rfl⟩:=hdup
          have hE : ∀ w,Sem.run Try.prog (binOp .eql 43 (.agg #[.int .i64 x1,.int .i64 x2]) (.agg #[.int .i64 x1,.int .i64 x2])) w = .ok (.bool true) w:=fun w => by simpa using eql43 x1 x2 x1 x2 w
          have hG:=(eq43 x1 x2 x1 x2 w).2
          go_wp2_with fail
          go_quiet (fail)
          go_wp2_with fail
          clear c1 c2 c3 c4 hE hG hw
          go_loopg [3,5] d.size (fun g s3 s5 wr => ∃ (kk k2 q2 : Nat) (dk : Array (Int × Int)),s3 = .int .i64 kk∧s5 = .int .i64 k2∧1 ≤ k2∧k + k2 ≤ d.size∧d.size - (k + k2) ≤ g∧wr = putRowK encA 2 (Sort.ahead w q2) blk 0 dk∧CompInv d (k + k2) kk dk)
          case atStart => exact ⟨k,1,_,d,rfl,rfl,Nat.le_refl _,by omega,by omega,(putRowK_self encA 2 (Sort.ahead w _) blk 0 d (holdsK_ahead encA 2 w _ blk 0 d HH.out)).symm,CompInv.start A.out (keeps_neg (by omega) (by rw [show k - 1 = p by have:=hP.out; omega,B.out.1,B.out.2]))⟩
          case round =>
            obtain ⟨kk,k2,q2,dk,rfl,rfl,h1,hle,hg2,hwr,hI⟩:=hrel
            have hkk:=hI.lt
            have hds:=hI.size
            have hHk : HoldsK encA 2 wr blk 0 dk:=by rw [hwr]; exact holdsK_putRowK encA 2 _ blk 0 d dk (holdsK_ahead encA 2 w q2 blk 0 d HH.out) hds
            have W2 : Aside (wr = putRowK encA 2 (Sort.ahead w q2) blk 0 dk):=hwr
            have I2 : Aside (CompInv d (k + k2) kk dk):=hI
            clear hwr
            by_cases hlt2 : k + k2 < d.size
            · obtain ⟨p2,hkp2⟩ : ∃ p,k2 = p + 1:=⟨k2 - 1,by omega⟩
              have hw : IntKind.i64.wrap ((k2 : Int) - 1) = (p2 : Int):=by
                rw [show (k2 : Int) - 1 = (p2 : Int) by omega]; exact wrI (by omega)
              have hw2 : IntKind.i64.wrap ((k2 : Int) + 1) = ((k2 + 1 : Nat) : Int):=wrap_succ (by omega)
              have hw3 : IntKind.i64.wrap ((kk : Int) + 1) = ((kk + 1 : Nat) : Int):=wrap_succ (by omega)
              have hq1 : k2 < d.size - k:=by omega
              have hq2 : p2 < d.size - k:=by omega
              have hq3 : kk < d.size:=by omega
              have e1 : k * 2 + k2 * 2 = 0 + (k + k2) * 2:=by omega
              have e2 : k * 2 + p2 * 2 = 0 + (k + p2) * 2:=by omega
              have e3 : kk * 2 = 0 + kk * 2:=by omega
              obtain ⟨u,hu⟩ : ∃ u,d[k + k2]! = u:=⟨_,rfl⟩
              obtain ⟨v,hv⟩ : ∃ v,d[k + p2]! = v:=⟨_,rfl⟩
              obtain ⟨u1,u2⟩:=u
              obtain ⟨v1,v2⟩:=v
              have c1 : wr.cell? ⟨blk,k * 2 + k2 * 2,none⟩ = some (.int .i64 u1):=by
                have:=(hHk.cell (c:=0) (i:=k + k2) (by omega) (by omega)).1
                rw [hI.high (k + k2) (by omega),hu] at this
                rw [e1]; exact this
              have c2 : wr.cell? ⟨blk,k * 2 + k2 * 2 + 1,none⟩ = some (.int .i64 u2):=by
                have:=(hHk.cell (c:=1) (i:=k + k2) (by omega) (by omega)).1
                rw [hI.high (k + k2) (by omega),hu] at this
                rw [e1]; exact this
              have c3 : wr.cell? ⟨blk,k * 2 + p2 * 2,none⟩ = some (.int .i64 v1):=by
                have:=(hHk.cell (c:=0) (i:=k + p2) (by omega) (by omega)).1
                rw [hI.high (k + p2) (by omega),hv] at this
                rw [e2]; exact this
              have c4 : wr.cell? ⟨blk,k * 2 + p2 * 2 + 1,none⟩ = some (.int .i64 v2):=by
                have:=(hHk.cell (c:=1) (i:=k + p2) (by omega) (by omega)).1
                rw [hI.high (k + p2) (by omega),hv] at this
                rw [e2]; exact this
              have C : Aside (d[k + k2]! = (u1,u2)∧d[k + p2]! = (v1,v2)∧k2 = p2 + 1):=⟨hu,hv,hkp2⟩
              have HHk : Aside (HoldsK encA 2 wr blk 0 dk):=hHk
              clear hHk hI hu hv e1 e2 hkp2
              by_cases huv : u1 = v1∧u2 = v2
              · obtain ⟨rfl,rfl⟩:=huv
                have hE : ∀ w,Sem.run Try.prog (binOp .neq 43 (.agg #[.int .i64 u1,.int .i64 u2]) (.agg #[.int .i64 u1,.int .i64 u2])) w = .ok (.bool false) w:=fun w => by simpa using neq43 u1 u2 u1 u2 w
                have hG:=(eq43 u1 u2 u1 u2 w).2
                clear e3
                go_wp2_with fail
                go_quiet (fail)
                go_wp2_with fail
                go_roundg (d.size - (k + (k2 + 1)))
                case measure => omega
                case rel =>
                  refine ⟨kk,k2 + 1,_,dk,rfl,by go_num,by omega,by omega,Nat.le_refl _,by rw [W2.out]; exact putRowK_drewN encA 2 w _ _ blk 0 dk,I2.out.skip (keeps_neg (by omega) ?_)⟩
                  rw [show k + k2 - 1 = k + p2 by have:=C.out.2.2; omega,C.out.1,C.out.2.1]
              · have hE : ∀ w,Sem.run Try.prog (binOp .neq 43 (.agg #[.int .i64 u1,.int .i64 u2]) (.agg #[.int .i64 v1,.int .i64 v2])) w = .ok (.bool true) w:=fun w => by
                  rw [neq43]
                  congr 2
                  rw [Bool.not_eq_true',Bool.and_eq_false_iff,decide_eq_false_iff_not,decide_eq_false_iff_not]
                  by_cases hu1 : u1 = v1
                  · exact .inr fun h => huv ⟨hu1,h⟩
                  · exact .inl hu1
                have hG:=(eq43 u1 u2 v1 v2 w).2
                have f1 : wr.frozen? ⟨blk,kk * 2,none⟩ = false:=by
                  have:=(HHk.out.cell (c:=0) (i:=kk) (by omega) (by omega)).2
                  rw [e3]; exact this
                have f2 : wr.frozen? ⟨blk,kk * 2 + 1,none⟩ = false:=by
                  have:=(HHk.out.cell (c:=1) (i:=kk) (by omega) (by omega)).2
                  rw [e3]; exact this
                have g1 : ∃ o,wr.cell? ⟨blk,kk * 2,none⟩ = some o:=⟨_,by
                  have:=(HHk.out.cell (c:=0) (i:=kk) (by omega) (by omega)).1
                  rw [e3]; exact this⟩
                have g2 : ∃ o,wr.cell? ⟨blk,kk * 2 + 1,none⟩ = some o:=⟨_,by
                  have:=(HHk.out.cell (c:=1) (i:=kk) (by omega) (by omega)).1
                  rw [e3]; exact this⟩
                have hq3z : (kk : Int) < (d.size : Int):=by omega
                obtain ⟨o1,g1⟩:=g1
                obtain ⟨o2,g2⟩:=g2
                clear e3 hq3z
                go_wp2_with fail
                go_quiet (fail)
                go_wp2_with fail
                go_roundg (d.size - (k + (k2 + 1)))
                case measure => omega
                case rel =>
                  refine ⟨kk + 1,k2 + 1,_,dk.setIfInBounds kk (u1,u2),by go_num,by go_num,by omega,by omega,Nat.le_refl _,storeA (by omega) W2.out u1 u2,?_⟩
                  have:=I2.out.keep hlt2 (keeps_pos (by
                    rw [show k + k2 - 1 = k + p2 by have:=C.out.2.2; omega,C.out.1,C.out.2.1]
                    exact fun e => huv (Prod.mk.inj e)))
                  rwa [C.out.1] at this
            · have hend : k + k2 = d.size:=by omega
              have hcl : ∀ ty,(Builtin.clear_ #[25] ty #[.slice (some ⟨blk,kk * 2,none⟩) (d.size - kk) (cap - kk)]).run Try.prog wr = .ok (.tuple #[]) (wr.setCells blk (kk * 2) ((List.replicate (d.size - kk) ((0 : Int),(0 : Int))).flatMap encA)):=fun ty => by
                refine clearA wr ty blk (kk * 2) _ _ (by omega) (fun j hj => ?_) (fun j hj => ?_)
                · have:=(hHk.cell (c:=j % 2) (i:=kk + j / 2) (by omega) (by omega)).1
                  rw [show 0 + (kk + j / 2) * 2 + j % 2 = kk * 2 + j by omega] at this
                  rw [this]; rfl
                · have:=(hHk.cell (c:=j % 2) (i:=kk + j / 2) (by omega) (by omega)).2
                  rwa [show 0 + (kk + j / 2) * 2 + j % 2 = kk * 2 + j by omega] at this
              have hq3 : kk ≤ d.size:=by omega
              have hq4 : kk ≤ cap:=by omega
              clear hHk hI
              go_wp2_with fail
              go_ret
              have hI:=I2.out
              rw [hend] at hI
              refine ⟨by rw [hI.len]; rfl,q2,?_⟩
              rw [hI.len,← hI.done (0,0),← putA_lay _ blk (List.replicate (d.size - kk) (0,0)) dk kk (by rw [List.length_replicate]; omega),← W2.out]
        · have hE : ∀ w,Sem.run Try.prog (binOp .eql 43 (.agg #[.int .i64 x1,.int .i64 x2]) (.agg #[.int .i64 y1,.int .i64 y2])) w = .ok (.bool false) w:=fun w => by
            rw [eql43]
            congr 2
            simpa using hdup
          have hG:=(eq43 x1 x2 y1 y2 w).2
          have hw2 : IntKind.i64.wrap ((k : Int) + 1) = ((k + 1 : Nat) : Int):=wrap_succ (by omega)
          go_wp2_with fail
          go_quiet (fail)
          go_wp2_with fail
          go_roundg (d.size - (k + 1))
          case measure => omega
          case rel =>
            refine ⟨k + 1,_,by omega,by omega,Nat.le_refl _,by go_num,rfl,fun j hj => ?_⟩
            by_cases e : j = k
            · subst e
              refine keeps_pos ?_
              rw [show j - 1 = p by have:=hP.out; omega,B.out.1,B.out.2]
              exact fun e => hdup (Prod.mk.inj e)
            · exact A.out j (by omega)
      · have hkd : k = d.size:=by omega
        subst hkd
        have HH : Aside (HoldsK encA 2 w blk 0 d):=hH
        clear hH
        go_wp2_with fail
        go_ret
        obtain ⟨e1,e2⟩:=HS.out q hall
        exact ⟨by rw [e1]; rfl,q,e2⟩
end Go.Mx
