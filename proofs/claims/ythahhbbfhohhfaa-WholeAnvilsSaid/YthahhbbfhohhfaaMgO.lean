import Derived.Test.YthahhbbfhohhfaaMgN
import Derived.Laws.EntriesVeiled
/-
  Anvils: antichain,by hand.
-/
namespace Go.Mx
set_option linter.unusedVariables false
set_option linter.unusedSimpArgs false
set_option linter.unusedSectionVars false
open Go Go.RowKit
def antL (g : Nat→Nat) (n : Nat) : List Nat:=growL g n 0 [] []
set_option maxHeartbeats 400000 in
theorem anti_any (n : Nat) (g : Nat→Nat) (hn : n ≤ 12) (hg : ∀ i,g i < 2 ^ 64) (w : World) (to' : C) (h1 : er to' = su6 n g) (h2 : Mem w false to') (h3 : ∀ c,cnt c to' ≠ 0→c < w.heap.size) :
    Calls Go.Proofs.Try.prog 18 #[val to'] w fun e w' => ∃ t,e = .returned (val t)∧er t = si ((antL g n).length == 0) (zl (antL g n))∧Below w.heap.size w w'∧FreshT w w' t:=by
  have hmf : ∀ (fn : Fn) (first cap : Array Value) (w : World),(Instr.makeFunc fn first cap).run Go.Proofs.Try.prog w = .ok (.func fn first cap) w:=fun _ _ _ _ => rfl
  obtain ⟨oa,ocap,o1,_⟩:=int_tree h1 h2
  rw [zr_len] at o1
  generalize hA : Obj.cells #[val to'] 51 (0,0) = A
  generalize hB : Obj.cells #[Value.slice none 0 0] 34 (0,0) = B
  generalize hF : (Value.func (Fn.func 41) #[] #[.pointer (some ⟨w.heap.size + 1,0,none⟩),.pointer (some ⟨w.heap.size,0,none⟩),.pointer (some ⟨w.heap.size + 1 + 1,0,none⟩)]) = F
  generalize hC : Obj.cells #[F] 83 (0,0) = C'
  have s1 : (w.alloc A).heap.size = w.heap.size + 1:=by simp
  have s2 : ((w.alloc A).alloc B).heap.size = w.heap.size + 1 + 1:=by simp
  have bA:=heap_new w A
  have bB:=heap_new (w.alloc A) B
  have bC:=heap_new ((w.alloc A).alloc B) C'
  rw [s1] at bB
  rw [s2] at bC
  have l1 : Below (w.alloc A).heap.size (w.alloc A) ((w.alloc A).alloc B):=(Below.refl _ _).alloc (Nat.le_refl _) _
  have l2 : Below ((w.alloc A).alloc B).heap.size ((w.alloc A).alloc B) (((w.alloc A).alloc B).alloc C'):=(Below.refl _ _).alloc (Nat.le_refl _) _
  have l0 : Below w.heap.size w (w.alloc A):=(Below.refl _ _).alloc (Nat.le_refl _) _
  have hl4 : Below w.heap.size w (((w.alloc A).alloc B).alloc C'):=below_trans (below_trans l0 l1) l2
  have hGW : GW (w.heap.size + 1) w.heap.size (w.heap.size + 1 + 1) n g [] (((w.alloc A).alloc B).alloc C'):=by
    refine ⟨⟨.nd (.sl ⟨none,0,undef⟩ 1 0) [],?_,rfl,⟨⟨by simp [valL],by simp,by simp,fun a ha => by cases ha⟩,trivial⟩,fun c => ?_⟩,⟨to',?_,h1,h2.same fun c hc => hl4.block c (h3 c hc),fun c hc => by have:=h3 c hc; omega⟩,?_⟩
    · rw [l2.block _ (by omega),bB,← hB]
      rfl
    · have : cnt c (.nd (.sl ⟨none,0,undef⟩ 1 0) [] : C) = 0:=by simp [cnt,K.own,cntL]
      rw [this]
      exact ⟨by omega,fun h => absurd rfl h⟩
    · rw [l2.block _ (by omega),l1.block _ (by omega),bA,← hA]
    · rw [hF,bC,← hC]
  have cF:=cell_of_one hGW.self
  have HG : Hid (∀ (k : Nat) (sv : Value),0 + k = n→sv = .slice none 0 0→Calls Go.Proofs.Try.prog 41 #[sv,.int .i64 0,.pointer (some ⟨w.heap.size + 1,0,none⟩),.pointer (some ⟨w.heap.size,0,none⟩),.pointer (some ⟨w.heap.size + 1 + 1,0,none⟩)]
      (((w.alloc A).alloc B).alloc C') fun e w' => e = .returned (.tuple #[])∧∃ t a cap,GW (w.heap.size + 1) w.heap.size (w.heap.size + 1 + 1) n g (antL g n) w'∧w'.heap[w.heap.size + 1]? = some (.cells #[val t] 34 (0,0))∧val t = .slice a (antL g n).length cap ∧
        er t = si ((antL g n).length == 0) (zl (antL g n))∧Below w.heap.size w w'∧FreshT w w' t):=by
    rintro k sv hk rfl
    obtain rfl : k = n:=by omega
    refine (grow_any (w.heap.size + 1) w.heap.size (w.heap.size + 1 + 1) k g hn hg (by omega) (by omega) k 0 [] [] _ (.slice none 0 0) (.nd (.sl ⟨none,0,undef⟩ 1 0) []) true (by omega) (Nat.le_refl _) (by simp) rfl rfl ⟨⟨by simp [valL],by simp,by simp,fun a ha => by cases ha⟩,trivial⟩ (fun c hc => absurd (by simp [cnt,K.own,cntL]) hc) hGW).mono ?_
    rintro e w' ⟨rfl,hg1,hg2⟩
    have hu : up [] [] = ([] : List Nat):=rfl
    rw [hu] at hg1
    have hg1':=hg1
    obtain ⟨⟨t,q1,q2,q3,q4⟩,_,_⟩:=hg1
    obtain ⟨a,cap,r1,_⟩:=int_tree q2 q3
    rw [zl_len] at r1
    refine ⟨rfl,t,a,cap,hg1',q1,r1,q2,⟨hg2.os.trans hl4.os,hg2.tape.trans hl4.tape,hg2.output.trans hl4.output,Nat.le_trans hl4.size hg2.size,fun c hc => ?_⟩,q3,fun c => ⟨(q4 c).1,fun hc => ⟨by have:=((q4 c).2 hc).1; omega,((q4 c).2 hc).2⟩⟩⟩
    rw [hg2.block c (Nat.lt_of_lt_of_le hc hl4.size) (fun e => by cases e; omega)]
    exact hl4.block c hc
  clear hGW hl4 l0 l1 l2 bA bB bC s1 s2
  rw [o1] at hA
  subst hA hB hC hF
  rw [o1]
  clear o1
  go_enter Go.Proofs.Try.func18,Go.Proofs.Try.ntmps18
  go_wp2_with fail
  refine (HG.out n _ (by omega) rfl).mono ?_
  rintro e w1 ⟨rfl,t,a,cap,q1,q2,q3,q4,q5,q6⟩
  have HQ:=Lib.hid q1
  have HT : Hid (er t = si ((antL g n).length == 0) (zl (antL g n))∧val t = .slice a (antL g n).length cap):=⟨q4,q3⟩
  have c1:=cell_of_one q2
  rw [q3] at c1
  clear q1 q2 q3 q4
  go_wp2_with fail
  go_ret
  exact ⟨t,congrArg Ending.returned HT.out.2.symm,HT.out.1,q5,q6⟩
end Go.Mx
