import Derived.Test.YthahhbbfhohhfaaMgR
import Derived.Maps.RangeWalk
import Derived.Deep.LoopGhost
import Derived.Deep.QuietTactic
import Derived.BigQuiet
/-
  Ranging over a map from numbers to true,in whatever order.
-/
namespace Go.Mx
set_option linter.unusedVariables false
set_option linter.unusedSimpArgs false
set_option linter.unusedSectionVars false
open Go Go.RowKit Go.ChangeMaps
theorem pw_inj {α β : Type} {f : α→β} : ∀ {l : List α},l.Pairwise (fun a b => f a ≠ f b)→∀ {x y : α},x ∈ l→y ∈ l→f x = f y→x = y
  | [],_,_,_,hx,_,_ => by simp at hx
  | a :: r,hp,x,y,hx,hy,h => by
    obtain ⟨h1,h2⟩:=List.pairwise_cons.1 hp
    rcases List.mem_cons.1 hx with ex | hx'
    · rcases List.mem_cons.1 hy with ey | hy'
      · rw [ex,ey]
      · exact absurd (ex ▸ h) (h1 y hy')
    · rcases List.mem_cons.1 hy with ey | hy'
      · exact absurd (ey ▸ h).symm (h1 x hx')
      · exact pw_inj h2 hx' hy' h
theorem MapEs.keyinj {k : IntKind} {es : Array MapEntry} {c : Nat} {S : List Int} (h : MapEs k es c S) {x y : MapEntry} (hx : x ∈ es.toList) (hy : y ∈ es.toList) (hk : x.key = y.key) : x = y:=by
  have : es.toList.Pairwise fun a b => a.key ≠ b.key:=by
    rw [← List.pairwise_map (f:=fun e : MapEntry => e.key) (R:=(· ≠ ·)),h.key,List.pairwise_map]
    exact h.nod.imp fun {a b} hne he => hne (by injection he)
  exact pw_inj this hx hy hk
def RangeS (k : IntKind) (w : World) (b r : Nat) (S D : List Int) : Prop :=
  ∃ es clock since seen c0,w.heap[b]? = some (.map es clock)∧MapEs k es clock S∧w.heap[r]? = some (.mapIter (some b) since seen c0)∧(∀ e ∈ es.toList,e.born < since)∧since ≤ c0∧since ≤ clock ∧
    ∀ e ∈ es.toList,seen.contains e.born = true ↔ e.key ∈ D.map (Value.int k)
theorem RangeS.same {k : IntKind} {w w' : World} {b r : Nat} {S D : List Int} (h : RangeS k w b r S D) (h1 : w'.heap[b]? = w.heap[b]?) (h2 : w'.heap[r]? = w.heap[r]?) : RangeS k w' b r S D:=by
  obtain ⟨es,clock,since,seen,c0,q1,q2,q3,q4⟩:=h
  exact ⟨es,clock,since,seen,c0,by rw [h1]; exact q1,q2,by rw [h2]; exact q3,q4⟩
theorem RangeS.lt {k : IntKind} {w : World} {b r : Nat} {S D : List Int} (h : RangeS k w b r S D) : b < w.heap.size∧r < w.heap.size∧b ≠ r:=by
  obtain ⟨es,clock,since,seen,c0,q1,q2,q3,q4⟩:=h
  exact ⟨lt_of_block q1,lt_of_block q3,fun e => by rw [e,q3] at q1; cases q1⟩
section
variable {P : Program} {w : World} {t kt et : TypeId} {k : IntKind} {b r : Nat} {S D : List Int}
theorem run_range_set (ht : P.underlying t = some (.map kt et)) (h : MapSet k w b S) :
    ∃ w',(Instr.range t (.map (some b))).run P w = .ok (.pointer (some ⟨w.heap.size,0,none⟩)) w'∧RangeS k w' b w.heap.size S []∧Below w.heap.size w w'∧w'.heap.size = w.heap.size + 1:=by
  obtain ⟨es,clock,hb,hE⟩:=h
  have hlt:=lt_of_block hb
  refine ⟨_,run_range_map w t kt et b es clock ht hb,⟨es,clock,clock,#[],clock,?_,hE,heap_new _ _,hE.old,Nat.le_refl _,Nat.le_refl _,by simp⟩,(Below.refl _ _).alloc (Nat.le_refl _) _,by simp⟩
  rw [Below.heap_alloc _ _ _ hlt]
  exact hb
theorem run_next_set (ty : TypeId) (h : RangeS k w b r S D) :
    ((∀ x ∈ S,x ∈ D)∧(Instr.next (.pointer (some ⟨r,0,none⟩)) false ty).run P w = .ok (.tuple #[.bool false]) w) ∨
    ∃ x w',x ∈ S∧x ∉ D∧(Instr.next (.pointer (some ⟨r,0,none⟩)) false ty).run P w = .ok (.tuple #[.bool true,.int k x,.bool true]) w'∧RangeS k w' b r S (D ++ [x])∧Put w w' r ∧
      (Instr.entry (.pointer (some ⟨r,0,none⟩))).run P w' = .ok (.tuple #[.int k x,.bool true]) w':=by
  have hbr:=h.lt
  obtain ⟨es,clock,since,seen,c0,hb,hE,hr,hold,hsc,hsk,hseen⟩:=h
  rcases run_next_at (P:=P) w ty r b since c0 seen es clock hr hb hold hsc with ⟨h0,hrun⟩ | ⟨e,he,w1,hal,hrun⟩
  · refine .inl ⟨fun x hx => ?_,hrun⟩
    have hx' : Value.int k x ∈ es.toList.map (·.key):=by rw [hE.key]; exact List.mem_map.2 ⟨x,hx,rfl⟩
    obtain ⟨e,he,hek⟩:=List.mem_map.1 hx'
    have hs : seen.contains e.born = true:=by
      cases hc : seen.contains e.born with
      | true => rfl
      | false =>
        have hm : e ∈ leftOf es seen:=by
          unfold leftOf
          rw [Array.mem_filter]
          refine ⟨by rwa [Array.mem_toList_iff] at he,?_⟩
          rw [hc]; rfl
        have:=Array.size_pos_of_mem hm
        omega
    have:=(hseen e he).1 hs
    rw [hek] at this
    obtain ⟨y,hy,hyx⟩:=List.mem_map.1 this
    injection hyx with _ hyx
    subst hyx
    exact hy
  · have hm : e ∈ es.toList∧seen.contains e.born = false:=by
      rw [Array.mem_toList_iff] at he
      unfold leftOf at he
      rw [Array.mem_filter] at he
      exact ⟨by rw [Array.mem_toList_iff]; exact he.1,by simpa using he.2⟩
    obtain ⟨x,hx,hxe⟩ : ∃ x ∈ S,Value.int k x = e.key:=by
      have : e.key ∈ S.map (Value.int k):=by rw [← hE.key]; exact List.mem_map.2 ⟨e,hm.1,rfl⟩
      obtain ⟨x,h1,h2⟩:=List.mem_map.1 this
      exact ⟨x,h1,h2⟩
    have hv:=hE.tru e hm.1
    have hput : Put w (setBlock w1 r (.mapIter (some b) since (seen.push e.born) clock)) r:=by
      rcases hal with rfl | rfl
      · exact ⟨rfl,rfl,rfl,by simp [setBlock],fun c hne => by simp [setBlock,Ne.symm hne]⟩
      · refine ⟨rfl,rfl,rfl,?_,fun c hne => ?_⟩
        · show (w.heap.setIfInBounds r _).size = _
          simp
        · show (w.heap.setIfInBounds r _)[c]? = _
          simp [Ne.symm hne]
    have hr' : (setBlock w1 r (.mapIter (some b) since (seen.push e.born) clock)).heap[r]? = some (.mapIter (some b) since (seen.push e.born) clock):=by
      have hlt : r < w1.heap.size:=by rcases hal with rfl | rfl <;> exact hbr.2.1
      simp [setBlock,hlt]
    have hb' : (setBlock w1 r (.mapIter (some b) since (seen.push e.born) clock)).heap[b]? = some (.map es clock):=by rw [hput.block b hbr.2.2]; exact hb
    refine .inr ⟨x,_,hx,fun hd => ?_,?_,⟨es,clock,since,seen.push e.born,clock,hb',hE,hr',hold,hsk,hsk,fun e' he' => ?_⟩,hput,?_⟩
    · have:=(hseen e hm.1).2 (by rw [← hxe]; exact List.mem_map.2 ⟨x,hd,rfl⟩)
      rw [hm.2] at this
      cases this
    · rw [hrun,← hxe,hv]
    · rw [Array.contains_push,Bool.or_eq_true,List.map_append,List.mem_append,hseen e' he',beq_iff_eq]
      have : e'.born = e.born ↔ e'.key = e.key:=⟨fun h => by rw [pw_inj hE.two he' hm.1 h],fun h => by rw [hE.keyinj he' hm.1 h]⟩
      rw [this,← hxe]
      simp [or_comm]
    · have hnd : (es.toList.map (·.born)).Nodup:=by
        rw [List.Nodup,List.pairwise_map]
        exact hE.two
      rw [run_entry_at _ r b since seen es clock e hr' hb' hm.1 hnd,← hxe,hv]
end
section
variable {P : Program} {ops : Array Oper} {rest : List Oper} {o : Oper} {a : Act} {w : World} {Q : Exit→Act→World→Prop}
theorem wpList_range_set (hg : o.guard = none) (m : Operand) (t kt et : TypeId) (hop : o.op = Op.range t m) (k : IntKind) (ht : P.underlying t = some (.map kt et)) (b : Nat) (S : List Int) (hm : a.eval m = .map (some b)) (hS : MapSet k w b S)
    (hK : ∀ w',RangeS k w' b w.heap.size S []→Below w.heap.size w w'→w'.heap.size = w.heap.size + 1→wpList P ops Q rest (a.put o.dst (.pointer (some ⟨w.heap.size,0,none⟩))) w') : wpList P ops Q (o :: rest) a w:=by
  refine wpList_plain hg fun K' hK' => ?_
  obtain ⟨w',hrun,r1,r2,r3⟩:=run_range_set ht hS
  unfold Oper.wp
  simp [execOp,hop,hm,hrun,Result.andThen]
  exact hK' _ _ (hK w' r1 r2 r3)
theorem wpList_next_set (hg : o.guard = none) (it : Operand) (hop : o.op = Op.next it false) (k : IntKind) (b r : Nat) (S D : List Int) (hit : a.eval it = .pointer (some ⟨r,0,none⟩)) (h : RangeS k w b r S D)
    (hDone : (∀ x ∈ S,x ∈ D)→wpList P ops Q rest (a.put o.dst (.tuple #[.bool false])) w)
    (hMore : ∀ (x : Int) (w' : World),x ∈ S→x ∉ D→RangeS k w' b r S (D ++ [x])→Put w w' r→(Instr.entry (.pointer (some ⟨r,0,none⟩))).run P w' = .ok (.tuple #[.int k x,.bool true]) w'→wpList P ops Q rest (a.put o.dst (.tuple #[.bool true,.int k x,.bool true])) w') :
    wpList P ops Q (o :: rest) a w:=by
  refine wpList_plain hg fun K' hK' => ?_
  unfold Oper.wp
  rcases run_next_set (P:=P) o.type h with ⟨h0,hrun⟩ | ⟨x,w',h1,h2,hrun,h3,h4,h5⟩
  · simp [execOp,hop,hit,hrun,Result.andThen]
    exact hK' _ _ (hDone h0)
  · simp [execOp,hop,hit,hrun,Result.andThen]
    exact hK' _ _ (hMore x w' h1 h2 h3 h4 h5)
end
end Go.Mx
namespace Go.Mx
set_option linter.unusedVariables false
set_option linter.unusedSimpArgs false
set_option linter.unusedSectionVars false
open Go Go.RowKit
theorem and_two (a b : Nat) : a &&& b = 2 * ((a / 2) &&& (b / 2)) + (a % 2) * (b % 2):=by
  have h1 : (a &&& b) / 2 = (a / 2) &&& (b / 2):=Nat.and_div_two
  have h2 : (a &&& b) % 2 = (a % 2) * (b % 2):=by
    have:=Nat.testBit_and a b 0
    simp only [Nat.testBit_zero] at this
    rcases Nat.mod_two_eq_zero_or_one a with ha | ha <;> rcases Nat.mod_two_eq_zero_or_one b with hb | hb <;> rcases Nat.mod_two_eq_zero_or_one (a &&& b) with hc | hc <;> simp_all
  omega
theorem part_below (s : Nat) : ∀ (P p : Nat),P &&& s = P→p &&& s = p→p < P→p ≤ (P - 1) &&& s:=by
  induction s using Nat.strongRecOn with
  | _ s ih =>
    intro P p hP hp hlt
    by_cases hs : s = 0
    · subst hs
      simp at hP hp
      omega
    · have e1:=and_two P s
      have e2:=and_two p s
      have e3:=and_two (P - 1) s
      rw [hP] at e1
      rw [hp] at e2
      rw [e3]
      have hP2 : P / 2 &&& s / 2 = P / 2:=by
        have : P = 2 * (P / 2) + P % 2:=by omega
        rcases Nat.mod_two_eq_zero_or_one P with h | h <;> rcases Nat.mod_two_eq_zero_or_one s with h' | h' <;> rw [h,h'] at e1 <;> omega
      have hp2 : p / 2 &&& s / 2 = p / 2:=by
        rcases Nat.mod_two_eq_zero_or_one p with h | h <;> rcases Nat.mod_two_eq_zero_or_one s with h' | h' <;> rw [h,h'] at e2 <;> omega
      rcases Nat.mod_two_eq_zero_or_one P with h | h
      · have e4 : (P - 1) / 2 = P / 2 - 1:=by omega
        have e5 : (P - 1) % 2 = 1:=by omega
        have:=ih (s / 2) (by omega) (P / 2) (p / 2) hP2 hp2 (by omega)
        rw [e4,e5,Nat.one_mul]
        have hm : p % 2 ≤ s % 2:=by
          rcases Nat.mod_two_eq_zero_or_one p with h1 | h1 <;> rcases Nat.mod_two_eq_zero_or_one s with h' | h' <;> rw [h1,h'] at e2 <;> omega
        omega
      · have e4 : (P - 1) / 2 = P / 2:=by omega
        have e5 : (P - 1) % 2 = 0:=by omega
        rw [e4,e5,hP2]
        omega
theorem and_le' (a s : Nat) : a &&& s ≤ a:=Nat.and_le_left
theorem and_part (a s : Nat) : (a &&& s) &&& s = a &&& s:=by rw [Nat.and_assoc,Nat.and_self]
def pop (x : Nat) : Nat:=((List.range 12).filter fun i => x.testBit i).length
theorem pop_le (x : Nat) : pop x ≤ 12:=by
  unfold pop
  exact Nat.le_trans (List.length_filter_le _ _) (by simp)
section
variable {S : Nat→Oracle} (hS : Sy S)
include hS
theorem u56 (k : Nat) (x : Nat) (hx : x < 4096) : S (k + 1) 52 [.v (.int .u64 (x : Int))] = some (.v (.int .i64 ((pop x : Nat) : Int))):=by
  rw [hS _ _ _ c52 rfl rfl,show pop x = oc x from (oc_pop x hx).symm]; exact f52 _ _ x hx
theorem u38 (k : Nat) (x : Nat) (hx : x < 4096) : S (k + 2) 28 [.v (.int .u64 (x : Int))] = some (.v (.int .i64 ((pop x : Nat) : Int))):=by
  rw [hS _ _ _ c28 rfl rfl]; exact f28 _ _ x (pop x) (u56 hS k x hx)
end
theorem count_calls (x : Nat) (hx : x < 4096) (w : World) : Calls Go.Proofs.Try.prog 28 #[.int .u64 (x : Int)] w fun e w' => e = .returned (.int .i64 ((pop x : Nat) : Int))∧Below w.heap.size w w' :=
  calls_sem tbl_ok (u38 sy0 0 x hx) (.cons (.sc w _) (.nil w))
def putS (S : List Int) (y : Int) : List Int:=if y ∈ S then S else S ++ [y]
theorem mem_putS (S : List Int) (y x : Int) : x ∈ putS S y ↔ x ∈ S ∨ x = y:=by
  unfold putS
  split
  · rename_i h
    exact ⟨.inl,fun h2 => h2.elim id fun e => by rw [e]; exact h⟩
  · simp
theorem clo_any (p d bX bD bM : Nat) (S : List Int) (w : World) (hp : p < 4096) (hd : d < 4096) (hX : w.cell? ⟨bX,0,none⟩ = some (.map (some bM))) (hD : w.cell? ⟨bD,0,none⟩ = some (.int .u64 (d : Int))) (hM : MapSet .u64 w bM S) :
    Calls Go.Proofs.Try.prog 29 #[.int .u64 (p : Int),.pointer (some ⟨bX,0,none⟩),.pointer (some ⟨bD,0,none⟩)] w fun e w' =>
      e = .returned (.tuple #[])∧MapSet .u64 w' bM (putS S ((d ||| p : Nat) : Int))∧Put w w' bM:=by
  have hor : Go.bits BinOp.or IntKind.u64 (d : Int) (p : Int) = ((d ||| p : Nat) : Int):=u64_or_nat d p (by omega) (by omega)
  have HM:=Lib.hid hM
  clear hM
  go_enter Go.Proofs.Try.func29,Go.Proofs.Try.ntmps29
  go_wp2_with (first
    | (at_mapUpdate; refine wpList_update_set rfl rfl (.tmp 4) (.tmp 7) (.const (.bool true)) 67 66 4 rfl .u64 .u64 Go.Proofs.Try.underlying67 Go.Proofs.Try.underlying66 bM S rfl HM.out (((d ||| p : Nat)) : Int) rfl rfl ?_; intro w2 hS2 hput; have HS2 : Hid (MapSet .u64 w2 bM (putS S ((d ||| p : Nat) : Int))):=hS2; clear hS2)
    | fail)
  go_end0
  exact ⟨rfl,HS2.out,hput⟩
theorem subs_next {s P q : Nat} (hP : P &&& s = P) (hp : 0 < P) (hq : q &&& s = q) : ((P - 1) &&& s) < q ↔ P < q ∨ q = P:=by
  have h1:=and_le' (P - 1) s
  constructor
  · intro h
    rcases Nat.lt_trichotomy P q with h2 | h2 | h2
    · exact .inl h2
    · exact .inr h2.symm
    · have:=part_below s P q hP hq h2
      omega
  · rintro (h | h) <;> omega
def Abv (s k d P : Nat) (S : List Int) (x : Int) : Prop:=x ∈ S ∨ ∃ q : Nat,P < q∧q &&& s = q∧pop q = k∧x = ((d ||| q : Nat) : Int)
theorem abv_put {s k d P : Nat} {S S' : List Int} (hP : P &&& s = P) (hp : 0 < P) (hk : pop P = k) (h : ∀ x,x ∈ S' ↔ Abv s k d P S x) (x : Int) : x ∈ putS S' ((d ||| P : Nat) : Int) ↔ Abv s k d ((P - 1) &&& s) S x:=by
  rw [mem_putS,h]
  unfold Abv
  constructor
  · rintro ((h | ⟨q,h1,h2,h3,h4⟩) | rfl)
    · exact .inl h
    · exact .inr ⟨q,(subs_next hP hp h2).2 (.inl h1),h2,h3,h4⟩
    · exact .inr ⟨P,(subs_next hP hp hP).2 (.inr rfl),hP,hk,rfl⟩
  · rintro (h | ⟨q,h1,h2,h3,h4⟩)
    · exact .inl (.inl h)
    · rcases (subs_next hP hp h2).1 h1 with h5 | rfl
      · exact .inl (.inr ⟨q,h5,h2,h3,h4⟩)
      · exact .inr h4
theorem abv_not {s k d P : Nat} {S S' : List Int} (hP : P &&& s = P) (hp : 0 < P) (hk : ¬ pop P = k) (h : ∀ x,x ∈ S' ↔ Abv s k d P S x) (x : Int) : x ∈ S' ↔ Abv s k d ((P - 1) &&& s) S x:=by
  rw [h]
  unfold Abv
  constructor
  · rintro (h | ⟨q,h1,h2,h3,h4⟩)
    · exact .inl h
    · exact .inr ⟨q,(subs_next hP hp h2).2 (.inl h1),h2,h3,h4⟩
  · rintro (h | ⟨q,h1,h2,h3,h4⟩)
    · exact .inl h
    · rcases (subs_next hP hp h2).1 h1 with h5 | rfl
      · exact .inr ⟨q,h5,h2,h3,h4⟩
      · exact absurd h3 hk
def Subs (set k d : Nat) (S : List Int) (x : Int) : Prop:=x ∈ S ∨ ∃ p : Nat,p &&& set = p∧pop p = k∧x = ((d ||| p : Nat) : Int)
theorem abv_end_put {s k d : Nat} {S S' : List Int} (hk : pop 0 = k) (h : ∀ x,x ∈ S' ↔ Abv s k d 0 S x) (x : Int) : x ∈ putS S' ((d ||| 0 : Nat) : Int) ↔ Subs s k d S x:=by
  rw [mem_putS,h]
  unfold Abv Subs
  constructor
  · rintro ((h | ⟨q,h1,h2,h3,h4⟩) | rfl)
    · exact .inl h
    · exact .inr ⟨q,h2,h3,h4⟩
    · exact .inr ⟨0,by simp,hk,rfl⟩
  · rintro (h | ⟨q,h2,h3,h4⟩)
    · exact .inl (.inl h)
    · by_cases hq : q = 0
      · subst hq; exact .inr h4
      · exact .inl (.inr ⟨q,by omega,h2,h3,h4⟩)
theorem abv_end_not {s k d : Nat} {S S' : List Int} (hk : ¬ pop 0 = k) (h : ∀ x,x ∈ S' ↔ Abv s k d 0 S x) (x : Int) : x ∈ S' ↔ Subs s k d S x:=by
  rw [h]
  unfold Abv Subs
  constructor
  · rintro (h | ⟨q,h1,h2,h3,h4⟩)
    · exact .inl h
    · exact .inr ⟨q,h2,h3,h4⟩
  · rintro (h | ⟨q,h2,h3,h4⟩)
    · exact .inl h
    · by_cases hq : q = 0
      · subst hq; exact absurd h3 hk
      · exact .inr ⟨q,by omega,h2,h3,h4⟩
set_option maxHeartbeats 400000 in
theorem subsets_any (set k d bX bD bM : Nat) (S : List Int) (w : World) (hs : set < 4096) (hd : d < 4096) (hXM : bX ≠ bM) (hDM : bD ≠ bM) (hX : w.cell? ⟨bX,0,none⟩ = some (.map (some bM))) (hD : w.cell? ⟨bD,0,none⟩ = some (.int .u64 (d : Int))) (hM : MapSet .u64 w bM S) :
    Calls Go.Proofs.Try.prog 27 #[.int .u64 (set : Int),.int .i64 (k : Int),.func (.func 29) #[] #[.pointer (some ⟨bX,0,none⟩),.pointer (some ⟨bD,0,none⟩)]] w fun e w' =>
      e = .returned (.tuple #[])∧(∃ S',MapSet .u64 w' bM S'∧∀ x,x ∈ S' ↔ Subs set k d S x)∧w.grownBy w' (some bM):=by
  have lX:=cell_lt hX
  have lD:=cell_lt hD
  have lM:=hM.lt
  have HM:=Lib.hid hM
  have HXD : Hid (w.cell? ⟨bX,0,none⟩ = some (.map (some bM))∧w.cell? ⟨bD,0,none⟩ = some (.int .u64 (d : Int))):=⟨hX,hD⟩
  clear hM hX hD
  go_enter Go.Proofs.Try.func27,Go.Proofs.Try.ntmps27
  go_wp2_with fail
  go_loopg [6] set (fun r p wr => ∃ P : Nat,P ≤ r∧P &&& set = P∧p = .int .u64 (P : Int)∧(∃ S',MapSet .u64 wr bM S'∧∀ x,x ∈ S' ↔ Abv set k d P S x)∧w.grownBy wr (some bM))
  case atStart =>
    refine ⟨set,Nat.le_refl _,Nat.and_self _,rfl,⟨S,HM.out,fun x => ⟨.inl,fun h => ?_⟩⟩,.refl _ _⟩
    rcases h with h | ⟨q,h1,h2,_⟩
    · exact h
    · have:=and_le' set q
      rw [Nat.and_comm,h2] at this
      omega
  case round =>
    obtain ⟨P,hr,hP,rfl,hS,hg⟩:=hrel
    have hP12 : P ≤ set:=by have:=and_le' set P; rw [Nat.and_comm,hP] at this; exact this
    have HS:=Lib.hid hS
    have HG:=Lib.hid hg
    clear hS hg
    have cnt:=pop_le P
    go_wp2_with fail
    refine (count_calls P (by omega) wr).mono ?_
    rintro e w1 ⟨rfl,hb1⟩
    have HB1:=Lib.hid hb1
    have z1:=hb1.size
    have hg1 : w.grownBy w1 (some bM):=grown_trans HG.out (below_grown hb1 _)
    have cX : w1.cell? ⟨bX,0,none⟩ = some (.map (some bM)):=by
      rw [World.grownBy.cell hg1 HXD.out.1 (by simpa using hXM)]
    have cD : w1.cell? ⟨bD,0,none⟩ = some (.int .u64 (d : Int)):=by
      rw [World.grownBy.cell hg1 HXD.out.2 (by simpa using hDM)]
    have HS1 : Hid (∃ S',MapSet .u64 w1 bM S'∧∀ x,x ∈ S' ↔ Abv set k d P S x):=by
      obtain ⟨S',q1,q2⟩:=HS.out
      exact ⟨S',q1.same (hb1.block _ q1.lt),q2⟩
    have HG1:=Lib.hid hg1
    clear hb1 hg1 HS HG
    by_cases hk : pop P = k
    · have hkk : ((((pop P : Nat) : Int)) == (k : Int)) = true:=by rw [hk]; simp
      obtain ⟨S',q1,q2⟩:=HS1.out
      have HC:=Lib.hid (clo_any P d bX bD bM S' w1 (by omega) hd cX cD q1)
      clear q1 cX cD HS1
      have HQ2:=Lib.hid q2
      have HK:=Lib.hid hk
      clear q2 hk
      by_cases hz : P = 0
      · subst hz
        go_wp2_with fail
        refine HC.out.mono ?_
        rintro e w2 ⟨rfl,hM2,hput⟩
        have HR : Hid ((∃ S',MapSet .u64 w2 bM S'∧∀ x,x ∈ S' ↔ Subs set k d S x)∧w.grownBy w2 (some bM)):=⟨⟨_,hM2,abv_end_put HK.out HQ2.out⟩,grown_trans HG1.out hput.grown⟩
        clear hM2 hput HC
        go_wp2_with fail
        exact bodyPost_ret (results_none rfl _ _ _) rfl ⟨rfl,HR.out.1,HR.out.2⟩
      · have hpz : ((P : Int) == 0) = false:=by simp; omega
        have hwr : IntKind.u64.wrap ((P : Int) - 1) = ((P - 1 : Nat) : Int):=by
          rw [show (P : Int) - 1 = ((P - 1 : Nat) : Int) by omega]
          exact wrap64 (by omega)
        have hand : Go.bits BinOp.and IntKind.u64 ((P - 1 : Nat) : Int) (set : Int) = (((P - 1) &&& set : Nat) : Int):=u64_and_nat _ _ (by omega) (by omega)
        have hle:=and_le' (P - 1) set
        have hpa:=and_part (P - 1) set
        have HPA:=Lib.hid hpa
        clear hpa
        go_wp2_with fail
        refine HC.out.mono ?_
        rintro e w2 ⟨rfl,hM2,hput⟩
        have HR : Hid ((∃ S',MapSet .u64 w2 bM S'∧∀ x,x ∈ S' ↔ Abv set k d ((P - 1) &&& set) S x)∧w.grownBy w2 (some bM)):=⟨⟨_,hM2,abv_put hP (by omega) HK.out HQ2.out⟩,grown_trans HG1.out hput.grown⟩
        clear hM2 hput HC
        go_wp2_with fail
        go_roundg (gk - 1)
        case measure => omega
        case rel => exact ⟨_,by omega,HPA.out,rfl,HR.out.1,HR.out.2⟩
    · have hkk : (((pop P : Nat) : Int) == (k : Int)) = false:=by simp; omega
      obtain ⟨S',q1,q2⟩:=HS1.out
      have HQ1:=Lib.hid q1
      have HQ2:=Lib.hid q2
      have HK:=Lib.hid hk
      clear q1 q2 hk cX cD HS1
      by_cases hz : P = 0
      · subst hz
        have HR : Hid (∃ S',MapSet .u64 w1 bM S'∧∀ x,x ∈ S' ↔ Subs set k d S x):=⟨_,HQ1.out,abv_end_not HK.out HQ2.out⟩
        go_wp2_with fail
        exact bodyPost_ret (results_none rfl _ _ _) rfl ⟨rfl,HR.out,HG1.out⟩
      · have hpz : ((P : Int) == 0) = false:=by simp; omega
        have hwr : IntKind.u64.wrap ((P : Int) - 1) = ((P - 1 : Nat) : Int):=by
          rw [show (P : Int) - 1 = ((P - 1 : Nat) : Int) by omega]
          exact wrap64 (by omega)
        have hand : Go.bits BinOp.and IntKind.u64 ((P - 1 : Nat) : Int) (set : Int) = (((P - 1) &&& set : Nat) : Int):=u64_and_nat _ _ (by omega) (by omega)
        have hle:=and_le' (P - 1) set
        have hpa:=and_part (P - 1) set
        have HPA:=Lib.hid hpa
        have HR : Hid (∃ S',MapSet .u64 w1 bM S'∧∀ x,x ∈ S' ↔ Abv set k d ((P - 1) &&& set) S x):=⟨_,HQ1.out,abv_not hP (by omega) HK.out HQ2.out⟩
        clear hpa
        go_wp2_with fail
        go_roundg (gk - 1)
        case measure => omega
        case rel => exact ⟨_,by omega,HPA.out,rfl,HR.out,HG1.out⟩
end Go.Mx
namespace Go.Mx
set_option linter.unusedVariables false
set_option linter.unusedSimpArgs false
set_option linter.unusedSectionVars false
open Go
def subB (x d : Nat) : Bool:=(List.range 12).all fun i => !x.testBit i || d.testBit i
def rdyK (bf : Nat→Nat) (d : Nat) : Nat→Nat
  | 0 => 0
  | v + 1 => if (!d.testBit v && subB (bf v) d) = true then rdyK bf d v ||| pw v else rdyK bf d v
theorem rdyK_bit (bf : Nat→Nat) (d k i : Nat) : (rdyK bf d k).testBit i = (decide (i < k) && (!d.testBit i && subB (bf i) d)):=by
  induction k with
  | zero => simp [rdyK]
  | succ k ih =>
    unfold rdyK
    by_cases h : (!d.testBit k && subB (bf k) d) = true
    · rw [if_pos h,Nat.testBit_or,ih,pw_bit]
      by_cases hk : i = k
      · subst hk; simp [h]
      · have : ¬ k = i:=fun e => hk e.symm
        have e2 : (i < k + 1) ↔ i < k:=by omega
        simp [this,e2]
    · rw [if_neg h,ih]
      by_cases hk : i = k
      · subst hk
        have h' : (!d.testBit i && subB (bf i) d) = false:=by simpa using h
        rw [h']; simp
      · have e2 : (i < k + 1) ↔ i < k:=by omega
        simp [e2]
theorem lt_bits {x n : Nat} (h : ∀ i,x.testBit i = true→i < n) : x < 2 ^ n:=Nat.lt_pow_two_of_testBit _ fun i hi => by
  cases hb : x.testBit i with
  | false => rfl
  | true => have:=h i hb; omega
theorem rdyK_lt (bf : Nat→Nat) (d k : Nat) : rdyK bf d k < 2 ^ k:=lt_bits fun i h => by
  rw [rdyK_bit] at h
  simp at h
  exact h.1
def stP (bf : Nat→Nat) (n k : Nat) : Nat→Nat→Prop
  | 0,m => m = 0
  | r + 1,m => ∃ d,stP bf n k r d∧∃ p,p &&& rdyK bf d n = p∧pop p = min k (pop (rdyK bf d n))∧m = d ||| p
def allM (n : Nat) : Nat:=2 ^ n - 1
theorem allM_bit (n i : Nat) : (allM n).testBit i = decide (i < n):=by unfold allM; rw [Nat.testBit_two_pow_sub_one]
theorem sub_bits {p s : Nat} : p &&& s = p ↔ ∀ i,p.testBit i = true→s.testBit i = true:=by
  constructor
  · intro h i hi
    rw [← h,Nat.testBit_and,Bool.and_eq_true] at hi
    exact hi.2
  · intro h
    apply Nat.eq_of_testBit_eq
    intro i
    rw [Nat.testBit_and]
    cases hb : p.testBit i with
    | false => rfl
    | true => rw [h i hb]; rfl
theorem sub_trans {a b c : Nat} (h1 : a &&& b = a) (h2 : b &&& c = b) : a &&& c = a:=sub_bits.2 fun i h => sub_bits.1 h2 i (sub_bits.1 h1 i h)
theorem or_sub {a b c : Nat} (h1 : a &&& c = a) (h2 : b &&& c = b) : (a ||| b) &&& c = a ||| b:=sub_bits.2 fun i h => by
  rw [Nat.testBit_or,Bool.or_eq_true] at h
  rcases h with h | h
  · exact sub_bits.1 h1 i h
  · exact sub_bits.1 h2 i h
theorem sub_lt {p s n : Nat} (h : p &&& s = p) (hs : s < 2 ^ n) : p < 2 ^ n:=by
  rw [← h]
  exact Nat.and_lt_two_pow _ hs
theorem rdy_all (bf : Nat→Nat) (d n : Nat) : rdyK bf d n &&& allM n = rdyK bf d n:=sub_bits.2 fun i h => by
  rw [rdyK_bit] at h
  rw [allM_bit]
  simp at h ⊢
  exact h.1
theorem stP_sub {bf : Nat→Nat} {n k : Nat} : ∀ {r m : Nat},stP bf n k r m→m &&& allM n = m
  | 0,m,h => by cases h; simp
  | r + 1,m,⟨d,h1,p,h2,h3,h4⟩ => by
    subst h4
    exact or_sub (stP_sub h1) (sub_trans h2 (rdy_all bf d n))
theorem stP_lt {bf : Nat→Nat} {n k r m : Nat} (hn : n ≤ 12) (h : stP bf n k r m) : m < 4096:=by
  have h1:=stP_sub h
  have h2 : allM n < 2 ^ n:=by unfold allM; have:=Nat.two_pow_pos n; omega
  exact Nat.lt_of_lt_of_le (sub_lt h1 h2) (Nat.pow_le_pow_right (by omega) hn)
theorem bit_lt {x i : Nat} (hx : x < 4096) (h : x.testBit i = true) : i < 12:=by
  rcases Nat.lt_or_ge i 12 with h2 | h2
  · exact h2
  · have h3 : 2 ^ 12 ≤ 2 ^ i:=Nat.pow_le_pow_right (by omega) h2
    have : x < 2 ^ i:=Nat.lt_of_lt_of_le hx h3
    rw [Nat.testBit_lt_two_pow this] at h
    cases h
theorem pop_zero_iff {x : Nat} (hx : x < 4096) : pop x = 0 ↔ x = 0:=by
  constructor
  · intro h
    apply Nat.eq_of_testBit_eq
    intro i
    rw [Nat.zero_testBit]
    cases hb : x.testBit i with
    | false => rfl
    | true =>
      have hi : i < 12:=bit_lt hx hb
      have : i ∈ (List.range 12).filter fun i => x.testBit i:=List.mem_filter.2 ⟨List.mem_range.2 hi,hb⟩
      unfold pop at h
      rw [List.length_eq_zero_iff] at h
      rw [h] at this
      cases this
  · rintro rfl; decide
theorem filter_or {α : Type} (p q : α→Bool) (hd : ∀ x,¬ (p x = true∧q x = true)) : ∀ l : List α,(l.filter fun x => p x || q x).length = (l.filter p).length + (l.filter q).length
  | [] => rfl
  | a :: l => by
    have ih:=filter_or p q hd l
    have:=hd a
    rw [List.filter_cons,List.filter_cons,List.filter_cons]
    cases h1 : p a <;> cases h2 : q a <;> simp_all <;> omega
theorem pop_or {a b : Nat} (h : ∀ i,¬ (a.testBit i = true∧b.testBit i = true)) : pop (a ||| b) = pop a + pop b:=by
  unfold pop
  rw [← filter_or _ _ h]
  congr 2
  funext i
  rw [Nat.testBit_or]
theorem pop_sub {a b : Nat} (h : a &&& b = a) : pop a ≤ pop b:=by
  unfold pop
  have : ∀ l : List Nat,(l.filter fun i => a.testBit i).length ≤ (l.filter fun i => b.testBit i).length:=by
    intro l
    induction l with
    | nil => exact Nat.le_refl _
    | cons x l ih =>
      rw [List.filter_cons,List.filter_cons]
      cases h1 : a.testBit x
      · cases h2 : b.testBit x <;> simp <;> omega
      · rw [sub_bits.1 h x h1]; simpa using ih
  exact this _
theorem pop_all {n : Nat} (hn : n ≤ 12) : pop (allM n) = n:=by
  have : ∀ n,n ≤ 12→pop (allM n) = n:=by decide
  exact this n hn
theorem pop_eq {a b : Nat} (hb : b < 4096) (h : a &&& b = a) (he : pop b ≤ pop a) : a = b:=by
  have h2 : a &&& b = a:=h
  have e : a ||| (b ^^^ a) = b:=by
    apply Nat.eq_of_testBit_eq
    intro i
    rw [Nat.testBit_or,Nat.testBit_xor]
    cases ha : a.testBit i with
    | false => simp
    | true => simp [sub_bits.1 h i ha]
  have hd : pop b = pop a + pop (b ^^^ a):=by
    conv => lhs; rw [← e]
    refine pop_or fun i => ?_
    rintro ⟨h1,h3⟩
    rw [Nat.testBit_xor,h1,sub_bits.1 h i h1] at h3
    cases h3
  have hz : pop (b ^^^ a) = 0:=by omega
  have hx : b ^^^ a < 4096:=by
    have ha : a < 2 ^ 12:=sub_lt h hb
    exact Nat.xor_lt_two_pow hb ha
  rw [pop_zero_iff hx] at hz
  rw [hz,Nat.or_zero] at e
  exact e
theorem part_of (s : Nat) (hs : s < 4096) : ∀ k,k ≤ pop s→∃ p,p &&& s = p∧pop p = k
  | 0,_ => ⟨0,by simp,by decide⟩
  | k + 1,hk => by
    obtain ⟨p,h1,h2⟩:=part_of s hs k (by omega)
    have hne : p ≠ s:=by rintro rfl; omega
    have : ∃ i,s.testBit i = true∧p.testBit i = false:=by
      apply Classical.byContradiction
      intro hn
      apply hne
      apply Nat.eq_of_testBit_eq
      intro i
      cases hp : p.testBit i with
      | true => exact (sub_bits.1 h1 i hp).symm
      | false =>
        cases hb : s.testBit i with
        | false => rfl
        | true => exact absurd ⟨i,hb,hp⟩ hn
    obtain ⟨i,i1,i2⟩:=this
    have hi : i < 12:=bit_lt hs i1
    have h1p : pop (pw i) = 1:=by
      have : ∀ i,i < 12→pop (pw i) = 1:=by decide
      exact this i hi
    refine ⟨p ||| pw i,or_sub h1 (sub_bits.2 fun j hj => ?_),?_⟩
    · rw [pw_bit] at hj
      have : i = j:=by simpa using hj
      rw [← this]; exact i1
    · rw [pop_or fun j => ?_,h1p,h2]
      rintro ⟨a1,a2⟩
      rw [pw_bit] at a2
      have : i = j:=by simpa using a2
      rw [← this,i2] at a1
      cases a1
structure BF (bf : Nat→Nat) (R : Nat→Nat→Bool) (n : Nat) : Prop where
  bit : ∀ v,v < n→∀ u,(bf v).testBit u = R u v
theorem sub_iff {x d : Nat} (hx : x < 4096) : subB x d = true ↔ ∀ i,x.testBit i = true→d.testBit i = true:=by
  unfold subB
  rw [List.all_eq_true]
  constructor
  · intro h i hi
    have hlt : i < 12:=bit_lt hx hi
    have:=h i (List.mem_range.2 hlt)
    rw [hi] at this
    simpa using this
  · intro h i _
    cases hb : x.testBit i with
    | false => rfl
    | true => rw [h i hb]; rfl
def nuR (R : Nat→Nat→Bool) (n v : Nat) : Nat:=((List.range n).filter fun x => R x v).length
theorem nuR_lt {R : Nat→Nat→Bool} {n : Nat} (h : PO R n) {u v : Nat} (huv : R u v = true) : nuR R n u < nuR R n v:=by
  unfold nuR
  refine filter_lt (p:=fun x => R x u) (q:=fun x => R x v) _ (fun x _ hx => h.tr x u v hx huv) ⟨u,List.mem_range.2 (h.lt u v huv).1,h.irr u,huv⟩
section
variable {bf : Nat→Nat} {R : Nat→Nat→Bool} {n : Nat} (hR : PO R n) (hb : BF bf R n) (hn : n ≤ 12)
include hR hb hn
theorem bf_lt {v : Nat} (hv : v < n) : bf v < 4096:=by
  have : bf v < 2 ^ n:=lt_bits fun i h => by
    rw [hb.bit v hv] at h
    exact (hR.lt _ _ h).1
  exact Nat.lt_of_lt_of_le this (Nat.pow_le_pow_right (by omega) hn)
theorem rdy_bit (d i : Nat) : (rdyK bf d n).testBit i = true ↔ i < n∧d.testBit i = false∧∀ u,R u i = true→d.testBit u = true:=by
  rw [rdyK_bit]
  simp only [Bool.and_eq_true,decide_eq_true_eq,Bool.not_eq_true']
  constructor
  · rintro ⟨h1,h2,h3⟩
    refine ⟨h1,h2,fun u hu => ?_⟩
    rw [sub_iff (bf_lt hR hb hn h1)] at h3
    exact h3 u (by rw [hb.bit i h1]; exact hu)
  · rintro ⟨h1,h2,h3⟩
    refine ⟨h1,h2,?_⟩
    rw [sub_iff (bf_lt hR hb hn h1)]
    intro u hu
    rw [hb.bit i h1] at hu
    exact h3 u hu
theorem rdy_ne {d : Nat} (hd : d &&& allM n = d) (hne : d ≠ allM n) : rdyK bf d n ≠ 0:=by
  -- a vertex that is not done,with as few before it as can be
  have h0 : ∃ v,v < n∧d.testBit v = false:=by
    apply Classical.byContradiction
    intro hc
    apply hne
    apply Nat.eq_of_testBit_eq
    intro i
    rw [allM_bit]
    by_cases hi : i < n
    · cases hb' : d.testBit i with
      | true => simp [hi]
      | false => exact absurd ⟨i,hi,hb'⟩ hc
    · cases hb' : d.testBit i with
      | false => simp [hi]
      | true =>
        have:=sub_bits.1 hd i hb'
        rw [allM_bit] at this
        simp [hi] at this
  have key : ∀ c v,nuR R n v < c→v < n→d.testBit v = false→∃ x,(rdyK bf d n).testBit x = true:=by
    intro c
    induction c with
    | zero => intro v h; omega
    | succ c ih =>
      intro v hc hv hdv
      by_cases hall : ∀ u,R u v = true→d.testBit u = true
      · exact ⟨v,(rdy_bit hR hb hn d v).2 ⟨hv,hdv,hall⟩⟩
      · have : ∃ u,R u v = true∧d.testBit u = false:=by
          apply Classical.byContradiction
          intro hc2
          apply hall
          intro u hu
          cases hb' : d.testBit u with
          | true => rfl
          | false => exact absurd ⟨u,hu,hb'⟩ hc2
        obtain ⟨u,hu,hdu⟩:=this
        exact ih u (by have:=nuR_lt hR hu; omega) (hR.lt _ _ hu).1 hdu
  obtain ⟨v,hv,hdv⟩:=h0
  obtain ⟨x,hx⟩:=key _ v (Nat.lt_succ_self _) hv hdv
  intro hz
  rw [hz] at hx
  simp at hx
theorem rdy_lt (d : Nat) : rdyK bf d n < 4096:=Nat.lt_of_lt_of_le (rdyK_lt bf d n) (Nat.pow_le_pow_right (by omega) hn)
theorem all_lt : allM n < 4096:=by
  have h1 : allM n < 2 ^ n:=by unfold allM; have:=Nat.two_pow_pos n; omega
  exact Nat.lt_of_lt_of_le h1 (Nat.pow_le_pow_right (by omega) hn)
theorem stP_grow {k : Nat} (hk : 1 ≤ k) : ∀ {r m : Nat},stP bf n k r m→m = allM n ∨ r ≤ pop m
  | 0,m,_ => .inr (Nat.zero_le _)
  | r + 1,m,⟨d,h1,p,h2,h3,h4⟩ => by
    have hsub:=stP_sub h1
    by_cases hd : d = allM n
    · left
      have hr : rdyK bf d n = 0:=by
        apply Nat.eq_of_testBit_eq
        intro i
        rw [Nat.zero_testBit]
        cases hb' : (rdyK bf d n).testBit i with
        | false => rfl
        | true =>
          have h:=(rdy_bit hR hb hn d i).1 hb'
          rw [hd,allM_bit] at h
          simp [h.1] at h
      rw [hr] at h2
      simp at h2
      rw [h4,← h2,Nat.or_zero,hd]
    · rcases stP_grow hk h1 with h5 | h5
      · exact absurd h5 hd
      · right
        have hne:=rdy_ne hR hb hn hsub hd
        have hpz : pop (rdyK bf d n) ≠ 0:=fun e => hne ((pop_zero_iff (rdy_lt hR hb hn d)).1 e)
        rw [h4,pop_or fun i => ?_]
        · omega
        · rintro ⟨a1,a2⟩
          have:=((rdy_bit hR hb hn d i).1 (sub_bits.1 h2 i a2)).2.1
          rw [a1] at this
          cases this
theorem stP_some (k : Nat) : ∀ r,∃ m,stP bf n k r m
  | 0 => ⟨0,rfl⟩
  | r + 1 => by
    obtain ⟨d,hd⟩:=stP_some k r
    obtain ⟨p,h1,h2⟩:=part_of (rdyK bf d n) (rdy_lt hR hb hn d) (min k (pop (rdyK bf d n))) (Nat.min_le_right _ _)
    exact ⟨d ||| p,d,hd,p,h1,h2,rfl⟩
theorem stP_ends {k : Nat} (hk : 1 ≤ k) : stP bf n k n (allM n):=by
  obtain ⟨m,hm⟩:=stP_some hR hb hn k n
  rcases stP_grow hR hb hn hk hm with h | h
  · rw [← h]; exact hm
  · have hs:=stP_sub hm
    have:=pop_eq (all_lt hR hb hn) hs (by rw [pop_all hn]; exact h)
    rw [← this]; exact hm
end
noncomputable def stA (bf : Nat→Nat) (n k : Nat) : Nat:=leastOf fun r => stP bf n k r (allM n)
theorem stA_spec {bf : Nat→Nat} {R : Nat→Nat→Bool} {n : Nat} (hR : PO R n) (hb : BF bf R n) (hn : n ≤ 12) {k : Nat} (hk : 1 ≤ k) :
    stP bf n k (stA bf n k) (allM n)∧(∀ r,stP bf n k r (allM n)→stA bf n k ≤ r)∧stA bf n k ≤ n:=by
  have h:=leastOf_spec (p:=fun r => stP bf n k r (allM n)) ⟨n,stP_ends hR hb hn hk⟩
  exact ⟨h.1,h.2,h.2 n (stP_ends hR hb hn hk)⟩
end Go.Mx
namespace Go.Mx
set_option linter.unusedVariables false
set_option linter.unusedSimpArgs false
set_option linter.unusedSectionVars false
open Go Go.RowKit
def bfK (g : Nat→Nat) (v : Nat) : Nat→Nat
  | 0 => 0
  | u + 1 => if Rb g u v = true then bfK g v u ||| pw u else bfK g v u
theorem bfK_bit (g : Nat→Nat) (v k i : Nat) : (bfK g v k).testBit i = (decide (i < k) && Rb g i v):=by
  induction k with
  | zero => simp [bfK]
  | succ k ih =>
    unfold bfK
    by_cases h : Rb g k v = true
    · rw [if_pos h,Nat.testBit_or,ih,pw_bit]
      by_cases hk : i = k
      · subst hk; simp [h]
      · have : ¬ k = i:=fun e => hk e.symm
        have e2 : (i < k + 1) ↔ i < k:=by omega
        simp [this,e2]
    · rw [if_neg h,ih]
      by_cases hk : i = k
      · subst hk; simp [h]
      · have e2 : (i < k + 1) ↔ i < k:=by omega
        simp [e2]
theorem bfK_lt (g : Nat→Nat) (v : Nat) {k : Nat} (hk : k ≤ 12) : bfK g v k < 4096:=by
  have : bfK g v k < 2 ^ 12:=Nat.lt_pow_two_of_testBit _ fun i hi => by
    rw [bfK_bit]
    have : ¬ i < k:=by omega
    simp [this]
  exact this
def bfF (g : Nat→Nat) (n v u : Nat) : Nat→Nat:=fun x => if x < v then bfK g x n else if x = v then bfK g v u else 0
def rowU (F : Nat→Nat) (n : Nat) : Array Value:=((List.range n).map fun x => Value.int .u64 ((F x : Nat) : Int)).toArray
theorem rowU_get (F : Nat→Nat) {n x : Nat} (h : x < n) : (rowU F n)[x]? = some (.int .u64 ((F x : Nat) : Int)):=by simp [rowU,h]
theorem rowU_set (F : Nat→Nat) (n x y : Nat) : (rowU F n).setIfInBounds x (.int .u64 ((y : Nat) : Int)) = rowU (updF F x y) n:=by
  apply Array.ext
  · simp [rowU]
  · intro i h1 h2
    have hi : i < n:=by simpa [rowU] using h2
    have e : (rowU (updF F x y) n)[i] = .int .u64 ((updF F x y i : Nat) : Int):=by simp [rowU]
    rw [e,Array.getElem_setIfInBounds (by simpa [rowU] using hi)]
    unfold updF
    split
    · rename_i h; subst h; simp
    · rename_i h
      rw [if_neg (Ne.symm h)]
      simp [rowU]
theorem rowU_ext {F G : Nat→Nat} {n : Nat} (h : ∀ x,x < n→F x = G x) : rowU F n = rowU G n:=by
  unfold rowU
  congr 1
  apply List.map_congr_left
  intro x hx
  rw [h x (List.mem_range.1 hx)]
theorem info53 : (Go.Proofs.Try.prog.info? 66).map (fun i => (i.zero,i.size,i.bytes)) = some (some (.int .u64 0),1,8):=by kernel_rfl
theorem made_rowU (n : Nat) : (madeCells (Value.int .u64 0).cells (n * 1)).toList = (rowU (fun _ => 0) n).toList:=by
  apply List.ext_getElem?
  intro i
  simp only [madeCells,rowU]
  by_cases h : i < n
  · simp [Value.cells,h,Nat.mod_one]
  · simp [Value.cells,h]
theorem owns_all {w : World} {base g n e : Nat} {l : List Value} (h : w.ownsRow base e 1 (.slice (some ⟨g,0,none⟩) n n) n l) : w.heap[g]? = some (.cells l.toArray e (0,0)):=by
  obtain ⟨h1,h2⟩:=h
  rcases h2 with ⟨h2,_⟩ | ⟨g',cap,cur,he,_,hh,_,_,hs,ht⟩
  · cases h2
  · simp only [Value.slice.injEq,Option.some.injEq,Addr.mk.injEq,and_true,true_and] at he
    obtain ⟨rfl,rfl⟩:=he
    rw [hh,← ht,List.take_of_length_le (by simp; omega)]
theorem bfF_step (g : Nat→Nat) {n v u : Nat} (hR : Rb g u v = true) : updF (bfF g n v u) v (bfF g n v u v ||| pw u) = bfF g n v (u + 1):=by
  funext x
  unfold updF bfF
  by_cases h : x = v
  · subst h
    simp [bfK,hR]
  · simp [h]
theorem bfF_keep (g : Nat→Nat) {n v u : Nat} (hR : ¬ Rb g u v = true) : bfF g n v (u + 1) = bfF g n v u:=by
  funext x
  unfold bfF
  simp [bfK,hR]
theorem bfF_next (g : Nat→Nat) (n v : Nat) : bfF g n v n = bfF g n (v + 1) 0:=by
  funext x
  unfold bfF
  by_cases h : x < v
  · have : x < v + 1:=by omega
    simp [h,this]
  · by_cases h2 : x = v
    · subst h2; simp
    · have h3 : ¬ x < v + 1:=by omega
      simp [h,h2,h3,bfK]
theorem bfF_zero (g : Nat→Nat) (n : Nat) : bfF g n 0 0 = fun _ => 0:=by
  funext x
  unfold bfF
  simp [bfK]
theorem bfF_lt (g : Nat→Nat) {n v u : Nat} (hn : n ≤ 12) (hu : u ≤ n) (x : Nat) : bfF g n v u x < 4096:=by
  unfold bfF
  split
  · exact bfK_lt g x hn
  · split
    · exact bfK_lt g v (by omega)
    · omega
theorem row_cell {w : World} {bB n x : Nat} {F : Nat→Nat} (h : w.heap[bB]? = some (.cells (rowU F n) 66 (0,0))) (hx : x < n) : w.cell? ⟨bB,x,none⟩ = some (.int .u64 ((F x : Nat) : Int)):=by
  have h2:=rowU_get F hx
  simp only [World.cell?,h]
  simpa using h2
theorem row_free {w : World} {bB n : Nat} {F : Nat→Nat} (h : w.heap[bB]? = some (.cells (rowU F n) 66 (0,0))) (x : Nat) : w.frozen? ⟨bB,x,none⟩ = false:=by simp [World.frozen?,h]
theorem row_store {w : World} {bB n : Nat} {F : Nat→Nat} (h : w.heap[bB]? = some (.cells (rowU F n) 66 (0,0))) (x y : Nat) : (w.setCell ⟨bB,x,none⟩ (.int .u64 ((y : Nat) : Int))).heap[bB]? = some (.cells (rowU (updF F x y) n) 66 (0,0)):=by
  have hlt:=lt_of_block h
  have h' : w.heap[bB] = .cells (rowU F n) 66 (0,0):=by rw [Array.getElem?_eq_getElem hlt] at h; exact Option.some.inj h
  show (w.heap.modify bB _)[bB]? = _
  rw [Array.getElem?_eq_getElem (by simpa using hlt),Array.getElem_modify_self,h']
  simp only [rowU_set]
  rfl
theorem wpList_insert_set {P : Program} {ops : Array Oper} {rest : List Oper} {o : Oper} {a : Act} {w : World} {Q : Exit→Act→World→Prop} (hg : o.guard = none) (hd : o.dst = none) (m x v : Operand) (t kt et : TypeId) (hop : o.op = .insert t m x v) (td k : IntKind) (ht : P.underlying t = some (.map kt et)) (hk : P.underlying kt = some (.int td))
    (r : Nat) (S : List Int) (hm : a.eval m = .map (some r)) (hS : MapSet k w r S) (y : Int) (hx : a.eval x = .int k y) (hv : a.eval v = .bool true)
    (h : ∀ w',MapSet k w' r (putS S y)→Put w w' r→wpList P ops Q rest a w') : wpList P ops Q (o :: rest) a w:=by
  refine wpList_plain hg fun K hK => ?_
  obtain ⟨w',h1,h2,h3⟩:=run_update_set ht hk hS y
  unfold Oper.wp
  simp [execOp,hop,hm,hx,hv,h1,Result.andThen]
  have e : a.put o.dst undef = a:=by rw [hd]; rfl
  refine hK _ _ ?_
  rw [e]
  exact h w' h2 h3
abbrev bfN (n : Int) (a : List (Int × Int)) : Nat→Nat:=fun v => bfK (ordG n a) v n.toNat
open Classical in
noncomputable def stD (n : Int) (a : List (Int × Int)) (k : Int) : D :=
  if ckE n a = 0 then if 1 ≤ k∧k ≤ 12 then .nd .tu [.v (.int .i64 ((stA (bfN n a) n.toNat k.toNat : Nat) : Int)),.v (.int .i64 0)] else .nd .tu [.v (.int .i64 0),.v (.int .i64 2)]
  else .nd .tu [.v (.int .i64 0),.v (.int .i64 (ckE n a))]
theorem sc2_fresh {w w' : World} (x y : Value) : FreshT w w' (.nd .tu [.v x,.v y]):=by
  have hc : ∀ b,cnt b (.nd .tu [.v x,.v y] : C) = 0:=by intro b; simp [cnt,cntL,K.own]
  exact ⟨⟨trivial,trivial,trivial,trivial⟩,fun b => by rw [hc]; exact ⟨by omega,fun h => absurd rfl h⟩⟩
theorem wrap_pow {n : Nat} (hn : n ≤ 12) : IntKind.u64.wrap ((2 : Int) ^ n) = ((pw n : Nat) : Int):=by
  have e : (2 : Int) ^ n = ((pw n : Nat) : Int):=by unfold pw; rw [Int.natCast_pow]; rfl
  rw [e]
  exact wrap64 (Nat.lt_of_le_of_lt (Nat.pow_le_pow_right (by omega) hn) (by decide))
theorem wrap_all {n : Nat} (hn : n ≤ 12) : IntKind.u64.wrap (IntKind.u64.wrap ((2 : Int) ^ n) - 1) = ((allM n : Nat) : Int):=by
  rw [wrap_pow hn]
  have h1 : 1 ≤ pw n:=Nat.one_le_two_pow
  have h2 : pw n ≤ 4096:=Nat.pow_le_pow_right (by omega) hn
  have e : ((pw n : Nat) : Int) - 1 = ((allM n : Nat) : Int):=(Int.natCast_sub h1).symm
  rw [e]
  exact wrap64 (by have : allM n ≤ pw n:=Nat.sub_le _ _; omega)
theorem bfK_bf {g : Nat→Nat} {n : Nat} (h : PO (Rb g) n) : BF (fun v => bfK g v n) (Rb g) n:=⟨fun v _ u => by
  show (bfK g v n).testBit u = _
  rw [bfK_bit]
  cases hb : Rb g u v with
  | false => simp
  | true => simp [(h.lt _ _ hb).1]⟩
theorem nod_sub' : ∀ (l m : List Int),l.Nodup→(∀ x ∈ l,x ∈ m)→l.length ≤ m.length
  | [],_,_,_ => Nat.zero_le _
  | x :: l,m,hn,hs => by
    rw [List.nodup_cons] at hn
    have hx:=hs x (by simp)
    have h:=nod_sub' l (m.erase x) hn.2 fun y hy => (List.mem_erase_of_ne (fun e => hn.1 (by rw [← e]; exact hy))).2 (hs y (by simp [hy]))
    have:=List.length_erase_of_mem hx
    have:=List.length_pos_of_mem hx
    simp only [List.length_cons]
    omega
theorem sh_and {d u : Nat} (hd : d < 4096) : (Go.bits BinOp.and IntKind.u64 (((d : Nat) : Int) / 2 ^ u) 1 == 0) = !d.testBit u:=by
  have e1 : ((d : Nat) : Int) / 2 ^ u = ((d / 2 ^ u : Nat) : Int):=by push_cast; rfl
  have e2 : d / 2 ^ u ≤ d:=Nat.div_le_self _ _
  have e3 : Go.bits BinOp.and IntKind.u64 (((d / 2 ^ u : Nat)) : Int) 1 = ((d / 2 ^ u &&& 1 : Nat) : Int):=u64_and_nat _ 1 (by omega) (by omega)
  rw [e1,e3,Nat.and_one_is_mod]
  have e4 : d.testBit u = decide (d / 2 ^ u % 2 = 1):=Nat.testBit_eq_decide_div_mod_eq
  rw [e4]
  rcases Nat.mod_two_eq_zero_or_one (d / 2 ^ u) with h | h <;> rw [h] <;> rfl
theorem an_not {x d : Nat} (hx : x < 4096) (hd : d < 4096) : (Go.bits BinOp.andNot IntKind.u64 ((x : Nat) : Int) ((d : Nat) : Int) == 0) = subB x d:=by
  rw [u64_andNot_nat _ _ (by omega) (by omega)]
  have hb : ∀ i,i < 64→(18446744073709551615 - d).testBit i = !d.testBit i:=fun i hi => by
    have:=Nat.testBit_two_pow_sub_succ (x:=d) (n:=64) (by omega) i
    have e : 2 ^ 64 - (d + 1) = 18446744073709551615 - d:=by omega
    rw [e] at this
    simpa [hi] using this
  cases hs : subB x d with
  | true =>
    have h:=(sub_iff hx).1 hs
    have : x &&& (18446744073709551615 - d) = 0:=Nat.eq_of_testBit_eq fun i => by
      rw [Nat.testBit_and,Nat.zero_testBit]
      cases hxi : x.testBit i with
      | false => rfl
      | true =>
        have:=bit_lt hx hxi
        rw [hb i (by omega),h i hxi]
        rfl
    rw [this]
    rfl
  | false =>
    have : x &&& (18446744073709551615 - d) ≠ 0:=fun h0 => by
      have : subB x d = true:=(sub_iff hx).2 fun i hi => by
        have hlt:=bit_lt hx hi
        have:=congrArg (fun y => y.testBit i) h0
        simp only [Nat.testBit_and,Nat.zero_testBit,hi,Bool.true_and] at this
        rw [hb i (by omega)] at this
        simpa using this
      rw [hs] at this
      exact absurd this (by simp)
    have h2 : ((x &&& (18446744073709551615 - d) : Nat) : Int) ≠ 0:=by omega
    simpa using h2
set_option maxHeartbeats 1000000 in
set_option maxRecDepth 100000 in
theorem streams_any (b : Bool) (n : Int) (a : List (Int × Int)) (hl : a.length ≤ 1000) (w : World) (av : Value) (ha : ArgOK w av (sa b a)) (k : Int) :
    Calls Go.Proofs.Try.prog 13 #[.int .i64 n,av,.int .i64 k] w fun e w' => ∃ t : C,e = .returned (val t)∧er t = stD n a k∧Below w.heap.size w w'∧FreshT w w' t:=by
  go_enter Go.Proofs.Try.func13,Go.Proofs.Try.ntmps13
  go_wp2_with fail
  refine (ck_calls b n a hl ha).mono ?_
  rintro e w1 ⟨t,rfl,ht,hb1,hf1⟩
  by_cases hck : ckE n a = 0
  · obtain ⟨m,rfl,h12,hv,hac⟩:=ck_ok hck
    have ht' : er t = .nd .tu [su6 m (ordG m a),.v (.int .i64 0)]:=by rw [ht,ckD,if_pos hck,Int.toNat_natCast]
    obtain ⟨t1,rfl,h1⟩:=tu2 ht'
    obtain ⟨oa,oc,e1,_⟩:=int_tree h1 hf1.mem.2.1
    rw [zr_len] at e1
    have e2 : val (.nd .tu [t1,.v (.int .i64 0)]) = .tuple #[.slice oa m oc,.int .i64 0]:=by
      show Value.tuple (valL [t1,.v _]).toArray = _
      rw [valL,valL,valL,e1]
      rfl
    rw [e2]
    have hg:=ord_lt hck
    have HPO : Hid (PO (Rb (ordG m a)) m):=by have:=oR_po hv hac; rw [Int.toNat_natCast] at this; exact this
    have HD : Hid (∀ kn : Nat,1 ≤ kn→kn ≤ 12→stD m a kn = .nd .tu [.v (.int .i64 ((stA (fun v => bfK (ordG m a) v m) m kn : Nat) : Int)),.v (.int .i64 0)]):=fun kn h1 h2 => by
      rw [stD,if_pos hck,if_pos ⟨by omega,by omega⟩]
      rfl
    have HD2 : Hid (¬ (1 ≤ k∧k ≤ 12)→stD m a k = .nd .tu [.v (.int .i64 0),.v (.int .i64 2)]):=fun h => by rw [stD,if_pos hck,if_neg h]
    generalize ordG m a = g at *
    have HT : Hid (val t1 = .slice oa m oc∧er t1 = su6 m g∧Mem w1 false t1∧∀ c,cnt c t1 ≠ 0→w.heap.size ≤ c∧c < w1.heap.size):=by
      refine ⟨e1,h1,Mem.weak hf1.mem.2.1,fun c hc => ?_⟩
      exact (hf1.own c).2 (by simp only [cnt,cntL]; omega)
    clear e1 h1 e2 ht ht' hf1 hck hv hac
    obtain ⟨i0,hi,hz0,hz1,hz2⟩:=info_parts info53
    by_cases hk : 1 ≤ k∧k ≤ 12
    · obtain ⟨hk1,hk2⟩:=hk
      have hd1 : decide (k < 1) = false:=by simp; omega
      have hd2 : decide (12 < k) = false:=by simp; omega
      go_wp2_with (first
        | (at_make; refine wpList_make_full _ rfl (.tmp 37) (.tmp 37) 50 rfl w1.heap.size 66 i0 (.int .u64 0) 1 Go.Proofs.Try.underlying50 hi hz0 hz1 .i64 .i64 (m : Int) (m : Int) m rfl rfl rfl rfl (by rw [hz2]; omega) (by unfold maxLen; omega) (Nat.le_refl _) ?_; intro w2 hown hgrow)
        | fail)
      have hB2 : w2.heap[w1.heap.size]? = some (.cells (rowU (bfF g m 0 0) m) 66 (0,0)):=by
        have:=owns_all hown
        rw [made_rowU] at this
        rw [bfF_zero]
        simpa using this
      have HB2:=Lib.hid hB2
      have HBel:=Lib.hid (grown_none hgrow)
      clear hB2 hown hgrow hi hz0 hz1 hz2
      go_loopg [40] m (fun r p wr => ∃ v : Nat,v + r = m∧p = .int .i64 (v : Int)∧wr.heap[w1.heap.size]? = some (.cells (rowU (bfF g m v 0) m) 66 (0,0))∧Below w1.heap.size w1 wr)
      case atStart => exact ⟨0,by omega,rfl,HB2.out,HBel.out⟩
      case round =>
        obtain ⟨v,hv,rfl,hrow,hbel⟩:=hrel
        have HR:=Lib.hid hrow
        have HBe:=Lib.hid hbel
        clear hrow hbel HB2 HBel
        by_cases hlt : v < m
        · have hw:=wrap_succ (i:=v) (by omega)
          go_wp2_with fail
          obtain ⟨go,hgo⟩ : ∃ go,go = gk:=⟨gk,rfl⟩
          subst hgo
          go_loopg [44] m (fun r p wr => ∃ u : Nat,u + r = m∧p = .int .i64 (u : Int)∧wr.heap[w1.heap.size]? = some (.cells (rowU (bfF g m v u) m) 66 (0,0))∧Below w1.heap.size w1 wr)
          case atStart => exact ⟨0,by omega,rfl,HR.out,HBe.out⟩
          case round =>
            obtain ⟨u,hu,rfl,hrow,hbel⟩:=hrel
            have HR2:=Lib.hid hrow
            have HBe2:=Lib.hid hbel
            clear hrow hbel HR HBe
            by_cases hltu : u < m
            · have hw2:=wrap_succ (i:=u) (by omega)
              have hO : ArgOK wr (.slice oa m oc) (su6 m g):=by
                obtain ⟨q1,q2,q3,q4⟩:=HT.out
                exact ⟨t1,q2,q1,q3.same fun c hc => HBe2.out.block c (q4 c hc).2,fun c hc => Nat.lt_of_lt_of_le (q4 c hc).2 HBe2.out.size⟩
              have HO:=Lib.hid hO
              clear hO
              go_wp2_with fail
              refine (prec_calls h12 hg u v hltu hlt HO.out).mono ?_
              rintro e w3 ⟨rfl,hb3⟩
              have HB3 : Hid (Below w1.heap.size w1 w3):=below_trans HBe2.out hb3
              have hrow3 : w3.heap[w1.heap.size]? = some (.cells (rowU (bfF g m v u) m) 66 (0,0)):=by rw [hb3.block _ (lt_of_block HR2.out)]; exact HR2.out
              have cB:=row_cell hrow3 hlt
              have fB:=row_free hrow3 v
              have HR3:=Lib.hid hrow3
              have hlt4:=bfF_lt g (v:=v) h12 (Nat.le_of_lt hltu) v
              clear hrow3 hb3 HO HR2 HBe2
              by_cases hRb : Rb g u v = true
              · have HS:=Lib.hid (bfF_step g (n:=m) hRb)
                rw [hRb]
                clear hRb
                go_wp2_with fail
                have hsw:=wrap_pow (n:=u) (by omega)
                have hor : Go.bits BinOp.or IntKind.u64 ((bfF g m v u v : Nat) : Int) ((pw u : Nat) : Int) = ((bfF g m v u v ||| pw u : Nat) : Int):=u64_or_nat _ _ (by omega) (Nat.lt_of_lt_of_le (pw_lt (t:=u) (m:=12) (by omega)) (by decide))
                have HR4 : Hid ((w3.setCell ⟨w1.heap.size,v,none⟩ (.int .u64 ((bfF g m v u v ||| pw u : Nat) : Int))).drew.heap[w1.heap.size]? = some (.cells (rowU (bfF g m v (u + 1)) m) 66 (0,0))∧Below w1.heap.size w1 (w3.setCell ⟨w1.heap.size,v,none⟩ (.int .u64 ((bfF g m v u v ||| pw u : Nat) : Int))).drew):=by
                  refine ⟨?_,(HB3.out.setCell (Nat.le_refl _) _).drew⟩
                  have:=row_store HR3.out v (bfF g m v u v ||| pw u)
                  rw [HS.out] at this
                  exact this
                go_region
                all_goals
                  go_wp2_with fail
                  go_roundg (gk - 1)
                  case measure => omega
                  case rel => exact ⟨u + 1,by omega,by go_num,HR4.out.1,HR4.out.2⟩
              · have HS:=Lib.hid (bfF_keep g (n:=m) hRb)
                rw [show Rb g u v = false by simpa using hRb]
                clear hRb
                go_wp2_with fail
                go_roundg (gk - 1)
                case measure => omega
                case rel => exact ⟨u + 1,by omega,by go_num,by rw [HS.out]; exact HR3.out,HB3.out⟩
            · obtain rfl : u = m:=by omega
              go_wp2_with fail
              go_roundg (go - 1)
              case measure => omega
              case rel => exact ⟨v + 1,by omega,by go_num,by rw [← bfF_next]; exact HR2.out,HBe2.out⟩
        · obtain rfl : v = m:=by omega
          obtain ⟨kn,rfl⟩ : ∃ kn : Nat,k = (kn : Int):=⟨k.toNat,by omega⟩
          have hall:=wrap_all h12
          have hmk : (Instr.makeMap 67 none).run Go.Proofs.Try.prog wr = .ok (.map (some wr.heap.size)) (wr.alloc (.map #[] 0)):=(run_makeMap_set .u64 67).1
          have HM:=Lib.hid (run_makeMap_set (P:=Go.Proofs.Try.prog) (w:=wr) .u64 67).2
          go_wp2_with (first
            | (refine wpList_insert_set rfl rfl (.tmp 64) (.const (.int .u64 0)) (.const (.bool true)) 67 66 4 rfl .u64 .u64 Go.Proofs.Try.underlying67 Go.Proofs.Try.underlying66 wr.heap.size [] rfl HM.out 0 rfl rfl ?_; intro w4 hM4 hput4; have HM4:=Lib.hid hM4; clear hM4)
            | fail)
          have hspec:=stA_spec HPO.out (bfK_bf HPO.out) h12 (k:=kn) (by omega)
          have HSp:=Lib.hid hspec
          have HBF:=Lib.hid (bfK_bf HPO.out)
          clear hspec
          obtain ⟨bf,hbf⟩ : ∃ bf : Nat→Nat,bf = fun x => bfK g x v:=⟨_,rfl⟩
          obtain ⟨A,hA⟩ : ∃ A,A = stA bf v kn:=⟨_,rfl⟩
          have HBf:=Lib.hid hbf
          rw [← hbf] at HSp HBF
          rw [← hA] at HSp
          have HA:=Lib.hid hA
          have HR4 : Hid (w4.heap[w1.heap.size]? = some (.cells (rowU bf v) 66 (0,0))∧Below w1.heap.size w1 w4∧w1.heap.size < wr.heap.size):=by
            have l1:=lt_of_block HR.out
            have e1 : w4.heap[w1.heap.size]? = wr.heap[w1.heap.size]?:=by rw [hput4.block _ (by omega),Below.heap_alloc _ _ _ l1]
            have hb:=HBe.out.alloc HBe.out.size (.map #[] 0)
            refine ⟨?_,⟨hput4.os.trans hb.os,hput4.tape.trans hb.tape,hput4.output.trans hb.output,by rw [hput4.size]; exact hb.size,fun c hc => (hput4.block c (by omega)).trans (hb.block c hc)⟩,l1⟩
            rw [e1,HR.out,hbf]
            congr 2
            exact rowU_ext fun x hx => by unfold bfF; rw [if_pos hx]
          clear hA hbf hput4 HM hmk HR HBe
          go_loopg [14,15] A (fun r p14 p15 wr => ∃ (rr bN : Nat) (S : List Int),rr + r = A∧p15 = .int .i64 (rr : Int)∧p14 = .map (some bN)∧w1.heap.size < bN∧MapSet .u64 wr bN S∧(∀ x,x ∈ S ↔ ∃ q : Nat,x = (q : Int)∧stP bf v kn rr q)∧wr.heap[w1.heap.size]? = some (.cells (rowU bf v) 66 (0,0))∧Below w1.heap.size w1 wr)
          case atStart => exact ⟨0,_,putS [] 0,by omega,rfl,rfl,HR4.out.2.2,HM4.out,fun x => by rw [mem_putS]; simp [stP],HR4.out.1,HR4.out.2.1⟩
          case round =>
            obtain ⟨rr,bN,S,hrr,rfl,rfl,hbN,hM,hS,hrow,hbel⟩:=hrel
            have HMr:=Lib.hid hM
            have HS:=Lib.hid hS
            have HRw:=Lib.hid hrow
            have HBr:=Lib.hid hbel
            clear hM hS hrow hbel HR4 HM4
            by_cases hend : rr = A
            · subst hend
              have HL : Hid (decide (((allM v : Nat) : Int) ∈ S) = true):=by
                have:=(HS.out (allM v : Nat)).2 ⟨allM v,rfl,HSp.out.1⟩
                simpa [Hid] using this
              go_wp2_with (first
                | (at_lookup; refine wpList_lookup_set (by simp [Region.wanted]) (.tmp 68) (.tmp 69) 67 66 4 rfl .u64 .u64 Go.Proofs.Try.underlying67 Go.Proofs.Try.underlying66 (zero4 _) bN S rfl HMr.out ((allM v : Nat) : Int) rfl true HL.out ?_)
                | fail)
              go_ret2
              refine ⟨.nd .tu [.v (.int .i64 ((stA (fun x => bfK g x v) v kn : Nat) : Int)),.v (.int .i64 0)],?_,?_,?_,sc2_fresh _ _⟩
              · rw [show stA (fun x => bfK g x v) v kn = rr by rw [HA.out,HBf.out]]; rfl
              · rw [HD.out kn (by omega) (by omega)]; rfl
              · exact below_trans hb1 HBr.out
            · obtain ⟨go,hgo⟩ : ∃ go,go = gk:=⟨gk,rfl⟩
              subst hgo
              have HL : Hid (decide (((allM v : Nat) : Int) ∈ S) = false):=by
                have : ¬ ((allM v : Nat) : Int) ∈ S:=fun h => by
                  obtain ⟨q,h1,h2⟩:=(HS.out _).1 h
                  have : q = allM v:=by omega
                  subst this
                  have:=HSp.out.2.1 rr h2
                  omega
                simpa [Hid] using this
              have hmk : (Instr.makeMap 67 none).run Go.Proofs.Try.prog wr = .ok (.map (some wr.heap.size)) (wr.alloc (.map #[] 0)):=(run_makeMap_set .u64 67).1
              have lB:=lt_of_block HRw.out
              have lN:=HMr.out.lt
              have HW1 : Hid (MapSet .u64 ((wr.alloc (.map #[] 0)).alloc (.cells #[.map (some wr.heap.size)] 67)) bN S∧MapSet .u64 ((wr.alloc (.map #[] 0)).alloc (.cells #[.map (some wr.heap.size)] 67)) wr.heap.size []∧((wr.alloc (.map #[] 0)).alloc (.cells #[.map (some wr.heap.size)] 67)).heap[wr.heap.size + 1]? = some (.cells #[.map (some wr.heap.size)] 67 (0,0)) ∧
                  ((wr.alloc (.map #[] 0)).alloc (.cells #[.map (some wr.heap.size)] 67)).heap[w1.heap.size]? = some (.cells (rowU bf v) 66 (0,0))∧Below w1.heap.size w1 ((wr.alloc (.map #[] 0)).alloc (.cells #[.map (some wr.heap.size)] 67))):=by
                have z : (wr.alloc (.map #[] 0)).heap.size = wr.heap.size + 1:=by simp
                refine ⟨HMr.out.same ?_,((run_makeMap_set (P:=Go.Proofs.Try.prog) (w:=wr) .u64 67).2).same ?_,?_,?_,?_⟩
                · rw [Below.heap_alloc _ _ _ (by omega),Below.heap_alloc _ _ _ lN]
                · rw [Below.heap_alloc _ _ _ (by omega)]
                · have:=heap_new (wr.alloc (.map #[] 0)) (.cells #[.map (some wr.heap.size)] 67)
                  rw [z] at this
                  exact this
                · rw [Below.heap_alloc _ _ _ (by omega),Below.heap_alloc _ _ _ lB]; exact HRw.out
                · exact (HBr.out.alloc HBr.out.size _).alloc (by have:=HBr.out.size; omega) _
              go_wp2_with (first
                | (at_lookup; refine wpList_lookup_set (by simp [Region.wanted]) (.tmp 68) (.tmp 69) 67 66 4 rfl .u64 .u64 Go.Proofs.Try.underlying67 Go.Proofs.Try.underlying66 (zero4 _) bN S rfl HMr.out ((allM v : Nat) : Int) rfl false HL.out ?_)
                | (at_range; refine wpList_range_set rfl (.tmp 73) 67 66 4 rfl .u64 Go.Proofs.Try.underlying67 bN S rfl HW1.out.1 ?_; intro w5 hrg hb5 hs5; have HRg:=Lib.hid hrg; clear hrg)
                | fail)
              have HIn : Hid (RangeS .u64 w5 bN (wr.heap.size + 1 + 1) S []∧MapSet .u64 w5 wr.heap.size []∧w5.heap[wr.heap.size + 1]? = some (.cells #[.map (some wr.heap.size)] 67 (0,0))∧w5.heap[w1.heap.size]? = some (.cells (rowU bf v) 66 (0,0))∧Below w1.heap.size w1 w5∧w1.heap.size < wr.heap.size∧bN < wr.heap.size):=by
                obtain ⟨q1,q2,q3,q4,q5⟩:=HW1.out
                have hr:=HRg.out
                simp only [World.size_alloc] at hr
                have l2:=q2.lt
                have l3:=lt_of_block q3
                have l4:=lt_of_block q4
                exact ⟨hr,q2.same (hb5.block _ l2),by rw [hb5.block _ l3]; exact q3,by rw [hb5.block _ l4]; exact q4,q5.trans (hb5.mono q5.size),lB,lN⟩
              obtain ⟨wo,hwo⟩ : ∃ wo,wo = wr:=⟨wr,rfl⟩
              subst hwo
              clear HRg HW1 hmk lB lN hb5 hs5 HRw HBr HL
              simp only [World.size_alloc]
              go_frame
              go_loopg [] S.length (fun r wr => ∃ (D S' : List Int),D.length + r = S.length∧D.Nodup∧(∀ x,x ∈ D→x ∈ S)∧RangeS .u64 wr bN (wo.heap.size + 1 + 1) S D∧MapSet .u64 wr wo.heap.size S'∧(∀ x,x ∈ S' ↔ ∃ d : Nat,(d : Int) ∈ D∧∃ p : Nat,p &&& rdyK bf d v = p∧pop p = min kn (pop (rdyK bf d v))∧x = ((d ||| p : Nat) : Int)) ∧
                wr.heap[wo.heap.size + 1]? = some (.cells #[.map (some wo.heap.size)] 67 (0,0))∧wr.heap[w1.heap.size]? = some (.cells (rowU bf v) 66 (0,0))∧Below w1.heap.size w1 wr)
              case atStart => exact ⟨[],[],by simp,by simp,by simp,HIn.out.1,HIn.out.2.1,fun x => by simp,HIn.out.2.2.1,HIn.out.2.2.2.1,HIn.out.2.2.2.2.1⟩
              case round =>
                obtain ⟨D,S',hDl,hDn,hDs,hrg,hM',hS',hX,hrow,hbel⟩:=hrel
                have HDl:=Lib.hid hDl
                have HDn:=Lib.hid hDn
                have HDs:=Lib.hid hDs
                have HRg:=Lib.hid hrg
                have HM':=Lib.hid hM'
                have HS':=Lib.hid hS'
                have HX:=Lib.hid hX
                have HRw:=Lib.hid hrow
                have HBr:=Lib.hid hbel
                clear hDl hDn hDs hrg hM' hS' hX hrow hbel
                have cX:=cell_of_one HX.out
                go_wp2_with (first
                  | (at_next; refine wpList_next_set rfl (.tmp 74) rfl .u64 bN (wo.heap.size + 1 + 1) S D (by simp [Act.eval]) HRg.out ?_ ?_)
                  | fail)
                · intro hdone
                  have HDone:=Lib.hid hdone
                  clear hdone
                  have hrb : rr + 1 ≤ 13:=by have:=HSp.out.2.2; omega
                  go_wp2_with fail
                  go_roundg (go - 1)
                  case measure => omega
                  case rel =>
                    refine ⟨rr + 1,wo.heap.size,S',by omega,by go_num,rfl,HIn.out.2.2.2.2.2.1,HM'.out,fun x => ?_,HRw.out,HBr.out⟩
                    rw [HS'.out]
                    constructor
                    · rintro ⟨d,h1,p,h2,h3,h4⟩
                      obtain ⟨q,h5,h6⟩:=(HS.out _).1 (HDs.out _ h1)
                      have : d = q:=by omega
                      subst this
                      exact ⟨d ||| p,h4,d,h6,p,h2,h3,rfl⟩
                    · rintro ⟨q,h1,d,h2,p,h3,h4,h5⟩
                      exact ⟨d,HDone.out _ ((HS.out _).2 ⟨d,rfl,h2⟩),p,h3,h4,by rw [h1,h5]⟩
                · intro x w6 hx1 hx2 hrg6 hput6 hen
                  obtain ⟨d,rfl,hd⟩:=(HS.out x).1 hx1
                  have hd4:=stP_lt h12 hd
                  have Hx1:=Lib.hid hx1
                  have Hx2:=Lib.hid hx2
                  have HRg6:=Lib.hid hrg6
                  have HPut6:=Lib.hid hput6
                  have Hd:=Lib.hid hd
                  clear hx1 hx2 hrg6 hput6 hd
                  obtain ⟨wA,hwA⟩ : ∃ wA,wA = w6.alloc (.cells #[.int .u64 (d : Int)] 66):=⟨_,rfl⟩
                  have HW7 : Hid (wA.heap[w6.heap.size]? = some (.cells #[.int .u64 (d : Int)] 66 (0,0))∧wA.heap[w1.heap.size]? = some (.cells (rowU bf v) 66 (0,0))∧wA.heap[wo.heap.size + 1]? = some (.cells #[.map (some wo.heap.size)] 67 (0,0))∧MapSet .u64 wA wo.heap.size S'∧RangeS .u64 wA bN (wo.heap.size + 1 + 1) S (D ++ [((d : Nat) : Int)])∧Below w1.heap.size w1 wA ∧
                      w1.heap.size < wo.heap.size∧bN < wo.heap.size∧wo.heap.size + 2 < w6.heap.size∧wA.heap.size = w6.heap.size + 1):=by
                    have l1:=lt_of_block HRw.out
                    have h1:=HIn.out.2.2.2.2.2.1
                    have h2:=HIn.out.2.2.2.2.2.2
                    have hp:=HPut6.out
                    have lM:=HM'.out.lt
                    have lX:=lt_of_block HX.out
                    have lR:=HRg.out.lt
                    have hr6:=HRg6.out
                    have z:=hp.size
                    have e : ∀ c,c < w6.heap.size→wA.heap[c]? = w6.heap[c]?:=fun c hc => by rw [hwA]; exact Below.heap_alloc _ _ _ hc
                    refine ⟨by rw [hwA]; exact heap_new _ _,?_,?_,?_,?_,?_,h1,h2,by omega,by rw [hwA]; simp⟩
                    · rw [e _ (by omega),hp.block _ (by omega)]; exact HRw.out
                    · rw [e _ (by omega),hp.block _ (by omega)]; exact HX.out
                    · exact HM'.out.same (by rw [e _ (by omega),hp.block _ (by omega)])
                    · exact hr6.same (e _ (by omega)) (e _ (by omega))
                    · have hb:=HBr.out
                      have : Below w1.heap.size w1 w6:=⟨hp.os.trans hb.os,hp.tape.trans hb.tape,hp.output.trans hb.output,by rw [hp.size]; exact hb.size,fun c hc => (hp.block c (by omega)).trans (hb.block c hc)⟩
                      rw [hwA]
                      exact this.alloc this.size _
                  go_wp2_with fail
                  obtain ⟨gi,hgi⟩ : ∃ gi,gi = gk:=⟨gk,rfl⟩
                  subst hgi
                  obtain ⟨wi,hwi⟩ : ∃ wi,wi = wr:=⟨wr,rfl⟩
                  subst hwi
                  go_loopg [18,80] v (fun r p18 p80 wr => ∃ u : Nat,u + r = v∧p80 = .int .i64 (u : Int)∧p18 = .int .u64 ((rdyK bf d u : Nat) : Int)∧Below wA.heap.size wA wr)
                  case atStart => exact ⟨0,by omega,rfl,rfl,by rw [hwA]; exact .refl _ _⟩
                  case round =>
                    obtain ⟨u,hu,rfl,rfl,hbel⟩:=hrel
                    have HBe:=Lib.hid hbel
                    clear hbel
                    by_cases hlt : u < v
                    · have cD : wr.cell? ⟨w6.heap.size,0,none⟩ = some (.int .u64 (d : Int)):=cell_of_one (t:=66) (by rw [HBe.out.block _ (lt_of_block HW7.out.1)]; exact HW7.out.1)
                      have cB : wr.cell? ⟨w1.heap.size,u,none⟩ = some (.int .u64 ((bf u : Nat) : Int)):=row_cell (by rw [HBe.out.block _ (lt_of_block HW7.out.2.1)]; exact HW7.out.2.1) hlt
                      have hbu : bf u < 4096:=by rw [HBf.out]; exact bfK_lt g u h12
                      have hA1:=sh_and (u:=u) hd4
                      have hA2:=an_not hbu hd4
                      have hru : rdyK bf d u < 4096:=Nat.lt_of_lt_of_le (rdyK_lt bf d u) (Nat.pow_le_pow_right (by omega) (show u ≤ 12 by omega))
                      have hsw:=wrap_pow (n:=u) (by omega)
                      have hor : Go.bits BinOp.or IntKind.u64 ((rdyK bf d u : Nat) : Int) ((pw u : Nat) : Int) = ((rdyK bf d u ||| pw u : Nat) : Int):=u64_or_nat _ _ (by omega) (Nat.lt_of_lt_of_le (pw_lt (t:=u) (m:=12) (by omega)) (by decide))
                      have hw2:=wrap_succ (i:=u) (by omega)
                      by_cases hdu : d.testBit u = true
                      · have HE : Hid (rdyK bf d (u + 1) = rdyK bf d u):=by rw [Hid,rdyK,hdu]; rfl
                        rw [hdu] at hA1
                        simp only [Bool.not_true] at hA1
                        clear hdu hbu hru
                        go_wp2_with fail
                        go_quiet (fail)
                        go_wp2_with fail
                        go_roundg (gk - 1)
                        case measure => omega
                        case rel => exact ⟨u + 1,by omega,by go_num,by rw [HE.out],HBe.out.trans ⟨rfl,rfl,rfl,Nat.le_refl _,fun _ _ => rfl⟩⟩
                      · rw [show d.testBit u = false by simpa using hdu] at hA1
                        simp only [Bool.not_false] at hA1
                        by_cases hsb : subB (bf u) d = true
                        · have HE : Hid (rdyK bf d (u + 1) = rdyK bf d u ||| pw u):=by rw [Hid,rdyK,hsb,if_pos (by simpa using hdu)]
                          rw [hsb] at hA2
                          clear hdu hbu hru hsb
                          go_wp2_with fail
                          go_quiet (fail)
                          go_wp2_with fail
                          go_roundg (gk - 1)
                          case measure => omega
                          case rel => exact ⟨u + 1,by omega,by go_num,by rw [HE.out],HBe.out.trans ⟨rfl,rfl,rfl,Nat.le_refl _,fun _ _ => rfl⟩⟩
                        · have HE : Hid (rdyK bf d (u + 1) = rdyK bf d u):=by rw [Hid,rdyK,if_neg (by simp [hsb])]
                          rw [show subB (bf u) d = false by simpa using hsb] at hA2
                          clear hdu hbu hru hsb
                          go_wp2_with fail
                          go_quiet (fail)
                          go_wp2_with fail
                          go_roundg (gk - 1)
                          case measure => omega
                          case rel => exact ⟨u + 1,by omega,by go_num,by rw [HE.out],HBe.out.trans ⟨rfl,rfl,rfl,Nat.le_refl _,fun _ _ => rfl⟩⟩
                    · obtain rfl : u = v:=by omega
                      have hrv : rdyK bf d u < 4096:=Nat.lt_of_lt_of_le (rdyK_lt bf d u) (Nat.pow_le_pow_right (by omega) (show u ≤ 12 by omega))
                      go_wp2_with fail
                      refine (count_calls _ hrv wr).mono ?_
                      rintro e w8 ⟨rfl,hb8⟩
                      have hA8 : Below wA.heap.size wA w8:=below_trans HBe.out hb8
                      have HA8:=Lib.hid hA8
                      have HSub : Hid (∀ mk : Nat,mk = min kn (pop (rdyK bf d u))→Calls Go.Proofs.Try.prog 27 #[.int .u64 (rdyK bf d u : Int),.int .i64 (mk : Int),.func (.func 29) #[] #[.pointer (some ⟨wo.heap.size + 1,0,none⟩),.pointer (some ⟨w6.heap.size,0,none⟩)]] w8 fun e w' =>
                          e = .returned (.tuple #[])∧(∃ S'',MapSet .u64 w' wo.heap.size S''∧∀ x,x ∈ S'' ↔ Subs (rdyK bf d u) (min kn (pop (rdyK bf d u))) d S' x)∧w8.grownBy w' (some wo.heap.size)):=by
                        obtain ⟨q1,q2,q3,q4,q5,q6,q7,q8,q9,q10⟩:=HW7.out
                        intro mk hmk
                        subst hmk
                        refine subsets_any _ _ d (wo.heap.size + 1) w6.heap.size wo.heap.size S' w8 hrv hd4 (by omega) (by omega) ?_ ?_ ?_
                        · exact cell_of_one (t:=67) (by rw [hA8.block _ (by omega)]; exact q3)
                        · exact cell_of_one (t:=66) (by rw [hA8.block _ (by omega)]; exact q1)
                        · exact q4.same (hA8.block _ (by omega))
                      clear hA8 hb8 HBe
                      go_wp2_with fail
                      all_goals
                        refine (HSub.out _ (by omega)).mono ?_
                        rintro e w9 ⟨rfl,⟨S'',hM9,hS9⟩,hg9⟩
                        have HM9:=Lib.hid hM9
                        have HS9:=Lib.hid hS9
                        have HG9:=Lib.hid hg9
                        clear hM9 hS9 hg9 HSub
                        go_wp2_with fail
                        have hlen : D.length + 1 ≤ S.length:=by
                          have:=nod_sub' (D ++ [((d : Nat) : Int)]) S (by
                            rw [List.nodup_append]
                            refine ⟨HDn.out,by simp,fun x h1 y h2 => ?_⟩
                            rw [List.mem_singleton] at h2
                            subst h2
                            exact fun e => Hx2.out (by rw [← e]; exact h1)) (fun x hx => by
                            rcases List.mem_append.1 hx with h | h
                            · exact HDs.out x h
                            · rw [List.mem_singleton.1 h]; exact Hx1.out)
                          simpa using this
                        have hdl:=HDl.out
                        go_roundg (gi - 1)
                        case measure => omega
                        case rel =>
                          obtain ⟨q1,q2,q3,q4,q5,q6,q7,q8,q9,q10⟩:=HW7.out
                          have g9:=HG9.out
                          have a8:=HA8.out
                          have z8:=a8.size
                          have e9 : ∀ c,c < wA.heap.size→c ≠ wo.heap.size→w9.heap[c]? = wA.heap[c]?:=fun c h1 h2 => by
                            rw [g9.block c (by omega) (fun e => h2 (Option.some.inj e)),a8.block c h1]
                          refine ⟨D ++ [((d : Nat) : Int)],S'',by simp only [List.length_append,List.length_singleton]; omega,?_,?_,q5.same (e9 _ (by omega) (by omega)) (e9 _ (by omega) (by omega)),HM9.out,fun x => ?_,?_,?_,?_⟩
                          · rw [List.nodup_append]
                            refine ⟨HDn.out,by simp,fun x h1 y h2 => ?_⟩
                            rw [List.mem_singleton] at h2
                            subst h2
                            exact fun e => Hx2.out (by rw [← e]; exact h1)
                          · intro x hx
                            rcases List.mem_append.1 hx with h | h
                            · exact HDs.out x h
                            · rw [List.mem_singleton.1 h]; exact Hx1.out
                          · rw [HS9.out]
                            unfold Subs
                            rw [HS'.out]
                            constructor
                            · rintro (⟨d',h1,p,h2,h3,h4⟩ | ⟨p,h2,h3,h4⟩)
                              · exact ⟨d',List.mem_append.2 (.inl h1),p,h2,h3,h4⟩
                              · exact ⟨d,by simp,p,h2,h3,h4⟩
                            · rintro ⟨d',h1,p,h2,h3,h4⟩
                              rcases List.mem_append.1 h1 with h | h
                              · exact .inl ⟨d',h,p,h2,h3,h4⟩
                              · have : d' = d:=by have:=List.mem_singleton.1 h; omega
                                subst this
                                exact .inr ⟨p,h2,h3,h4⟩
                          · rw [e9 _ (by omega) (by omega)]; exact q3
                          · rw [e9 _ (by omega) (by omega)]; exact q2
                          · exact ⟨g9.os.trans (a8.os.trans q6.os),g9.tape.trans (a8.tape.trans q6.tape),g9.output.trans (a8.output.trans q6.output),by have:=g9.size; have:=q6.size; omega,fun c hc => (e9 c (by have:=q6.size; omega) (by omega)).trans (q6.block c hc)⟩
    · by_cases h1 : k < 1
      · have hd1 : decide (k < 1) = true:=by simp; omega
        go_wp2_with fail
        go_ret2
        exact ⟨.nd .tu [.v (.int .i64 0),.v (.int .i64 2)],rfl,by rw [HD2.out hk]; rfl,hb1,sc2_fresh _ _⟩
      · have hd1 : decide (k < 1) = false:=by simp; omega
        have hd2 : decide (12 < k) = true:=by simp; omega
        go_wp2_with fail
        go_ret2
        exact ⟨.nd .tu [.v (.int .i64 0),.v (.int .i64 2)],rfl,by rw [HD2.out hk]; rfl,hb1,sc2_fresh _ _⟩
  · have ht' : er t = .nd .tu [gsl (eI .u64) true [],.v (.int .i64 (ckE n a))]:=by rw [ht,ckD,if_neg hck]
    obtain ⟨t1,rfl,h1⟩:=tu2 ht'
    obtain ⟨oa,oc,e1,_⟩:=int_tree h1 hf1.mem.2.1
    have e2 : val (.nd .tu [t1,.v (.int .i64 (ckE n a))]) = .tuple #[.slice oa 0 oc,.int .i64 (ckE n a)]:=by
      show Value.tuple (valL [t1,.v _]).toArray = _
      rw [valL,valL,valL,e1]
      rfl
    rw [e2]
    have hD : Hid (er (.nd .tu [.v (.int .i64 0),.v (.int .i64 (ckE n a))] : C) = stD n a k):=by rw [Hid,stD,if_neg hck]; rfl
    have hne : (ckE n a == 0) = false:=by simpa using hck
    generalize ckE n a = ck at *
    go_wp2_with fail
    go_ret2
    exact ⟨.nd .tu [.v (.int .i64 0),.v (.int .i64 ck)],rfl,hD.out,hb1,sc2_fresh _ _⟩
end Go.Mx
namespace Go.Mx
set_option linter.unusedVariables false
set_option linter.unusedSimpArgs false
set_option linter.unusedSectionVars false
open Go
abbrev w8 (n : Int) : V:=.sc (.int .u64 n)
def badV (p : Nat→Nat→Bool) (n s : Nat) (l : List Int) (i : Nat) : Bool :=
  decide (nth l 0 i < 0) || decide ((n : Int) ≤ nth l 0 i) || s.testBit (nth l 0 i).toNat || (decide (0 < i) && !p (nth l 0 (i - 1)).toNat (nth l 0 i).toNat)
def seenN (s : Nat) (l : List Int) (i : Nat) : Nat:=(l.take i).foldl (fun s v => s ||| pw v.toNat) s
theorem seenN_succ (s : Nat) {l : List Int} {i : Nat} (h : i < l.length) : seenN s l (i + 1) = seenN s l i ||| pw (nth l 0 i).toNat:=foldl_take _ s 0 h
abbrev badB (p : Nat→Nat→Bool) (n s : Nat) (l : List Int) (i : Nat) : Bool:=badV p n (seenN s l i) l i
def badL (p : Nat→Nat→Bool) (n s : Nat) (l : List Int) : Bool:=(List.range l.length).any fun i => badB p n s l i
theorem bad_not {p : Nat→Nat→Bool} {n s : Nat} {l : List Int} {i : Nat} (h : badV p n s l i = false) : 0 ≤ nth l 0 i∧nth l 0 i < n∧s.testBit (nth l 0 i).toNat = false∧(0 < i→p (nth l 0 (i - 1)).toNat (nth l 0 i).toNat = true):=by
  simp only [badV,Bool.or_eq_false_iff,decide_eq_false_iff_not,Bool.and_eq_false_iff,Bool.not_eq_false'] at h
  refine ⟨by omega,by omega,h.1.2,fun hi => ?_⟩
  rcases h.2 with h | h
  · exact absurd hi h
  · exact h
theorem seen_lt {p : Nat→Nat→Bool} {n s : Nat} (hn : n ≤ 12) (hs : s < 4096) {l : List Int} : ∀ {i : Nat},i ≤ l.length→(∀ k,k < i→badB p n s l k = false)→seenN s l i < 4096
  | 0,_,_ => hs
  | i + 1,hi,hb => by
    rw [seenN_succ s (by omega)]
    have h1:=seen_lt hn hs (i:=i) (by omega) fun k hk => hb k (by omega)
    obtain ⟨h2,h3,_⟩:=bad_not (hb i (by omega))
    exact Nat.or_lt_two_pow (n:=12) h1 (pw_lt (by omega))
theorem loop14_1 (call : Oracle) (fuel : Nat) (n : Nat) (hn : n ≤ 12) (g : Nat→Nat) (b : Bool) (cs : List (Bool × List Int)) (j : Nat) (hj : j < cs.length) (c : Bool) (l : List Int) (hcl : nth cs (true,[]) j = (c,l)) (hl : l.length ≤ 900) (s : Nat) (hs : s < 4096)
    (h36 : ∀ u v : Nat,u < n→v < n→call 21 [su6 n g,.v (.int .i64 (u : Int)),.v (.int .i64 (v : Int))] = some (.v (.bool (Rb g u v)))) (s26 : V) (h26 : s26 = .rad (gk eII cs) j) (fu : Nat) (hf : 1000 < fu) (st : St)
    (h0 : drops st h14_1 = L14_1 (ii n) (.ro (gsl eII b cs)) (.own (su6 n g)) (w8 (s : Nat)) (.ro (si c l)) (.ro (gsl eII b cs)) (ii cs.length) (ii j) s26 (.ro (si c l)) (.ro (si c l)) (ii l.length) (ii 0)) :
    run.loopN (run call fuel b14_1) fu st = some (if badL (Rb g) n s l = true then (.ret,R14 (bb false)) else (.ex 2,X14_2 (ii n) (.ro (gsl eII b cs)) (.own (su6 n g)) (w8 (seenN s l l.length : Nat)) (.ro (gsl eII b cs)) (ii cs.length) (ii j))):=by
  subst h26
  refine loop_any call fuel h14_1 _ l.length (fun i => badB (Rb g) n s l i) (fun i => L14_1 (ii n) (.ro (gsl eII b cs)) (.own (su6 n g)) (w8 (seenN s l i : Nat)) (.ro (si c l)) (.ro (gsl eII b cs)) (ii cs.length) (ii j) (.rad (gk eII cs) j) (.ro (si c l)) (.ro (si c l)) (ii l.length) (ii i)) (.ret,R14 (bb false)) _ (by intro h; cases h) (by intro h; cases h) ?_ (by simp) fu st h0 (by omega)
  intro i hi hprev
  have hw:=wrap_succ (i:=i) (by omega)
  have hpr:=wrap_pred (i:=i) (by omega)
  have hsl:=seen_lt (p:=Rb g) hn hs (i:=i) (by omega) hprev
  have hpv : 0 < i→∃ u : Nat,nth l 0 (i - 1) = (u : Int)∧u < n:=fun hi0 => by
    obtain ⟨h1,h2,_⟩:=bad_not (hprev (i - 1) (by omega))
    exact ⟨(nth l 0 (i - 1)).toNat,by omega,by omega⟩
  rw [seenN_succ s hi]
  unfold badB badV
  generalize seenN s l i = S at *
  generalize hx : nth l 0 i = x at *
  by_cases c1 : x < 0
  · simp [hi,hx,c1]
  · by_cases c2 : (n : Int) ≤ x
    · simp [hi,hx,c1,c2]
    · obtain ⟨v,rfl⟩ : ∃ v : Nat,x = (v : Int):=⟨x.toNat,by omega⟩
      have hvn : v < n:=by omega
      have e1:=bits_shr .u64 S v (by simp [IntKind.bits]; omega)
      have e2:=bits_bit .u64 (show S < 2 ^ 64 by omega) v
      have e3:=bits_shl1 .u64 (t:=v) (show v < 64 by omega)
      have e4:=bits_or .u64 (show S < 2 ^ 64 by omega) (b:=pw v) (pw_lt (m:=64) (by omega))
      have c1' : ¬ ((v : Nat) : Int) < 0:=c1
      simp only [Int.toNat_natCast]
      cases hb : S.testBit v <;> rw [hb] at e2
      · by_cases hi0 : 0 < i
        · obtain ⟨u,hu,hun⟩:=hpv hi0
          have e5:=h36 u v hun hvn
          have hi1 : i - 1 < l.length:=by omega
          have hi0' : (0 : Int) < (i : Int):=by omega
          generalize zr n g = Z at *
          rw [hu]
          simp only [Int.toNat_natCast]
          by_cases hr : Rb g u v = true
          · rw [hr] at e5
            simp [hi,hx,c1',c2,e1,e2,e3,e4,hw,hpr,hi0,hi0',hi1,hu,e5,hr]
          · have hr : Rb g u v = false:=by simpa using hr
            rw [hr] at e5
            simp [hi,hx,c1',c2,e1,e2,e3,e4,hw,hpr,hi0,hi0',hi1,hu,e5,hr]
        · have hi0' : ¬ (0 : Int) < (i : Int):=by omega
          simp [hi,hx,c1',c2,e1,e2,e3,e4,hw,hi0,hi0']
      · simp [hi,hx,c1',c2,e1,e2]
theorem assign_gr {α : Type} (e : En α) (st : St) (dst : Nat) (c : Bool) (l : List α) (h : c = false ∨ l ≠ []) : assign st dst (.ro (gsl e c l)) = some (setv st dst (.ro (gsl e c l))):=by
  cases c with
  | false => rfl
  | true =>
    cases l with
    | nil => rcases h with h | h
             · cases h
             · exact absurd rfl h
    | cons x l => rfl
def seenC (cs : List (Bool × List Int)) (j : Nat) : Nat:=(cs.take j).foldl (fun s c => seenN s c.2 c.2.length) 0
theorem seenC_succ {cs : List (Bool × List Int)} {j : Nat} (h : j < cs.length) : seenC cs (j + 1) = seenN (seenC cs j) (nth cs (true,[]) j).2 (nth cs (true,[]) j).2.length:=foldl_take (fun s (c : Bool × List Int) => seenN s c.2 c.2.length) 0 (true,[]) h
def badC (p : Nat→Nat→Bool) (n : Nat) (cs : List (Bool × List Int)) (j : Nat) : Bool:=decide ((nth cs (true,[]) j).2.length = 0) || badL p n (seenC cs j) (nth cs (true,[]) j).2
theorem seenC_lt {p : Nat→Nat→Bool} {n : Nat} (hn : n ≤ 12) {cs : List (Bool × List Int)} : ∀ {j : Nat},j ≤ cs.length→(∀ k,k < j→badC p n cs k = false)→seenC cs j < 4096
  | 0,_,_ => by simp [seenC]
  | j + 1,hj,hb => by
    rw [seenC_succ (by omega)]
    have h1:=seenC_lt hn (j:=j) (by omega) fun k hk => hb k (by omega)
    have h2:=hb j (by omega)
    simp only [badC,Bool.or_eq_false_iff] at h2
    refine seen_lt (p:=p) hn h1 (Nat.le_refl _) fun k hk => ?_
    have:=(any_range _ _).1 h2.2 k hk
    simpa using this
def isC (p : Nat→Nat→Bool) (n : Nat) (cs : List (Bool × List Int)) : Bool:=!(List.range cs.length).any (badC p n cs) && pop (seenC cs cs.length) == n
theorem loop14_0 (call : Oracle) (fuel : Nat) (hF : 1000 < fuel) (n : Nat) (hn : n ≤ 12) (g : Nat→Nat) (b : Bool) (cs : List (Bool × List Int)) (hc : cs.length ≤ 900) (hl : ∀ c ∈ cs,c.2.length ≤ 900)
    (h36 : ∀ u v : Nat,u < n→v < n→call 21 [su6 n g,.v (.int .i64 (u : Int)),.v (.int .i64 (v : Int))] = some (.v (.bool (Rb g u v)))) (st : St)
    (h0 : drops st h14_0 = L14_0 (ii n) (.ro (gsl eII b cs)) (.own (su6 n g)) (w8 0) (.ro (gsl eII b cs)) (ii cs.length) (ii 0)) :
    run.loopN (run call fuel b14_0) fuel st = some (if (List.range cs.length).any (badC (Rb g) n cs) = true then (.ret,R14 (bb false)) else (.ex 0,X14_0 (ii n) (w8 (seenC cs cs.length : Nat)))):=by
  refine loop_any call fuel h14_0 _ cs.length (badC (Rb g) n cs) (fun j => L14_0 (ii n) (.ro (gsl eII b cs)) (.own (su6 n g)) (w8 (seenC cs j : Nat)) (.ro (gsl eII b cs)) (ii cs.length) (ii j)) (.ret,R14 (bb false)) _ (by intro h; cases h) (by intro h; cases h) ?_ (by simp) fuel st h0 (by omega)
  intro j hj hprev
  have hw:=wrap_succ (i:=j) (by omega)
  have hs:=seenC_lt (p:=Rb g) hn (j:=j) (by omega) hprev
  have hll:=hl _ (nth_mem (true,[]) hj)
  rw [seenC_succ hj]
  unfold badC
  obtain ⟨c,l,hcl⟩ : ∃ c l,nth cs (true,[]) j = (c,l):=⟨_,_,rfl⟩
  have hL:=loop14_1 call fuel n hn g b cs j hj c l hcl (by rw [hcl] at hll; exact hll) (seenC cs j) hs h36 _ rfl fuel hF
  rw [hcl]
  simp only
  generalize seenC cs j = S at *
  generalize seenN S l l.length = S' at *
  generalize hbl : badL (Rb g) n S l = t at *
  by_cases h00 : l = []
  · subst h00
    cases c
    · have ha:=fun st dst => assign_gr (eI .i64) st dst false [] (.inl rfl)
      simp [hj,hcl,ha]
    · simp [hj,hcl]
  · have ha:=fun st dst => assign_gr (eI .i64) st dst c l (.inr h00)
    have h00' : ¬ l.length = 0:=by simpa using h00
    simp [hj,hcl,h00,ha]
    rw [hL _ (by simp)]
    cases t <;> simp [hw]
theorem f14 (call : Oracle) (fuel : Nat) (hF : 1000 < fuel) (b c : Bool) (n : Int) (a : List (Int × Int)) (cs : List (Bool × List Int)) (hc : cs.length ≤ 900) (hl : ∀ c ∈ cs,c.2.length ≤ 900)
    (h33 : call 17 [.v (.int .i64 n),sa b a] = some (ckD n a)) (h38 : ∀ x : Nat,x < 4096→call 28 [.v (.int .u64 (x : Int))] = some (.v (.int .i64 ((pop x : Nat) : Int))))
    (h36 : ckE n a = 0→∀ u v : Nat,u < n.toNat→v < n.toNat→call 21 [su6 n.toNat (ordG n a),.v (.int .i64 (u : Int)),.v (.int .i64 (v : Int))] = some (.v (.bool (Rb (ordG n a) u v)))) :
    callF call fuel c14 [.v (.int .i64 n),sa b a,gsl eII c cs] = some (.v (.bool (if ckE n a = 0 then isC (oR n a) n.toNat cs else false))):=by
  rw [callF_tab call fuel c14 34 _ (by exact Nat.le_of_ble_eq_true rfl) (by exact Nat.le_of_ble_eq_true rfl)]
  unfold ckD at h33
  by_cases he : ckE n a = 0
  · rw [if_pos he] at h33 ⊢
    have h36:=h36 he
    obtain ⟨k,rfl,h12,hv,_⟩:=ck_ok he
    simp only [Int.toNat_natCast] at h33 h36 ⊢
    unfold oR isC
    generalize ordG k a = g at *
    have hL:=loop14_0 call fuel hF k h12 g c cs hc hl h36
    have hlt : (List.range cs.length).any (badC (Rb g) k cs) = false→seenC cs cs.length < 4096:=fun h => seenC_lt (p:=Rb g) h12 (Nat.le_refl _) fun j hj => by
      have:=(any_range _ _).1 h j hj
      simpa using this
    generalize hS : seenC cs cs.length = S at *
    generalize (List.range cs.length).any (badC (Rb g) k cs) = t at *
    simp [c14,h33]
    rw [hL _ (by simp)]
    cases t
    · have e:=h38 S (hlt rfl)
      by_cases hp : pop S = k
      · have hp' : ((pop S : Nat) : Int) = (k : Int):=by omega
        simp [e,hp']
        exact hp
      · have hp' : ¬ ((pop S : Nat) : Int) = (k : Int):=by omega
        simp [e,hp']
        rw [Bool.eq_iff_iff]
        simp
        omega
    · simp
  · rw [if_neg he] at h33 ⊢
    generalize ckE n a = e at *
    simp [c14,h33,he]
def rowS (n S : Nat) : List Bool:=row n fun v => S.testBit v
@[simp] theorem rowS_len (n S : Nat) : (rowS n S).length = n:=row_len _ _
end Go.Mx
namespace Go.Mx
set_option linter.unusedVariables false
set_option linter.unusedSimpArgs false
set_option linter.unusedSectionVars false
open Go
def rowQ (n : Nat) (T : Nat→Bool) : List Bool:=row (pw n) T
@[simp] theorem rowQ_len (n : Nat) (T : Nat→Bool) : (rowQ n T).length = pw n:=row_len _ _
open Classical in
open Classical in
open Classical in
open Classical in
theorem memL_pop {n x : Nat} (hn : n ≤ 12) (hx : x < pw n) : (memL n x).length = pop x:=by
  unfold pop
  have h : ∀ m,n ≤ m→m ≤ 12→(memL m x).length = (memL n x).length:=by
    intro m h1 h2
    obtain ⟨j,rfl⟩ : ∃ j,m = n + j:=⟨m - n,by omega⟩
    clear h1
    induction j with
    | zero => rfl
    | succ j ih =>
      have hb : x.testBit (n + j) = false:=Nat.testBit_lt_two_pow (Nat.lt_of_lt_of_le hx (Nat.pow_le_pow_right (by omega) (by omega)))
      have:=ih (by omega)
      rw [show n + (j + 1) = (n + j) + 1 by omega,memL_succ,hb]
      simpa using this
  exact (h 12 hn (Nat.le_refl _)).symm
end Go.Mx
namespace Go.Mx
set_option linter.unusedVariables false
set_option linter.unusedSimpArgs false
set_option linter.unusedSectionVars false
open Go
def Sch (R : Nat→Nat→Bool) (n k r : Nat) : Prop:=∃ t : Nat→Nat,(∀ v,v < n→t v < r)∧(∀ u v,R u v = true→t u < t v)∧∀ i,(lvl t n i).length ≤ k
def mkM (q : Nat→Bool) : Nat→Nat
  | 0 => 0
  | v + 1 => if q v = true then mkM q v ||| pw v else mkM q v
theorem mkM_bit (q : Nat→Bool) (n i : Nat) : (mkM q n).testBit i = (decide (i < n) && q i):=by
  induction n with
  | zero => simp [mkM]
  | succ n ih =>
    unfold mkM
    by_cases h : q n = true
    · rw [if_pos h,Nat.testBit_or,ih,pw_bit]
      by_cases hk : i = n
      · subst hk; simp [h]
      · have : ¬ n = i:=fun e => hk e.symm
        have e2 : (i < n + 1) ↔ i < n:=by omega
        simp [this,e2]
    · rw [if_neg h,ih]
      by_cases hk : i = n
      · subst hk; simp [h]
      · have e2 : (i < n + 1) ↔ i < n:=by omega
        simp [e2]
theorem mkM_lt (q : Nat→Bool) (n : Nat) : mkM q n < pw n:=lt_bits fun i h => by
  rw [mkM_bit] at h
  simp at h
  exact h.1
def Dwn (R : Nat→Nat→Bool) (n d : Nat) : Prop:=d &&& allM n = d∧∀ u v,R u v = true→d.testBit v = true→d.testBit u = true
def rfE (bf : Nat→Nat) (n k : Nat) : Nat→Nat→Prop
  | 0,m => m = 0
  | r + 1,m => ∃ d,rfE bf n k r d∧∃ p,p &&& rdyK bf d n = p∧pop p ≤ k∧m = d ||| p
theorem all_bits {d n : Nat} : d &&& allM n = d ↔ ∀ i,d.testBit i = true→i < n:=by
  rw [sub_bits]
  constructor
  · intro h i hi
    have:=h i hi
    rw [allM_bit] at this
    simpa using this
  · intro h i hi
    rw [allM_bit]
    simpa using h i hi
theorem part_ext {q s j : Nat} (hs : s < 4096) (hq : q &&& s = q) (h1 : pop q ≤ j) (h2 : j ≤ pop s) : ∃ p,q &&& p = q∧p &&& s = p∧pop p = j:=by
  have hx : ∀ i,(s ^^^ q).testBit i = (s.testBit i && !q.testBit i):=by
    intro i
    rw [Nat.testBit_xor]
    have:=sub_bits.1 hq i
    cases h : q.testBit i with
    | false => simp
    | true => rw [this h]; rfl
  have hor : q ||| (s ^^^ q) = s:=by
    apply Nat.eq_of_testBit_eq
    intro i
    rw [Nat.testBit_or,hx]
    have:=sub_bits.1 hq i
    cases h : q.testBit i with
    | false => simp
    | true => rw [this h]; rfl
  have hdis : ∀ i,¬ (q.testBit i = true∧(s ^^^ q).testBit i = true):=by
    rintro i ⟨a,b⟩
    rw [hx,a] at b
    simp at b
  have hpop:=pop_or hdis
  rw [hor] at hpop
  have hql : q < 4096:=sub_lt (n:=12) hq hs
  obtain ⟨p,p1,p2⟩:=part_of (s ^^^ q) (Nat.xor_lt_two_pow (n:=12) hs hql) (j - pop q) (by omega)
  refine ⟨q ||| p,?_,?_,?_⟩
  · apply Nat.eq_of_testBit_eq
    intro i
    rw [Nat.testBit_and,Nat.testBit_or]
    cases q.testBit i <;> rfl
  · refine or_sub hq (sub_bits.2 fun i hi => ?_)
    have:=sub_bits.1 p1 i hi
    rw [hx] at this
    simp only [Bool.and_eq_true] at this
    exact this.1
  · rw [pop_or fun i => ?_,p2]
    · omega
    · rintro ⟨a,b⟩
      exact hdis i ⟨a,sub_bits.1 p1 i b⟩
section
variable {bf : Nat→Nat} {R : Nat→Nat→Bool} {n : Nat} (hR : PO R n) (hb : BF bf R n) (hn : n ≤ 12)
include hR hb hn
theorem rfE_dwn {k : Nat} : ∀ {r m : Nat},rfE bf n k r m→Dwn R n m
  | 0,m,h => by
    rw [show m = 0 from h]
    exact ⟨by simp,fun u v _ hv => by simp at hv⟩
  | r + 1,m,⟨d,h1,p,h2,h3,h4⟩ => by
    obtain ⟨d1,d2⟩:=rfE_dwn h1
    subst h4
    refine ⟨or_sub d1 (all_bits.2 fun i hi => ((rdy_bit hR hb hn d i).1 (sub_bits.1 h2 i hi)).1),fun u v huv hv => ?_⟩
    rw [Nat.testBit_or,Bool.or_eq_true] at hv ⊢
    rcases hv with hv | hv
    · exact .inl (d2 u v huv hv)
    · exact .inl (((rdy_bit hR hb hn d v).1 (sub_bits.1 h2 v hv)).2.2 u huv)
theorem rfE_st {k : Nat} : ∀ {r x : Nat},rfE bf n k r x→∃ m,stP bf n k r m∧x &&& m = x
  | 0,x,h => ⟨0,rfl,by rw [show x = 0 from h]; rfl⟩
  | r + 1,x,⟨d,h1,p,h2,h3,h4⟩ => by
    obtain ⟨m0,s1,s2⟩:=rfE_st h1
    have q1 : andN p m0 &&& rdyK bf m0 n = andN p m0:=sub_bits.2 fun i hi => by
      rw [andN_bit] at hi
      simp only [Bool.and_eq_true,Bool.not_eq_true'] at hi
      obtain ⟨g1,g2,g3⟩:=(rdy_bit hR hb hn d i).1 (sub_bits.1 h2 i hi.1)
      exact (rdy_bit hR hb hn m0 i).2 ⟨g1,hi.2,fun u hu => sub_bits.1 s2 u (g3 u hu)⟩
    have q2 : andN p m0 &&& p = andN p m0:=sub_bits.2 fun i hi => by
      rw [andN_bit] at hi
      simp only [Bool.and_eq_true] at hi
      exact hi.1
    have l1:=pop_sub q1
    have l2:=pop_sub q2
    obtain ⟨p',e1,e2,e3⟩:=part_ext (rdy_lt hR hb hn m0) q1 (show pop (andN p m0) ≤ min k (pop (rdyK bf m0 n)) by omega) (Nat.min_le_right _ _)
    refine ⟨m0 ||| p',⟨m0,s1,p',e2,e3,rfl⟩,?_⟩
    rw [h4]
    refine sub_bits.2 fun i hi => ?_
    rw [Nat.testBit_or,Bool.or_eq_true] at hi ⊢
    rcases hi with hi | hi
    · exact .inl (sub_bits.1 s2 i hi)
    · cases hm : m0.testBit i with
      | true => exact .inl rfl
      | false =>
        refine .inr (sub_bits.1 e1 i ?_)
        rw [andN_bit,hi,hm]
        rfl
omit hR hb hn in
theorem st_rfE {k : Nat} : ∀ {r x : Nat},stP bf n k r x→rfE bf n k r x
  | 0,_,h => h
  | _ + 1,_,⟨d,h1,p,h2,h3,h4⟩ => ⟨d,st_rfE h1,p,h2,by omega,h4⟩
theorem sch_of {k : Nat} : ∀ {r m : Nat},rfE bf n k r m→∃ t : Nat→Nat,(∀ v,m.testBit v = true→t v < r)∧(∀ u v,R u v = true→m.testBit v = true→t u < t v)∧∀ i,((List.range n).filter fun v => m.testBit v && t v == i).length ≤ k
  | 0,m,h => by
    rw [show m = 0 from h]
    exact ⟨fun _ => 0,by simp,by simp,fun i => by rw [List.filter_eq_nil_iff.2 (by simp)]; exact Nat.zero_le _⟩
  | r + 1,m,⟨d,h1,p,h2,h3,h4⟩ => by
    obtain ⟨d1,d2⟩:=rfE_dwn hR hb hn h1
    obtain ⟨t,t1,t2,t3⟩:=sch_of h1
    have hpd : ∀ i,p.testBit i = true→d.testBit i = false:=fun i hi => ((rdy_bit hR hb hn d i).1 (sub_bits.1 h2 i hi)).2.1
    subst h4
    have hbit : ∀ v,(d ||| p).testBit v = true→d.testBit v = true ∨ p.testBit v = true:=fun v hv => by
      rwa [Nat.testBit_or,Bool.or_eq_true] at hv
    refine ⟨fun v => if p.testBit v = true then r else t v,fun v hv => ?_,fun u v huv hv => ?_,fun i => ?_⟩
    · show (if p.testBit v = true then r else t v) < r + 1
      split
      · omega
      · rename_i hp
        have:=t1 v ((hbit v hv).resolve_right hp)
        omega
    · have hu : d.testBit u = true:=by
        rcases hbit v hv with h | h
        · exact d2 u v huv h
        · exact ((rdy_bit hR hb hn d v).1 (sub_bits.1 h2 v h)).2.2 u huv
      have hup : ¬ p.testBit u = true:=fun h => by rw [hpd u h] at hu; cases hu
      show (if p.testBit u = true then r else t u) < (if p.testBit v = true then r else t v)
      rw [if_neg hup]
      split
      · exact t1 u hu
      · rename_i hp
        exact t2 u v huv ((hbit v hv).resolve_right hp)
    · by_cases hi : i = r
      · subst hi
        have e : ((List.range n).filter fun v => (d ||| p).testBit v && (if p.testBit v = true then i else t v) == i) = memL n p:=by
          unfold memL
          apply List.filter_congr
          intro v _
          rw [Bool.eq_iff_iff]
          simp only [Bool.and_eq_true,beq_iff_eq]
          constructor
          · rintro ⟨a,b⟩
            apply Classical.byContradiction
            intro hp
            rw [if_neg hp] at b
            have:=t1 v ((hbit v a).resolve_right hp)
            omega
          · intro hp
            rw [if_pos hp,Nat.testBit_or,hp]
            simp
        rw [e,memL_pop hn]
        · exact h3
        · exact Nat.lt_of_le_of_lt (by rw [← h2]; exact Nat.and_le_right) (rdyK_lt bf d n)
      · refine Nat.le_trans ?_ (t3 i)
        have hcnt : ∀ l : List Nat,(l.filter fun v => (d ||| p).testBit v && (if p.testBit v = true then r else t v) == i).length ≤ (l.filter fun v => d.testBit v && t v == i).length:=by
          intro l
          induction l with
          | nil => exact Nat.le_refl _
          | cons v l ih =>
            rw [List.filter_cons,List.filter_cons]
            by_cases hq : ((d ||| p).testBit v && (if p.testBit v = true then r else t v) == i) = true
            · have hq2 : (d.testBit v && t v == i) = true:=by
                simp only [Bool.and_eq_true,beq_iff_eq] at hq ⊢
                obtain ⟨a,b⟩:=hq
                have hp : ¬ p.testBit v = true:=fun hp => by rw [if_pos hp] at b; exact hi b.symm
                rw [if_neg hp] at b
                exact ⟨(hbit v a).resolve_right hp,b⟩
              rw [if_pos hq,if_pos hq2]
              simpa using ih
            · rw [if_neg hq]
              split
              · simp only [List.length_cons]
                omega
              · exact ih
        exact hcnt _
theorem rfE_of_sch {k r : Nat} (h : Sch R n k r) : rfE bf n k r (allM n):=by
  obtain ⟨t,t1,t2,t3⟩:=h
  have key : ∀ i,rfE bf n k i (mkM (fun v => decide (t v < i)) n):=by
    intro i
    induction i with
    | zero =>
      show _ = 0
      apply Nat.eq_of_testBit_eq
      intro j
      rw [mkM_bit]
      simp
    | succ i ih =>
      have hp : memL n (mkM (fun v => t v == i) n) = lvl t n i:=by
        unfold memL lvl
        apply List.filter_congr
        intro v hv
        rw [mkM_bit]
        have:=List.mem_range.1 hv
        simp [this]
      refine ⟨_,ih,mkM (fun v => t v == i) n,sub_bits.2 fun v hv => ?_,?_,?_⟩
      · rw [mkM_bit] at hv
        simp only [Bool.and_eq_true,decide_eq_true_eq,beq_iff_eq] at hv
        refine (rdy_bit hR hb hn _ v).2 ⟨hv.1,?_,fun u hu => ?_⟩
        · rw [mkM_bit]
          simp [hv.2]
        · rw [mkM_bit]
          have h1:=t2 u v hu
          have h2:=(hR.lt u v hu).1
          simp only [Bool.and_eq_true,decide_eq_true_eq]
          omega
      · rw [← memL_pop hn (mkM_lt _ _),hp]
        exact t3 i
      · apply Nat.eq_of_testBit_eq
        intro j
        rw [Nat.testBit_or,mkM_bit,mkM_bit,mkM_bit]
        by_cases hj : j < n
        · by_cases hjt : t j = i
          · simp [hj,hjt]
          · have : (t j < i + 1) ↔ t j < i:=by omega
            simp [hj,hjt,this]
        · simp [hj]
  have e : mkM (fun v => decide (t v < r)) n = allM n:=by
    apply Nat.eq_of_testBit_eq
    intro j
    rw [mkM_bit,allM_bit]
    by_cases hj : j < n
    · simp [hj,t1 j hj]
    · simp [hj]
  rw [← e]
  exact key r
theorem stA_sch {k : Nat} (hk : 1 ≤ k) : Sch R n k (stA bf n k)∧∀ r,Sch R n k r→stA bf n k ≤ r:=by
  obtain ⟨s1,s2,s3⟩:=stA_spec hR hb hn hk
  constructor
  · obtain ⟨t,t1,t2,t3⟩:=sch_of hR hb hn (st_rfE s1)
    have hall : ∀ v,v < n→(allM n).testBit v = true:=fun v hv => by rw [allM_bit]; simpa using hv
    refine ⟨t,fun v hv => t1 v (hall v hv),fun u v huv => t2 u v huv (hall v (hR.lt u v huv).2),fun i => ?_⟩
    have:=t3 i
    have e : ((List.range n).filter fun v => (allM n).testBit v && t v == i) = lvl t n i:=by
      unfold lvl
      apply List.filter_congr
      intro v hv
      rw [hall v (List.mem_range.1 hv)]
      rfl
    rwa [e] at this
  · intro r hr
    obtain ⟨m,m1,m2⟩:=rfE_st hR hb hn (rfE_of_sch hR hb hn hr)
    have m3:=stP_sub m1
    have : m = allM n:=by
      apply Nat.eq_of_testBit_eq
      intro i
      rw [Bool.eq_iff_iff]
      exact ⟨fun h => sub_bits.1 m3 i h,fun h => sub_bits.1 m2 i h⟩
    subst this
    exact s2 r m1
variable {nd : Nat→Nat} (hnd : ∀ v,v < n→nd v < 4096) (hn1 : ∀ u v,(nd v).testBit u = true→R u v = true) (hn2 : ∀ u v,R u v = true→∃ w,(nd v).testBit w = true∧(u = w ∨ R u w = true))
include hnd hn1 hn2
end
theorem last_arc {n : Int} {a : List (Int × Int)} (hv : validB n a = true) {u v : Nat} (h : (rea n a u).testBit v = true) :
    ∃ w,(nextG (natA a) w).testBit v = true∧(u = w ∨ (rea n a u).testBit w = true):=by
  refine (warr_ind (nextG (natA a)) (fun i j => (rea n a i).testBit j = true∧∃ w,(nextG (natA a) w).testBit j = true∧(i = w ∨ (rea n a i).testBit w = true)) (fun i j h => ?_) (fun i v j h1 h2 => ?_) n.toNat u v h).2
  · exact ⟨warr_mono _ _ i j h,i,h,.inl rfl⟩
  · obtain ⟨a1,w1,b1,c1⟩:=h1
    obtain ⟨a2,w2,b2,c2⟩:=h2
    refine ⟨Rr_trans (va_bnd hv) a1 a2,w2,b2,.inr ?_⟩
    rcases c2 with rfl | c2
    · exact a1
    · exact Rr_trans (va_bnd hv) a1 c2
end Go.Mx
namespace Go.Mx
set_option linter.unusedVariables false
set_option linter.unusedSimpArgs false
set_option linter.unusedSectionVars false
open Go Go.RowKit
def vaP (p : Spc) : List Value:=[.int .i64 p.a,.int .i64 p.b,.int .i64 p.c,.int .i64 p.d,.int .i64 p.e,.int .i64 p.f,.int .i64 p.g]
theorem gkP_val : ∀ {kids : List C} {l : List Spc},erL kids = gk ePc l→valL kids = l.flatMap vaP
  | kids,[],h => by
    cases kids with
    | nil => rfl
    | cons t ts => simp [erL,gk] at h
  | kids,p :: l,h => by
    have h' : erL kids = T.v (.int .i64 p.a) :: T.v (.int .i64 p.b) :: T.v (.int .i64 p.c) :: T.v (.int .i64 p.d) :: T.v (.int .i64 p.e) :: T.v (.int .i64 p.f) :: T.v (.int .i64 p.g) :: gk ePc l:=h
    match kids,h' with
    | t1 :: t2 :: t3 :: t4 :: t5 :: t6 :: t7 :: ts,h' =>
      simp only [erL,List.cons.injEq] at h'
      obtain ⟨h1,h2,h3,h4,h5,h6,h7,h8⟩:=h'
      rw [er_eq_v h1,er_eq_v h2,er_eq_v h3,er_eq_v h4,er_eq_v h5,er_eq_v h6,er_eq_v h7]
      simp only [valL,val,gkP_val h8,List.flatMap_cons,vaP]
      rfl
    | [],h' => simp [erL] at h'
    | [_],h' => simp [erL] at h'
    | [_,_],h' => simp [erL] at h'
    | [_,_,_],h' => simp [erL] at h'
    | [_,_,_,_],h' => simp [erL] at h'
    | [_,_,_,_,_],h' => simp [erL] at h'
    | [_,_,_,_,_,_],h' => simp [erL] at h'
theorem vaP_get : ∀ (l : List Spc) (i : Nat),i < l.length→∀ c u,(vaP (nth l dP i))[c]? = some u→(l.flatMap vaP)[i * 7 + c]? = some u
  | [],i,h,_,_,_ => by simp at h
  | p :: l,0,_,c,u,hu => by
    have hc : c < (vaP p).length:=by
      have:=(List.getElem?_eq_some_iff.1 hu).1
      exact this
    rw [List.flatMap_cons,Nat.zero_mul,Nat.zero_add,List.getElem?_append_left hc]
    exact hu
  | p :: l,i + 1,h,c,u,hu => by
    have ih:=vaP_get l i (by simpa using h) c u (by simpa [nth] using hu)
    rw [List.flatMap_cons,show (i + 1) * 7 + c = (i * 7 + c) + 7 by omega,List.getElem?_append_right (by show 7 ≤ _; omega)]
    rw [show i * 7 + c + 7 - (vaP p).length = i * 7 + c by show i * 7 + c + 7 - 7 = _; omega]
    exact ih
theorem spc_tree {b : Bool} {l : List Spc} {w : World} {lv : Value} (h : ArgOK w lv (sP b l)) :
    ∃ a cap,lv = .slice a l.length cap∧l.length ≤ cap∧(a = none→l = [])∧∀ x,a = some x→∀ i,i < l.length→∀ c u,(vaP (nth l dP i))[c]? = some u→w.cell? (x.add (i * 7 + c)) = some u:=by
  obtain ⟨t,h1,h2,h3,h4⟩:=h
  obtain ⟨d,kids,rfl,h5,h6⟩:=tree_sl h1
  have hv:=gkP_val h6
  obtain ⟨m1,m2,m3,m4⟩:=h3.1
  refine ⟨d.a,d.cap,h2.symm,m2,fun hn => ?_,fun x hx i hi c u hu => ?_⟩
  · have:=m3 hn
    exact List.length_eq_zero_iff.1 (by omega)
  · rw [hv] at m4
    exact (m4 x hx).1 _ u (vaP_get l i hi c u hu)
theorem add_pos (a : Addr) {c : Nat} (h : 0 < c) : a.add c = ⟨a.block,a.off + c,none⟩:=by
  unfold Addr.add
  split <;> simp_all
def sidS (l : List Spc) : Nat→List Int
  | 0 => []
  | k + 1 => putS (sidS l k) (nth l dP k).a
def twS (l : List Spc) : Nat→Bool
  | 0 => false
  | k + 1 => twS l k || decide ((nth l dP k).a ∈ sidS l k)
def chkE (l : List Spc) : Int:=if 64 < l.length then 6 else if l.all vaB = true then (if twS l l.length = true then 8 else 0) else 1
noncomputable abbrev SB0 : Oracle:=sem B.tbl 6000 2
theorem valid_calls (p : Spc) (w : World) : Calls Go.Proofs.Try.prog 53 #[.agg #[.int .i64 p.a,.int .i64 p.b,.int .i64 p.c,.int .i64 p.d,.int .i64 p.e,.int .i64 p.f,.int .i64 p.g]] w fun e w' => e = .returned (.bool (vaB p))∧Below w.heap.size w w':=by
  have h67 : ∀ n lo hi : Int,sem B.tbl 6000 1 67 [nI n,nI lo,nI hi] = some (.v (.bool (inZ n lo hi))):=fun n lo hi => by
    rw [sem_succ (mf:=B.c67) rfl]; exact b67 _ _ n lo hi
  have h53 : SB0 53 [agP p] = some (.v (.bool (vaB p))):=by
    rw [SB0,sem_succ (mf:=B.c53) rfl]; exact b53 _ _ p h67
  refine calls_sem B.tbl_ok h53 (.cons ⟨.nd .ag [.v (.int .i64 p.a),.v (.int .i64 p.b),.v (.int .i64 p.c),.v (.int .i64 p.d),.v (.int .i64 p.e),.v (.int .i64 p.f),.v (.int .i64 p.g)],rfl,rfl,?_,fun b hb => absurd rfl hb⟩ (.nil w))
  exact ⟨trivial,trivial,trivial,trivial,trivial,trivial,trivial,trivial,trivial⟩
set_option maxHeartbeats 2000000 in
set_option maxRecDepth 100000 in
theorem chk_any (b : Bool) (l : List Spc) (w : World) (lv : Value) (ha : ArgOK w lv (sP b l)) : Calls Go.Proofs.Try.prog 30 #[lv] w fun e w' => e = .returned (.int .i64 (chkE l))∧Below w.heap.size w w':=by
  obtain ⟨a,cap,rfl,hcap,hnil,hcell⟩:=spc_tree ha
  have HA:=Lib.hid ha
  clear ha
  by_cases hl : 64 < l.length
  · have hl2 : ((l.length : Nat) : Int) > 64:=by omega
    go_enter Go.Proofs.Try.func30,Go.Proofs.Try.ntmps30
    go_wp2_with fail
    go_ret
    exact ⟨by rw [chkE,if_pos hl]; rfl,Below.refl _ _⟩
  · go_enter Go.Proofs.Try.func30,Go.Proofs.Try.ntmps30
    have hmk : (Instr.makeMap 57 none).run Go.Proofs.Try.prog w = .ok (.map (some w.heap.size)) (w.alloc (.map #[] 0)):=(run_makeMap_set .i64 57).1
    have HM:=Lib.hid (run_makeMap_set (P:=Go.Proofs.Try.prog) (w:=w) .i64 57).2
    go_wp2_with fail
    go_loopg [4,13] l.length (fun r s4 s13 wr => ∃ k : Nat,k + r = l.length∧s13 = .int .i64 k∧s4 = .bool (twS l k)∧(∀ j,j < k→vaB (nth l dP j) = true)∧MapSet .i64 wr w.heap.size (sidS l k)∧Below w.heap.size w wr)
    case atStart => exact ⟨0,by omega,rfl,rfl,fun j hj => absurd hj (Nat.not_lt_zero _),HM.out,(Below.refl _ _).alloc (Nat.le_refl _) _⟩
    case round =>
      obtain ⟨k,hk,rfl,rfl,hall,hM,hbel⟩:=hrel
      have HAll:=Lib.hid hall
      have HMr:=Lib.hid hM
      have HB:=Lib.hid hbel
      clear hall hM hbel HM
      by_cases hlt : k < l.length
      · obtain ⟨x,rfl⟩ : ∃ x,a = some x:=by
          cases a with
          | none => have:=hnil rfl; subst this; simp at hlt
          | some x => exact ⟨x,rfl⟩
        obtain ⟨p,hp⟩ : ∃ p,nth l dP k = p:=⟨_,rfl⟩
        have hc:=hcell x rfl k hlt
        rw [hp] at hc
        have c0 : wr.cell? (x.add (k * 7)) = some (.int .i64 p.a):=cell_later HB.out (hc 0 _ rfl)
        have c1 : wr.cell? ⟨(x.add (k * 7)).block,(x.add (k * 7)).off + 1,none⟩ = some (.int .i64 p.b):=by
          rw [← add_pos _ (by omega),Addr.add_add]; exact cell_later HB.out (hc 1 _ rfl)
        have c2 : wr.cell? ⟨(x.add (k * 7)).block,(x.add (k * 7)).off + 2,none⟩ = some (.int .i64 p.c):=by
          rw [← add_pos _ (by omega),Addr.add_add]; exact cell_later HB.out (hc 2 _ rfl)
        have c3 : wr.cell? ⟨(x.add (k * 7)).block,(x.add (k * 7)).off + 3,none⟩ = some (.int .i64 p.d):=by
          rw [← add_pos _ (by omega),Addr.add_add]; exact cell_later HB.out (hc 3 _ rfl)
        have c4 : wr.cell? ⟨(x.add (k * 7)).block,(x.add (k * 7)).off + 4,none⟩ = some (.int .i64 p.e):=by
          rw [← add_pos _ (by omega),Addr.add_add]; exact cell_later HB.out (hc 4 _ rfl)
        have c5 : wr.cell? ⟨(x.add (k * 7)).block,(x.add (k * 7)).off + 5,none⟩ = some (.int .i64 p.f):=by
          rw [← add_pos _ (by omega),Addr.add_add]; exact cell_later HB.out (hc 5 _ rfl)
        have c6 : wr.cell? ⟨(x.add (k * 7)).block,(x.add (k * 7)).off + 6,none⟩ = some (.int .i64 p.g):=by
          rw [← add_pos _ (by omega),Addr.add_add]; exact cell_later HB.out (hc 6 _ rfl)
        have HP:=Lib.hid hp
        have HC:=Lib.hid hcell
        clear hp hc hcell hnil
        have hw:=wrap_succ (i:=k) (by omega)
        go_wp2_with fail
        refine (valid_calls p _).mono ?_
        rintro e w2 ⟨rfl,hb2⟩
        have lM:=HMr.out.lt
        have hsz:=HB.out.size
        obtain ⟨wA,hwA⟩ : ∃ wA,wA = wr.alloc (.cells #[.int .i64 p.a,.int .i64 p.b,.int .i64 p.c,.int .i64 p.d,.int .i64 p.e,.int .i64 p.f,.int .i64 p.g] 97):=⟨_,rfl⟩
        have hzA : wA.heap.size = wr.heap.size + 1:=by rw [hwA]; simp
        rw [← hwA] at hb2
        have cP : w2.cell? ⟨wr.heap.size,0,none⟩ = some (.int .i64 p.a):=by
          have h1 : w2.heap[wr.heap.size]? = _:=hb2.block _ (by omega)
          rw [hwA,heap_new] at h1
          simp [World.cell?,h1]
        have HM2 : Hid (MapSet .i64 w2 w.heap.size (sidS l k)):=HMr.out.same (by rw [hb2.block _ (by omega),hwA,Below.heap_alloc _ _ _ lM])
        have HB2 : Hid (Below w.heap.size w w2):=by
          have h1 : Below w.heap.size w wA:=by rw [hwA]; exact HB.out.alloc hsz _
          exact h1.trans (hb2.mono (by omega))
        have lM2:=HM2.out.lt
        clear hb2 hwA c0 c1 c2 c3 c4 c5 c6 HMr HB
        by_cases hv : vaB p = true
        · have HAll2 : Hid (∀ j,j < k + 1→vaB (nth l dP j) = true):=fun j hj => by
            by_cases e : j = k
            · subst e; rw [HP.out]; exact hv
            · exact HAll.out j (by omega)
          have HSid : Hid (sidS l (k + 1) = putS (sidS l k) p.a):=by rw [Hid,sidS,HP.out]
          have HTw : Hid (twS l (k + 1) = (twS l k || decide (p.a ∈ sidS l k))):=by rw [Hid,twS,HP.out]
          obtain ⟨bb,hbb⟩ : ∃ bb,decide (p.a ∈ sidS l k) = bb:=⟨_,rfl⟩
          have HL:=Lib.hid hbb
          rw [hbb] at HTw
          clear hbb
          rw [hv]
          clear hv
          obtain ⟨tw,htw⟩ : ∃ tw,twS l k = tw:=⟨_,rfl⟩
          rw [htw] at HTw ⊢
          clear htw
          cases tw
          · cases bb
            all_goals
              go_wp2_with (first
                | (at_lookup; refine wpList_lookup_set (by simp [Region.wanted,yielded]) (.tmp 22) (.tmp 24) 57 3 4 rfl .i64 .i64 Go.Proofs.Try.underlying57 Go.Proofs.Try.underlying3 (zero4 _) w.heap.size (sidS l k) rfl HM2.out p.a rfl _ HL.out ?_)
                | (at_mapUpdate; refine wpList_update_set rfl rfl (.tmp 27) (.tmp 29) (.const (.bool true)) 57 3 4 rfl .i64 .i64 Go.Proofs.Try.underlying57 Go.Proofs.Try.underlying3 w.heap.size (sidS l k) rfl HM2.out p.a rfl rfl ?_; intro w3 hS3 hput; have HS3 : Hid (MapSet .i64 w3 w.heap.size (putS (sidS l k) p.a)):=hS3; have HP3:=Lib.hid hput; clear hS3 hput)
                | fail)
              go_roundg (gk - 1)
              case measure => omega
              case rel => exact ⟨k + 1,by omega,by go_num,by rw [HTw.out]; rfl,HAll2.out,by rw [HSid.out]; exact HS3.out,HB2.out.grown HP3.out.grown (by omega) (fun j hj => by cases hj; exact Nat.le_refl _)⟩
          · go_wp2_with (first
              | (at_mapUpdate; refine wpList_update_set rfl rfl (.tmp 27) (.tmp 29) (.const (.bool true)) 57 3 4 rfl .i64 .i64 Go.Proofs.Try.underlying57 Go.Proofs.Try.underlying3 w.heap.size (sidS l k) rfl HM2.out p.a rfl rfl ?_; intro w3 hS3 hput; have HS3 : Hid (MapSet .i64 w3 w.heap.size (putS (sidS l k) p.a)):=hS3; have HP3:=Lib.hid hput; clear hS3 hput)
              | fail)
            go_roundg (gk - 1)
            case measure => omega
            case rel => exact ⟨k + 1,by omega,by go_num,by rw [HTw.out]; rfl,HAll2.out,by rw [HSid.out]; exact HS3.out,HB2.out.grown HP3.out.grown (by omega) (fun j hj => by cases hj; exact Nat.le_refl _)⟩
        · have HV : Hid (chkE l = 1):=by
            rw [Hid,chkE,if_neg hl,if_neg]
            intro h
            have:=List.all_eq_true.1 h (nth l dP k) (nth_mem dP hlt)
            rw [HP.out] at this
            exact hv this
          rw [show vaB p = false by simpa using hv]
          go_wp2_with fail
          go_ret
          exact ⟨by rw [HV.out]; rfl,HB2.out⟩
      · obtain rfl : k = l.length:=by omega
        have HV : Hid (l.all vaB = true):=by
          rw [Hid,List.all_eq_true]
          intro y hy
          obtain ⟨i,hi,rfl⟩:=List.getElem_of_mem hy
          have:=HAll.out i hi
          rwa [nth_get dP hi] at this
        have HE : Hid (chkE l = if twS l l.length = true then 8 else 0):=by rw [Hid,chkE,if_neg hl,if_pos HV.out]
        generalize twS l l.length = tw at *
        cases tw
        all_goals
          go_wp2_with fail
          go_ret
          exact ⟨by rw [HE.out]; rfl,HB.out⟩
end Go.Mx
