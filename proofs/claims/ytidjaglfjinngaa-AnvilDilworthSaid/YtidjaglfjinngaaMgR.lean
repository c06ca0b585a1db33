import Derived.Test.YtidjaglfjinngaaMgQ
import Derived.Maps.RangeWalk
import Derived.Deep.LoopGhost
import Derived.Deep.QuietTactic
import Derived.BigQuiet
/-
  Ranging over a map from numbers to true, in whatever order.
-/
namespace Go.Mx
set_option linter.unusedVariables false
set_option linter.unusedSimpArgs false
set_option linter.unusedSectionVars false
open Go Go.RowKit Go.ChangeMaps

theorem pw_inj {α β : Type} {f : α → β} : ∀ {l : List α}, l.Pairwise (fun a b => f a ≠ f b) → ∀ {x y : α}, x ∈ l → y ∈ l → f x = f y → x = y
  | [], _, _, _, hx, _, _ => by simp at hx
  | a :: r, hp, x, y, hx, hy, h => by
    obtain ⟨h1, h2⟩ := List.pairwise_cons.1 hp
    rcases List.mem_cons.1 hx with ex | hx'
    · rcases List.mem_cons.1 hy with ey | hy'
      · rw [ex, ey]
      · exact absurd (ex ▸ h) (h1 y hy')
    · rcases List.mem_cons.1 hy with ey | hy'
      · exact absurd (ey ▸ h).symm (h1 x hx')
      · exact pw_inj h2 hx' hy' h
theorem MapEs.keyinj {k : IntKind} {es : Array MapEntry} {c : Nat} {S : List Int} (h : MapEs k es c S) {x y : MapEntry} (hx : x ∈ es.toList) (hy : y ∈ es.toList) (hk : x.key = y.key) : x = y := by
  have : es.toList.Pairwise fun a b => a.key ≠ b.key := by
    rw [← List.pairwise_map (f := fun e : MapEntry => e.key) (R := (· ≠ ·)), h.key, List.pairwise_map]
    exact h.nod.imp fun {a b} hne he => hne (by injection he)
  exact pw_inj this hx hy hk
/-- A range that is under way: D has come already. -/
def RangeS (k : IntKind) (w : World) (b r : Nat) (S D : List Int) : Prop :=
  ∃ es clock since seen c0, w.heap[b]? = some (.map es clock) ∧ MapEs k es clock S ∧ w.heap[r]? = some (.mapIter (some b) since seen c0) ∧ (∀ e ∈ es.toList, e.born < since) ∧ since ≤ c0 ∧ since ≤ clock ∧
    ∀ e ∈ es.toList, seen.contains e.born = true ↔ e.key ∈ D.map (Value.int k)
theorem RangeS.same {k : IntKind} {w w' : World} {b r : Nat} {S D : List Int} (h : RangeS k w b r S D) (h1 : w'.heap[b]? = w.heap[b]?) (h2 : w'.heap[r]? = w.heap[r]?) : RangeS k w' b r S D := by
  obtain ⟨es, clock, since, seen, c0, q1, q2, q3, q4⟩ := h
  exact ⟨es, clock, since, seen, c0, by rw [h1]; exact q1, q2, by rw [h2]; exact q3, q4⟩
theorem RangeS.lt {k : IntKind} {w : World} {b r : Nat} {S D : List Int} (h : RangeS k w b r S D) : b < w.heap.size ∧ r < w.heap.size ∧ b ≠ r := by
  obtain ⟨es, clock, since, seen, c0, q1, q2, q3, q4⟩ := h
  exact ⟨lt_of_block q1, lt_of_block q3, fun e => by rw [e, q3] at q1; cases q1⟩
section
variable {P : Program} {w : World} {t kt et : TypeId} {k : IntKind} {b r : Nat} {S D : List Int}
theorem run_range_set (ht : P.underlying t = some (.map kt et)) (h : MapSet k w b S) :
    ∃ w', (Instr.range t (.map (some b))).run P w = .ok (.pointer (some ⟨w.heap.size, 0, none⟩)) w' ∧ RangeS k w' b w.heap.size S [] ∧ Below w.heap.size w w' ∧ w'.heap.size = w.heap.size + 1 := by
  obtain ⟨es, clock, hb, hE⟩ := h
  have hlt := lt_of_block hb
  refine ⟨_, run_range_map w t kt et b es clock ht hb, ⟨es, clock, clock, #[], clock, ?_, hE, heap_new _ _, hE.old, Nat.le_refl _, Nat.le_refl _, by simp⟩, (Below.refl _ _).alloc (Nat.le_refl _) _, by simp⟩
  rw [Below.heap_alloc _ _ _ hlt]
  exact hb
theorem run_next_set (ty : TypeId) (h : RangeS k w b r S D) :
    ((∀ x ∈ S, x ∈ D) ∧ (Instr.next (.pointer (some ⟨r, 0, none⟩)) false ty).run P w = .ok (.tuple #[.bool false]) w) ∨
    ∃ x w', x ∈ S ∧ x ∉ D ∧ (Instr.next (.pointer (some ⟨r, 0, none⟩)) false ty).run P w = .ok (.tuple #[.bool true, .int k x, .bool true]) w' ∧ RangeS k w' b r S (D ++ [x]) ∧ Put w w' r ∧
      (Instr.entry (.pointer (some ⟨r, 0, none⟩))).run P w' = .ok (.tuple #[.int k x, .bool true]) w' := by
  have hbr := h.lt
  obtain ⟨es, clock, since, seen, c0, hb, hE, hr, hold, hsc, hsk, hseen⟩ := h
  rcases run_next_at (P := P) w ty r b since c0 seen es clock hr hb hold hsc with ⟨h0, hrun⟩ | ⟨e, he, w1, hal, hrun⟩
  · refine .inl ⟨fun x hx => ?_, hrun⟩
    have hx' : Value.int k x ∈ es.toList.map (·.key) := by rw [hE.key]; exact List.mem_map.2 ⟨x, hx, rfl⟩
    obtain ⟨e, he, hek⟩ := List.mem_map.1 hx'
    have hs : seen.contains e.born = true := by
      cases hc : seen.contains e.born with
      | true => rfl
      | false =>
        have hm : e ∈ leftOf es seen := by
          unfold leftOf
          rw [Array.mem_filter]
          refine ⟨by rwa [Array.mem_toList_iff] at he, ?_⟩
          rw [hc]; rfl
        have := Array.size_pos_of_mem hm
        omega
    have := (hseen e he).1 hs
    rw [hek] at this
    obtain ⟨y, hy, hyx⟩ := List.mem_map.1 this
    injection hyx with _ hyx
    subst hyx
    exact hy
  · have hm : e ∈ es.toList ∧ seen.contains e.born = false := by
      rw [Array.mem_toList_iff] at he
      unfold leftOf at he
      rw [Array.mem_filter] at he
      exact ⟨by rw [Array.mem_toList_iff]; exact he.1, by simpa using he.2⟩
    obtain ⟨x, hx, hxe⟩ : ∃ x ∈ S, Value.int k x = e.key := by
      have : e.key ∈ S.map (Value.int k) := by rw [← hE.key]; exact List.mem_map.2 ⟨e, hm.1, rfl⟩
      obtain ⟨x, h1, h2⟩ := List.mem_map.1 this
      exact ⟨x, h1, h2⟩
    have hv := hE.tru e hm.1
    have hput : Put w (setBlock w1 r (.mapIter (some b) since (seen.push e.born) clock)) r := by
      rcases hal with rfl | rfl
      · exact ⟨rfl, rfl, rfl, by simp [setBlock], fun c hne => by simp [setBlock, Ne.symm hne]⟩
      · refine ⟨rfl, rfl, rfl, ?_, fun c hne => ?_⟩
        · show (w.heap.setIfInBounds r _).size = _
          simp
        · show (w.heap.setIfInBounds r _)[c]? = _
          simp [Ne.symm hne]
    have hr' : (setBlock w1 r (.mapIter (some b) since (seen.push e.born) clock)).heap[r]? = some (.mapIter (some b) since (seen.push e.born) clock) := by
      have hlt : r < w1.heap.size := by rcases hal with rfl | rfl <;> exact hbr.2.1
      simp [setBlock, hlt]
    have hb' : (setBlock w1 r (.mapIter (some b) since (seen.push e.born) clock)).heap[b]? = some (.map es clock) := by rw [hput.block b hbr.2.2]; exact hb
    refine .inr ⟨x, _, hx, fun hd => ?_, ?_, ⟨es, clock, since, seen.push e.born, clock, hb', hE, hr', hold, hsk, hsk, fun e' he' => ?_⟩, hput, ?_⟩
    · have := (hseen e hm.1).2 (by rw [← hxe]; exact List.mem_map.2 ⟨x, hd, rfl⟩)
      rw [hm.2] at this
      cases this
    · rw [hrun, ← hxe, hv]
    · rw [Array.contains_push, Bool.or_eq_true, List.map_append, List.mem_append, hseen e' he', beq_iff_eq]
      have : e'.born = e.born ↔ e'.key = e.key := ⟨fun h => by rw [pw_inj hE.two he' hm.1 h], fun h => by rw [hE.keyinj he' hm.1 h]⟩
      rw [this, ← hxe]
      simp [or_comm]
    · have hnd : (es.toList.map (·.born)).Nodup := by
        rw [List.Nodup, List.pairwise_map]
        exact hE.two
      rw [run_entry_at _ r b since seen es clock e hr' hb' hm.1 hnd, ← hxe, hv]
end
section
variable {P : Program} {ops : Array Oper} {rest : List Oper} {o : Oper} {a : Act} {w : World} {Q : Exit → Act → World → Prop}
theorem wpList_range_set (hg : o.guard = none) (m : Operand) (t kt et : TypeId) (hop : o.op = Op.range t m) (k : IntKind) (ht : P.underlying t = some (.map kt et)) (b : Nat) (S : List Int) (hm : a.eval m = .map (some b)) (hS : MapSet k w b S)
    (hK : ∀ w', RangeS k w' b w.heap.size S [] → Below w.heap.size w w' → w'.heap.size = w.heap.size + 1 → wpList P ops Q rest (a.put o.dst (.pointer (some ⟨w.heap.size, 0, none⟩))) w') : wpList P ops Q (o :: rest) a w := by
  refine wpList_plain hg fun K' hK' => ?_
  obtain ⟨w', hrun, r1, r2, r3⟩ := run_range_set ht hS
  unfold Oper.wp
  simp [execOp, hop, hm, hrun, Result.andThen]
  exact hK' _ _ (hK w' r1 r2 r3)
theorem wpList_next_set (hg : o.guard = none) (it : Operand) (hop : o.op = Op.next it false) (k : IntKind) (b r : Nat) (S D : List Int) (hit : a.eval it = .pointer (some ⟨r, 0, none⟩)) (h : RangeS k w b r S D)
    (hDone : (∀ x ∈ S, x ∈ D) → wpList P ops Q rest (a.put o.dst (.tuple #[.bool false])) w)
    (hMore : ∀ (x : Int) (w' : World), x ∈ S → x ∉ D → RangeS k w' b r S (D ++ [x]) → Put w w' r → (Instr.entry (.pointer (some ⟨r, 0, none⟩))).run P w' = .ok (.tuple #[.int k x, .bool true]) w' → wpList P ops Q rest (a.put o.dst (.tuple #[.bool true, .int k x, .bool true])) w') :
    wpList P ops Q (o :: rest) a w := by
  refine wpList_plain hg fun K' hK' => ?_
  unfold Oper.wp
  rcases run_next_set (P := P) o.type h with ⟨h0, hrun⟩ | ⟨x, w', h1, h2, hrun, h3, h4, h5⟩
  · simp [execOp, hop, hit, hrun, Result.andThen]
    exact hK' _ _ (hDone h0)
  · simp [execOp, hop, hit, hrun, Result.andThen]
    exact hK' _ _ (hMore x w' h1 h2 h3 h4 h5)
end
end Go.Mx
namespace Go.Mx
set_option linter.unusedVariables false
set_option linter.unusedSimpArgs false
set_option linter.unusedSectionVars false
open Go Go.RowKit

/-! ### parts of a set, one below the other -/
theorem and_two (a b : Nat) : a &&& b = 2 * ((a / 2) &&& (b / 2)) + (a % 2) * (b % 2) := by
  have h1 : (a &&& b) / 2 = (a / 2) &&& (b / 2) := Nat.and_div_two
  have h2 : (a &&& b) % 2 = (a % 2) * (b % 2) := by
    have := Nat.testBit_and a b 0
    simp only [Nat.testBit_zero] at this
    rcases Nat.mod_two_eq_zero_or_one a with ha | ha <;> rcases Nat.mod_two_eq_zero_or_one b with hb | hb <;> rcases Nat.mod_two_eq_zero_or_one (a &&& b) with hc | hc <;> simp_all
  omega
theorem part_below (s : Nat) : ∀ (P p : Nat), P &&& s = P → p &&& s = p → p < P → p ≤ (P - 1) &&& s := by
  induction s using Nat.strongRecOn with
  | _ s ih =>
    intro P p hP hp hlt
    by_cases hs : s = 0
    · subst hs
      simp at hP hp
      omega
    · have e1 := and_two P s
      have e2 := and_two p s
      have e3 := and_two (P - 1) s
      rw [hP] at e1
      rw [hp] at e2
      rw [e3]
      have hP2 : P / 2 &&& s / 2 = P / 2 := by
        have : P = 2 * (P / 2) + P % 2 := by omega
        rcases Nat.mod_two_eq_zero_or_one P with h | h <;> rcases Nat.mod_two_eq_zero_or_one s with h' | h' <;> rw [h, h'] at e1 <;> omega
      have hp2 : p / 2 &&& s / 2 = p / 2 := by
        rcases Nat.mod_two_eq_zero_or_one p with h | h <;> rcases Nat.mod_two_eq_zero_or_one s with h' | h' <;> rw [h, h'] at e2 <;> omega
      rcases Nat.mod_two_eq_zero_or_one P with h | h
      · have e4 : (P - 1) / 2 = P / 2 - 1 := by omega
        have e5 : (P - 1) % 2 = 1 := by omega
        have := ih (s / 2) (by omega) (P / 2) (p / 2) hP2 hp2 (by omega)
        rw [e4, e5, Nat.one_mul]
        have hm : p % 2 ≤ s % 2 := by
          rcases Nat.mod_two_eq_zero_or_one p with h1 | h1 <;> rcases Nat.mod_two_eq_zero_or_one s with h' | h' <;> rw [h1, h'] at e2 <;> omega
        omega
      · have e4 : (P - 1) / 2 = P / 2 := by omega
        have e5 : (P - 1) % 2 = 0 := by omega
        rw [e4, e5, hP2]
        omega
theorem and_le' (a s : Nat) : a &&& s ≤ a := Nat.and_le_left
theorem and_part (a s : Nat) : (a &&& s) &&& s = a &&& s := by rw [Nat.and_assoc, Nat.and_self]

/-! ### how many members -/
def pop (x : Nat) : Nat := ((List.range 12).filter fun i => x.testBit i).length
theorem pop_le (x : Nat) : pop x ≤ 12 := by
  unfold pop
  exact Nat.le_trans (List.length_filter_le _ _) (by simp)
section
variable {S : Nat → Oracle} (hS : Sy S)
include hS
theorem u56 (k : Nat) (x : Nat) (hx : x < 4096) : S (k + 1) 56 [.v (.int .u64 (x : Int))] = some (.v (.int .i64 ((pop x : Nat) : Int))) := by
  rw [hS _ _ _ c56 rfl rfl, show pop x = oc x from (oc_pop x hx).symm]; exact f56 _ _ x hx
theorem u38 (k : Nat) (x : Nat) (hx : x < 4096) : S (k + 2) 38 [.v (.int .u64 (x : Int))] = some (.v (.int .i64 ((pop x : Nat) : Int))) := by
  rw [hS _ _ _ c38 rfl rfl]; exact f38 _ _ x (pop x) (u56 hS k x hx)
end
theorem count_calls (x : Nat) (hx : x < 4096) (w : World) : Calls Go.Proofs.Try.prog 38 #[.int .u64 (x : Int)] w fun e w' => e = .returned (.int .i64 ((pop x : Nat) : Int)) ∧ Below w.heap.size w w' :=
  calls_sem tbl_ok (u38 sy0 0 x hx) (.cons (.sc w _) (.nil w))
/-- A list with one more member. -/
def putS (S : List Int) (y : Int) : List Int := if y ∈ S then S else S ++ [y]
theorem mem_putS (S : List Int) (y x : Int) : x ∈ putS S y ↔ x ∈ S ∨ x = y := by
  unfold putS
  split
  · rename_i h
    exact ⟨.inl, fun h2 => h2.elim id fun e => by rw [e]; exact h⟩
  · simp
theorem clo_any (p d bX bD bM : Nat) (S : List Int) (w : World) (hp : p < 4096) (hd : d < 4096) (hX : w.cell? ⟨bX, 0, none⟩ = some (.map (some bM))) (hD : w.cell? ⟨bD, 0, none⟩ = some (.int .u64 (d : Int))) (hM : MapSet .u64 w bM S) :
    Calls Go.Proofs.Try.prog 39 #[.int .u64 (p : Int), .pointer (some ⟨bX, 0, none⟩), .pointer (some ⟨bD, 0, none⟩)] w fun e w' =>
      e = .returned (.tuple #[]) ∧ MapSet .u64 w' bM (putS S ((d ||| p : Nat) : Int)) ∧ Put w w' bM := by
  have hor : Go.bits BinOp.or IntKind.u64 (d : Int) (p : Int) = ((d ||| p : Nat) : Int) := u64_or_nat d p (by omega) (by omega)
  have HM := Lib.hid hM
  clear hM
  go_enter Go.Proofs.Try.func39, Go.Proofs.Try.ntmps39
  go_wp2_with (first
    | (at_mapUpdate; refine wpList_update_set rfl rfl (.tmp 4) (.tmp 7) (.const (.bool true)) 54 53 4 rfl .u64 .u64 Go.Proofs.Try.underlying54 Go.Proofs.Try.underlying53 bM S rfl HM.out (((d ||| p : Nat)) : Int) rfl rfl ?_; intro w2 hS2 hput; have HS2 : Hid (MapSet .u64 w2 bM (putS S ((d ||| p : Nat) : Int))) := hS2; clear hS2)
    | fail)
  go_end0
  exact ⟨rfl, HS2.out, hput⟩
theorem subs_next {s P q : Nat} (hP : P &&& s = P) (hp : 0 < P) (hq : q &&& s = q) : ((P - 1) &&& s) < q ↔ P < q ∨ q = P := by
  have h1 := and_le' (P - 1) s
  constructor
  · intro h
    rcases Nat.lt_trichotomy P q with h2 | h2 | h2
    · exact .inl h2
    · exact .inr h2.symm
    · have := part_below s P q hP hq h2
      omega
  · rintro (h | h) <;> omega
/-- What has come above P. -/
def Abv (s k d P : Nat) (S : List Int) (x : Int) : Prop := x ∈ S ∨ ∃ q : Nat, P < q ∧ q &&& s = q ∧ pop q = k ∧ x = ((d ||| q : Nat) : Int)
theorem abv_put {s k d P : Nat} {S S' : List Int} (hP : P &&& s = P) (hp : 0 < P) (hk : pop P = k) (h : ∀ x, x ∈ S' ↔ Abv s k d P S x) (x : Int) : x ∈ putS S' ((d ||| P : Nat) : Int) ↔ Abv s k d ((P - 1) &&& s) S x := by
  rw [mem_putS, h]
  unfold Abv
  constructor
  · rintro ((h | ⟨q, h1, h2, h3, h4⟩) | rfl)
    · exact .inl h
    · exact .inr ⟨q, (subs_next hP hp h2).2 (.inl h1), h2, h3, h4⟩
    · exact .inr ⟨P, (subs_next hP hp hP).2 (.inr rfl), hP, hk, rfl⟩
  · rintro (h | ⟨q, h1, h2, h3, h4⟩)
    · exact .inl (.inl h)
    · rcases (subs_next hP hp h2).1 h1 with h5 | rfl
      · exact .inl (.inr ⟨q, h5, h2, h3, h4⟩)
      · exact .inr h4
theorem abv_not {s k d P : Nat} {S S' : List Int} (hP : P &&& s = P) (hp : 0 < P) (hk : ¬ pop P = k) (h : ∀ x, x ∈ S' ↔ Abv s k d P S x) (x : Int) : x ∈ S' ↔ Abv s k d ((P - 1) &&& s) S x := by
  rw [h]
  unfold Abv
  constructor
  · rintro (h | ⟨q, h1, h2, h3, h4⟩)
    · exact .inl h
    · exact .inr ⟨q, (subs_next hP hp h2).2 (.inl h1), h2, h3, h4⟩
  · rintro (h | ⟨q, h1, h2, h3, h4⟩)
    · exact .inl h
    · rcases (subs_next hP hp h2).1 h1 with h5 | rfl
      · exact .inr ⟨q, h5, h2, h3, h4⟩
      · exact absurd h3 hk
/-- What subsets puts in. -/
def Subs (set k d : Nat) (S : List Int) (x : Int) : Prop := x ∈ S ∨ ∃ p : Nat, p &&& set = p ∧ pop p = k ∧ x = ((d ||| p : Nat) : Int)
theorem abv_end_put {s k d : Nat} {S S' : List Int} (hk : pop 0 = k) (h : ∀ x, x ∈ S' ↔ Abv s k d 0 S x) (x : Int) : x ∈ putS S' ((d ||| 0 : Nat) : Int) ↔ Subs s k d S x := by
  rw [mem_putS, h]
  unfold Abv Subs
  constructor
  · rintro ((h | ⟨q, h1, h2, h3, h4⟩) | rfl)
    · exact .inl h
    · exact .inr ⟨q, h2, h3, h4⟩
    · exact .inr ⟨0, by simp, hk, rfl⟩
  · rintro (h | ⟨q, h2, h3, h4⟩)
    · exact .inl (.inl h)
    · by_cases hq : q = 0
      · subst hq; exact .inr h4
      · exact .inl (.inr ⟨q, by omega, h2, h3, h4⟩)
theorem abv_end_not {s k d : Nat} {S S' : List Int} (hk : ¬ pop 0 = k) (h : ∀ x, x ∈ S' ↔ Abv s k d 0 S x) (x : Int) : x ∈ S' ↔ Subs s k d S x := by
  rw [h]
  unfold Abv Subs
  constructor
  · rintro (h | ⟨q, h1, h2, h3, h4⟩)
    · exact .inl h
    · exact .inr ⟨q, h2, h3, h4⟩
  · rintro (h | ⟨q, h2, h3, h4⟩)
    · exact .inl h
    · by_cases hq : q = 0
      · subst hq; exact absurd h3 hk
      · exact .inr ⟨q, by omega, h2, h3, h4⟩
set_option maxHeartbeats 400000 in
theorem subsets_any (set k d bX bD bM : Nat) (S : List Int) (w : World) (hs : set < 4096) (hd : d < 4096) (hXM : bX ≠ bM) (hDM : bD ≠ bM) (hX : w.cell? ⟨bX, 0, none⟩ = some (.map (some bM))) (hD : w.cell? ⟨bD, 0, none⟩ = some (.int .u64 (d : Int))) (hM : MapSet .u64 w bM S) :
    Calls Go.Proofs.Try.prog 37 #[.int .u64 (set : Int), .int .i64 (k : Int), .func (.func 39) #[] #[.pointer (some ⟨bX, 0, none⟩), .pointer (some ⟨bD, 0, none⟩)]] w fun e w' =>
      e = .returned (.tuple #[]) ∧ (∃ S', MapSet .u64 w' bM S' ∧ ∀ x, x ∈ S' ↔ Subs set k d S x) ∧ w.grownBy w' (some bM) := by
  have lX := cell_lt hX
  have lD := cell_lt hD
  have lM := hM.lt
  have HM := Lib.hid hM
  have HXD : Hid (w.cell? ⟨bX, 0, none⟩ = some (.map (some bM)) ∧ w.cell? ⟨bD, 0, none⟩ = some (.int .u64 (d : Int))) := ⟨hX, hD⟩
  clear hM hX hD
  go_enter Go.Proofs.Try.func37, Go.Proofs.Try.ntmps37
  go_wp2_with fail
  go_loopg [6] set (fun r p wr => ∃ P : Nat, P ≤ r ∧ P &&& set = P ∧ p = .int .u64 (P : Int) ∧ (∃ S', MapSet .u64 wr bM S' ∧ ∀ x, x ∈ S' ↔ Abv set k d P S x) ∧ w.grownBy wr (some bM))
  case atStart =>
    refine ⟨set, Nat.le_refl _, Nat.and_self _, rfl, ⟨S, HM.out, fun x => ⟨.inl, fun h => ?_⟩⟩, .refl _ _⟩
    rcases h with h | ⟨q, h1, h2, _⟩
    · exact h
    · have := and_le' set q
      rw [Nat.and_comm, h2] at this
      omega
  case round =>
    obtain ⟨P, hr, hP, rfl, hS, hg⟩ := hrel
    have hP12 : P ≤ set := by have := and_le' set P; rw [Nat.and_comm, hP] at this; exact this
    have HS := Lib.hid hS
    have HG := Lib.hid hg
    clear hS hg
    have cnt := pop_le P
    go_wp2_with fail
    refine (count_calls P (by omega) wr).mono ?_
    rintro e w1 ⟨rfl, hb1⟩
    have HB1 := Lib.hid hb1
    have z1 := hb1.size
    have hg1 : w.grownBy w1 (some bM) := grown_trans HG.out (below_grown hb1 _)
    have cX : w1.cell? ⟨bX, 0, none⟩ = some (.map (some bM)) := by
      rw [World.grownBy.cell hg1 HXD.out.1 (by simpa using hXM)]
    have cD : w1.cell? ⟨bD, 0, none⟩ = some (.int .u64 (d : Int)) := by
      rw [World.grownBy.cell hg1 HXD.out.2 (by simpa using hDM)]
    have HS1 : Hid (∃ S', MapSet .u64 w1 bM S' ∧ ∀ x, x ∈ S' ↔ Abv set k d P S x) := by
      obtain ⟨S', q1, q2⟩ := HS.out
      exact ⟨S', q1.same (hb1.block _ q1.lt), q2⟩
    have HG1 := Lib.hid hg1
    clear hb1 hg1 HS HG
    by_cases hk : pop P = k
    · have hkk : ((((pop P : Nat) : Int)) == (k : Int)) = true := by rw [hk]; simp
      obtain ⟨S', q1, q2⟩ := HS1.out
      have HC := Lib.hid (clo_any P d bX bD bM S' w1 (by omega) hd cX cD q1)
      clear q1 cX cD HS1
      have HQ2 := Lib.hid q2
      have HK := Lib.hid hk
      clear q2 hk
      by_cases hz : P = 0
      · subst hz
        go_wp2_with fail
        refine HC.out.mono ?_
        rintro e w2 ⟨rfl, hM2, hput⟩
        have HR : Hid ((∃ S', MapSet .u64 w2 bM S' ∧ ∀ x, x ∈ S' ↔ Subs set k d S x) ∧ w.grownBy w2 (some bM)) := ⟨⟨_, hM2, abv_end_put HK.out HQ2.out⟩, grown_trans HG1.out hput.grown⟩
        clear hM2 hput HC
        go_wp2_with fail
        exact bodyPost_ret (results_none rfl _ _ _) rfl ⟨rfl, HR.out.1, HR.out.2⟩
      · have hpz : ((P : Int) == 0) = false := by simp; omega
        have hwr : IntKind.u64.wrap ((P : Int) - 1) = ((P - 1 : Nat) : Int) := by
          rw [show (P : Int) - 1 = ((P - 1 : Nat) : Int) by omega]
          exact wrap64 (by omega)
        have hand : Go.bits BinOp.and IntKind.u64 ((P - 1 : Nat) : Int) (set : Int) = (((P - 1) &&& set : Nat) : Int) := u64_and_nat _ _ (by omega) (by omega)
        have hle := and_le' (P - 1) set
        have hpa := and_part (P - 1) set
        have HPA := Lib.hid hpa
        clear hpa
        go_wp2_with fail
        refine HC.out.mono ?_
        rintro e w2 ⟨rfl, hM2, hput⟩
        have HR : Hid ((∃ S', MapSet .u64 w2 bM S' ∧ ∀ x, x ∈ S' ↔ Abv set k d ((P - 1) &&& set) S x) ∧ w.grownBy w2 (some bM)) := ⟨⟨_, hM2, abv_put hP (by omega) HK.out HQ2.out⟩, grown_trans HG1.out hput.grown⟩
        clear hM2 hput HC
        go_wp2_with fail
        go_roundg (gk - 1)
        case measure => omega
        case rel => exact ⟨_, by omega, HPA.out, rfl, HR.out.1, HR.out.2⟩
    · have hkk : (((pop P : Nat) : Int) == (k : Int)) = false := by simp; omega
      obtain ⟨S', q1, q2⟩ := HS1.out
      have HQ1 := Lib.hid q1
      have HQ2 := Lib.hid q2
      have HK := Lib.hid hk
      clear q1 q2 hk cX cD HS1
      by_cases hz : P = 0
      · subst hz
        have HR : Hid (∃ S', MapSet .u64 w1 bM S' ∧ ∀ x, x ∈ S' ↔ Subs set k d S x) := ⟨_, HQ1.out, abv_end_not HK.out HQ2.out⟩
        go_wp2_with fail
        exact bodyPost_ret (results_none rfl _ _ _) rfl ⟨rfl, HR.out, HG1.out⟩
      · have hpz : ((P : Int) == 0) = false := by simp; omega
        have hwr : IntKind.u64.wrap ((P : Int) - 1) = ((P - 1 : Nat) : Int) := by
          rw [show (P : Int) - 1 = ((P - 1 : Nat) : Int) by omega]
          exact wrap64 (by omega)
        have hand : Go.bits BinOp.and IntKind.u64 ((P - 1 : Nat) : Int) (set : Int) = (((P - 1) &&& set : Nat) : Int) := u64_and_nat _ _ (by omega) (by omega)
        have hle := and_le' (P - 1) set
        have hpa := and_part (P - 1) set
        have HPA := Lib.hid hpa
        have HR : Hid (∃ S', MapSet .u64 w1 bM S' ∧ ∀ x, x ∈ S' ↔ Abv set k d ((P - 1) &&& set) S x) := ⟨_, HQ1.out, abv_not hP (by omega) HK.out HQ2.out⟩
        clear hpa
        go_wp2_with fail
        go_roundg (gk - 1)
        case measure => omega
        case rel => exact ⟨_, by omega, HPA.out, rfl, HR.out, HG1.out⟩
end Go.Mx
namespace Go.Mx
set_option linter.unusedVariables false
set_option linter.unusedSimpArgs false
set_option linter.unusedSectionVars false
open Go

def subB (x d : Nat) : Bool := (List.range 12).all fun i => !x.testBit i || d.testBit i
/-- What is ready, of the first so many vertices. -/
def rdyK (bf : Nat → Nat) (d : Nat) : Nat → Nat
  | 0 => 0
  | v + 1 => if (!d.testBit v && subB (bf v) d) = true then rdyK bf d v ||| pw v else rdyK bf d v
theorem rdyK_bit (bf : Nat → Nat) (d k i : Nat) : (rdyK bf d k).testBit i = (decide (i < k) && (!d.testBit i && subB (bf i) d)) := by
  induction k with
  | zero => simp [rdyK]
  | succ k ih =>
    unfold rdyK
    by_cases h : (!d.testBit k && subB (bf k) d) = true
    · rw [if_pos h, Nat.testBit_or, ih, pw_bit]
      by_cases hk : i = k
      · subst hk; simp [h]
      · have : ¬ k = i := fun e => hk e.symm
        have e2 : (i < k + 1) ↔ i < k := by omega
        simp [this, e2]
    · rw [if_neg h, ih]
      by_cases hk : i = k
      · subst hk
        have h' : (!d.testBit i && subB (bf i) d) = false := by simpa using h
        rw [h']; simp
      · have e2 : (i < k + 1) ↔ i < k := by omega
        simp [e2]
theorem lt_bits {x n : Nat} (h : ∀ i, x.testBit i = true → i < n) : x < 2 ^ n := Nat.lt_pow_two_of_testBit _ fun i hi => by
  cases hb : x.testBit i with
  | false => rfl
  | true => have := h i hb; omega
theorem rdyK_lt (bf : Nat → Nat) (d k : Nat) : rdyK bf d k < 2 ^ k := lt_bits fun i h => by
  rw [rdyK_bit] at h
  simp at h
  exact h.1
/-- Sets that may be done after r rounds. -/
def stP (bf : Nat → Nat) (n k : Nat) : Nat → Nat → Prop
  | 0, m => m = 0
  | r + 1, m => ∃ d, stP bf n k r d ∧ ∃ p, p &&& rdyK bf d n = p ∧ pop p = min k (pop (rdyK bf d n)) ∧ m = d ||| p
def allM (n : Nat) : Nat := 2 ^ n - 1
theorem allM_bit (n i : Nat) : (allM n).testBit i = decide (i < n) := by unfold allM; rw [Nat.testBit_two_pow_sub_one]
theorem sub_bits {p s : Nat} : p &&& s = p ↔ ∀ i, p.testBit i = true → s.testBit i = true := by
  constructor
  · intro h i hi
    rw [← h, Nat.testBit_and, Bool.and_eq_true] at hi
    exact hi.2
  · intro h
    apply Nat.eq_of_testBit_eq
    intro i
    rw [Nat.testBit_and]
    cases hb : p.testBit i with
    | false => rfl
    | true => rw [h i hb]; rfl
theorem sub_trans {a b c : Nat} (h1 : a &&& b = a) (h2 : b &&& c = b) : a &&& c = a := sub_bits.2 fun i h => sub_bits.1 h2 i (sub_bits.1 h1 i h)
theorem or_sub {a b c : Nat} (h1 : a &&& c = a) (h2 : b &&& c = b) : (a ||| b) &&& c = a ||| b := sub_bits.2 fun i h => by
  rw [Nat.testBit_or, Bool.or_eq_true] at h
  rcases h with h | h
  · exact sub_bits.1 h1 i h
  · exact sub_bits.1 h2 i h
theorem sub_lt {p s n : Nat} (h : p &&& s = p) (hs : s < 2 ^ n) : p < 2 ^ n := by
  rw [← h]
  exact Nat.and_lt_two_pow _ hs
theorem rdy_all (bf : Nat → Nat) (d n : Nat) : rdyK bf d n &&& allM n = rdyK bf d n := sub_bits.2 fun i h => by
  rw [rdyK_bit] at h
  rw [allM_bit]
  simp at h ⊢
  exact h.1
theorem stP_sub {bf : Nat → Nat} {n k : Nat} : ∀ {r m : Nat}, stP bf n k r m → m &&& allM n = m
  | 0, m, h => by cases h; simp
  | r + 1, m, ⟨d, h1, p, h2, h3, h4⟩ => by
    subst h4
    exact or_sub (stP_sub h1) (sub_trans h2 (rdy_all bf d n))
theorem stP_lt {bf : Nat → Nat} {n k r m : Nat} (hn : n ≤ 12) (h : stP bf n k r m) : m < 4096 := by
  have h1 := stP_sub h
  have h2 : allM n < 2 ^ n := by unfold allM; have := Nat.two_pow_pos n; omega
  exact Nat.lt_of_lt_of_le (sub_lt h1 h2) (Nat.pow_le_pow_right (by omega) hn)
theorem bit_lt {x i : Nat} (hx : x < 4096) (h : x.testBit i = true) : i < 12 := by
  rcases Nat.lt_or_ge i 12 with h2 | h2
  · exact h2
  · have h3 : 2 ^ 12 ≤ 2 ^ i := Nat.pow_le_pow_right (by omega) h2
    have : x < 2 ^ i := Nat.lt_of_lt_of_le hx h3
    rw [Nat.testBit_lt_two_pow this] at h
    cases h
/-! ### counting members -/
theorem pop_zero_iff {x : Nat} (hx : x < 4096) : pop x = 0 ↔ x = 0 := by
  constructor
  · intro h
    apply Nat.eq_of_testBit_eq
    intro i
    rw [Nat.zero_testBit]
    cases hb : x.testBit i with
    | false => rfl
    | true =>
      have hi : i < 12 := bit_lt hx hb
      have : i ∈ (List.range 12).filter fun i => x.testBit i := List.mem_filter.2 ⟨List.mem_range.2 hi, hb⟩
      unfold pop at h
      rw [List.length_eq_zero_iff] at h
      rw [h] at this
      cases this
  · rintro rfl; decide
theorem filter_or {α : Type} (p q : α → Bool) (hd : ∀ x, ¬ (p x = true ∧ q x = true)) : ∀ l : List α, (l.filter fun x => p x || q x).length = (l.filter p).length + (l.filter q).length
  | [] => rfl
  | a :: l => by
    have ih := filter_or p q hd l
    have := hd a
    rw [List.filter_cons, List.filter_cons, List.filter_cons]
    cases h1 : p a <;> cases h2 : q a <;> simp_all <;> omega
theorem pop_or {a b : Nat} (h : ∀ i, ¬ (a.testBit i = true ∧ b.testBit i = true)) : pop (a ||| b) = pop a + pop b := by
  unfold pop
  rw [← filter_or _ _ h]
  congr 2
  funext i
  rw [Nat.testBit_or]
theorem pop_sub {a b : Nat} (h : a &&& b = a) : pop a ≤ pop b := by
  unfold pop
  have : ∀ l : List Nat, (l.filter fun i => a.testBit i).length ≤ (l.filter fun i => b.testBit i).length := by
    intro l
    induction l with
    | nil => exact Nat.le_refl _
    | cons x l ih =>
      rw [List.filter_cons, List.filter_cons]
      cases h1 : a.testBit x
      · cases h2 : b.testBit x <;> simp <;> omega
      · rw [sub_bits.1 h x h1]; simpa using ih
  exact this _
theorem pop_all {n : Nat} (hn : n ≤ 12) : pop (allM n) = n := by
  have : ∀ n, n ≤ 12 → pop (allM n) = n := by decide
  exact this n hn
theorem pop_eq {a b : Nat} (hb : b < 4096) (h : a &&& b = a) (he : pop b ≤ pop a) : a = b := by
  have h2 : a &&& b = a := h
  have e : a ||| (b ^^^ a) = b := by
    apply Nat.eq_of_testBit_eq
    intro i
    rw [Nat.testBit_or, Nat.testBit_xor]
    cases ha : a.testBit i with
    | false => simp
    | true => simp [sub_bits.1 h i ha]
  have hd : pop b = pop a + pop (b ^^^ a) := by
    conv => lhs; rw [← e]
    refine pop_or fun i => ?_
    rintro ⟨h1, h3⟩
    rw [Nat.testBit_xor, h1, sub_bits.1 h i h1] at h3
    cases h3
  have hz : pop (b ^^^ a) = 0 := by omega
  have hx : b ^^^ a < 4096 := by
    have ha : a < 2 ^ 12 := sub_lt h hb
    exact Nat.xor_lt_two_pow hb ha
  rw [pop_zero_iff hx] at hz
  rw [hz, Nat.or_zero] at e
  exact e
/-- A part with so many members. -/
theorem part_of (s : Nat) (hs : s < 4096) : ∀ k, k ≤ pop s → ∃ p, p &&& s = p ∧ pop p = k
  | 0, _ => ⟨0, by simp, by decide⟩
  | k + 1, hk => by
    obtain ⟨p, h1, h2⟩ := part_of s hs k (by omega)
    have hne : p ≠ s := by rintro rfl; omega
    have : ∃ i, s.testBit i = true ∧ p.testBit i = false := by
      apply Classical.byContradiction
      intro hn
      apply hne
      apply Nat.eq_of_testBit_eq
      intro i
      cases hp : p.testBit i with
      | true => exact (sub_bits.1 h1 i hp).symm
      | false =>
        cases hb : s.testBit i with
        | false => rfl
        | true => exact absurd ⟨i, hb, hp⟩ hn
    obtain ⟨i, i1, i2⟩ := this
    have hi : i < 12 := bit_lt hs i1
    have h1p : pop (pw i) = 1 := by
      have : ∀ i, i < 12 → pop (pw i) = 1 := by decide
      exact this i hi
    refine ⟨p ||| pw i, or_sub h1 (sub_bits.2 fun j hj => ?_), ?_⟩
    · rw [pw_bit] at hj
      have : i = j := by simpa using hj
      rw [← this]; exact i1
    · rw [pop_or fun j => ?_, h1p, h2]
      rintro ⟨a1, a2⟩
      rw [pw_bit] at a2
      have : i = j := by simpa using a2
      rw [← this, i2] at a1
      cases a1
/-! ### the work comes to an end -/
/-- The order's table of the vertices before each one. -/
structure BF (bf : Nat → Nat) (R : Nat → Nat → Bool) (n : Nat) : Prop where
  bit : ∀ v, v < n → ∀ u, (bf v).testBit u = R u v
theorem sub_iff {x d : Nat} (hx : x < 4096) : subB x d = true ↔ ∀ i, x.testBit i = true → d.testBit i = true := by
  unfold subB
  rw [List.all_eq_true]
  constructor
  · intro h i hi
    have hlt : i < 12 := bit_lt hx hi
    have := h i (List.mem_range.2 hlt)
    rw [hi] at this
    simpa using this
  · intro h i _
    cases hb : x.testBit i with
    | false => rfl
    | true => rw [h i hb]; rfl
/-- How many vertices stand before one. -/
def nuR (R : Nat → Nat → Bool) (n v : Nat) : Nat := ((List.range n).filter fun x => R x v).length
theorem nuR_lt {R : Nat → Nat → Bool} {n : Nat} (h : PO R n) {u v : Nat} (huv : R u v = true) : nuR R n u < nuR R n v := by
  unfold nuR
  refine filter_lt (p := fun x => R x u) (q := fun x => R x v) _ (fun x _ hx => h.tr x u v hx huv) ⟨u, List.mem_range.2 (h.lt u v huv).1, h.irr u, huv⟩
section
variable {bf : Nat → Nat} {R : Nat → Nat → Bool} {n : Nat} (hR : PO R n) (hb : BF bf R n) (hn : n ≤ 12)
include hR hb hn
theorem bf_lt {v : Nat} (hv : v < n) : bf v < 4096 := by
  have : bf v < 2 ^ n := lt_bits fun i h => by
    rw [hb.bit v hv] at h
    exact (hR.lt _ _ h).1
  exact Nat.lt_of_lt_of_le this (Nat.pow_le_pow_right (by omega) hn)
theorem rdy_bit (d i : Nat) : (rdyK bf d n).testBit i = true ↔ i < n ∧ d.testBit i = false ∧ ∀ u, R u i = true → d.testBit u = true := by
  rw [rdyK_bit]
  simp only [Bool.and_eq_true, decide_eq_true_eq, Bool.not_eq_true']
  constructor
  · rintro ⟨h1, h2, h3⟩
    refine ⟨h1, h2, fun u hu => ?_⟩
    rw [sub_iff (bf_lt hR hb hn h1)] at h3
    exact h3 u (by rw [hb.bit i h1]; exact hu)
  · rintro ⟨h1, h2, h3⟩
    refine ⟨h1, h2, ?_⟩
    rw [sub_iff (bf_lt hR hb hn h1)]
    intro u hu
    rw [hb.bit i h1] at hu
    exact h3 u hu
theorem rdy_ne {d : Nat} (hd : d &&& allM n = d) (hne : d ≠ allM n) : rdyK bf d n ≠ 0 := by
  -- a vertex that is not done, with as few before it as can be
  have h0 : ∃ v, v < n ∧ d.testBit v = false := by
    apply Classical.byContradiction
    intro hc
    apply hne
    apply Nat.eq_of_testBit_eq
    intro i
    rw [allM_bit]
    by_cases hi : i < n
    · cases hb' : d.testBit i with
      | true => simp [hi]
      | false => exact absurd ⟨i, hi, hb'⟩ hc
    · cases hb' : d.testBit i with
      | false => simp [hi]
      | true =>
        have := sub_bits.1 hd i hb'
        rw [allM_bit] at this
        simp [hi] at this
  have key : ∀ c v, nuR R n v < c → v < n → d.testBit v = false → ∃ x, (rdyK bf d n).testBit x = true := by
    intro c
    induction c with
    | zero => intro v h; omega
    | succ c ih =>
      intro v hc hv hdv
      by_cases hall : ∀ u, R u v = true → d.testBit u = true
      · exact ⟨v, (rdy_bit hR hb hn d v).2 ⟨hv, hdv, hall⟩⟩
      · have : ∃ u, R u v = true ∧ d.testBit u = false := by
          apply Classical.byContradiction
          intro hc2
          apply hall
          intro u hu
          cases hb' : d.testBit u with
          | true => rfl
          | false => exact absurd ⟨u, hu, hb'⟩ hc2
        obtain ⟨u, hu, hdu⟩ := this
        exact ih u (by have := nuR_lt hR hu; omega) (hR.lt _ _ hu).1 hdu
  obtain ⟨v, hv, hdv⟩ := h0
  obtain ⟨x, hx⟩ := key _ v (Nat.lt_succ_self _) hv hdv
  intro hz
  rw [hz] at hx
  simp at hx
theorem rdy_lt (d : Nat) : rdyK bf d n < 4096 := Nat.lt_of_lt_of_le (rdyK_lt bf d n) (Nat.pow_le_pow_right (by omega) hn)
theorem all_lt : allM n < 4096 := by
  have h1 : allM n < 2 ^ n := by unfold allM; have := Nat.two_pow_pos n; omega
  exact Nat.lt_of_lt_of_le h1 (Nat.pow_le_pow_right (by omega) hn)
theorem stP_grow {k : Nat} (hk : 1 ≤ k) : ∀ {r m : Nat}, stP bf n k r m → m = allM n ∨ r ≤ pop m
  | 0, m, _ => .inr (Nat.zero_le _)
  | r + 1, m, ⟨d, h1, p, h2, h3, h4⟩ => by
    have hsub := stP_sub h1
    by_cases hd : d = allM n
    · left
      have hr : rdyK bf d n = 0 := by
        apply Nat.eq_of_testBit_eq
        intro i
        rw [Nat.zero_testBit]
        cases hb' : (rdyK bf d n).testBit i with
        | false => rfl
        | true =>
          have h := (rdy_bit hR hb hn d i).1 hb'
          rw [hd, allM_bit] at h
          simp [h.1] at h
      rw [hr] at h2
      simp at h2
      rw [h4, ← h2, Nat.or_zero, hd]
    · rcases stP_grow hk h1 with h5 | h5
      · exact absurd h5 hd
      · right
        have hne := rdy_ne hR hb hn hsub hd
        have hpz : pop (rdyK bf d n) ≠ 0 := fun e => hne ((pop_zero_iff (rdy_lt hR hb hn d)).1 e)
        rw [h4, pop_or fun i => ?_]
        · omega
        · rintro ⟨a1, a2⟩
          have := ((rdy_bit hR hb hn d i).1 (sub_bits.1 h2 i a2)).2.1
          rw [a1] at this
          cases this
theorem stP_some (k : Nat) : ∀ r, ∃ m, stP bf n k r m
  | 0 => ⟨0, rfl⟩
  | r + 1 => by
    obtain ⟨d, hd⟩ := stP_some k r
    obtain ⟨p, h1, h2⟩ := part_of (rdyK bf d n) (rdy_lt hR hb hn d) (min k (pop (rdyK bf d n))) (Nat.min_le_right _ _)
    exact ⟨d ||| p, d, hd, p, h1, h2, rfl⟩
theorem stP_ends {k : Nat} (hk : 1 ≤ k) : stP bf n k n (allM n) := by
  obtain ⟨m, hm⟩ := stP_some hR hb hn k n
  rcases stP_grow hR hb hn hk hm with h | h
  · rw [← h]; exact hm
  · have hs := stP_sub hm
    have := pop_eq (all_lt hR hb hn) hs (by rw [pop_all hn]; exact h)
    rw [← this]; exact hm
end
/-- The number of rounds. -/
noncomputable def stA (bf : Nat → Nat) (n k : Nat) : Nat := leastOf fun r => stP bf n k r (allM n)
theorem stA_spec {bf : Nat → Nat} {R : Nat → Nat → Bool} {n : Nat} (hR : PO R n) (hb : BF bf R n) (hn : n ≤ 12) {k : Nat} (hk : 1 ≤ k) :
    stP bf n k (stA bf n k) (allM n) ∧ (∀ r, stP bf n k r (allM n) → stA bf n k ≤ r) ∧ stA bf n k ≤ n := by
  have h := leastOf_spec (p := fun r => stP bf n k r (allM n)) ⟨n, stP_ends hR hb hn hk⟩
  exact ⟨h.1, h.2, h.2 n (stP_ends hR hb hn hk)⟩
end Go.Mx
namespace Go.Mx
set_option linter.unusedVariables false
set_option linter.unusedSimpArgs false
set_option linter.unusedSectionVars false
open Go Go.RowKit

/-- The vertices before one, of the first so many. -/
def bfK (g : Nat → Nat) (v : Nat) : Nat → Nat
  | 0 => 0
  | u + 1 => if Rb g u v = true then bfK g v u ||| pw u else bfK g v u
theorem bfK_bit (g : Nat → Nat) (v k i : Nat) : (bfK g v k).testBit i = (decide (i < k) && Rb g i v) := by
  induction k with
  | zero => simp [bfK]
  | succ k ih =>
    unfold bfK
    by_cases h : Rb g k v = true
    · rw [if_pos h, Nat.testBit_or, ih, pw_bit]
      by_cases hk : i = k
      · subst hk; simp [h]
      · have : ¬ k = i := fun e => hk e.symm
        have e2 : (i < k + 1) ↔ i < k := by omega
        simp [this, e2]
    · rw [if_neg h, ih]
      by_cases hk : i = k
      · subst hk; simp [h]
      · have e2 : (i < k + 1) ↔ i < k := by omega
        simp [e2]
theorem bfK_lt (g : Nat → Nat) (v : Nat) {k : Nat} (hk : k ≤ 12) : bfK g v k < 4096 := by
  have : bfK g v k < 2 ^ 12 := Nat.lt_pow_two_of_testBit _ fun i hi => by
    rw [bfK_bit]
    have : ¬ i < k := by omega
    simp [this]
  exact this
/-- The table of the vertices before each one while it fills. -/
def bfF (g : Nat → Nat) (n v u : Nat) : Nat → Nat := fun x => if x < v then bfK g x n else if x = v then bfK g v u else 0
def rowU (F : Nat → Nat) (n : Nat) : Array Value := ((List.range n).map fun x => Value.int .u64 ((F x : Nat) : Int)).toArray
theorem rowU_get (F : Nat → Nat) {n x : Nat} (h : x < n) : (rowU F n)[x]? = some (.int .u64 ((F x : Nat) : Int)) := by simp [rowU, h]
theorem rowU_set (F : Nat → Nat) (n x y : Nat) : (rowU F n).setIfInBounds x (.int .u64 ((y : Nat) : Int)) = rowU (updF F x y) n := by
  apply Array.ext
  · simp [rowU]
  · intro i h1 h2
    have hi : i < n := by simpa [rowU] using h2
    have e : (rowU (updF F x y) n)[i] = .int .u64 ((updF F x y i : Nat) : Int) := by simp [rowU]
    rw [e, Array.getElem_setIfInBounds (by simpa [rowU] using hi)]
    unfold updF
    split
    · rename_i h; subst h; simp
    · rename_i h
      rw [if_neg (Ne.symm h)]
      simp [rowU]
theorem rowU_ext {F G : Nat → Nat} {n : Nat} (h : ∀ x, x < n → F x = G x) : rowU F n = rowU G n := by
  unfold rowU
  congr 1
  apply List.map_congr_left
  intro x hx
  rw [h x (List.mem_range.1 hx)]
theorem info53 : (Go.Proofs.Try.prog.info? 53).map (fun i => (i.zero, i.size, i.bytes)) = some (some (.int .u64 0), 1, 8) := by kernel_rfl
theorem made_rowU (n : Nat) : (madeCells (Value.int .u64 0).cells (n * 1)).toList = (rowU (fun _ => 0) n).toList := by
  apply List.ext_getElem?
  intro i
  simp only [madeCells, rowU]
  by_cases h : i < n
  · simp [Value.cells, h, Nat.mod_one]
  · simp [Value.cells, h]
theorem owns_all {w : World} {base g n e : Nat} {l : List Value} (h : w.ownsRow base e 1 (.slice (some ⟨g, 0, none⟩) n n) n l) : w.heap[g]? = some (.cells l.toArray e (0, 0)) := by
  obtain ⟨h1, h2⟩ := h
  rcases h2 with ⟨h2, _⟩ | ⟨g', cap, cur, he, _, hh, _, _, hs, ht⟩
  · cases h2
  · simp only [Value.slice.injEq, Option.some.injEq, Addr.mk.injEq, and_true, true_and] at he
    obtain ⟨rfl, rfl⟩ := he
    rw [hh, ← ht, List.take_of_length_le (by simp; omega)]
theorem bfF_step (g : Nat → Nat) {n v u : Nat} (hR : Rb g u v = true) : updF (bfF g n v u) v (bfF g n v u v ||| pw u) = bfF g n v (u + 1) := by
  funext x
  unfold updF bfF
  by_cases h : x = v
  · subst h
    simp [bfK, hR]
  · simp [h]
theorem bfF_keep (g : Nat → Nat) {n v u : Nat} (hR : ¬ Rb g u v = true) : bfF g n v (u + 1) = bfF g n v u := by
  funext x
  unfold bfF
  simp [bfK, hR]
theorem bfF_next (g : Nat → Nat) (n v : Nat) : bfF g n v n = bfF g n (v + 1) 0 := by
  funext x
  unfold bfF
  by_cases h : x < v
  · have : x < v + 1 := by omega
    simp [h, this]
  · by_cases h2 : x = v
    · subst h2; simp
    · have h3 : ¬ x < v + 1 := by omega
      simp [h, h2, h3, bfK]
theorem bfF_zero (g : Nat → Nat) (n : Nat) : bfF g n 0 0 = fun _ => 0 := by
  funext x
  unfold bfF
  simp [bfK]
theorem bfF_lt (g : Nat → Nat) {n v u : Nat} (hn : n ≤ 12) (hu : u ≤ n) (x : Nat) : bfF g n v u x < 4096 := by
  unfold bfF
  split
  · exact bfK_lt g x hn
  · split
    · exact bfK_lt g v (by omega)
    · omega
theorem row_cell {w : World} {bB n x : Nat} {F : Nat → Nat} (h : w.heap[bB]? = some (.cells (rowU F n) 53 (0, 0))) (hx : x < n) : w.cell? ⟨bB, x, none⟩ = some (.int .u64 ((F x : Nat) : Int)) := by
  have h2 := rowU_get F hx
  simp only [World.cell?, h]
  simpa using h2
theorem row_free {w : World} {bB n : Nat} {F : Nat → Nat} (h : w.heap[bB]? = some (.cells (rowU F n) 53 (0, 0))) (x : Nat) : w.frozen? ⟨bB, x, none⟩ = false := by simp [World.frozen?, h]
theorem row_store {w : World} {bB n : Nat} {F : Nat → Nat} (h : w.heap[bB]? = some (.cells (rowU F n) 53 (0, 0))) (x y : Nat) : (w.setCell ⟨bB, x, none⟩ (.int .u64 ((y : Nat) : Int))).heap[bB]? = some (.cells (rowU (updF F x y) n) 53 (0, 0)) := by
  have hlt := lt_of_block h
  have h' : w.heap[bB] = .cells (rowU F n) 53 (0, 0) := by rw [Array.getElem?_eq_getElem hlt] at h; exact Option.some.inj h
  show (w.heap.modify bB _)[bB]? = _
  rw [Array.getElem?_eq_getElem (by simpa using hlt), Array.getElem_modify_self, h']
  simp only [rowU_set]
  rfl
theorem wpList_insert_set {P : Program} {ops : Array Oper} {rest : List Oper} {o : Oper} {a : Act} {w : World} {Q : Exit → Act → World → Prop} (hg : o.guard = none) (hd : o.dst = none) (m x v : Operand) (t kt et : TypeId) (hop : o.op = .insert t m x v) (td k : IntKind) (ht : P.underlying t = some (.map kt et)) (hk : P.underlying kt = some (.int td))
    (r : Nat) (S : List Int) (hm : a.eval m = .map (some r)) (hS : MapSet k w r S) (y : Int) (hx : a.eval x = .int k y) (hv : a.eval v = .bool true)
    (h : ∀ w', MapSet k w' r (putS S y) → Put w w' r → wpList P ops Q rest a w') : wpList P ops Q (o :: rest) a w := by
  refine wpList_plain hg fun K hK => ?_
  obtain ⟨w', h1, h2, h3⟩ := run_update_set ht hk hS y
  unfold Oper.wp
  simp [execOp, hop, hm, hx, hv, h1, Result.andThen]
  have e : a.put o.dst undef = a := by rw [hd]; rfl
  refine hK _ _ ?_
  rw [e]
  exact h w' h2 h3
/-- The vertices before each one. -/
abbrev bfN (n : Int) (a : List (Int × Int)) : Nat → Nat := fun v => bfK (ordG n a) v n.toNat
open Classical in
/-- What Streams returns. -/
noncomputable def stD (n : Int) (a : List (Int × Int)) (k : Int) : D :=
  if ckE n a = 0 then if 1 ≤ k ∧ k ≤ 12 then .nd .tu [.v (.int .i64 ((stA (bfN n a) n.toNat k.toNat : Nat) : Int)), .v (.int .i64 0)] else .nd .tu [.v (.int .i64 0), .v (.int .i64 2)]
  else .nd .tu [.v (.int .i64 0), .v (.int .i64 (ckE n a))]
theorem sc2_fresh {w w' : World} (x y : Value) : FreshT w w' (.nd .tu [.v x, .v y]) := by
  have hc : ∀ b, cnt b (.nd .tu [.v x, .v y] : C) = 0 := by intro b; simp [cnt, cntL, K.own]
  exact ⟨⟨trivial, trivial, trivial, trivial⟩, fun b => by rw [hc]; exact ⟨by omega, fun h => absurd rfl h⟩⟩
theorem wrap_pow {n : Nat} (hn : n ≤ 12) : IntKind.u64.wrap ((2 : Int) ^ n) = ((pw n : Nat) : Int) := by
  have e : (2 : Int) ^ n = ((pw n : Nat) : Int) := by unfold pw; rw [Int.natCast_pow]; rfl
  rw [e]
  exact wrap64 (Nat.lt_of_le_of_lt (Nat.pow_le_pow_right (by omega) hn) (by decide))
theorem wrap_all {n : Nat} (hn : n ≤ 12) : IntKind.u64.wrap (IntKind.u64.wrap ((2 : Int) ^ n) - 1) = ((allM n : Nat) : Int) := by
  rw [wrap_pow hn]
  have h1 : 1 ≤ pw n := Nat.one_le_two_pow
  have h2 : pw n ≤ 4096 := Nat.pow_le_pow_right (by omega) hn
  have e : ((pw n : Nat) : Int) - 1 = ((allM n : Nat) : Int) := (Int.natCast_sub h1).symm
  rw [e]
  exact wrap64 (by have : allM n ≤ pw n := Nat.sub_le _ _; omega)
theorem bfK_bf {g : Nat → Nat} {n : Nat} (h : PO (Rb g) n) : BF (fun v => bfK g v n) (Rb g) n := ⟨fun v _ u => by
  show (bfK g v n).testBit u = _
  rw [bfK_bit]
  cases hb : Rb g u v with
  | false => simp
  | true => simp [(h.lt _ _ hb).1]⟩
theorem nod_sub' : ∀ (l m : List Int), l.Nodup → (∀ x ∈ l, x ∈ m) → l.length ≤ m.length
  | [], _, _, _ => Nat.zero_le _
  | x :: l, m, hn, hs => by
    rw [List.nodup_cons] at hn
    have hx := hs x (by simp)
    have h := nod_sub' l (m.erase x) hn.2 fun y hy => (List.mem_erase_of_ne (fun e => hn.1 (by rw [← e]; exact hy))).2 (hs y (by simp [hy]))
    have := List.length_erase_of_mem hx
    have := List.length_pos_of_mem hx
    simp only [List.length_cons]
    omega
theorem sh_and {d u : Nat} (hd : d < 4096) : (Go.bits BinOp.and IntKind.u64 (((d : Nat) : Int) / 2 ^ u) 1 == 0) = !d.testBit u := by
  have e1 : ((d : Nat) : Int) / 2 ^ u = ((d / 2 ^ u : Nat) : Int) := by push_cast; rfl
  have e2 : d / 2 ^ u ≤ d := Nat.div_le_self _ _
  have e3 : Go.bits BinOp.and IntKind.u64 (((d / 2 ^ u : Nat)) : Int) 1 = ((d / 2 ^ u &&& 1 : Nat) : Int) := u64_and_nat _ 1 (by omega) (by omega)
  rw [e1, e3, Nat.and_one_is_mod]
  have e4 : d.testBit u = decide (d / 2 ^ u % 2 = 1) := Nat.testBit_eq_decide_div_mod_eq
  rw [e4]
  rcases Nat.mod_two_eq_zero_or_one (d / 2 ^ u) with h | h <;> rw [h] <;> rfl
theorem an_not {x d : Nat} (hx : x < 4096) (hd : d < 4096) : (Go.bits BinOp.andNot IntKind.u64 ((x : Nat) : Int) ((d : Nat) : Int) == 0) = subB x d := by
  rw [u64_andNot_nat _ _ (by omega) (by omega)]
  have hb : ∀ i, i < 64 → (18446744073709551615 - d).testBit i = !d.testBit i := fun i hi => by
    have := Nat.testBit_two_pow_sub_succ (x := d) (n := 64) (by omega) i
    have e : 2 ^ 64 - (d + 1) = 18446744073709551615 - d := by omega
    rw [e] at this
    simpa [hi] using this
  cases hs : subB x d with
  | true =>
    have h := (sub_iff hx).1 hs
    have : x &&& (18446744073709551615 - d) = 0 := Nat.eq_of_testBit_eq fun i => by
      rw [Nat.testBit_and, Nat.zero_testBit]
      cases hxi : x.testBit i with
      | false => rfl
      | true =>
        have := bit_lt hx hxi
        rw [hb i (by omega), h i hxi]
        rfl
    rw [this]
    rfl
  | false =>
    have : x &&& (18446744073709551615 - d) ≠ 0 := fun h0 => by
      have : subB x d = true := (sub_iff hx).2 fun i hi => by
        have hlt := bit_lt hx hi
        have := congrArg (fun y => y.testBit i) h0
        simp only [Nat.testBit_and, Nat.zero_testBit, hi, Bool.true_and] at this
        rw [hb i (by omega)] at this
        simpa using this
      rw [hs] at this
      exact absurd this (by simp)
    have h2 : ((x &&& (18446744073709551615 - d) : Nat) : Int) ≠ 0 := by omega
    simpa using h2
set_option maxHeartbeats 1000000 in
set_option maxRecDepth 100000 in
theorem streams_any (b : Bool) (n : Int) (a : List (Int × Int)) (hl : a.length ≤ 1000) (w : World) (av : Value) (ha : ArgOK w av (sa b a)) (k : Int) :
    Calls Go.Proofs.Try.prog 15 #[.int .i64 n, av, .int .i64 k] w fun e w' => ∃ t : C, e = .returned (val t) ∧ er t = stD n a k ∧ Below w.heap.size w w' ∧ FreshT w w' t := by
  go_enter Go.Proofs.Try.func15, Go.Proofs.Try.ntmps15
  go_wp2_with fail
  refine (ck_calls b n a hl ha).mono ?_
  rintro e w1 ⟨t, rfl, ht, hb1, hf1⟩
  by_cases hck : ckE n a = 0
  · obtain ⟨m, rfl, h12, hv, hac⟩ := ck_ok hck
    have ht' : er t = .nd .tu [su6 m (ordG m a), .v (.int .i64 0)] := by rw [ht, ckD, if_pos hck, Int.toNat_natCast]
    obtain ⟨t1, rfl, h1⟩ := tu2 ht'
    obtain ⟨oa, oc, e1, _⟩ := int_tree h1 hf1.mem.2.1
    rw [zr_len] at e1
    have e2 : val (.nd .tu [t1, .v (.int .i64 0)]) = .tuple #[.slice oa m oc, .int .i64 0] := by
      show Value.tuple (valL [t1, .v _]).toArray = _
      rw [valL, valL, valL, e1]
      rfl
    rw [e2]
    have hg := ord_lt hck
    have HPO : Hid (PO (Rb (ordG m a)) m) := by have := oR_po hv hac; rw [Int.toNat_natCast] at this; exact this
    have HD : Hid (∀ kn : Nat, 1 ≤ kn → kn ≤ 12 → stD m a kn = .nd .tu [.v (.int .i64 ((stA (fun v => bfK (ordG m a) v m) m kn : Nat) : Int)), .v (.int .i64 0)]) := fun kn h1 h2 => by
      rw [stD, if_pos hck, if_pos ⟨by omega, by omega⟩]
      rfl
    have HD2 : Hid (¬ (1 ≤ k ∧ k ≤ 12) → stD m a k = .nd .tu [.v (.int .i64 0), .v (.int .i64 2)]) := fun h => by rw [stD, if_pos hck, if_neg h]
    generalize ordG m a = g at *
    have HT : Hid (val t1 = .slice oa m oc ∧ er t1 = su6 m g ∧ Mem w1 false t1 ∧ ∀ c, cnt c t1 ≠ 0 → w.heap.size ≤ c ∧ c < w1.heap.size) := by
      refine ⟨e1, h1, Mem.weak hf1.mem.2.1, fun c hc => ?_⟩
      exact (hf1.own c).2 (by simp only [cnt, cntL]; omega)
    clear e1 h1 e2 ht ht' hf1 hck hv hac
    obtain ⟨i0, hi, hz0, hz1, hz2⟩ := info_parts info53
    by_cases hk : 1 ≤ k ∧ k ≤ 12
    · obtain ⟨hk1, hk2⟩ := hk
      have hd1 : decide (k < 1) = false := by simp; omega
      have hd2 : decide (12 < k) = false := by simp; omega
      go_wp2_with (first
        | (at_make; refine wpList_make_full _ rfl (.tmp 37) (.tmp 37) 47 rfl w1.heap.size 53 i0 (.int .u64 0) 1 Go.Proofs.Try.underlying47 hi hz0 hz1 .i64 .i64 (m : Int) (m : Int) m rfl rfl rfl rfl (by rw [hz2]; omega) (by unfold maxLen; omega) (Nat.le_refl _) ?_; intro w2 hown hgrow)
        | fail)
      have hB2 : w2.heap[w1.heap.size]? = some (.cells (rowU (bfF g m 0 0) m) 53 (0, 0)) := by
        have := owns_all hown
        rw [made_rowU] at this
        rw [bfF_zero]
        simpa using this
      have HB2 := Lib.hid hB2
      have HBel := Lib.hid (grown_none hgrow)
      clear hB2 hown hgrow hi hz0 hz1 hz2
      go_loopg [40] m (fun r p wr => ∃ v : Nat, v + r = m ∧ p = .int .i64 (v : Int) ∧ wr.heap[w1.heap.size]? = some (.cells (rowU (bfF g m v 0) m) 53 (0, 0)) ∧ Below w1.heap.size w1 wr)
      case atStart => exact ⟨0, by omega, rfl, HB2.out, HBel.out⟩
      case round =>
        obtain ⟨v, hv, rfl, hrow, hbel⟩ := hrel
        have HR := Lib.hid hrow
        have HBe := Lib.hid hbel
        clear hrow hbel HB2 HBel
        by_cases hlt : v < m
        · have hw := wrap_succ (i := v) (by omega)
          go_wp2_with fail
          obtain ⟨go, hgo⟩ : ∃ go, go = gk := ⟨gk, rfl⟩
          subst hgo
          go_loopg [44] m (fun r p wr => ∃ u : Nat, u + r = m ∧ p = .int .i64 (u : Int) ∧ wr.heap[w1.heap.size]? = some (.cells (rowU (bfF g m v u) m) 53 (0, 0)) ∧ Below w1.heap.size w1 wr)
          case atStart => exact ⟨0, by omega, rfl, HR.out, HBe.out⟩
          case round =>
            obtain ⟨u, hu, rfl, hrow, hbel⟩ := hrel
            have HR2 := Lib.hid hrow
            have HBe2 := Lib.hid hbel
            clear hrow hbel HR HBe
            by_cases hltu : u < m
            · have hw2 := wrap_succ (i := u) (by omega)
              have hO : ArgOK wr (.slice oa m oc) (su6 m g) := by
                obtain ⟨q1, q2, q3, q4⟩ := HT.out
                exact ⟨t1, q2, q1, q3.same fun c hc => HBe2.out.block c (q4 c hc).2, fun c hc => Nat.lt_of_lt_of_le (q4 c hc).2 HBe2.out.size⟩
              have HO := Lib.hid hO
              clear hO
              go_wp2_with fail
              refine (prec_calls h12 hg u v hltu hlt HO.out).mono ?_
              rintro e w3 ⟨rfl, hb3⟩
              have HB3 : Hid (Below w1.heap.size w1 w3) := below_trans HBe2.out hb3
              have hrow3 : w3.heap[w1.heap.size]? = some (.cells (rowU (bfF g m v u) m) 53 (0, 0)) := by rw [hb3.block _ (lt_of_block HR2.out)]; exact HR2.out
              have cB := row_cell hrow3 hlt
              have fB := row_free hrow3 v
              have HR3 := Lib.hid hrow3
              have hlt4 := bfF_lt g (v := v) h12 (Nat.le_of_lt hltu) v
              clear hrow3 hb3 HO HR2 HBe2
              by_cases hRb : Rb g u v = true
              · have HS := Lib.hid (bfF_step g (n := m) hRb)
                rw [hRb]
                clear hRb
                go_wp2_with fail
                have hsw := wrap_pow (n := u) (by omega)
                have hor : Go.bits BinOp.or IntKind.u64 ((bfF g m v u v : Nat) : Int) ((pw u : Nat) : Int) = ((bfF g m v u v ||| pw u : Nat) : Int) := u64_or_nat _ _ (by omega) (Nat.lt_of_lt_of_le (pw_lt (t := u) (m := 12) (by omega)) (by decide))
                have HR4 : Hid ((w3.setCell ⟨w1.heap.size, v, none⟩ (.int .u64 ((bfF g m v u v ||| pw u : Nat) : Int))).drew.heap[w1.heap.size]? = some (.cells (rowU (bfF g m v (u + 1)) m) 53 (0, 0)) ∧ Below w1.heap.size w1 (w3.setCell ⟨w1.heap.size, v, none⟩ (.int .u64 ((bfF g m v u v ||| pw u : Nat) : Int))).drew) := by
                  refine ⟨?_, (HB3.out.setCell (Nat.le_refl _) _).drew⟩
                  have := row_store HR3.out v (bfF g m v u v ||| pw u)
                  rw [HS.out] at this
                  exact this
                go_region
                all_goals
                  go_wp2_with fail
                  go_roundg (gk - 1)
                  case measure => omega
                  case rel => exact ⟨u + 1, by omega, by go_num, HR4.out.1, HR4.out.2⟩
              · have HS := Lib.hid (bfF_keep g (n := m) hRb)
                rw [show Rb g u v = false by simpa using hRb]
                clear hRb
                go_wp2_with fail
                go_roundg (gk - 1)
                case measure => omega
                case rel => exact ⟨u + 1, by omega, by go_num, by rw [HS.out]; exact HR3.out, HB3.out⟩
            · obtain rfl : u = m := by omega
              go_wp2_with fail
              go_roundg (go - 1)
              case measure => omega
              case rel => exact ⟨v + 1, by omega, by go_num, by rw [← bfF_next]; exact HR2.out, HBe2.out⟩
        · obtain rfl : v = m := by omega
          obtain ⟨kn, rfl⟩ : ∃ kn : Nat, k = (kn : Int) := ⟨k.toNat, by omega⟩
          have hall := wrap_all h12
          have hmk : (Instr.makeMap 54 none).run Go.Proofs.Try.prog wr = .ok (.map (some wr.heap.size)) (wr.alloc (.map #[] 0)) := (run_makeMap_set .u64 54).1
          have HM := Lib.hid (run_makeMap_set (P := Go.Proofs.Try.prog) (w := wr) .u64 54).2
          go_wp2_with (first
            | (refine wpList_insert_set rfl rfl (.tmp 64) (.const (.int .u64 0)) (.const (.bool true)) 54 53 4 rfl .u64 .u64 Go.Proofs.Try.underlying54 Go.Proofs.Try.underlying53 wr.heap.size [] rfl HM.out 0 rfl rfl ?_; intro w4 hM4 hput4; have HM4 := Lib.hid hM4; clear hM4)
            | fail)
          have hspec := stA_spec HPO.out (bfK_bf HPO.out) h12 (k := kn) (by omega)
          have HSp := Lib.hid hspec
          have HBF := Lib.hid (bfK_bf HPO.out)
          clear hspec
          obtain ⟨bf, hbf⟩ : ∃ bf : Nat → Nat, bf = fun x => bfK g x v := ⟨_, rfl⟩
          obtain ⟨A, hA⟩ : ∃ A, A = stA bf v kn := ⟨_, rfl⟩
          have HBf := Lib.hid hbf
          rw [← hbf] at HSp HBF
          rw [← hA] at HSp
          have HA := Lib.hid hA
          have HR4 : Hid (w4.heap[w1.heap.size]? = some (.cells (rowU bf v) 53 (0, 0)) ∧ Below w1.heap.size w1 w4 ∧ w1.heap.size < wr.heap.size) := by
            have l1 := lt_of_block HR.out
            have e1 : w4.heap[w1.heap.size]? = wr.heap[w1.heap.size]? := by rw [hput4.block _ (by omega), Below.heap_alloc _ _ _ l1]
            have hb := HBe.out.alloc HBe.out.size (.map #[] 0)
            refine ⟨?_, ⟨hput4.os.trans hb.os, hput4.tape.trans hb.tape, hput4.output.trans hb.output, by rw [hput4.size]; exact hb.size, fun c hc => (hput4.block c (by omega)).trans (hb.block c hc)⟩, l1⟩
            rw [e1, HR.out, hbf]
            congr 2
            exact rowU_ext fun x hx => by unfold bfF; rw [if_pos hx]
          clear hA hbf hput4 HM hmk HR HBe
          go_loopg [14, 15] A (fun r p14 p15 wr => ∃ (rr bN : Nat) (S : List Int), rr + r = A ∧ p15 = .int .i64 (rr : Int) ∧ p14 = .map (some bN) ∧ w1.heap.size < bN ∧ MapSet .u64 wr bN S ∧ (∀ x, x ∈ S ↔ ∃ q : Nat, x = (q : Int) ∧ stP bf v kn rr q) ∧ wr.heap[w1.heap.size]? = some (.cells (rowU bf v) 53 (0, 0)) ∧ Below w1.heap.size w1 wr)
          case atStart => exact ⟨0, _, putS [] 0, by omega, rfl, rfl, HR4.out.2.2, HM4.out, fun x => by rw [mem_putS]; simp [stP], HR4.out.1, HR4.out.2.1⟩
          case round =>
            obtain ⟨rr, bN, S, hrr, rfl, rfl, hbN, hM, hS, hrow, hbel⟩ := hrel
            have HMr := Lib.hid hM
            have HS := Lib.hid hS
            have HRw := Lib.hid hrow
            have HBr := Lib.hid hbel
            clear hM hS hrow hbel HR4 HM4
            by_cases hend : rr = A
            · subst hend
              have HL : Hid (decide (((allM v : Nat) : Int) ∈ S) = true) := by
                have := (HS.out (allM v : Nat)).2 ⟨allM v, rfl, HSp.out.1⟩
                simpa [Hid] using this
              go_wp2_with (first
                | (at_lookup; refine wpList_lookup_set (by simp [Region.wanted]) (.tmp 68) (.tmp 69) 54 53 4 rfl .u64 .u64 Go.Proofs.Try.underlying54 Go.Proofs.Try.underlying53 (zero4 _) bN S rfl HMr.out ((allM v : Nat) : Int) rfl true HL.out ?_)
                | fail)
              go_ret2
              refine ⟨.nd .tu [.v (.int .i64 ((stA (fun x => bfK g x v) v kn : Nat) : Int)), .v (.int .i64 0)], ?_, ?_, ?_, sc2_fresh _ _⟩
              · rw [show stA (fun x => bfK g x v) v kn = rr by rw [HA.out, HBf.out]]; rfl
              · rw [HD.out kn (by omega) (by omega)]; rfl
              · exact below_trans hb1 HBr.out
            · obtain ⟨go, hgo⟩ : ∃ go, go = gk := ⟨gk, rfl⟩
              subst hgo
              have HL : Hid (decide (((allM v : Nat) : Int) ∈ S) = false) := by
                have : ¬ ((allM v : Nat) : Int) ∈ S := fun h => by
                  obtain ⟨q, h1, h2⟩ := (HS.out _).1 h
                  have : q = allM v := by omega
                  subst this
                  have := HSp.out.2.1 rr h2
                  omega
                simpa [Hid] using this
              have hmk : (Instr.makeMap 54 none).run Go.Proofs.Try.prog wr = .ok (.map (some wr.heap.size)) (wr.alloc (.map #[] 0)) := (run_makeMap_set .u64 54).1
              have lB := lt_of_block HRw.out
              have lN := HMr.out.lt
              have HW1 : Hid (MapSet .u64 ((wr.alloc (.map #[] 0)).alloc (.cells #[.map (some wr.heap.size)] 54)) bN S ∧ MapSet .u64 ((wr.alloc (.map #[] 0)).alloc (.cells #[.map (some wr.heap.size)] 54)) wr.heap.size [] ∧ ((wr.alloc (.map #[] 0)).alloc (.cells #[.map (some wr.heap.size)] 54)).heap[wr.heap.size + 1]? = some (.cells #[.map (some wr.heap.size)] 54 (0, 0)) ∧
                  ((wr.alloc (.map #[] 0)).alloc (.cells #[.map (some wr.heap.size)] 54)).heap[w1.heap.size]? = some (.cells (rowU bf v) 53 (0, 0)) ∧ Below w1.heap.size w1 ((wr.alloc (.map #[] 0)).alloc (.cells #[.map (some wr.heap.size)] 54))) := by
                have z : (wr.alloc (.map #[] 0)).heap.size = wr.heap.size + 1 := by simp
                refine ⟨HMr.out.same ?_, ((run_makeMap_set (P := Go.Proofs.Try.prog) (w := wr) .u64 54).2).same ?_, ?_, ?_, ?_⟩
                · rw [Below.heap_alloc _ _ _ (by omega), Below.heap_alloc _ _ _ lN]
                · rw [Below.heap_alloc _ _ _ (by omega)]
                · have := heap_new (wr.alloc (.map #[] 0)) (.cells #[.map (some wr.heap.size)] 54)
                  rw [z] at this
                  exact this
                · rw [Below.heap_alloc _ _ _ (by omega), Below.heap_alloc _ _ _ lB]; exact HRw.out
                · exact (HBr.out.alloc HBr.out.size _).alloc (by have := HBr.out.size; omega) _
              go_wp2_with (first
                | (at_lookup; refine wpList_lookup_set (by simp [Region.wanted]) (.tmp 68) (.tmp 69) 54 53 4 rfl .u64 .u64 Go.Proofs.Try.underlying54 Go.Proofs.Try.underlying53 (zero4 _) bN S rfl HMr.out ((allM v : Nat) : Int) rfl false HL.out ?_)
                | (at_range; refine wpList_range_set rfl (.tmp 73) 54 53 4 rfl .u64 Go.Proofs.Try.underlying54 bN S rfl HW1.out.1 ?_; intro w5 hrg hb5 hs5; have HRg := Lib.hid hrg; clear hrg)
                | fail)
              have HIn : Hid (RangeS .u64 w5 bN (wr.heap.size + 1 + 1) S [] ∧ MapSet .u64 w5 wr.heap.size [] ∧ w5.heap[wr.heap.size + 1]? = some (.cells #[.map (some wr.heap.size)] 54 (0, 0)) ∧ w5.heap[w1.heap.size]? = some (.cells (rowU bf v) 53 (0, 0)) ∧ Below w1.heap.size w1 w5 ∧ w1.heap.size < wr.heap.size ∧ bN < wr.heap.size) := by
                obtain ⟨q1, q2, q3, q4, q5⟩ := HW1.out
                have hr := HRg.out
                simp only [World.size_alloc] at hr
                have l2 := q2.lt
                have l3 := lt_of_block q3
                have l4 := lt_of_block q4
                exact ⟨hr, q2.same (hb5.block _ l2), by rw [hb5.block _ l3]; exact q3, by rw [hb5.block _ l4]; exact q4, q5.trans (hb5.mono q5.size), lB, lN⟩
              obtain ⟨wo, hwo⟩ : ∃ wo, wo = wr := ⟨wr, rfl⟩
              subst hwo
              clear HRg HW1 hmk lB lN hb5 hs5 HRw HBr HL
              simp only [World.size_alloc]
              go_frame
              go_loopg [] S.length (fun r wr => ∃ (D S' : List Int), D.length + r = S.length ∧ D.Nodup ∧ (∀ x, x ∈ D → x ∈ S) ∧ RangeS .u64 wr bN (wo.heap.size + 1 + 1) S D ∧ MapSet .u64 wr wo.heap.size S' ∧ (∀ x, x ∈ S' ↔ ∃ d : Nat, (d : Int) ∈ D ∧ ∃ p : Nat, p &&& rdyK bf d v = p ∧ pop p = min kn (pop (rdyK bf d v)) ∧ x = ((d ||| p : Nat) : Int)) ∧
                wr.heap[wo.heap.size + 1]? = some (.cells #[.map (some wo.heap.size)] 54 (0, 0)) ∧ wr.heap[w1.heap.size]? = some (.cells (rowU bf v) 53 (0, 0)) ∧ Below w1.heap.size w1 wr)
              case atStart => exact ⟨[], [], by simp, by simp, by simp, HIn.out.1, HIn.out.2.1, fun x => by simp, HIn.out.2.2.1, HIn.out.2.2.2.1, HIn.out.2.2.2.2.1⟩
              case round =>
                obtain ⟨D, S', hDl, hDn, hDs, hrg, hM', hS', hX, hrow, hbel⟩ := hrel
                have HDl := Lib.hid hDl
                have HDn := Lib.hid hDn
                have HDs := Lib.hid hDs
                have HRg := Lib.hid hrg
                have HM' := Lib.hid hM'
                have HS' := Lib.hid hS'
                have HX := Lib.hid hX
                have HRw := Lib.hid hrow
                have HBr := Lib.hid hbel
                clear hDl hDn hDs hrg hM' hS' hX hrow hbel
                have cX := cell_of_one HX.out
                go_wp2_with (first
                  | (at_next; refine wpList_next_set rfl (.tmp 74) rfl .u64 bN (wo.heap.size + 1 + 1) S D (by simp [Act.eval]) HRg.out ?_ ?_)
                  | fail)
                · intro hdone
                  have HDone := Lib.hid hdone
                  clear hdone
                  have hrb : rr + 1 ≤ 13 := by have := HSp.out.2.2; omega
                  go_wp2_with fail
                  go_roundg (go - 1)
                  case measure => omega
                  case rel =>
                    refine ⟨rr + 1, wo.heap.size, S', by omega, by go_num, rfl, HIn.out.2.2.2.2.2.1, HM'.out, fun x => ?_, HRw.out, HBr.out⟩
                    rw [HS'.out]
                    constructor
                    · rintro ⟨d, h1, p, h2, h3, h4⟩
                      obtain ⟨q, h5, h6⟩ := (HS.out _).1 (HDs.out _ h1)
                      have : d = q := by omega
                      subst this
                      exact ⟨d ||| p, h4, d, h6, p, h2, h3, rfl⟩
                    · rintro ⟨q, h1, d, h2, p, h3, h4, h5⟩
                      exact ⟨d, HDone.out _ ((HS.out _).2 ⟨d, rfl, h2⟩), p, h3, h4, by rw [h1, h5]⟩
                · intro x w6 hx1 hx2 hrg6 hput6 hen
                  obtain ⟨d, rfl, hd⟩ := (HS.out x).1 hx1
                  have hd4 := stP_lt h12 hd
                  have Hx1 := Lib.hid hx1
                  have Hx2 := Lib.hid hx2
                  have HRg6 := Lib.hid hrg6
                  have HPut6 := Lib.hid hput6
                  have Hd := Lib.hid hd
                  clear hx1 hx2 hrg6 hput6 hd
                  obtain ⟨wA, hwA⟩ : ∃ wA, wA = w6.alloc (.cells #[.int .u64 (d : Int)] 53) := ⟨_, rfl⟩
                  have HW7 : Hid (wA.heap[w6.heap.size]? = some (.cells #[.int .u64 (d : Int)] 53 (0, 0)) ∧ wA.heap[w1.heap.size]? = some (.cells (rowU bf v) 53 (0, 0)) ∧ wA.heap[wo.heap.size + 1]? = some (.cells #[.map (some wo.heap.size)] 54 (0, 0)) ∧ MapSet .u64 wA wo.heap.size S' ∧ RangeS .u64 wA bN (wo.heap.size + 1 + 1) S (D ++ [((d : Nat) : Int)]) ∧ Below w1.heap.size w1 wA ∧
                      w1.heap.size < wo.heap.size ∧ bN < wo.heap.size ∧ wo.heap.size + 2 < w6.heap.size ∧ wA.heap.size = w6.heap.size + 1) := by
                    have l1 := lt_of_block HRw.out
                    have h1 := HIn.out.2.2.2.2.2.1
                    have h2 := HIn.out.2.2.2.2.2.2
                    have hp := HPut6.out
                    have lM := HM'.out.lt
                    have lX := lt_of_block HX.out
                    have lR := HRg.out.lt
                    have hr6 := HRg6.out
                    have z := hp.size
                    have e : ∀ c, c < w6.heap.size → wA.heap[c]? = w6.heap[c]? := fun c hc => by rw [hwA]; exact Below.heap_alloc _ _ _ hc
                    refine ⟨by rw [hwA]; exact heap_new _ _, ?_, ?_, ?_, ?_, ?_, h1, h2, by omega, by rw [hwA]; simp⟩
                    · rw [e _ (by omega), hp.block _ (by omega)]; exact HRw.out
                    · rw [e _ (by omega), hp.block _ (by omega)]; exact HX.out
                    · exact HM'.out.same (by rw [e _ (by omega), hp.block _ (by omega)])
                    · exact hr6.same (e _ (by omega)) (e _ (by omega))
                    · have hb := HBr.out
                      have : Below w1.heap.size w1 w6 := ⟨hp.os.trans hb.os, hp.tape.trans hb.tape, hp.output.trans hb.output, by rw [hp.size]; exact hb.size, fun c hc => (hp.block c (by omega)).trans (hb.block c hc)⟩
                      rw [hwA]
                      exact this.alloc this.size _
                  go_wp2_with fail
                  obtain ⟨gi, hgi⟩ : ∃ gi, gi = gk := ⟨gk, rfl⟩
                  subst hgi
                  obtain ⟨wi, hwi⟩ : ∃ wi, wi = wr := ⟨wr, rfl⟩
                  subst hwi
                  go_loopg [18, 80] v (fun r p18 p80 wr => ∃ u : Nat, u + r = v ∧ p80 = .int .i64 (u : Int) ∧ p18 = .int .u64 ((rdyK bf d u : Nat) : Int) ∧ Below wA.heap.size wA wr)
                  case atStart => exact ⟨0, by omega, rfl, rfl, by rw [hwA]; exact .refl _ _⟩
                  case round =>
                    obtain ⟨u, hu, rfl, rfl, hbel⟩ := hrel
                    have HBe := Lib.hid hbel
                    clear hbel
                    by_cases hlt : u < v
                    · have cD : wr.cell? ⟨w6.heap.size, 0, none⟩ = some (.int .u64 (d : Int)) := cell_of_one (t := 53) (by rw [HBe.out.block _ (lt_of_block HW7.out.1)]; exact HW7.out.1)
                      have cB : wr.cell? ⟨w1.heap.size, u, none⟩ = some (.int .u64 ((bf u : Nat) : Int)) := row_cell (by rw [HBe.out.block _ (lt_of_block HW7.out.2.1)]; exact HW7.out.2.1) hlt
                      have hbu : bf u < 4096 := by rw [HBf.out]; exact bfK_lt g u h12
                      have hA1 := sh_and (u := u) hd4
                      have hA2 := an_not hbu hd4
                      have hru : rdyK bf d u < 4096 := Nat.lt_of_lt_of_le (rdyK_lt bf d u) (Nat.pow_le_pow_right (by omega) (show u ≤ 12 by omega))
                      have hsw := wrap_pow (n := u) (by omega)
                      have hor : Go.bits BinOp.or IntKind.u64 ((rdyK bf d u : Nat) : Int) ((pw u : Nat) : Int) = ((rdyK bf d u ||| pw u : Nat) : Int) := u64_or_nat _ _ (by omega) (Nat.lt_of_lt_of_le (pw_lt (t := u) (m := 12) (by omega)) (by decide))
                      have hw2 := wrap_succ (i := u) (by omega)
                      by_cases hdu : d.testBit u = true
                      · have HE : Hid (rdyK bf d (u + 1) = rdyK bf d u) := by rw [Hid, rdyK, hdu]; rfl
                        rw [hdu] at hA1
                        simp only [Bool.not_true] at hA1
                        clear hdu hbu hru
                        go_wp2_with fail
                        go_quiet (fail)
                        go_wp2_with fail
                        go_roundg (gk - 1)
                        case measure => omega
                        case rel => exact ⟨u + 1, by omega, by go_num, by rw [HE.out], HBe.out.trans ⟨rfl, rfl, rfl, Nat.le_refl _, fun _ _ => rfl⟩⟩
                      · rw [show d.testBit u = false by simpa using hdu] at hA1
                        simp only [Bool.not_false] at hA1
                        by_cases hsb : subB (bf u) d = true
                        · have HE : Hid (rdyK bf d (u + 1) = rdyK bf d u ||| pw u) := by rw [Hid, rdyK, hsb, if_pos (by simpa using hdu)]
                          rw [hsb] at hA2
                          clear hdu hbu hru hsb
                          go_wp2_with fail
                          go_quiet (fail)
                          go_wp2_with fail
                          go_roundg (gk - 1)
                          case measure => omega
                          case rel => exact ⟨u + 1, by omega, by go_num, by rw [HE.out], HBe.out.trans ⟨rfl, rfl, rfl, Nat.le_refl _, fun _ _ => rfl⟩⟩
                        · have HE : Hid (rdyK bf d (u + 1) = rdyK bf d u) := by rw [Hid, rdyK, if_neg (by simp [hsb])]
                          rw [show subB (bf u) d = false by simpa using hsb] at hA2
                          clear hdu hbu hru hsb
                          go_wp2_with fail
                          go_quiet (fail)
                          go_wp2_with fail
                          go_roundg (gk - 1)
                          case measure => omega
                          case rel => exact ⟨u + 1, by omega, by go_num, by rw [HE.out], HBe.out.trans ⟨rfl, rfl, rfl, Nat.le_refl _, fun _ _ => rfl⟩⟩
                    · obtain rfl : u = v := by omega
                      have hrv : rdyK bf d u < 4096 := Nat.lt_of_lt_of_le (rdyK_lt bf d u) (Nat.pow_le_pow_right (by omega) (show u ≤ 12 by omega))
                      go_wp2_with fail
                      refine (count_calls _ hrv wr).mono ?_
                      rintro e w8 ⟨rfl, hb8⟩
                      have hA8 : Below wA.heap.size wA w8 := below_trans HBe.out hb8
                      have HA8 := Lib.hid hA8
                      have HSub : Hid (∀ mk : Nat, mk = min kn (pop (rdyK bf d u)) → Calls Go.Proofs.Try.prog 37 #[.int .u64 (rdyK bf d u : Int), .int .i64 (mk : Int), .func (.func 39) #[] #[.pointer (some ⟨wo.heap.size + 1, 0, none⟩), .pointer (some ⟨w6.heap.size, 0, none⟩)]] w8 fun e w' =>
                          e = .returned (.tuple #[]) ∧ (∃ S'', MapSet .u64 w' wo.heap.size S'' ∧ ∀ x, x ∈ S'' ↔ Subs (rdyK bf d u) (min kn (pop (rdyK bf d u))) d S' x) ∧ w8.grownBy w' (some wo.heap.size)) := by
                        obtain ⟨q1, q2, q3, q4, q5, q6, q7, q8, q9, q10⟩ := HW7.out
                        intro mk hmk
                        subst hmk
                        refine subsets_any _ _ d (wo.heap.size + 1) w6.heap.size wo.heap.size S' w8 hrv hd4 (by omega) (by omega) ?_ ?_ ?_
                        · exact cell_of_one (t := 54) (by rw [hA8.block _ (by omega)]; exact q3)
                        · exact cell_of_one (t := 53) (by rw [hA8.block _ (by omega)]; exact q1)
                        · exact q4.same (hA8.block _ (by omega))
                      clear hA8 hb8 HBe
                      go_wp2_with fail
                      all_goals
                        refine (HSub.out _ (by omega)).mono ?_
                        rintro e w9 ⟨rfl, ⟨S'', hM9, hS9⟩, hg9⟩
                        have HM9 := Lib.hid hM9
                        have HS9 := Lib.hid hS9
                        have HG9 := Lib.hid hg9
                        clear hM9 hS9 hg9 HSub
                        go_wp2_with fail
                        have hlen : D.length + 1 ≤ S.length := by
                          have := nod_sub' (D ++ [((d : Nat) : Int)]) S (by
                            rw [List.nodup_append]
                            refine ⟨HDn.out, by simp, fun x h1 y h2 => ?_⟩
                            rw [List.mem_singleton] at h2
                            subst h2
                            exact fun e => Hx2.out (by rw [← e]; exact h1)) (fun x hx => by
                            rcases List.mem_append.1 hx with h | h
                            · exact HDs.out x h
                            · rw [List.mem_singleton.1 h]; exact Hx1.out)
                          simpa using this
                        have hdl := HDl.out
                        go_roundg (gi - 1)
                        case measure => omega
                        case rel =>
                          obtain ⟨q1, q2, q3, q4, q5, q6, q7, q8, q9, q10⟩ := HW7.out
                          have g9 := HG9.out
                          have a8 := HA8.out
                          have z8 := a8.size
                          have e9 : ∀ c, c < wA.heap.size → c ≠ wo.heap.size → w9.heap[c]? = wA.heap[c]? := fun c h1 h2 => by
                            rw [g9.block c (by omega) (fun e => h2 (Option.some.inj e)), a8.block c h1]
                          refine ⟨D ++ [((d : Nat) : Int)], S'', by simp only [List.length_append, List.length_singleton]; omega, ?_, ?_, q5.same (e9 _ (by omega) (by omega)) (e9 _ (by omega) (by omega)), HM9.out, fun x => ?_, ?_, ?_, ?_⟩
                          · rw [List.nodup_append]
                            refine ⟨HDn.out, by simp, fun x h1 y h2 => ?_⟩
                            rw [List.mem_singleton] at h2
                            subst h2
                            exact fun e => Hx2.out (by rw [← e]; exact h1)
                          · intro x hx
                            rcases List.mem_append.1 hx with h | h
                            · exact HDs.out x h
                            · rw [List.mem_singleton.1 h]; exact Hx1.out
                          · rw [HS9.out]
                            unfold Subs
                            rw [HS'.out]
                            constructor
                            · rintro (⟨d', h1, p, h2, h3, h4⟩ | ⟨p, h2, h3, h4⟩)
                              · exact ⟨d', List.mem_append.2 (.inl h1), p, h2, h3, h4⟩
                              · exact ⟨d, by simp, p, h2, h3, h4⟩
                            · rintro ⟨d', h1, p, h2, h3, h4⟩
                              rcases List.mem_append.1 h1 with h | h
                              · exact .inl ⟨d', h, p, h2, h3, h4⟩
                              · have : d' = d := by have := List.mem_singleton.1 h; omega
                                subst this
                                exact .inr ⟨p, h2, h3, h4⟩
                          · rw [e9 _ (by omega) (by omega)]; exact q3
                          · rw [e9 _ (by omega) (by omega)]; exact q2
                          · exact ⟨g9.os.trans (a8.os.trans q6.os), g9.tape.trans (a8.tape.trans q6.tape), g9.output.trans (a8.output.trans q6.output), by have := g9.size; have := q6.size; omega, fun c hc => (e9 c (by have := q6.size; omega) (by omega)).trans (q6.block c hc)⟩
    · by_cases h1 : k < 1
      · have hd1 : decide (k < 1) = true := by simp; omega
        go_wp2_with fail
        go_ret2
        exact ⟨.nd .tu [.v (.int .i64 0), .v (.int .i64 2)], rfl, by rw [HD2.out hk]; rfl, hb1, sc2_fresh _ _⟩
      · have hd1 : decide (k < 1) = false := by simp; omega
        have hd2 : decide (12 < k) = true := by simp; omega
        go_wp2_with fail
        go_ret2
        exact ⟨.nd .tu [.v (.int .i64 0), .v (.int .i64 2)], rfl, by rw [HD2.out hk]; rfl, hb1, sc2_fresh _ _⟩
  · have ht' : er t = .nd .tu [gsl (eI .u64) true [], .v (.int .i64 (ckE n a))] := by rw [ht, ckD, if_neg hck]
    obtain ⟨t1, rfl, h1⟩ := tu2 ht'
    obtain ⟨oa, oc, e1, _⟩ := int_tree h1 hf1.mem.2.1
    have e2 : val (.nd .tu [t1, .v (.int .i64 (ckE n a))]) = .tuple #[.slice oa 0 oc, .int .i64 (ckE n a)] := by
      show Value.tuple (valL [t1, .v _]).toArray = _
      rw [valL, valL, valL, e1]
      rfl
    rw [e2]
    have hD : Hid (er (.nd .tu [.v (.int .i64 0), .v (.int .i64 (ckE n a))] : C) = stD n a k) := by rw [Hid, stD, if_neg hck]; rfl
    have hne : (ckE n a == 0) = false := by simpa using hck
    generalize ckE n a = ck at *
    go_wp2_with fail
    go_ret2
    exact ⟨.nd .tu [.v (.int .i64 0), .v (.int .i64 ck)], rfl, hD.out, hb1, sc2_fresh _ _⟩
end Go.Mx
namespace Go.Mx
set_option linter.unusedVariables false
set_option linter.unusedSimpArgs false
set_option linter.unusedSectionVars false
open Go

abbrev w8 (n : Int) : V := .sc (.int .u64 n)
/-- Is the i-th of a list refused? -/
def badV (p : Nat → Nat → Bool) (n s : Nat) (l : List Int) (i : Nat) : Bool :=
  decide (nth l 0 i < 0) || decide ((n : Int) ≤ nth l 0 i) || s.testBit (nth l 0 i).toNat || (decide (0 < i) && !p (nth l 0 (i - 1)).toNat (nth l 0 i).toNat)
def seenN (s : Nat) (l : List Int) (i : Nat) : Nat := (l.take i).foldl (fun s v => s ||| pw v.toNat) s
theorem seenN_succ (s : Nat) {l : List Int} {i : Nat} (h : i < l.length) : seenN s l (i + 1) = seenN s l i ||| pw (nth l 0 i).toNat := foldl_take _ s 0 h
abbrev badB (p : Nat → Nat → Bool) (n s : Nat) (l : List Int) (i : Nat) : Bool := badV p n (seenN s l i) l i
def badL (p : Nat → Nat → Bool) (n s : Nat) (l : List Int) : Bool := (List.range l.length).any fun i => badB p n s l i
theorem bad_not {p : Nat → Nat → Bool} {n s : Nat} {l : List Int} {i : Nat} (h : badV p n s l i = false) : 0 ≤ nth l 0 i ∧ nth l 0 i < n ∧ s.testBit (nth l 0 i).toNat = false ∧ (0 < i → p (nth l 0 (i - 1)).toNat (nth l 0 i).toNat = true) := by
  simp only [badV, Bool.or_eq_false_iff, decide_eq_false_iff_not, Bool.and_eq_false_iff, Bool.not_eq_false'] at h
  refine ⟨by omega, by omega, h.1.2, fun hi => ?_⟩
  rcases h.2 with h | h
  · exact absurd hi h
  · exact h
theorem seen_lt {p : Nat → Nat → Bool} {n s : Nat} (hn : n ≤ 12) (hs : s < 4096) {l : List Int} : ∀ {i : Nat}, i ≤ l.length → (∀ k, k < i → badB p n s l k = false) → seenN s l i < 4096
  | 0, _, _ => hs
  | i + 1, hi, hb => by
    rw [seenN_succ s (by omega)]
    have h1 := seen_lt hn hs (i := i) (by omega) fun k hk => hb k (by omega)
    obtain ⟨h2, h3, _⟩ := bad_not (hb i (by omega))
    exact Nat.or_lt_two_pow (n := 12) h1 (pw_lt (by omega))
theorem loop30_1 (call : Oracle) (fuel : Nat) (n : Nat) (hn : n ≤ 12) (g : Nat → Nat) (b : Bool) (cs : List (Bool × List Int)) (j : Nat) (hj : j < cs.length) (c : Bool) (l : List Int) (hcl : nth cs (true, []) j = (c, l)) (hl : l.length ≤ 900) (s : Nat) (hs : s < 4096)
    (h36 : ∀ u v : Nat, u < n → v < n → call 36 [su6 n g, .v (.int .i64 (u : Int)), .v (.int .i64 (v : Int))] = some (.v (.bool (Rb g u v)))) (s26 : V) (h26 : s26 = .rad (gk eII cs) j) (fu : Nat) (hf : 1000 < fu) (st : St)
    (h0 : drops st h30_1 = L30_1 (ii n) (.ro (gsl eII b cs)) (.own (su6 n g)) (w8 (s : Nat)) (.ro (si c l)) (.ro (gsl eII b cs)) (ii cs.length) (ii j) s26 (.ro (si c l)) (.ro (si c l)) (ii l.length) (ii 0)) :
    run.loopN (run call fuel b30_1) fu st = some (if badL (Rb g) n s l = true then (.ret, R30 (bb false)) else (.ex 2, X30_2 (ii n) (.ro (gsl eII b cs)) (.own (su6 n g)) (w8 (seenN s l l.length : Nat)) (.ro (gsl eII b cs)) (ii cs.length) (ii j))) := by
  subst h26
  refine loop_any call fuel h30_1 _ l.length (fun i => badB (Rb g) n s l i) (fun i => L30_1 (ii n) (.ro (gsl eII b cs)) (.own (su6 n g)) (w8 (seenN s l i : Nat)) (.ro (si c l)) (.ro (gsl eII b cs)) (ii cs.length) (ii j) (.rad (gk eII cs) j) (.ro (si c l)) (.ro (si c l)) (ii l.length) (ii i)) (.ret, R30 (bb false)) _ (by intro h; cases h) (by intro h; cases h) ?_ (by simp) fu st h0 (by omega)
  intro i hi hprev
  have hw := wrap_succ (i := i) (by omega)
  have hpr := wrap_pred (i := i) (by omega)
  have hsl := seen_lt (p := Rb g) hn hs (i := i) (by omega) hprev
  have hpv : 0 < i → ∃ u : Nat, nth l 0 (i - 1) = (u : Int) ∧ u < n := fun hi0 => by
    obtain ⟨h1, h2, _⟩ := bad_not (hprev (i - 1) (by omega))
    exact ⟨(nth l 0 (i - 1)).toNat, by omega, by omega⟩
  rw [seenN_succ s hi]
  unfold badB badV
  generalize seenN s l i = S at *
  generalize hx : nth l 0 i = x at *
  by_cases c1 : x < 0
  · simp [hi, hx, c1]
  · by_cases c2 : (n : Int) ≤ x
    · simp [hi, hx, c1, c2]
    · obtain ⟨v, rfl⟩ : ∃ v : Nat, x = (v : Int) := ⟨x.toNat, by omega⟩
      have hvn : v < n := by omega
      have e1 := bits_shr .u64 S v (by simp [IntKind.bits]; omega)
      have e2 := bits_bit .u64 (show S < 2 ^ 64 by omega) v
      have e3 := bits_shl1 .u64 (t := v) (show v < 64 by omega)
      have e4 := bits_or .u64 (show S < 2 ^ 64 by omega) (b := pw v) (pw_lt (m := 64) (by omega))
      have c1' : ¬ ((v : Nat) : Int) < 0 := c1
      simp only [Int.toNat_natCast]
      cases hb : S.testBit v <;> rw [hb] at e2
      · by_cases hi0 : 0 < i
        · obtain ⟨u, hu, hun⟩ := hpv hi0
          have e5 := h36 u v hun hvn
          have hi1 : i - 1 < l.length := by omega
          have hi0' : (0 : Int) < (i : Int) := by omega
          generalize zr n g = Z at *
          rw [hu]
          simp only [Int.toNat_natCast]
          by_cases hr : Rb g u v = true
          · rw [hr] at e5
            simp [hi, hx, c1', c2, e1, e2, e3, e4, hw, hpr, hi0, hi0', hi1, hu, e5, hr]
          · have hr : Rb g u v = false := by simpa using hr
            rw [hr] at e5
            simp [hi, hx, c1', c2, e1, e2, e3, e4, hw, hpr, hi0, hi0', hi1, hu, e5, hr]
        · have hi0' : ¬ (0 : Int) < (i : Int) := by omega
          simp [hi, hx, c1', c2, e1, e2, e3, e4, hw, hi0, hi0']
      · simp [hi, hx, c1', c2, e1, e2]
theorem assign_gr {α : Type} (e : En α) (st : St) (dst : Nat) (c : Bool) (l : List α) (h : c = false ∨ l ≠ []) : assign st dst (.ro (gsl e c l)) = some (setv st dst (.ro (gsl e c l))) := by
  cases c with
  | false => rfl
  | true =>
    cases l with
    | nil => rcases h with h | h
             · cases h
             · exact absurd rfl h
    | cons x l => rfl
/-- What has been seen after so many lists. -/
def seenC (cs : List (Bool × List Int)) (j : Nat) : Nat := (cs.take j).foldl (fun s c => seenN s c.2 c.2.length) 0
theorem seenC_succ {cs : List (Bool × List Int)} {j : Nat} (h : j < cs.length) : seenC cs (j + 1) = seenN (seenC cs j) (nth cs (true, []) j).2 (nth cs (true, []) j).2.length := foldl_take (fun s (c : Bool × List Int) => seenN s c.2 c.2.length) 0 (true, []) h
def badC (p : Nat → Nat → Bool) (n : Nat) (cs : List (Bool × List Int)) (j : Nat) : Bool := decide ((nth cs (true, []) j).2.length = 0) || badL p n (seenC cs j) (nth cs (true, []) j).2
theorem seenC_lt {p : Nat → Nat → Bool} {n : Nat} (hn : n ≤ 12) {cs : List (Bool × List Int)} : ∀ {j : Nat}, j ≤ cs.length → (∀ k, k < j → badC p n cs k = false) → seenC cs j < 4096
  | 0, _, _ => by simp [seenC]
  | j + 1, hj, hb => by
    rw [seenC_succ (by omega)]
    have h1 := seenC_lt hn (j := j) (by omega) fun k hk => hb k (by omega)
    have h2 := hb j (by omega)
    simp only [badC, Bool.or_eq_false_iff] at h2
    refine seen_lt (p := p) hn h1 (Nat.le_refl _) fun k hk => ?_
    have := (any_range _ _).1 h2.2 k hk
    simpa using this
/-- Are lists a partition into chains? -/
def isC (p : Nat → Nat → Bool) (n : Nat) (cs : List (Bool × List Int)) : Bool := !(List.range cs.length).any (badC p n cs) && pop (seenC cs cs.length) == n
theorem loop30_0 (call : Oracle) (fuel : Nat) (hF : 1000 < fuel) (n : Nat) (hn : n ≤ 12) (g : Nat → Nat) (b : Bool) (cs : List (Bool × List Int)) (hc : cs.length ≤ 900) (hl : ∀ c ∈ cs, c.2.length ≤ 900)
    (h36 : ∀ u v : Nat, u < n → v < n → call 36 [su6 n g, .v (.int .i64 (u : Int)), .v (.int .i64 (v : Int))] = some (.v (.bool (Rb g u v)))) (st : St)
    (h0 : drops st h30_0 = L30_0 (ii n) (.ro (gsl eII b cs)) (.own (su6 n g)) (w8 0) (.ro (gsl eII b cs)) (ii cs.length) (ii 0)) :
    run.loopN (run call fuel b30_0) fuel st = some (if (List.range cs.length).any (badC (Rb g) n cs) = true then (.ret, R30 (bb false)) else (.ex 0, X30_0 (ii n) (w8 (seenC cs cs.length : Nat)))) := by
  refine loop_any call fuel h30_0 _ cs.length (badC (Rb g) n cs) (fun j => L30_0 (ii n) (.ro (gsl eII b cs)) (.own (su6 n g)) (w8 (seenC cs j : Nat)) (.ro (gsl eII b cs)) (ii cs.length) (ii j)) (.ret, R30 (bb false)) _ (by intro h; cases h) (by intro h; cases h) ?_ (by simp) fuel st h0 (by omega)
  intro j hj hprev
  have hw := wrap_succ (i := j) (by omega)
  have hs := seenC_lt (p := Rb g) hn (j := j) (by omega) hprev
  have hll := hl _ (nth_mem (true, []) hj)
  rw [seenC_succ hj]
  unfold badC
  obtain ⟨c, l, hcl⟩ : ∃ c l, nth cs (true, []) j = (c, l) := ⟨_, _, rfl⟩
  have hL := loop30_1 call fuel n hn g b cs j hj c l hcl (by rw [hcl] at hll; exact hll) (seenC cs j) hs h36 _ rfl fuel hF
  rw [hcl]
  simp only
  generalize seenC cs j = S at *
  generalize seenN S l l.length = S' at *
  generalize hbl : badL (Rb g) n S l = t at *
  by_cases h00 : l = []
  · subst h00
    cases c
    · have ha := fun st dst => assign_gr (eI .i64) st dst false [] (.inl rfl)
      simp [hj, hcl, ha]
    · simp [hj, hcl]
  · have ha := fun st dst => assign_gr (eI .i64) st dst c l (.inr h00)
    have h00' : ¬ l.length = 0 := by simpa using h00
    simp [hj, hcl, h00, ha]
    rw [hL _ (by simp)]
    cases t <;> simp [hw]
theorem f30 (call : Oracle) (fuel : Nat) (hF : 1000 < fuel) (b c : Bool) (n : Int) (a : List (Int × Int)) (cs : List (Bool × List Int)) (hc : cs.length ≤ 900) (hl : ∀ c ∈ cs, c.2.length ≤ 900)
    (h33 : call 33 [.v (.int .i64 n), sa b a] = some (ckD n a)) (h38 : ∀ x : Nat, x < 4096 → call 38 [.v (.int .u64 (x : Int))] = some (.v (.int .i64 ((pop x : Nat) : Int))))
    (h36 : ckE n a = 0 → ∀ u v : Nat, u < n.toNat → v < n.toNat → call 36 [su6 n.toNat (ordG n a), .v (.int .i64 (u : Int)), .v (.int .i64 (v : Int))] = some (.v (.bool (Rb (ordG n a) u v)))) :
    callF call fuel c30 [.v (.int .i64 n), sa b a, gsl eII c cs] = some (.v (.bool (if ckE n a = 0 then isC (oR n a) n.toNat cs else false))) := by
  rw [callF_tab call fuel c30 34 _ (by exact Nat.le_of_ble_eq_true rfl) (by exact Nat.le_of_ble_eq_true rfl)]
  unfold ckD at h33
  by_cases he : ckE n a = 0
  · rw [if_pos he] at h33 ⊢
    have h36 := h36 he
    obtain ⟨k, rfl, h12, hv, _⟩ := ck_ok he
    simp only [Int.toNat_natCast] at h33 h36 ⊢
    unfold oR isC
    generalize ordG k a = g at *
    have hL := loop30_0 call fuel hF k h12 g c cs hc hl h36
    have hlt : (List.range cs.length).any (badC (Rb g) k cs) = false → seenC cs cs.length < 4096 := fun h => seenC_lt (p := Rb g) h12 (Nat.le_refl _) fun j hj => by
      have := (any_range _ _).1 h j hj
      simpa using this
    generalize hS : seenC cs cs.length = S at *
    generalize (List.range cs.length).any (badC (Rb g) k cs) = t at *
    simp [c30, h33]
    rw [hL _ (by simp)]
    cases t
    · have e := h38 S (hlt rfl)
      by_cases hp : pop S = k
      · have hp' : ((pop S : Nat) : Int) = (k : Int) := by omega
        simp [e, hp']
        exact hp
      · have hp' : ¬ ((pop S : Nat) : Int) = (k : Int) := by omega
        simp [e, hp']
        rw [Bool.eq_iff_iff]
        simp
        omega
    · simp
  · rw [if_neg he] at h33 ⊢
    generalize ckE n a = e at *
    simp [c30, h33, he]
/-! ### the reference's -/
/-- What has been seen, as a row. -/
def rowS (n S : Nat) : List Bool := row n fun v => S.testBit v
@[simp] theorem rowS_len (n S : Nat) : (rowS n S).length = n := row_len _ _
theorem rowS_nth (n S : Nat) {v : Nat} (h : v < n) : nth (rowS n S) false v = S.testBit v := nth_row _ _ _ h
abbrev snR (n S : Nat) : D := gsl eB false (rowS n S)
theorem snR_set (n S v : Nat) : (rowS n S).set v true = rowS n (S ||| pw v) := by
  unfold rowS
  rw [row_set]
  apply row_ext
  intro u _
  unfold updF
  rw [Nat.testBit_or, pw_bit]
  by_cases h : u = v
  · subst h; simp
  · have : ¬ v = u := fun e => h e.symm
    simp [h, this]
theorem loop31_1 (call : Oracle) (fuel : Nat) (n : Nat) (hn : n ≤ 12) (p : Nat → Nat → Bool) (b z : Bool) (cs : List (Bool × List Int)) (j : Nat) (hj : j < cs.length) (c : Bool) (l : List Int) (hcl : nth cs (true, []) j = (c, l)) (hl : l.length ≤ 900) (s : Nat) (hs : s < 4096) (L : Int) (hL : -1000000 ≤ L ∧ L ≤ 1000)
    (h41 : ∀ v a b : Int, call 41 [.v (.int .i64 v), .v (.int .i64 a), .v (.int .i64 b)] = some (.v (.bool (decide (a ≤ v) && decide (v ≤ b))))) (fu : Nat) (hf : 1000 < fu) (st : St)
    (h0 : drops st h31_1 = L31_1 (ii n) (.ro (gsl eII b cs)) (.own (gsl (eL eB) z (tb2 n n p))) (.own (snR n s)) (ii L) (ii j) (ii 0)) :
    run.loopN (run call fuel b31_1) fu st = some (if badL p n s l = true then (.ret, R31 (bb false)) else (.ex 2, X31_2 (ii n) (.ro (gsl eII b cs)) (.own (gsl (eL eB) z (tb2 n n p))) (.own (snR n (seenN s l l.length))) (ii (L - l.length)) (ii j))) := by
  refine loop_any call fuel h31_1 _ l.length (fun i => badB p n s l i) (fun i => L31_1 (ii n) (.ro (gsl eII b cs)) (.own (gsl (eL eB) z (tb2 n n p))) (.own (snR n (seenN s l i))) (ii (L - i)) (ii j) (ii i)) (.ret, R31 (bb false)) _ (by intro h; cases h) (by intro h; cases h) ?_ (by simp [hj, hcl]) fu st (by rw [show seenN s l 0 = s from rfl]; simpa using h0) (by omega)
  intro i hi hprev
  have hw := wrap_succ (i := i) (by omega)
  have hpr := wrap_pred (i := i) (by omega)
  have hsl := seen_lt (p := p) hn hs (i := i) (by omega) hprev
  have hpv : 0 < i → ∃ u : Nat, nth l 0 (i - 1) = (u : Int) ∧ u < n := fun hi0 => by
    obtain ⟨h1, h2, _⟩ := bad_not (hprev (i - 1) (by omega))
    exact ⟨(nth l 0 (i - 1)).toNat, by omega, by omega⟩
  have hnw : IntKind.i64.wrap ((n : Int) - 1) = (n : Int) - 1 := wrap_eq (by unfold I64; omega)
  have hLw : IntKind.i64.wrap (L - (i : Int) - 1) = L - ((i + 1 : Nat) : Int) := by
    rw [wrap_eq (by unfold I64; omega)]
    omega
  have h41i := h41 (nth l 0 i) 0 ((n : Int) - 1)
  rw [seenN_succ s hi]
  unfold badB badV
  generalize seenN s l i = S at *
  generalize hx : nth l 0 i = x at *
  by_cases c1 : x < 0
  · have c1' : ¬ 0 ≤ x := by omega
    simp [hi, hj, hcl, hx, c1, c1', h41i, hnw]
  · have c1' : 0 ≤ x := by omega
    by_cases c2 : (n : Int) ≤ x
    · have c2' : ¬ x ≤ (n : Int) - 1 := by omega
      simp [hi, hj, hcl, hx, c1, c1', c2, c2', h41i, hnw]
    · obtain ⟨v, rfl⟩ : ∃ v : Nat, x = (v : Int) := ⟨x.toNat, by omega⟩
      have hvn : v < n := by omega
      have c2' : ((v : Nat) : Int) ≤ (n : Int) - 1 := by omega
      have c1' : ¬ ((v : Nat) : Int) < 0 := c1
      have hset := snR_set n S v
      have hnth := rowS_nth n S hvn
      simp only [Int.toNat_natCast]
      simp only [c2', decide_true, Bool.and_true] at h41i
      have h41j : call 41 [.v (.int .i64 (v : Int)), .v (.int .i64 0), .v (.int .i64 ((n : Int) - 1))] = some (.v (.bool true)) := by rw [h41i]; simp
      by_cases hb : S.testBit v = true
      · rw [hb] at hnth
        simp [hi, hj, hcl, hx, c1', c2, h41j, hnw, hvn, hnth, hb]
      · have hb : S.testBit v = false := by simpa using hb
        rw [hb] at hnth
        by_cases hi0 : 0 < i
        · obtain ⟨u, hu, hun⟩ := hpv hi0
          have hi1 : i - 1 < l.length := by omega
          have hi0' : (0 : Int) < (i : Int) := by omega
          rw [hu]
          simp only [Int.toNat_natCast]
          by_cases hr : p u v = true
          · simp [hi, hj, hcl, hx, c1', c2, h41j, hnw, hvn, hnth, hb, hw, hpr, hi0, hi0', hi1, hu, hun, tb2_nth, nth_row, hr, hset, hLw]
          · have hr : p u v = false := by simpa using hr
            simp [hi, hj, hcl, hx, c1', c2, h41j, hnw, hvn, hnth, hb, hw, hpr, hi0, hi0', hi1, hu, hun, tb2_nth, nth_row, hr, hset, hLw]
        · have hi0' : ¬ (0 : Int) < (i : Int) := by omega
          simp [hi, hj, hcl, hx, c1', c2, h41j, hnw, hvn, hnth, hb, hw, hi0, hi0', hset, hLw]
/-- How long the first lists are together. -/
def sumL (cs : List (Bool × List Int)) (j : Nat) : Nat := (cs.take j).foldl (fun s c => s + c.2.length) 0
theorem sumL_succ {cs : List (Bool × List Int)} {j : Nat} (h : j < cs.length) : sumL cs (j + 1) = sumL cs j + (nth cs (true, []) j).2.length := foldl_take (fun s (c : Bool × List Int) => s + c.2.length) 0 (true, []) h
theorem sumL_le {cs : List (Bool × List Int)} (hl : ∀ c ∈ cs, c.2.length ≤ 900) : ∀ {j : Nat}, j ≤ cs.length → sumL cs j ≤ 900 * j
  | 0, _ => by simp [sumL]
  | j + 1, hj => by
    rw [sumL_succ (by omega)]
    have := sumL_le hl (j := j) (by omega)
    have := hl _ (nth_mem (true, []) (show j < cs.length by omega))
    omega
theorem pop_pw {S v : Nat} (hv : v < 12) (h : S.testBit v = false) : pop (S ||| pw v) = pop S + 1 := by
  rw [pop_or fun i hi => by
    rw [pw_bit] at hi
    have : v = i := by simpa using hi.2
    subst this
    rw [h] at hi
    simp at hi]
  congr 1
  unfold pop
  have : (List.range 12).filter (fun i => (pw v).testBit i) = [v] := by
    have hall : ∀ v, v < 12 → (List.range 12).filter (fun i => (pw v).testBit i) = [v] := by decide +kernel
    exact hall v hv
  rw [this]
  rfl
theorem seen_pop {p : Nat → Nat → Bool} {n s : Nat} (hn : n ≤ 12) {l : List Int} : ∀ {i : Nat}, i ≤ l.length → (∀ k, k < i → badB p n s l k = false) → pop (seenN s l i) = pop s + i
  | 0, _, _ => rfl
  | i + 1, hi, hb => by
    rw [seenN_succ s (by omega)]
    have h1 := seen_pop hn (i := i) (by omega) fun k hk => hb k (by omega)
    obtain ⟨h2, h3, h4, _⟩ := bad_not (hb i (by omega))
    rw [pop_pw (by omega) h4, h1]
    omega
theorem seenC_pop {p : Nat → Nat → Bool} {n : Nat} (hn : n ≤ 12) {cs : List (Bool × List Int)} : ∀ {j : Nat}, j ≤ cs.length → (∀ k, k < j → badC p n cs k = false) → pop (seenC cs j) = sumL cs j
  | 0, _, _ => show pop 0 = 0 by decide
  | j + 1, hj, hb => by
    rw [seenC_succ (by omega), sumL_succ (by omega)]
    have h1 := seenC_pop hn (j := j) (by omega) fun k hk => hb k (by omega)
    have h2 := hb j (by omega)
    simp only [badC, Bool.or_eq_false_iff] at h2
    rw [seen_pop (p := p) hn (Nat.le_refl _) fun k hk => by
      have := (any_range _ _).1 h2.2 k hk
      simpa using this]
    rw [h1]
theorem loop31_0 (call : Oracle) (fuel : Nat) (hF : 1000 < fuel) (n : Nat) (hn : n ≤ 12) (p : Nat → Nat → Bool) (b z : Bool) (cs : List (Bool × List Int)) (hc : cs.length ≤ 900) (hl : ∀ c ∈ cs, c.2.length ≤ 900)
    (h41 : ∀ v a b : Int, call 41 [.v (.int .i64 v), .v (.int .i64 a), .v (.int .i64 b)] = some (.v (.bool (decide (a ≤ v) && decide (v ≤ b))))) (st : St)
    (h0 : drops st h31_0 = L31_0 (ii n) (.ro (gsl eII b cs)) (.own (gsl (eL eB) z (tb2 n n p))) (.own (snR n 0)) (ii n) (ii 0)) :
    run.loopN (run call fuel b31_0) fuel st = some (if (List.range cs.length).any (badC p n cs) = true then (.ret, R31 (bb false)) else (.ex 0, X31_0 (ii ((n : Int) - (sumL cs cs.length : Nat))))) := by
  refine loop_any call fuel h31_0 _ cs.length (badC p n cs) (fun j => L31_0 (ii n) (.ro (gsl eII b cs)) (.own (gsl (eL eB) z (tb2 n n p))) (.own (snR n (seenC cs j))) (ii ((n : Int) - (sumL cs j : Nat))) (ii j)) (.ret, R31 (bb false)) _ (by intro h; cases h) (by intro h; cases h) ?_ (by simp) fuel st (by rw [show seenC cs 0 = 0 from rfl, show sumL cs 0 = 0 from rfl]; simpa using h0) (by omega)
  intro j hj hprev
  have hw := wrap_succ (i := j) (by omega)
  have hs := seenC_lt (p := p) hn (j := j) (by omega) hprev
  have hll := hl _ (nth_mem (true, []) hj)
  have hsum := sumL_le hl (j := j) (by omega)
  rw [seenC_succ hj, sumL_succ hj]
  unfold badC
  obtain ⟨c, l, hcl⟩ : ∃ c l, nth cs (true, []) j = (c, l) := ⟨_, _, rfl⟩
  have hL := loop31_1 call fuel n hn p b z cs j hj c l hcl (by rw [hcl] at hll; exact hll) (seenC cs j) hs ((n : Int) - (sumL cs j : Nat)) (by omega) h41 fuel hF
  rw [hcl]
  simp only
  have he : (n : Int) - ((sumL cs j + l.length : Nat) : Int) = (n : Int) - (sumL cs j : Nat) - (l.length : Int) := by omega
  rw [he]
  generalize seenC cs j = S at *
  generalize (n : Int) - (sumL cs j : Nat) = M at *
  generalize seenN S l l.length = S' at *
  generalize hbl : badL p n S l = t at *
  by_cases h00 : l.length = 0
  · simp [hj, hcl, h00]
  · simp [hj, hcl, h00]
    rw [hL _ (by simp)]
    cases t <;> simp [hw]
theorem f31 (call : Oracle) (fuel : Nat) (hF : 1000 < fuel) (b c : Bool) (n : Int) (a : List (Int × Int)) (cs : List (Bool × List Int)) (hc : cs.length ≤ 900) (hl : ∀ c ∈ cs, c.2.length ≤ 900)
    (h40 : call 40 [.v (.int .i64 n), sa b a] = some (.v (.int .i64 (ckE n a))))
    (h47 : validB n a = true → call 47 [.v (.int .i64 n), sa b a] = some (tB n.toNat (tbl35 (rea n a))))
    (h41 : ∀ v a b : Int, call 41 [.v (.int .i64 v), .v (.int .i64 a), .v (.int .i64 b)] = some (.v (.bool (decide (a ≤ v) && decide (v ≤ b))))) :
    callF call fuel c31 [.v (.int .i64 n), sa b a, gsl eII c cs] = some (.v (.bool (if ckE n a = 0 then isC (tbl35 (rea n a)) n.toNat cs else false))) := by
  rw [callF_tab call fuel c31 13 _ (by exact Nat.le_of_ble_eq_true rfl) (by exact Nat.le_of_ble_eq_true rfl)]
  by_cases he : ckE n a = 0
  · rw [he] at h40
    rw [if_pos he]
    obtain ⟨k, rfl, h12, hv, _⟩ := ck_ok he
    have h47 := h47 hv
    simp only [Int.toNat_natCast] at h47 ⊢
    generalize tbl35 (rea k a) = p at *
    have hL := loop31_0 call fuel hF k h12 p c (k == 0) cs hc hl h41
    have hpop : (List.range cs.length).any (badC p k cs) = false → pop (seenC cs cs.length) = sumL cs cs.length := fun h => seenC_pop (p := p) h12 (Nat.le_refl _) fun j hj => by
      have := (any_range _ _).1 h j hj
      simpa using this
    have hz : List.replicate k false = rowS k 0 := by
      unfold rowS
      rw [row_rep]
      apply row_ext
      intro i _
      simp
    have hm : k ≤ most := by unfold most; omega
    unfold isC
    generalize sumL cs cs.length = M at *
    generalize (List.range cs.length).any (badC p k cs) = t at *
    simp [c31, h40, h47, hz, hm]
    rw [hL _ (by simp)]
    cases t
    · have e := hpop rfl
      rw [e]
      by_cases hp : M = k
      · have hp' : (k : Int) - (M : Int) = 0 := by omega
        simp [hp', hp]
      · have hp' : ¬ (k : Int) - (M : Int) = 0 := by omega
        simp [hp', hp]
        rw [Bool.eq_iff_iff]
        simp
        omega
    · simp
  · rw [if_neg he]
    generalize ckE n a = e at *
    simp [c31, h40, he]
end Go.Mx
namespace Go.Mx
set_option linter.unusedVariables false
set_option linter.unusedSimpArgs false
set_option linter.unusedSectionVars false
open Go

/-- The sets that the reference finds after so many rounds. -/
def rfP (bf : Nat → Nat) (n k : Nat) : Nat → Nat → Prop
  | 0, m => m = 0
  | r + 1, m => ∃ d, rfP bf n k r d ∧ ∃ p, p ≠ 0 ∧ p &&& rdyK bf d n = p ∧ pop p ≤ k ∧ m = d ||| p
def rowQ (n : Nat) (T : Nat → Bool) : List Bool := row (pw n) T
@[simp] theorem rowQ_len (n : Nat) (T : Nat → Bool) : (rowQ n T).length = pw n := row_len _ _
theorem rowQ_nth (n : Nat) (T : Nat → Bool) {x : Nat} (h : x < pw n) : nth (rowQ n T) false x = T x := nth_row _ _ _ h
theorem rowQ_set (n : Nat) (T : Nat → Bool) (x : Nat) : (rowQ n T).set x true = rowQ n (updF T x true) := row_set _ _ _ _
abbrev rT (n : Nat) (T : Nat → Bool) : D := gsl eB false (rowQ n T)
open Classical in
/-- What stands in the next table after the parts above one. -/
noncomputable def T4 (N : Nat → Bool) (rdy s k P : Nat) : Nat → Bool := fun x => N x || decide (∃ q, P < q ∧ q &&& rdy = q ∧ pop q ≤ k ∧ x = s ||| q)
open Classical in
/-- .. after the first sets. -/
noncomputable def T2 (bf : Nat → Nat) (n k : Nat) (dn : Nat → Bool) (s : Nat) : Nat → Bool := fun x => decide (∃ d, d < s ∧ dn d = true ∧ ∃ p, p ≠ 0 ∧ p &&& rdyK bf d n = p ∧ pop p ≤ k ∧ x = d ||| p)
open Classical in
noncomputable def dnR (bf : Nat → Nat) (n k r : Nat) : Nat → Bool := fun x => decide (rfP bf n k r x)
theorem T4_put {N : Nat → Bool} {rdy s k P : Nat} (hP : P &&& rdy = P) (hp : 0 < P) (hk : pop P ≤ k) : updF (T4 N rdy s k P) (s ||| P) true = T4 N rdy s k ((P - 1) &&& rdy) := by
  funext x
  unfold updF T4
  by_cases h : x = s ||| P
  · rw [if_pos h]
    have : ∃ q, ((P - 1) &&& rdy) < q ∧ q &&& rdy = q ∧ pop q ≤ k ∧ x = s ||| q := ⟨P, (subs_next hP hp hP).2 (.inr rfl), hP, hk, h⟩
    simp [this]
  · rw [if_neg h]
    congr 1
    apply decide_eq_decide.2
    constructor
    · rintro ⟨q, h1, h2, h3, h4⟩
      exact ⟨q, (subs_next hP hp h2).2 (.inl h1), h2, h3, h4⟩
    · rintro ⟨q, h1, h2, h3, h4⟩
      rcases (subs_next hP hp h2).1 h1 with h5 | h5
      · exact ⟨q, h5, h2, h3, h4⟩
      · subst h5; exact absurd h4 h
theorem T4_not {N : Nat → Bool} {rdy s k P : Nat} (hP : P &&& rdy = P) (hp : 0 < P) (hk : ¬ pop P ≤ k) : T4 N rdy s k P = T4 N rdy s k ((P - 1) &&& rdy) := by
  funext x
  unfold T4
  congr 1
  apply decide_eq_decide.2
  constructor
  · rintro ⟨q, h1, h2, h3, h4⟩
    exact ⟨q, (subs_next hP hp h2).2 (.inl h1), h2, h3, h4⟩
  · rintro ⟨q, h1, h2, h3, h4⟩
    rcases (subs_next hP hp h2).1 h1 with h5 | h5
    · exact ⟨q, h5, h2, h3, h4⟩
    · subst h5; exact absurd h3 hk
theorem T4_top (N : Nat → Bool) (rdy s k : Nat) : T4 N rdy s k rdy = N := by
  funext x
  unfold T4
  have : ¬ ∃ q, rdy < q ∧ q &&& rdy = q ∧ pop q ≤ k ∧ x = s ||| q := fun ⟨q, h1, h2, _, _⟩ => by
    have : q ≤ rdy := by rw [← h2]; exact Nat.and_le_right
    omega
  simp [this]
open Classical in
theorem T2_succ (bf : Nat → Nat) (n k : Nat) (dn : Nat → Bool) (s : Nat) : T2 bf n k dn (s + 1) = if dn s = true then T4 (T2 bf n k dn s) (rdyK bf s n) s k 0 else T2 bf n k dn s := by
  funext x
  by_cases hd : dn s = true
  · rw [if_pos hd]
    unfold T4 T2
    rw [Bool.eq_iff_iff, Bool.or_eq_true, decide_eq_true_eq, decide_eq_true_eq, decide_eq_true_eq]
    constructor
    · rintro ⟨d, h1, h2, p, h3, h4, h5, h6⟩
      by_cases e : d = s
      · subst e; exact .inr ⟨p, by omega, h4, h5, h6⟩
      · exact .inl ⟨d, by omega, h2, p, h3, h4, h5, h6⟩
    · rintro (⟨d, h1, h2, p, h3, h4, h5, h6⟩ | ⟨p, h3, h4, h5, h6⟩)
      · exact ⟨d, by omega, h2, p, h3, h4, h5, h6⟩
      · exact ⟨s, by omega, hd, p, by omega, h4, h5, h6⟩
  · rw [if_neg hd]
    unfold T2
    apply decide_eq_decide.2
    constructor
    · rintro ⟨d, h1, h2, p, h3, h4, h5, h6⟩
      by_cases e : d = s
      · subst e; exact absurd h2 hd
      · exact ⟨d, by omega, h2, p, h3, h4, h5, h6⟩
    · rintro ⟨d, h1, h2, p, h3, h4, h5, h6⟩
      exact ⟨d, by omega, h2, p, h3, h4, h5, h6⟩
theorem T2_zero (bf : Nat → Nat) (n k : Nat) (dn : Nat → Bool) : T2 bf n k dn 0 = fun _ => false := by
  funext x
  unfold T2
  simp
theorem or_lt_pw {n a b : Nat} (h1 : a < pw n) (h2 : b < pw n) : a ||| b < pw n := Nat.or_lt_two_pow h1 h2
theorem rfP_lt {bf : Nat → Nat} {n k : Nat} : ∀ {r m : Nat}, rfP bf n k r m → m < pw n
  | 0, _, h => by rw [show _ = 0 from h]; exact Nat.two_pow_pos n
  | r + 1, m, ⟨d, h1, p, h2, h3, h4, h5⟩ => by
    rw [h5]
    exact or_lt_pw (rfP_lt h1) (Nat.lt_of_le_of_lt (by rw [← h3]; exact Nat.and_le_right) (rdyK_lt bf d n))
theorem T2_end (bf : Nat → Nat) (n k r : Nat) : T2 bf n k (dnR bf n k r) (pw n) = dnR bf n k (r + 1) := by
  funext x
  unfold T2 dnR
  apply decide_eq_decide.2
  constructor
  · rintro ⟨d, h1, h2, p, h3, h4, h5, h6⟩
    exact ⟨d, by simpa using h2, p, h3, h4, h5, h6⟩
  · rintro ⟨d, h1, p, h3, h4, h5, h6⟩
    exact ⟨d, rfP_lt h1, by simpa using h1, p, h3, h4, h5, h6⟩
theorem dnR_zero (bf : Nat → Nat) (n k : Nat) : updF (fun _ => false) 0 true = dnR bf n k 0 := by
  funext x
  unfold updF dnR rfP
  by_cases h : x = 0 <;> simp [h]
theorem memL_pop {n x : Nat} (hn : n ≤ 12) (hx : x < pw n) : (memL n x).length = pop x := by
  unfold pop
  have h : ∀ m, n ≤ m → m ≤ 12 → (memL m x).length = (memL n x).length := by
    intro m h1 h2
    obtain ⟨j, rfl⟩ : ∃ j, m = n + j := ⟨m - n, by omega⟩
    clear h1
    induction j with
    | zero => rfl
    | succ j ih =>
      have hb : x.testBit (n + j) = false := Nat.testBit_lt_two_pow (Nat.lt_of_lt_of_le hx (Nat.pow_le_pow_right (by omega) (by omega)))
      have := ih (by omega)
      rw [show n + (j + 1) = (n + j) + 1 by omega, memL_succ, hb]
      simpa using this
  exact (h 12 hn (Nat.le_refl _)).symm
theorem andN_sub {x d : Nat} (hx : x < 4096) : andN x d = 0 ↔ subB x d = true := by
  rw [sub_iff hx]
  constructor
  · intro h i hi
    have := congrArg (fun y => y.testBit i) h
    simp only [andN_bit, hi, Nat.zero_testBit, Bool.true_and] at this
    simpa using this
  · intro h
    apply Nat.eq_of_testBit_eq
    intro i
    rw [andN_bit, Nat.zero_testBit]
    cases hb : x.testBit i with
    | false => rfl
    | true => rw [h i hb]; rfl
/-! ### the loops -/
theorem loop16_0 (call : Oracle) (fuel : Nat) (b : Bool) (n : Nat) (hn : n ≤ 12) (a : NA) (hv : ∀ p ∈ a, p.1 < n ∧ p.2 < n) (hl : a.length ≤ 1000) (k : Int) (fu : Nat) (hf : 1000 < fu) (st : St)
    (h0 : drops st h16_0 = L16_0 (ii n) (.ro (sa b (arcsZ a))) (ii k) (.own (lz n fun _ => 0)) (ii 0) (.sc undef) (.sc undef)) :
    run.loopN (run call fuel b16_0) fu st = some (.ex 0, X16_0 (ii n) (ii k) (.own (lz n (needG a))) (.sc undef) (.sc undef)) := by
  refine loop_cnt call fuel h16_0 _ a.length (fun i => L16_0 (ii n) (.ro (sa b (arcsZ a))) (ii k) (.own (lz n (needG (a.take i)))) (ii i) (.sc undef) (.sc undef)) _ (by simp) ?_ (by simp) fu st h0 (by omega)
  intro i hi
  have hw := wrap_succ (i := i) (by omega)
  obtain ⟨h1, h2⟩ := hv _ (nth_mem (0, 0) hi)
  have hs : needG (a.take (i + 1)) = _ := foldl_take addNeed _ (0, 0) hi
  have hb : ∀ j, needG (a.take i) j < 2 ^ 32 := need_lt (n := n) (by omega) fun p hp => hv p (List.mem_of_mem_take hp)
  rw [hs]
  change _ = some (Ex.norm, L16_0 _ _ _ (.own (lz n (addNeed (needG (a.take i)) (nth a (0, 0) i)))) _ _ _)
  generalize needG (a.take i) = g at *
  generalize hp : nth a (0, 0) i = p at *
  obtain ⟨f, t⟩ := p
  simp only at h1 h2
  have e1 := zr_nth n g h2
  have e2 := bits_shl1 .i64 (t := f) (show f < 63 by omega)
  have e3 := bits_or .i64 (show g t < 2 ^ 63 from Nat.lt_of_lt_of_le (hb t) (by decide)) (b := pw f) (pw_lt (m := 63) (by omega))
  simp [hi, hw, hp, h1, h2, e1, e2, e3, addNeed]
theorem loop16_3 (call : Oracle) (fuel : Nat) (n : Nat) (hn : n ≤ 12) (g : Nat → Nat) (hg : ∀ i, i < n → g i < 4096) (k : Int) (dn : Nat → Bool) (r : Int) (N : Nat → Bool) (s : Nat) (hs : s < 4096) (s120 : V) (h120 : U96 s120) (fu : Nat) (hf : 1000 < fu) (st : St)
    (h0 : drops st h16_3 = L16_3 (ii n) (ii k) (.own (lz n g)) (.own (rT n dn)) (ii r) (.own (rT n N)) (ii s) (ii 0) (ii 0) s120) :
    run.loopN (run call fuel b16_3) fu st = some (.ex 6, X16_6 (ii n) (ii k) (.own (lz n g)) (.own (rT n dn)) (ii r) (.own (rT n N)) (ii s) (ii (rdyK g s n : Nat)) s120) := by
  rcases h120 with h120 | h120
  all_goals
    refine loop_cnt call fuel h16_3 _ n (fun i => L16_3 (ii n) (ii k) (.own (lz n g)) (.own (rT n dn)) (ii r) (.own (rT n N)) (ii s) (ii (rdyK g s i : Nat)) (ii i) s120) _ (by simp) ?_ (by simp [h120]) fu st h0 (by omega)
    intro i hi
    have hw := wrap_succ (i := i) (by omega)
    have e1 := zr_nth n g hi
    have e2 := bits_shr .i64 s i (by simp [IntKind.bits]; omega)
    have e3 := bits_bit .i64 (show s < 2 ^ 63 by omega) i
    have hgi := hg i hi
    have e4 := bits_andN .i64 (show g i < 2 ^ 63 by omega) (show s < 2 ^ 63 by omega)
    have e5 := bits_shl1 .i64 (t := i) (show i < 63 by omega)
    have hr : rdyK g s i < 4096 := Nat.lt_of_lt_of_le (rdyK_lt g s i) (Nat.pow_le_pow_right (by omega) (show i ≤ 12 by omega))
    have e6 := bits_or .i64 (show rdyK g s i < 2 ^ 63 by omega) (b := pw i) (pw_lt (m := 63) (by omega))
    have hsub := andN_sub (d := s) hgi
    have hsucc : rdyK g s (i + 1) = if (!s.testBit i && subB (g i) s) = true then rdyK g s i ||| pw i else rdyK g s i := rfl
    rw [hsucc]
    generalize rdyK g s i = R at *
    by_cases hb : s.testBit i = true
    · rw [hb] at e3
      simp [hi, hw, h120, e2, e3, hb]
    · have hb : s.testBit i = false := by simpa using hb
      rw [hb] at e3
      by_cases hc : subB (g i) s = true
      · rw [hsub.2 hc] at e4
        simp [hi, hw, h120, e1, e2, e3, e4, e5, e6, hb, hc]
      · have hz : ¬ ((andN (g i) s : Nat) : Int) = 0 := fun h => hc (hsub.1 (by omega))
        have hz' : ¬ andN (g i) s = 0 := fun h => hc (hsub.1 h)
        have hc : subB (g i) s = false := by simpa using hc
        simp [hi, hw, h120, e1, e2, e3, e4, hb, hc, hz, hz']
theorem loop16_4 (call : Oracle) (fuel : Nat) (n : Nat) (hn : n ≤ 12) (G : D) (hG : ∃ g, G = lz n g) (k : Nat) (dn : Nat → Bool) (r : Int) (N : Nat → Bool) (s rdy : Nat) (hs : s < pw n) (hrd : rdy < pw n) (s120 : V) (h120 : U96 s120)
    (h42 : ∀ set : Nat, set < 4096 → call 42 [.v (.int .i64 (n : Int)), .v (.int .i64 (set : Int))] = some (soE (memL n set))) (fu : Nat) (hf : 5000 < fu) (st : St)
    (h0 : drops st h16_4 = L16_4 (ii n) (ii k) (.own G) (.own (rT n dn)) (ii r) (.own (rT n N)) (ii s) (ii rdy) (ii rdy) s120) :
    run.loopN (run call fuel b16_4) fu st = some (.ex 8, X16_8 (ii n) (ii k) (.own G) (.own (rT n dn)) (ii r) (.own (rT n (T4 N rdy s k 0))) (ii s) s120) := by
  obtain ⟨g, rfl⟩ := hG
  have hpn : pw n ≤ 4096 := Nat.pow_le_pow_right (n := 2) (by omega) hn
  have h0' : drops st h16_4 = L16_4 (ii n) (ii k) (.own (lz n g)) (.own (rT n dn)) (ii r) (.own (rT n (T4 N rdy s k rdy))) (ii s) (ii rdy) (ii rdy) s120 := by rw [T4_top]; exact h0
  rcases h120 with h120 | h120
  all_goals
    refine loop_iter call fuel h16_4 _ (fun P : Nat => P &&& rdy = P) (fun P => L16_4 (ii n) (ii k) (.own (lz n g)) (.own (rT n dn)) (ii r) (.own (rT n (T4 N rdy s k P))) (ii s) (ii rdy) (ii P) s120) (fun P => P)
      (fun P => if 0 < P then .inl ((P - 1) &&& rdy) else .inr (.ex 8, X16_8 (ii n) (ii k) (.own (lz n g)) (.own (rT n dn)) (ii r) (.own (rT n (T4 N rdy s k 0))) (ii s) s120))
      (fun _ => (.ex 8, X16_8 (ii n) (ii k) (.own (lz n g)) (.own (rT n dn)) (ii r) (.own (rT n (T4 N rdy s k 0))) (ii s) s120)) ?_ ?_ ?_ fu rdy st (Nat.and_self _) h0' (by omega)
    · intro P hP
      by_cases hp : 0 < P
      · have hPle : P ≤ rdy := by rw [← hP]; exact Nat.and_le_right
        simp only [if_pos hp, Sum.elim_inl]
        have hp' : (0 : Int) < (P : Int) := by omega
        have hw : IntKind.i64.wrap ((P : Int) - 1) = ((P - 1 : Nat) : Int) := by
          rw [wrap_eq (by unfold I64; omega)]
          omega
        have e1 := bits_and (k := .i64) (a := P - 1) (b := rdy) (show P - 1 < 2 ^ 63 by omega) (show rdy < 2 ^ 63 by omega)
        have e42 := h42 P (by omega)
        have hlen := memL_pop (x := P) hn (by omega)
        have e2 := bits_or .i64 (show s < 2 ^ 63 by omega) (b := P) (show P < 2 ^ 63 by omega)
        have hsP : s ||| P < pw n := or_lt_pw hs (by omega)
        by_cases hk : pop P ≤ k
        · have hk' : ((pop P : Nat) : Int) ≤ (k : Int) := by omega
          have hput := T4_put (N := N) (s := s) hP hp hk
          have hset := rowQ_set n (T4 N rdy s k P) (s ||| P)
          rw [hput] at hset
          generalize T4 N rdy s k ((P - 1) &&& rdy) = T' at *
          generalize T4 N rdy s k P = T at *
          generalize memL n P = M at *
          simp [hp, hp', hw, e1, e42, hlen, hk, hk', e2, hsP, hset, h120]
        · have hk' : ¬ ((pop P : Nat) : Int) ≤ (k : Int) := by omega
          have hnot := T4_not (N := N) (s := s) hP hp hk
          rw [← hnot]
          generalize T4 N rdy s k P = T at *
          generalize memL n P = M at *
          simp [hp, hp', hw, e1, e42, hlen, hk, hk', h120]
      · obtain rfl : P = 0 := by omega
        simp only [if_neg hp, Sum.elim_inr]
        simp [h120]
    · intro P P' hP hst
      split at hst
      · rename_i hp
        cases hst
        refine ⟨and_part _ _, ?_, rfl⟩
        have := and_le' (P - 1) rdy
        show (P - 1) &&& rdy < P
        omega
      · cases hst
    · intro P r' hP hst
      split at hst
      · cases hst
      · cases hst
        exact ⟨rfl, by intro h; cases h⟩
theorem loop16_2 (call : Oracle) (fuel : Nat) (hF : 5000 < fuel) (n : Nat) (hn : n ≤ 12) (g : Nat → Nat) (hg : ∀ i, i < n → g i < 4096) (k : Nat) (dn : Nat → Bool) (r : Int) (s120 : V) (h120 : U96 s120)
    (h42 : ∀ set : Nat, set < 4096 → call 42 [.v (.int .i64 (n : Int)), .v (.int .i64 (set : Int))] = some (soE (memL n set))) (st : St)
    (h0 : drops st h16_2 = L16_2 (ii n) (ii k) (.own (lz n g)) (.own (rT n dn)) (ii r) (.own (rT n fun _ => false)) (ii 0) s120) :
    run.loopN (run call fuel b16_2) fuel st = some (.ex 4, X16_4 (ii n) (ii k) (.own (lz n g)) (ii r) (.own (rT n (T2 g n k dn (pw n))))) := by
  have hpn : pw n ≤ 4096 := Nat.pow_le_pow_right (n := 2) (by omega) hn
  have hsh := bits_shl1 .i64 (t := n) (show n < 63 by omega)
  have hh := h120
  rcases h120 with h120 | h120
  all_goals
    refine loop_cnt call fuel h16_2 _ (pw n) (fun s => L16_2 (ii n) (ii k) (.own (lz n g)) (.own (rT n dn)) (ii r) (.own (rT n (T2 g n k dn s))) (ii s) s120) _ (by intro h; cases h) ?_ (by simp [hsh, h120]) fuel st (by rw [T2_zero]; exact h0) (by omega)
    intro s hs
    have hw := wrap_succ (i := s) (by omega)
    have e1 := rowQ_nth n dn hs
    have l3 := loop16_3 call fuel n hn g hg k dn r (T2 g n k dn s) s (by omega) s120 hh fuel (by omega)
    have l4 := loop16_4 call fuel n hn (lz n g) ⟨g, rfl⟩ k dn r (T2 g n k dn s) s (rdyK g s n) hs (rdyK_lt g s n) s120 hh h42 fuel hF
    rw [T2_succ]
    generalize T2 g n k dn s = N at *
    by_cases hd : dn s = true
    · rw [hd] at e1
      rw [if_pos hd]
      generalize T4 N (rdyK g s n) s k 0 = N' at *
      generalize rdyK g s n = R at *
      simp [hs, hsh, h120, e1]
      rw [l3 _ (by simp [h120])]
      simp [h120]
      rw [l4 _ (by simp [h120])]
      simp [h120, hw]
    · rw [if_neg hd]
      have hd : dn s = false := by simpa using hd
      rw [hd] at e1
      simp [hs, hsh, h120, e1, hw]
theorem loop16_1 (call : Oracle) (fuel : Nat) (hF : 5000 < fuel) (n : Nat) (hn : n ≤ 12) (g : Nat → Nat) (hg : ∀ i, i < n → g i < 4096) (k A : Nat) (hA : rfP g n k A (allM n)) (hmin : ∀ r, r < A → ¬ rfP g n k r (allM n)) (hA12 : A ≤ 1000)
    (h42 : ∀ set : Nat, set < 4096 → call 42 [.v (.int .i64 (n : Int)), .v (.int .i64 (set : Int))] = some (soE (memL n set))) (st : St)
    (h0 : drops st h16_1 = L16_1 (ii n) (ii k) (.own (lz n g)) (.own (rT n (dnR g n k 0))) (ii 0) (.sc undef) (.sc undef)) :
    run.loopN (run call fuel b16_1) fuel st = some (.ret, R16 (ii A) (ii 0)) := by
  have hpn : pw n ≤ 4096 := Nat.pow_le_pow_right (n := 2) (by omega) hn
  have hp1 : 1 ≤ pw n := Nat.one_le_two_pow
  have hsh := bits_shl1 .i64 (t := n) (show n < 63 by omega)
  have hall : IntKind.i64.wrap ((pw n : Int) - 1) = ((allM n : Nat) : Int) := by
    have e : ((pw n : Nat) : Int) - 1 = ((allM n : Nat) : Int) := (Int.natCast_sub hp1).symm
    rw [e, wrap_eq (by have : allM n ≤ pw n := Nat.sub_le _ _; unfold I64; omega)]
  have hal : allM n < pw n := by unfold allM; have : pw n = 2 ^ n := rfl; omega
  have hz : List.replicate (pw n) false = rowQ n fun _ => false := row_rep _ _
  have hm : pw n ≤ most := by unfold most; omega
  refine loop_cnt call fuel h16_1 _ A (fun r => L16_1 (ii n) (ii k) (.own (lz n g)) (.own (rT n (dnR g n k r))) (ii r) (if r = 0 then .sc undef else .ref 11 []) (if r = 0 then .sc undef else .dead)) _ (by intro h; cases h) ?_ ?_ fuel st h0 (by omega)
  · intro r hr
    have hw := wrap_succ (i := r) (by omega)
    have e1 := rowQ_nth n (dnR g n k r) hal
    have e2 : dnR g n k r (allM n) = false := by
      unfold dnR
      simpa using hmin r hr
    rw [e2] at e1
    have l2 := fun s120 h120 => loop16_2 call fuel hF n hn g hg k (dnR g n k r) r s120 h120 h42
    rw [T2_end] at l2
    generalize dnR g n k (r + 1) = N' at *
    generalize dnR g n k r = N at *
    have hr1 : ¬ r + 1 = 0 := by omega
    by_cases hr0 : r = 0
    · have l2 := l2 (.sc undef) (.inl rfl)
      simp only [if_pos hr0, if_neg hr1]
      simp [hsh, hall, hal, e1, hz, hm]
      rw [l2 _ (by simp)]
      simp [hw]
    · have l2 := l2 .dead (.inr rfl)
      simp only [if_neg hr0, if_neg hr1]
      simp [hsh, hall, hal, e1, hz, hm]
      rw [l2 _ (by simp)]
      simp [hw]
  · have e1 := rowQ_nth n (dnR g n k A) hal
    have e2 : dnR g n k A (allM n) = true := by
      unfold dnR
      simpa using hA
    rw [e2] at e1
    generalize dnR g n k A = N at *
    by_cases hr0 : A = 0
    · simp [hr0, hsh, hall, hal, e1]
    · simp [hr0, hsh, hall, hal, e1]
theorem need_lt12 {n : Nat} (hn : n ≤ 12) {a : NA} (h : ∀ p ∈ a, p.1 < n ∧ p.2 < n) (i : Nat) : needG a i < 4096 := by
  have : needG a i < 2 ^ n := Nat.lt_pow_two_of_testBit _ fun j hj => by
    rw [need_bit]
    cases hc : a.contains (j, i) with
    | false => rfl
    | true =>
      have := (h _ (List.contains_iff_mem.1 hc)).1
      simp only at this
      omega
  exact Nat.lt_of_lt_of_le this (Nat.pow_le_pow_right (by omega) hn)
theorem f16 (call : Oracle) (fuel : Nat) (hF : 5000 < fuel) (b : Bool) (n : Int) (a : List (Int × Int)) (hl : a.length ≤ 1000) (k : Int) (A : Nat)
    (hA : ckE n a = 0 → 1 ≤ k ∧ k ≤ 12 → rfP (needG (natA a)) n.toNat k.toNat A (allM n.toNat) ∧ (∀ r, r < A → ¬ rfP (needG (natA a)) n.toNat k.toNat r (allM n.toNat)) ∧ A ≤ 1000)
    (h40 : call 40 [.v (.int .i64 n), sa b a] = some (.v (.int .i64 (ckE n a))))
    (h41 : ∀ v a b : Int, call 41 [.v (.int .i64 v), .v (.int .i64 a), .v (.int .i64 b)] = some (.v (.bool (decide (a ≤ v) && decide (v ≤ b)))))
    (h42 : ∀ n set : Nat, n ≤ 12 → set < 4096 → call 42 [.v (.int .i64 (n : Int)), .v (.int .i64 (set : Int))] = some (soE (memL n set))) :
    callF call fuel c16 [.v (.int .i64 n), sa b a, .v (.int .i64 k)] = some (if ckE n a = 0 then if 1 ≤ k ∧ k ≤ 12 then .nd .tu [.v (.int .i64 (A : Int)), .v (.int .i64 0)] else .nd .tu [.v (.int .i64 0), .v (.int .i64 2)] else .nd .tu [.v (.int .i64 0), .v (.int .i64 (ckE n a))]) := by
  rw [callF_tab call fuel c16 121 _ (by exact Nat.le_of_ble_eq_true rfl) (by exact Nat.le_of_ble_eq_true rfl)]
  by_cases he : ckE n a = 0
  · rw [he] at h40
    rw [if_pos he]
    obtain ⟨m, rfl, h12, hv, _⟩ := ck_ok he
    have e41 := h41 k 1 12
    by_cases hk : 1 ≤ k ∧ k ≤ 12
    · rw [if_pos hk]
      obtain ⟨hA1, hA2, hA3⟩ := hA he hk
      obtain ⟨kn, rfl⟩ : ∃ kn : Nat, k = (kn : Int) := ⟨k.toNat, by omega⟩
      simp only [Int.toNat_natCast] at hA1 hA2
      obtain ⟨m', hm', _, ha, hp⟩ := valid_nat hv
      obtain rfl : m = m' := by omega
      have hp' : ∀ p ∈ natA a, p.1 < m ∧ p.2 < m := fun p h => ⟨(hp p h).1, (hp p h).2.1⟩
      have l0 := loop16_0 call fuel b m h12 (natA a) hp' (by simpa [natA] using hl) kn fuel (by omega)
      have l1 := loop16_1 call fuel hF m h12 (needG (natA a)) (fun i _ => need_lt12 h12 hp' i) kn A hA1 hA2 hA3 (fun s hs => h42 m s h12 hs)
      rw [← ha] at l0
      have hz0 : List.replicate m (0 : Int) = zr m fun _ => 0 := row_rep m 0
      have hpn : pw m ≤ 4096 := Nat.pow_le_pow_right (n := 2) (by omega) h12
      have hsh := bits_shl1 .i64 (t := m) (show m < 63 by omega)
      have hz : List.replicate (pw m) false = rowQ m fun _ => false := row_rep _ _
      have hm1 : m ≤ most := by unfold most; omega
      have hm2 : pw m ≤ most := by unfold most; omega
      have hp0 : 0 < pw m := Nat.two_pow_pos m
      have hset := rowQ_set m (fun _ => false) 0
      rw [dnR_zero (needG (natA a)) m kn] at hset
      generalize dnR (needG (natA a)) m kn 0 = N at *
      generalize needG (natA a) = g at *
      have c1 : decide ((1 : Int) ≤ (kn : Int)) = true := by simp; omega
      have c2 : decide ((kn : Int) ≤ 12) = true := by simp; omega
      rw [c1, c2] at e41
      simp [c16, h40, e41, hz0, hm1]
      rw [l0 _ (by simp)]
      simp [hsh, hz, hm2, hp0, hset]
      rw [l1 _ (by simp)]
      simp
    · rw [if_neg hk]
      have c1 : (decide (1 ≤ k) && decide (k ≤ 12)) = false := by simp; omega
      rw [c1] at e41
      simp [c16, h40, e41]
  · rw [if_neg he]
    generalize ckE n a = e at *
    simp [c16, h40, he]
end Go.Mx
namespace Go.Mx
set_option linter.unusedVariables false
set_option linter.unusedSimpArgs false
set_option linter.unusedSectionVars false
open Go

/-- A schedule of r rounds with at most k vertices each. -/
def Sch (R : Nat → Nat → Bool) (n k r : Nat) : Prop := ∃ t : Nat → Nat, (∀ v, v < n → t v < r) ∧ (∀ u v, R u v = true → t u < t v) ∧ ∀ i, (lvl t n i).length ≤ k
def mkM (q : Nat → Bool) : Nat → Nat
  | 0 => 0
  | v + 1 => if q v = true then mkM q v ||| pw v else mkM q v
theorem mkM_bit (q : Nat → Bool) (n i : Nat) : (mkM q n).testBit i = (decide (i < n) && q i) := by
  induction n with
  | zero => simp [mkM]
  | succ n ih =>
    unfold mkM
    by_cases h : q n = true
    · rw [if_pos h, Nat.testBit_or, ih, pw_bit]
      by_cases hk : i = n
      · subst hk; simp [h]
      · have : ¬ n = i := fun e => hk e.symm
        have e2 : (i < n + 1) ↔ i < n := by omega
        simp [this, e2]
    · rw [if_neg h, ih]
      by_cases hk : i = n
      · subst hk; simp [h]
      · have e2 : (i < n + 1) ↔ i < n := by omega
        simp [e2]
theorem mkM_lt (q : Nat → Bool) (n : Nat) : mkM q n < pw n := lt_bits fun i h => by
  rw [mkM_bit] at h
  simp at h
  exact h.1
/-- With what stands before its members. -/
def Dwn (R : Nat → Nat → Bool) (n d : Nat) : Prop := d &&& allM n = d ∧ ∀ u v, R u v = true → d.testBit v = true → d.testBit u = true
/-- As the reference's, parts may be empty. -/
def rfE (bf : Nat → Nat) (n k : Nat) : Nat → Nat → Prop
  | 0, m => m = 0
  | r + 1, m => ∃ d, rfE bf n k r d ∧ ∃ p, p &&& rdyK bf d n = p ∧ pop p ≤ k ∧ m = d ||| p
theorem all_bits {d n : Nat} : d &&& allM n = d ↔ ∀ i, d.testBit i = true → i < n := by
  rw [sub_bits]
  constructor
  · intro h i hi
    have := h i hi
    rw [allM_bit] at this
    simpa using this
  · intro h i hi
    rw [allM_bit]
    simpa using h i hi
theorem part_ext {q s j : Nat} (hs : s < 4096) (hq : q &&& s = q) (h1 : pop q ≤ j) (h2 : j ≤ pop s) : ∃ p, q &&& p = q ∧ p &&& s = p ∧ pop p = j := by
  have hx : ∀ i, (s ^^^ q).testBit i = (s.testBit i && !q.testBit i) := by
    intro i
    rw [Nat.testBit_xor]
    have := sub_bits.1 hq i
    cases h : q.testBit i with
    | false => simp
    | true => rw [this h]; rfl
  have hor : q ||| (s ^^^ q) = s := by
    apply Nat.eq_of_testBit_eq
    intro i
    rw [Nat.testBit_or, hx]
    have := sub_bits.1 hq i
    cases h : q.testBit i with
    | false => simp
    | true => rw [this h]; rfl
  have hdis : ∀ i, ¬ (q.testBit i = true ∧ (s ^^^ q).testBit i = true) := by
    rintro i ⟨a, b⟩
    rw [hx, a] at b
    simp at b
  have hpop := pop_or hdis
  rw [hor] at hpop
  have hql : q < 4096 := sub_lt (n := 12) hq hs
  obtain ⟨p, p1, p2⟩ := part_of (s ^^^ q) (Nat.xor_lt_two_pow (n := 12) hs hql) (j - pop q) (by omega)
  refine ⟨q ||| p, ?_, ?_, ?_⟩
  · apply Nat.eq_of_testBit_eq
    intro i
    rw [Nat.testBit_and, Nat.testBit_or]
    cases q.testBit i <;> rfl
  · refine or_sub hq (sub_bits.2 fun i hi => ?_)
    have := sub_bits.1 p1 i hi
    rw [hx] at this
    simp only [Bool.and_eq_true] at this
    exact this.1
  · rw [pop_or fun i => ?_, p2]
    · omega
    · rintro ⟨a, b⟩
      exact hdis i ⟨a, sub_bits.1 p1 i b⟩
section
variable {bf : Nat → Nat} {R : Nat → Nat → Bool} {n : Nat} (hR : PO R n) (hb : BF bf R n) (hn : n ≤ 12)
include hR hb hn
theorem rfE_dwn {k : Nat} : ∀ {r m : Nat}, rfE bf n k r m → Dwn R n m
  | 0, m, h => by
    rw [show m = 0 from h]
    exact ⟨by simp, fun u v _ hv => by simp at hv⟩
  | r + 1, m, ⟨d, h1, p, h2, h3, h4⟩ => by
    obtain ⟨d1, d2⟩ := rfE_dwn h1
    subst h4
    refine ⟨or_sub d1 (all_bits.2 fun i hi => ((rdy_bit hR hb hn d i).1 (sub_bits.1 h2 i hi)).1), fun u v huv hv => ?_⟩
    rw [Nat.testBit_or, Bool.or_eq_true] at hv ⊢
    rcases hv with hv | hv
    · exact .inl (d2 u v huv hv)
    · exact .inl (((rdy_bit hR hb hn d v).1 (sub_bits.1 h2 v hv)).2.2 u huv)
theorem rfE_st {k : Nat} : ∀ {r x : Nat}, rfE bf n k r x → ∃ m, stP bf n k r m ∧ x &&& m = x
  | 0, x, h => ⟨0, rfl, by rw [show x = 0 from h]; rfl⟩
  | r + 1, x, ⟨d, h1, p, h2, h3, h4⟩ => by
    obtain ⟨m0, s1, s2⟩ := rfE_st h1
    have q1 : andN p m0 &&& rdyK bf m0 n = andN p m0 := sub_bits.2 fun i hi => by
      rw [andN_bit] at hi
      simp only [Bool.and_eq_true, Bool.not_eq_true'] at hi
      obtain ⟨g1, g2, g3⟩ := (rdy_bit hR hb hn d i).1 (sub_bits.1 h2 i hi.1)
      exact (rdy_bit hR hb hn m0 i).2 ⟨g1, hi.2, fun u hu => sub_bits.1 s2 u (g3 u hu)⟩
    have q2 : andN p m0 &&& p = andN p m0 := sub_bits.2 fun i hi => by
      rw [andN_bit] at hi
      simp only [Bool.and_eq_true] at hi
      exact hi.1
    have l1 := pop_sub q1
    have l2 := pop_sub q2
    obtain ⟨p', e1, e2, e3⟩ := part_ext (rdy_lt hR hb hn m0) q1 (show pop (andN p m0) ≤ min k (pop (rdyK bf m0 n)) by omega) (Nat.min_le_right _ _)
    refine ⟨m0 ||| p', ⟨m0, s1, p', e2, e3, rfl⟩, ?_⟩
    rw [h4]
    refine sub_bits.2 fun i hi => ?_
    rw [Nat.testBit_or, Bool.or_eq_true] at hi ⊢
    rcases hi with hi | hi
    · exact .inl (sub_bits.1 s2 i hi)
    · cases hm : m0.testBit i with
      | true => exact .inl rfl
      | false =>
        refine .inr (sub_bits.1 e1 i ?_)
        rw [andN_bit, hi, hm]
        rfl
omit hR hb hn in
theorem st_rfE {k : Nat} : ∀ {r x : Nat}, stP bf n k r x → rfE bf n k r x
  | 0, _, h => h
  | _ + 1, _, ⟨d, h1, p, h2, h3, h4⟩ => ⟨d, st_rfE h1, p, h2, by omega, h4⟩
theorem sch_of {k : Nat} : ∀ {r m : Nat}, rfE bf n k r m → ∃ t : Nat → Nat, (∀ v, m.testBit v = true → t v < r) ∧ (∀ u v, R u v = true → m.testBit v = true → t u < t v) ∧ ∀ i, ((List.range n).filter fun v => m.testBit v && t v == i).length ≤ k
  | 0, m, h => by
    rw [show m = 0 from h]
    exact ⟨fun _ => 0, by simp, by simp, fun i => by rw [List.filter_eq_nil_iff.2 (by simp)]; exact Nat.zero_le _⟩
  | r + 1, m, ⟨d, h1, p, h2, h3, h4⟩ => by
    obtain ⟨d1, d2⟩ := rfE_dwn hR hb hn h1
    obtain ⟨t, t1, t2, t3⟩ := sch_of h1
    have hpd : ∀ i, p.testBit i = true → d.testBit i = false := fun i hi => ((rdy_bit hR hb hn d i).1 (sub_bits.1 h2 i hi)).2.1
    subst h4
    have hbit : ∀ v, (d ||| p).testBit v = true → d.testBit v = true ∨ p.testBit v = true := fun v hv => by
      rwa [Nat.testBit_or, Bool.or_eq_true] at hv
    refine ⟨fun v => if p.testBit v = true then r else t v, fun v hv => ?_, fun u v huv hv => ?_, fun i => ?_⟩
    · show (if p.testBit v = true then r else t v) < r + 1
      split
      · omega
      · rename_i hp
        have := t1 v ((hbit v hv).resolve_right hp)
        omega
    · have hu : d.testBit u = true := by
        rcases hbit v hv with h | h
        · exact d2 u v huv h
        · exact ((rdy_bit hR hb hn d v).1 (sub_bits.1 h2 v h)).2.2 u huv
      have hup : ¬ p.testBit u = true := fun h => by rw [hpd u h] at hu; cases hu
      show (if p.testBit u = true then r else t u) < (if p.testBit v = true then r else t v)
      rw [if_neg hup]
      split
      · exact t1 u hu
      · rename_i hp
        exact t2 u v huv ((hbit v hv).resolve_right hp)
    · by_cases hi : i = r
      · subst hi
        have e : ((List.range n).filter fun v => (d ||| p).testBit v && (if p.testBit v = true then i else t v) == i) = memL n p := by
          unfold memL
          apply List.filter_congr
          intro v _
          rw [Bool.eq_iff_iff]
          simp only [Bool.and_eq_true, beq_iff_eq]
          constructor
          · rintro ⟨a, b⟩
            apply Classical.byContradiction
            intro hp
            rw [if_neg hp] at b
            have := t1 v ((hbit v a).resolve_right hp)
            omega
          · intro hp
            rw [if_pos hp, Nat.testBit_or, hp]
            simp
        rw [e, memL_pop hn]
        · exact h3
        · exact Nat.lt_of_le_of_lt (by rw [← h2]; exact Nat.and_le_right) (rdyK_lt bf d n)
      · refine Nat.le_trans ?_ (t3 i)
        have hcnt : ∀ l : List Nat, (l.filter fun v => (d ||| p).testBit v && (if p.testBit v = true then r else t v) == i).length ≤ (l.filter fun v => d.testBit v && t v == i).length := by
          intro l
          induction l with
          | nil => exact Nat.le_refl _
          | cons v l ih =>
            rw [List.filter_cons, List.filter_cons]
            by_cases hq : ((d ||| p).testBit v && (if p.testBit v = true then r else t v) == i) = true
            · have hq2 : (d.testBit v && t v == i) = true := by
                simp only [Bool.and_eq_true, beq_iff_eq] at hq ⊢
                obtain ⟨a, b⟩ := hq
                have hp : ¬ p.testBit v = true := fun hp => by rw [if_pos hp] at b; exact hi b.symm
                rw [if_neg hp] at b
                exact ⟨(hbit v a).resolve_right hp, b⟩
              rw [if_pos hq, if_pos hq2]
              simpa using ih
            · rw [if_neg hq]
              split
              · simp only [List.length_cons]
                omega
              · exact ih
        exact hcnt _
theorem rfE_of_sch {k r : Nat} (h : Sch R n k r) : rfE bf n k r (allM n) := by
  obtain ⟨t, t1, t2, t3⟩ := h
  have key : ∀ i, rfE bf n k i (mkM (fun v => decide (t v < i)) n) := by
    intro i
    induction i with
    | zero =>
      show _ = 0
      apply Nat.eq_of_testBit_eq
      intro j
      rw [mkM_bit]
      simp
    | succ i ih =>
      have hp : memL n (mkM (fun v => t v == i) n) = lvl t n i := by
        unfold memL lvl
        apply List.filter_congr
        intro v hv
        rw [mkM_bit]
        have := List.mem_range.1 hv
        simp [this]
      refine ⟨_, ih, mkM (fun v => t v == i) n, sub_bits.2 fun v hv => ?_, ?_, ?_⟩
      · rw [mkM_bit] at hv
        simp only [Bool.and_eq_true, decide_eq_true_eq, beq_iff_eq] at hv
        refine (rdy_bit hR hb hn _ v).2 ⟨hv.1, ?_, fun u hu => ?_⟩
        · rw [mkM_bit]
          simp [hv.2]
        · rw [mkM_bit]
          have h1 := t2 u v hu
          have h2 := (hR.lt u v hu).1
          simp only [Bool.and_eq_true, decide_eq_true_eq]
          omega
      · rw [← memL_pop hn (mkM_lt _ _), hp]
        exact t3 i
      · apply Nat.eq_of_testBit_eq
        intro j
        rw [Nat.testBit_or, mkM_bit, mkM_bit, mkM_bit]
        by_cases hj : j < n
        · by_cases hjt : t j = i
          · simp [hj, hjt]
          · have : (t j < i + 1) ↔ t j < i := by omega
            simp [hj, hjt, this]
        · simp [hj]
  have e : mkM (fun v => decide (t v < r)) n = allM n := by
    apply Nat.eq_of_testBit_eq
    intro j
    rw [mkM_bit, allM_bit]
    by_cases hj : j < n
    · simp [hj, t1 j hj]
    · simp [hj]
  rw [← e]
  exact key r
/-- The number of rounds is that of the shortest schedule. -/
theorem stA_sch {k : Nat} (hk : 1 ≤ k) : Sch R n k (stA bf n k) ∧ ∀ r, Sch R n k r → stA bf n k ≤ r := by
  obtain ⟨s1, s2, s3⟩ := stA_spec hR hb hn hk
  constructor
  · obtain ⟨t, t1, t2, t3⟩ := sch_of hR hb hn (st_rfE s1)
    have hall : ∀ v, v < n → (allM n).testBit v = true := fun v hv => by rw [allM_bit]; simpa using hv
    refine ⟨t, fun v hv => t1 v (hall v hv), fun u v huv => t2 u v huv (hall v (hR.lt u v huv).2), fun i => ?_⟩
    have := t3 i
    have e : ((List.range n).filter fun v => (allM n).testBit v && t v == i) = lvl t n i := by
      unfold lvl
      apply List.filter_congr
      intro v hv
      rw [hall v (List.mem_range.1 hv)]
      rfl
    rwa [e] at this
  · intro r hr
    obtain ⟨m, m1, m2⟩ := rfE_st hR hb hn (rfE_of_sch hR hb hn hr)
    have m3 := stP_sub m1
    have : m = allM n := by
      apply Nat.eq_of_testBit_eq
      intro i
      rw [Bool.eq_iff_iff]
      exact ⟨fun h => sub_bits.1 m3 i h, fun h => sub_bits.1 m2 i h⟩
    subst this
    exact s2 r m1
/-! ### the reference's -/
variable {nd : Nat → Nat} (hnd : ∀ v, v < n → nd v < 4096) (hn1 : ∀ u v, (nd v).testBit u = true → R u v = true) (hn2 : ∀ u v, R u v = true → ∃ w, (nd v).testBit w = true ∧ (u = w ∨ R u w = true))
include hnd hn1 hn2
theorem rdy_ref {d : Nat} (hd : Dwn R n d) : rdyK nd d n = rdyK bf d n := by
  apply Nat.eq_of_testBit_eq
  intro i
  rw [rdyK_bit, rdyK_bit]
  by_cases hi : i < n
  · congr 2
    rw [Bool.eq_iff_iff, sub_iff (hnd i hi), sub_iff (bf_lt hR hb hn hi)]
    constructor
    · intro h u hu
      rw [hb.bit i hi] at hu
      obtain ⟨w, w1, w2⟩ := hn2 u i hu
      have hw := h w w1
      rcases w2 with rfl | w2
      · exact hw
      · exact hd.2 u w w2 hw
    · intro h u hu
      exact h u (by rw [hb.bit i hi]; exact hn1 u i hu)
  · simp [hi]
theorem rfP_rfE {k : Nat} : ∀ {r m : Nat}, rfP nd n k r m → rfE bf n k r m
  | 0, _, h => h
  | r + 1, m, ⟨d, h1, p, h2, h3, h4, h5⟩ => by
    have e := rfP_rfE h1
    have hd := rfE_dwn hR hb hn e
    rw [rdy_ref hR hb hn hnd hn1 hn2 hd] at h3
    exact ⟨d, e, p, h3, h4, h5⟩
theorem rdy_all0 : rdyK bf (allM n) n = 0 := by
  apply Nat.eq_of_testBit_eq
  intro i
  rw [Nat.zero_testBit, rdyK_bit, allM_bit]
  by_cases hi : i < n <;> simp [hi]
theorem st_rfP {k : Nat} (hk : 1 ≤ k) : ∀ {r m : Nat}, stP bf n k r m → rfP nd n k r m ∨ (m = allM n ∧ ∃ r', r' < r ∧ rfP nd n k r' (allM n))
  | 0, _, h => .inl h
  | r + 1, m, ⟨d, h1, p, h2, h3, h4⟩ => by
    have hall : d = allM n → m = allM n := fun e => by
      subst e
      rw [rdy_all0 hR hb hn hnd hn1 hn2, Nat.and_zero] at h2
      rw [h4, ← h2, Nat.or_zero]
    rcases st_rfP hk h1 with h5 | ⟨h5, r', h6, h7⟩
    · by_cases hd : d = allM n
      · exact .inr ⟨hall hd, r, by omega, by rw [← hd]; exact h5⟩
      · have hdw := rfE_dwn hR hb hn (rfP_rfE hR hb hn hnd hn1 hn2 h5)
        have hne := rdy_ne hR hb hn hdw.1 hd
        have hpz : pop (rdyK bf d n) ≠ 0 := fun e => hne ((pop_zero_iff (rdy_lt hR hb hn d)).1 e)
        refine .inl ⟨d, h5, p, fun e => ?_, by rw [rdy_ref hR hb hn hnd hn1 hn2 hdw]; exact h2, by omega, h4⟩
        subst e
        have : pop 0 = 0 := by decide
        omega
    · exact .inr ⟨hall h5, r', by omega, h7⟩
theorem rf_least {k : Nat} (hk : 1 ≤ k) : rfP nd n k (stA bf n k) (allM n) ∧ (∀ r, r < stA bf n k → ¬ rfP nd n k r (allM n)) ∧ stA bf n k ≤ n := by
  obtain ⟨s1, s2, s3⟩ := stA_spec hR hb hn hk
  have hno : ∀ r, r < stA bf n k → ¬ rfP nd n k r (allM n) := fun r hr h => by
    obtain ⟨m, m1, m2⟩ := rfE_st hR hb hn (rfP_rfE hR hb hn hnd hn1 hn2 h)
    have m3 := stP_sub m1
    have : m = allM n := by
      apply Nat.eq_of_testBit_eq
      intro i
      rw [Bool.eq_iff_iff]
      exact ⟨fun h => sub_bits.1 m3 i h, fun h => sub_bits.1 m2 i h⟩
    subst this
    have := s2 r m1
    omega
  refine ⟨?_, hno, s3⟩
  rcases st_rfP hR hb hn hnd hn1 hn2 hk s1 with h | ⟨_, r', h1, h2⟩
  · exact h
  · exact absurd h2 (hno r' h1)
end
/-! ### of a digraph -/
theorem last_arc {n : Int} {a : List (Int × Int)} (hv : validB n a = true) {u v : Nat} (h : (rea n a u).testBit v = true) :
    ∃ w, (nextG (natA a) w).testBit v = true ∧ (u = w ∨ (rea n a u).testBit w = true) := by
  refine (warr_ind (nextG (natA a)) (fun i j => (rea n a i).testBit j = true ∧ ∃ w, (nextG (natA a) w).testBit j = true ∧ (i = w ∨ (rea n a i).testBit w = true)) (fun i j h => ?_) (fun i v j h1 h2 => ?_) n.toNat u v h).2
  · exact ⟨warr_mono _ _ i j h, i, h, .inl rfl⟩
  · obtain ⟨a1, w1, b1, c1⟩ := h1
    obtain ⟨a2, w2, b2, c2⟩ := h2
    refine ⟨Rr_trans (va_bnd hv) a1 a2, w2, b2, .inr ?_⟩
    rcases c2 with rfl | c2
    · exact a1
    · exact Rr_trans (va_bnd hv) a1 c2
theorem ref_least {n : Int} {a : List (Int × Int)} (he : ckE n a = 0) {k : Int} (hk : 1 ≤ k ∧ k ≤ 12) :
    rfP (needG (natA a)) n.toNat k.toNat (stA (bfN n a) n.toNat k.toNat) (allM n.toNat) ∧ (∀ r, r < stA (bfN n a) n.toNat k.toNat → ¬ rfP (needG (natA a)) n.toNat k.toNat r (allM n.toNat)) ∧ stA (bfN n a) n.toNat k.toNat ≤ 1000 := by
  obtain ⟨m, rfl, h12, hv, hac⟩ := ck_ok he
  have hpo := oR_po hv hac
  obtain ⟨m', hm', _, ha, hp⟩ := valid_nat hv
  obtain rfl : m = m' := by omega
  have hp' : ∀ p ∈ natA a, p.1 < m ∧ p.2 < m := fun p h => ⟨(hp p h).1, (hp p h).2.1⟩
  rw [Int.toNat_natCast] at *
  have hb : BF (bfN m a) (oR m a) m := by
    have := bfK_bf hpo
    exact ⟨fun v hv u => by have := this.bit v hv u; simpa [bfN] using this⟩
  have := rf_least hpo hb h12 (nd := needG (natA a)) (fun v _ => need_lt12 h12 hp' v) (fun u v h => ?_) (fun u v h => ?_) (k := k.toNat) (by omega)
  · exact ⟨this.1, this.2.1, by have := this.2.2; omega⟩
  · rw [oR_iff hv hac]
    rw [need_bit, ← next_bit] at h
    exact warr_mono _ _ u v h
  · rw [oR_iff hv hac] at h
    obtain ⟨w, w1, w2⟩ := last_arc hv h
    refine ⟨w, ?_, ?_⟩
    · rw [need_bit, ← next_bit]
      exact w1
    · rw [oR_iff hv hac]
      exact w2
end Go.Mx
namespace Go.Mx
set_option linter.unusedVariables false
set_option linter.unusedSimpArgs false
set_option linter.unusedSectionVars false
open Go Go.RowKit

/-! ### what antichain returns depends on the order alone -/
theorem grow_ext {g h : Nat → Nat} {n : Nat} (e : ∀ i, i < n → g i = h i) : ∀ (k v : Nat) (S best : List Nat), v + k ≤ n → (∀ u ∈ S, u < n) → growL g k v S best = growL h k v S best
  | 0, _, _, _, _, _ => rfl
  | k + 1, v, S, best, hv, hS => by
    have hc : S.any (fun u => cmpB g u v) = S.any (fun u => cmpB h u v) := by
      rw [Bool.eq_iff_iff, List.any_eq_true, List.any_eq_true]
      have hx : ∀ u ∈ S, cmpB g u v = cmpB h u v := fun u hu => by
        unfold cmpB
        rw [e u (hS u hu), e v (by omega)]
      constructor
      · rintro ⟨u, h1, h2⟩
        exact ⟨u, h1, by rw [← hx u h1]; exact h2⟩
      · rintro ⟨u, h1, h2⟩
        exact ⟨u, h1, by rw [hx u h1]; exact h2⟩
    unfold growL
    rw [hc]
    have hS' : ∀ u ∈ S ++ [v], u < n := fun u hu => by
      rcases List.mem_append.1 hu with h | h
      · exact hS u h
      · rw [List.mem_singleton.1 h]; omega
    rw [grow_ext e k (v + 1) (S ++ [v]) _ (by omega) hS']
    exact grow_ext e k (v + 1) S _ (by omega) hS
theorem antL_ext {g h : Nat → Nat} {n : Nat} (e : ∀ i, i < n → g i = h i) : antL g n = antL h n := grow_ext e n 0 [] [] (by omega) (by simp)
theorem gkI_inj (k : IntKind) : ∀ {l m : List Int}, gk (eI k) l = gk (eI k) m → l = m
  | [], [], _ => rfl
  | [], y :: m, h => by have h : ([] : List D) = T.v (.int k y) :: gk (eI k) m := h; cases h
  | x :: l, [], h => by have h : T.v (.int k x) :: gk (eI k) l = ([] : List D) := h; cases h
  | x :: l, y :: m, h => by
    have h : T.v (.int k x) :: gk (eI k) l = T.v (.int k y) :: gk (eI k) m := h
    simp only [List.cons.injEq, T.v.injEq, Value.int.injEq, true_and] at h
    rw [h.1, gkI_inj k h.2]
theorem gkA_inj : ∀ {l m : List (Int × Int)}, gk eA l = gk eA m → l = m
  | [], [], _ => rfl
  | [], y :: m, h => by have h : ([] : List D) = T.v (.int .i64 y.1) :: T.v (.int .i64 y.2) :: gk eA m := h; cases h
  | x :: l, [], h => by have h : T.v (.int .i64 x.1) :: T.v (.int .i64 x.2) :: gk eA l = ([] : List D) := h; cases h
  | x :: l, y :: m, h => by
    have h : T.v (.int .i64 x.1) :: T.v (.int .i64 x.2) :: gk eA l = T.v (.int .i64 y.1) :: T.v (.int .i64 y.2) :: gk eA m := h
    simp only [List.cons.injEq, T.v.injEq, Value.int.injEq, true_and] at h
    rw [gkA_inj h.2.2, Prod.ext h.1 h.2.1]
theorem su6_inj {n m : Nat} {g h : Nat → Nat} (e : su6 n g = su6 m h) : n = m ∧ ∀ i, i < n → g i = h i := by
  have e2 : zr n g = zr m h := gkI_inj .u64 (T.nd.inj e).2
  have h1 : n = m := by
    have := congrArg List.length e2
    simpa using this
  subst h1
  refine ⟨rfl, fun i hi => ?_⟩
  have := congrArg (fun l => nth l 0 i) e2
  simp only [zr_nth n _ hi] at this
  omega
/-! ### the oracle -/
def BR (f : FuncId) (ds : List D) (d : D) : Prop :=
  (f = 43 ∧ ∃ n g, n ≤ 12 ∧ (∀ i, g i < 2 ^ 64) ∧ ds = [su6 n g] ∧ d = soE (antL g n)) ∨
  (f = 29 ∧ ∃ b n a, a.length ≤ 1000 ∧ ds = [nI n, sa b a] ∧ d = chD n a) ∨
  (f = 15 ∧ ∃ b n a k, a.length ≤ 1000 ∧ ds = [nI n, sa b a, nI k] ∧ d = stD n a k)
theorem sa_inj {b c : Bool} {l m : List (Int × Int)} (e : sa b l = sa c m) : l = m := gkA_inj (T.nd.inj e).2
theorem BR_fun {f : FuncId} {ds : List D} {d d' : D} (h : BR f ds d) (h' : BR f ds d') : d = d' := by
  rcases h with ⟨h0, n, g, h1, h2, h3, h4⟩ | ⟨h0, b, n, a, h1, h2, h3⟩ | ⟨h0, b, n, a, k, h1, h2, h3⟩ <;>
    rcases h' with ⟨k0, n', g', k1, k2, k3, k4⟩ | ⟨k0, b', n', a', k1, k2, k3⟩ | ⟨k0, b', n', a', k', k1, k2, k3⟩ <;> try (exfalso; rw [h0] at k0; exact absurd k0 (by decide))
  · rw [h3] at k3
    simp only [List.cons.injEq, and_true] at k3
    obtain ⟨rfl, e⟩ := su6_inj k3
    rw [h4, k4, antL_ext e]
  · rw [h2] at k2
    simp only [List.cons.injEq, and_true, T.v.injEq, Value.int.injEq, true_and] at k2
    obtain ⟨rfl, e⟩ := k2
    rw [h3, k3, sa_inj e]
  · rw [h2] at k2
    simp only [List.cons.injEq, and_true, T.v.injEq, Value.int.injEq, true_and] at k2
    obtain ⟨rfl, e, rfl⟩ := k2
    rw [h3, k3, sa_inj e]
open Classical in
noncomputable def baseA : Oracle := fun f ds => if h : ∃ d, BR f ds d then some (Classical.choose h) else none
open Classical in
theorem baseA_at {f : FuncId} {ds : List D} {d : D} (h : BR f ds d) : baseA f ds = some d := by
  have hx : ∃ d, BR f ds d := ⟨d, h⟩
  unfold baseA
  rw [dif_pos hx, BR_fun (Classical.choose_spec hx) h]
open Classical in
theorem baseA_br {f : FuncId} {ds : List D} {d : D} (h : baseA f ds = some d) : BR f ds d := by
  unfold baseA at h
  split at h
  · rename_i hx
    cases h
    exact Classical.choose_spec hx
  · cases h
theorem ent43 : Enters Go.Proofs.Try.prog 43 := ⟨_, _, Go.Proofs.Try.func43, by kernel_rfl, rfl⟩
theorem ent29 : Enters Go.Proofs.Try.prog 29 := ⟨_, _, Go.Proofs.Try.func29, by kernel_rfl, rfl⟩
theorem ent15 : Enters Go.Proofs.Try.prog 15 := ⟨_, _, Go.Proofs.Try.func15, by kernel_rfl, rfl⟩
theorem baseA_ok : BaseOK Go.Proofs.Try.prog Glob.none baseA := by
  intro f ds d hlt h
  rcases baseA_br h with ⟨rfl, n, g, h1, h2, h3, h4⟩ | ⟨rfl, b, n, a, h1, h2, h3⟩ | ⟨rfl, b, n, a, k, h1, h2, h3⟩
  · refine ⟨ent43, fun l w hg he hm hb => ?_⟩
    subst h3
    match l, he, hm, hb with
    | [t], he, hm, hb =>
      simp only [erL, List.cons.injEq, and_true] at he
      have := anti_any n g h1 h2 w t he hm.1 (fun c hc => hb c (by simpa [cntL] using hc))
      rw [h4]
      exact this
    | [], he, _, _ => simp [erL] at he
    | _ :: _ :: _, he, _, _ => simp [erL] at he
  · refine ⟨ent29, fun l w hg he hm hb => ?_⟩
    subst h2
    match l, he, hm, hb with
    | [tn, t], he, hm, hb =>
      simp only [erL, List.cons.injEq, and_true] at he
      obtain ⟨e1, e2⟩ := he
      have e1 := er_eq_v e1
      subst e1
      have := chains_any b n a h1 w (val t) ⟨t, e2, rfl, hm.2.1, fun c hc => hb c (by simp only [cntL, cnt]; omega)⟩
      rw [h3]
      exact this
    | [], he, _, _ => simp [erL] at he
    | [_], he, _, _ => simp [erL] at he
    | _ :: _ :: _ :: _, he, _, _ => simp [erL] at he
  · refine ⟨ent15, fun l w hg he hm hb => ?_⟩
    subst h2
    match l, he, hm, hb with
    | [tn, t, tk], he, hm, hb =>
      simp only [erL, List.cons.injEq, and_true] at he
      obtain ⟨e1, e2, e3⟩ := he
      have e1 := er_eq_v e1
      have e3 := er_eq_v e3
      subst e1 e3
      have := streams_any b n a h1 w (val t) ⟨t, e2, rfl, hm.2.1, fun c hc => hb c (by simp only [cntL, cnt]; omega)⟩ k
      rw [h3]
      exact this
    | [], he, _, _ => simp [erL] at he
    | [_], he, _, _ => simp [erL] at he
    | [_, _], he, _, _ => simp [erL] at he
    | _ :: _ :: _ :: _ :: _, he, _, _ => simp [erL] at he
/-! ### depths -/
noncomputable abbrev S (n : Nat) : Oracle := semB baseA tbl 6000 n
theorem sA : Sy S := syB baseA
theorem s43 (k : Nat) {n : Nat} {g : Nat → Nat} (hn : n ≤ 12) (hg : ∀ i, g i < 2 ^ 64) : S (k + 1) 43 [su6 n g] = some (soE (antL g n)) := by
  rw [S, semB_base rfl (by decide)]; exact baseA_at (.inl ⟨rfl, n, g, hn, hg, rfl, rfl⟩)
theorem s29 (k : Nat) (b : Bool) (n : Int) (a : List (Int × Int)) (hl : a.length ≤ 1000) : S (k + 1) 29 [nI n, sa b a] = some (chD n a) := by
  rw [S, semB_base rfl (by decide)]; exact baseA_at (.inr (.inl ⟨rfl, b, n, a, hl, rfl, rfl⟩))
theorem s15 (k : Nat) (b : Bool) (n : Int) (a : List (Int × Int)) (hl : a.length ≤ 1000) (m : Int) : S (k + 1) 15 [nI n, sa b a, nI m] = some (stD n a m) := by
  rw [S, semB_base rfl (by decide)]; exact baseA_at (.inr (.inr ⟨rfl, b, n, a, m, hl, rfl, rfl⟩))
theorem s12 (k : Nat) (b : Bool) (a : List (Int × Int)) : S (k + 1) 12 [sa b a] = some (.v (.bool (decide (a.length ≤ 80)))) := by rw [sA _ _ _ c12 rfl rfl]; exact f12 _ _ b a
theorem s18 (k : Nat) (x m : Int) (hm : 0 < m ∧ m ≤ 1000) : S (k + 1) 18 [nI x, nI m] = some (nI (modZ x m)) := by rw [sA _ _ _ c18 rfl rfl]; exact f18 _ _ x m hm
theorem s41 (k : Nat) (v x y : Int) : S (k + 1) 41 [nI v, nI x, nI y] = some (.v (.bool (decide (x ≤ v) && decide (v ≤ y)))) := by rw [sA _ _ _ c41 rfl rfl]; exact f41 _ _ v x y
theorem s28 (k : Nat) (b c : Bool) (l m : List Int) (hl : l.length ≤ 1000) : S (k + 1) 28 [si b l, si c m] = some (.v (.bool (l == m))) := by rw [sA _ _ _ c28 rfl rfl]; exact f28 _ _ (by decide) b c l m hl
theorem s17 (k : Nat) (b c : Bool) (l m : List (Bool × List Int)) (hl : l.length ≤ 1000) (hx : ∀ x ∈ l, x.2.length ≤ 1000) : S (k + 2) 17 [gsl eII b l, gsl eII c m] = some (.v (.bool (listsB l m))) := by
  rw [sA _ _ _ c17 rfl rfl]; exact f17 _ _ (by decide) b c l m hl fun x h y => s28 k x.1 y.1 x.2 y.2 (hx x h)
theorem s32 (k : Nat) (b : Bool) (l : List Int) (hl : l.length ≤ 1000) (n : Int) : S (k + 1) 32 [si b l, nI n] = some (.v (.bool (l.any (· == n)))) := by rw [sA _ _ _ c32 rfl rfl]; exact f32 _ _ (by decide) b l hl n
theorem s36 (k : Nat) (n : Nat) (g : Nat → Nat) (hg : ∀ i, g i < 2 ^ 64) (i j : Nat) (hi : i < n) (hj : j < 64) : S (k + 1) 36 [su6 n g, nI i, nI j] = some (.v (.bool ((g i).testBit j))) := by rw [sA _ _ _ c36 rfl rfl]; exact f36 _ _ n g hg i j hi hj
theorem s42 (k : Nat) (n set : Nat) (hn : n ≤ 12) (hs : set < 4096) : S (k + 1) 42 [nI n, nI set] = some (soE (memL n set)) := by rw [sA _ _ _ c42 rfl rfl]; exact f42 _ _ (by decide) n set hn hs
theorem s48 (k : Nat) (l m : List Nat) (h : l.length = m.length) (hl : l.length ≤ 900) : S (k + 1) 48 [soE l, soE m] = some (.v (.bool (befB l m))) := by rw [sA _ _ _ c48 rfl rfl]; exact f48 _ _ (by decide) _ _ l m hl h
theorem s33 (k : Nat) (b : Bool) (n : Int) (a : List (Int × Int)) (hl : a.length ≤ 1000) : S (k + 4) 33 [nI n, sa b a] = some (ckD n a) := u33 sA k b n a hl
theorem s21 (k : Nat) (b : Bool) (n : Int) (a : List (Int × Int)) (hl : a.length ≤ 1000) : S (k + 1) 21 [nI n, sa b a] = some (.v (.bool (validB n a))) := u21 sA k b n a hl
theorem s47 (k : Nat) (b : Bool) (n : Int) (a : List (Int × Int)) (hl : a.length ≤ 1000) (hv : validB n a = true) : S (k + 1) 47 [nI n, sa b a] = some (tB n.toNat (tbl35 (rea n a))) := by rw [sA _ _ _ c47 rfl rfl]; exact f47 _ _ (by decide) b n a hv hl
theorem s40 (k : Nat) (b : Bool) (n : Int) (a : List (Int × Int)) (hl : a.length ≤ 1000) : S (k + 2) 40 [nI n, sa b a] = some (nI (ckE n a)) := by rw [sA _ _ _ c40 rfl rfl]; exact f40 _ _ (by decide) b n a (s21 k b n a hl) (s47 k b n a hl)
theorem s26 (k : Nat) (b : Bool) (n : Int) (a : List (Int × Int)) (hl : a.length ≤ 1000) : S (k + 3) 26 [nI n, sa b a] = some (if ckE n a = 0 then .nd .tu [soE (refA n a), nI 0] else .nd .tu [si true [], nI (ckE n a)]) := by
  rw [sA _ _ _ c26 rfl rfl]; exact f26 _ _ (by decide) b n a (s40 k b n a hl) (s47 (k + 1) b n a hl) (fun n set h1 h2 => s42 (k + 1) n set h1 h2) fun l m h1 h2 => s48 (k + 1) l m h1 h2
theorem s24 (k : Nat) (b : Bool) (n : Int) (a : List (Int × Int)) (hl : a.length ≤ 1000) : S (k + 4) 24 [nI n, sa b a] = some (if ckE n a = 0 then .nd .tu [nI (refA n a).length, nI 0] else .nd .tu [nI 0, nI (ckE n a)]) := by
  rw [sA _ _ _ c24 rfl rfl]; exact f24 _ _ b n a (s26 k b n a hl)
theorem s35 (k : Nat) (b : Bool) (n : Int) (a : List (Int × Int)) (hl : a.length ≤ 1000) (hv : validB n a = true) : S (k + 1) 35 [nI n, sa b a] = some (lz n.toNat (levO n a)) := by rw [sA _ _ _ c35 rfl rfl]; exact f35 _ _ (by decide) b n a hl hv
theorem s27 (k : Nat) (b : Bool) (n : Int) (a : List (Int × Int)) (hl : a.length ≤ 1000) : S (k + 3) 27 [nI n, sa b a] = some (if ckE n a = 0 then .nd .tu [nI (maxN (levO n a) n.toNat : Nat), nI 0] else .nd .tu [nI 0, nI (ckE n a)]) := by
  rw [sA _ _ _ c27 rfl rfl]; exact f27 _ _ (by decide) b n a (s40 k b n a hl) (s35 (k + 1) b n a hl)
theorem s14 (k : Nat) (b : Bool) (n : Int) (a : List (Int × Int)) (hl : a.length ≤ 1000) : S (k + 4) 14 [nI n, sa b a] = some (if ckE n a = 0 then .nd .tu [gsl eII false (rdR (levR (natA a) n.toNat) (maxN (levO n a) n.toNat) n.toNat), nI 0] else .nd .tu [gsl eII true [], nI (ckE n a)]) := by
  rw [sA _ _ _ c14 rfl rfl]; exact f14 _ _ (by decide) b n a hl (s27 k b n a hl) (s35 (k + 2) b n a hl)
theorem s16 (k : Nat) (b : Bool) (n : Int) (a : List (Int × Int)) (hl : a.length ≤ 1000) (m : Int) : S (k + 3) 16 [nI n, sa b a, nI m] = some (stD n a m) := by
  rw [sA _ _ _ c16 rfl rfl]
  exact f16 _ _ (by decide) b n a hl m (stA (bfN n a) n.toNat m.toNat) (fun he hk => ref_least he hk) (s40 k b n a hl) (s41 (k + 1)) fun n set h1 h2 => s42 (k + 1) n set h1 h2
theorem s20 (k : Nat) (b : Bool) (n : Int) (a : List (Int × Int)) (hl : a.length ≤ 1000) : S (k + 5) 20 [nI n, sa b a] = some (if ckE n a = 0 then .nd .tu [nI (antL (ordG n a) n.toNat).length, nI 0] else .nd .tu [nI 0, nI (ckE n a)]) := by
  rw [sA _ _ _ c20 rfl rfl]
  have := f20 (S (k + 4)) 6000 b ((antL (ordG n a) n.toNat).length == 0) n a (zl (antL (ordG n a) n.toNat)) (s33 k b n a hl) (fun he => s43 (k + 3) (by obtain ⟨m, rfl, h, _⟩ := ck_ok he; omega) (ord_lt he))
  rw [zl_len] at this
  exact this
theorem s25 (k : Nat) (b : Bool) (n : Int) (a : List (Int × Int)) (hl : a.length ≤ 1000) : S (k + 5) 25 [nI n, sa b a] = some (if ckE n a = 0 then .nd .tu [soE (antL (ordG n a) n.toNat), nI 0] else .nd .tu [si true [], nI (ckE n a)]) := by
  rw [sA _ _ _ c25 rfl rfl]
  exact f25 (S (k + 4)) 6000 b ((antL (ordG n a) n.toNat).length == 0) n a (zl (antL (ordG n a) n.toNat)) (s33 k b n a hl) (fun he => s43 (k + 3) (by obtain ⟨m, rfl, h, _⟩ := ck_ok he; omega) (ord_lt he))
theorem s53 (k : Nat) (b : Bool) (n : Int) (a : List (Int × Int)) (hl : a.length ≤ 1000) : S (k + 2) 53 [nI n, sa b a] = some (ordD n a) := by
  rw [sA _ _ _ c53 rfl rfl]; exact f53 _ _ (by decide) b n a hl (u46 sA k) (u44 sA k b n a hl)
theorem s34 (k : Nat) (b : Bool) (n : Int) (a : List (Int × Int)) (hl : a.length ≤ 1000) : S (k + 3) 34 [nI n, sa b a] = some (levelsD n a) := by
  rw [sA _ _ _ c34 rfl rfl]; exact f34 _ _ (by decide) b n a hl (u46 sA (k + 1)) (s53 k b n a hl) fun hv => u54 sA (k + 1) b n a hv hl
theorem lev_ok {n : Int} {a : List (Int × Int)} (he : ckE n a = 0) : levelsD n a = .nd .tu [lz n.toNat (levR (natA a) n.toNat), nI 0] := by
  obtain ⟨m, rfl, h12, hv, hac⟩ := ck_ok he
  rw [levels_same, levelsR, if_pos hv, if_pos hac]
theorem s23 (k : Nat) (b : Bool) (n : Int) (a : List (Int × Int)) (hl : a.length ≤ 1000) (i j : Int) : S (k + 3) 23 [nI n, sa b a, nI i, nI j] = some (.v (.bool (reachZ n a i j))) := by
  rw [sA _ _ _ c23 rfl rfl]; exact f23 _ _ b n a hl i j (u44 sA (k + 1) b n a hl) (u46 sA (k + 1)) (u45 sA k)
end Go.Mx
namespace Go.Mx
set_option linter.unusedVariables false
set_option linter.unusedSimpArgs false
set_option linter.unusedSectionVars false
open Go

/-! ### which list stands first -/
def befR : List Nat → List Nat → Prop
  | x :: l, y :: m => x < y ∨ (x = y ∧ befR l m)
  | _, _ => False
theorem befR_irr : ∀ l, ¬ befR l l
  | [] => id
  | x :: l => fun h => by
    rcases h with h | h
    · omega
    · exact befR_irr l h.2
theorem befR_trans : ∀ {l m o : List Nat}, befR l m → befR m o → befR l o
  | x :: l, y :: m, z :: o, h1, h2 => by
    rcases h1 with h1 | ⟨rfl, h1⟩ <;> rcases h2 with h2 | ⟨rfl, h2⟩
    · exact .inl (by omega)
    · exact .inl h1
    · exact .inl h2
    · exact .inr ⟨rfl, befR_trans h1 h2⟩
  | [], _, _, h, _ => h.elim
  | _ :: _, [], _, h, _ => h.elim
  | _ :: _, _ :: _, [], _, h => h.elim
theorem befR_total : ∀ {l m : List Nat}, l.length = m.length → l ≠ m → befR l m ∨ befR m l
  | [], [], _, h => absurd rfl h
  | [], _ :: _, h, _ => by simp at h
  | _ :: _, [], h, _ => by simp at h
  | x :: l, y :: m, h, hne => by
    rcases Nat.lt_trichotomy x y with h1 | h1 | h1
    · exact .inl (.inl h1)
    · subst h1
      have : l ≠ m := fun e => hne (by rw [e])
      rcases befR_total (by simpa using h) this with h2 | h2
      · exact .inl (.inr ⟨rfl, h2⟩)
      · exact .inr (.inr ⟨rfl, h2⟩)
    · exact .inr (.inl h1)
theorem befR_app : ∀ (S : List Nat) {v w : Nat} (l m : List Nat), v < w → befR (S ++ v :: l) (S ++ w :: m)
  | [], _, _, _, _, h => .inl h
  | x :: S, _, _, l, m, h => .inr ⟨rfl, befR_app S l m h⟩
theorem befB_iff : ∀ {l m : List Nat}, l.length = m.length → (befB l m = true ↔ befR l m)
  | [], [], _ => by simp [befB, befR]
  | [], _ :: _, h => by simp at h
  | _ :: _, [], h => by simp at h
  | x :: l, y :: m, h => by
    have ih := befB_iff (l := l) (m := m) (by simpa using h)
    have hr : List.range (x :: l).length = 0 :: (List.range l.length).map Nat.succ := by rw [List.length_cons, List.range_succ_eq_map]
    unfold befB at ih ⊢
    rw [hr, List.find?_cons]
    have n0 : nth (x :: l) 0 0 = x := rfl
    have m0 : nth (y :: m) 0 0 = y := rfl
    rw [n0, m0]
    by_cases hxy : x = y
    · subst hxy
      simp only [bne_self_eq_false]
      rw [List.find?_map]
      have hc : ((fun i => nth (x :: l) 0 i != nth (x :: m) 0 i) ∘ Nat.succ) = fun i => nth l 0 i != nth m 0 i := by
        funext i
        rfl
      rw [hc]
      show _ ↔ x < x ∨ (x = x ∧ befR l m)
      rw [← ih]
      cases (List.range l.length).find? fun i => nth l 0 i != nth m 0 i with
      | none => simp
      | some i =>
        simp only [Option.map_some, Option.elim]
        have e1 : nth (x :: l) 0 (Nat.succ i) = nth l 0 i := rfl
        have e2 : nth (x :: m) 0 (Nat.succ i) = nth m 0 i := rfl
        rw [e1, e2]
        simp
    · have : (x != y) = true := by simpa using hxy
      rw [this]
      show decide (nth (x :: l) 0 0 < nth (y :: m) 0 0) = true ↔ _
      rw [n0, m0]
      show _ ↔ x < y ∨ (x = y ∧ befR l m)
      simp [hxy]
/-! ### antichains as lists -/
structure AcL (R : Nat → Nat → Bool) (n : Nat) (l : List Nat) : Prop where
  asc : l.Pairwise (· < ·)
  anti : l.Pairwise fun u v => R u v = false ∧ R v u = false
  lt : ∀ v ∈ l, v < n
/-- The first of the largest. -/
def Best (R : Nat → Nat → Bool) (n : Nat) (l : List Nat) : Prop := AcL R n l ∧ (∀ m, AcL R n m → m.length ≤ l.length) ∧ ∀ m, AcL R n m → m.length = l.length → ¬ befR m l
theorem best_unique {R : Nat → Nat → Bool} {n : Nat} {l m : List Nat} (hl : Best R n l) (hm : Best R n m) : l = m := by
  have e : l.length = m.length := Nat.le_antisymm (hm.2.1 l hl.1) (hl.2.1 m hm.1)
  apply Classical.byContradiction
  intro hne
  rcases befR_total e hne with h | h
  · exact hm.2.2 l hl.1 e h
  · exact hl.2.2 m hm.1 e.symm h
theorem cmp_iff (g : Nat → Nat) (u v : Nat) : cmpB g u v = false ↔ Rb g u v = false ∧ Rb g v u = false := by
  unfold cmpB Rb
  exact Bool.or_eq_false_iff
theorem grow_spec (g : Nat → Nat) (n : Nat) : ∀ (k v : Nat) (S best : List Nat), v + k = n → AcL (Rb g) n S → (∀ u ∈ S, u < v) → S.length ≤ best.length →
    (growL g k v S best = best ∨ ∃ e, growL g k v S best = S ++ e ∧ e ≠ [] ∧ AcL (Rb g) n (S ++ e) ∧ (∀ x ∈ e, v ≤ x) ∧ best.length < (growL g k v S best).length) ∧
    ∀ e, e ≠ [] → (∀ x ∈ e, v ≤ x) → AcL (Rb g) n (S ++ e) → (S ++ e).length ≤ (growL g k v S best).length ∧ ((S ++ e).length = (growL g k v S best).length → best.length < (growL g k v S best).length → ¬ befR (S ++ e) (growL g k v S best))
  | 0, v, S, best, hv, hS, hSv, hb => by
    refine ⟨.inl rfl, fun e he hx ha => ?_⟩
    exfalso
    obtain ⟨x, t, rfl⟩ := List.exists_cons_of_ne_nil he
    have h1 := hx x (by simp)
    have h2 := ha.lt x (by simp)
    omega
  | k + 1, v, S, best, hv, hS, hSv, hb => by
    unfold growL
    have hvn : v < n := by omega
    by_cases hany : S.any (fun u => cmpB g u v) = true
    · rw [if_pos hany]
      obtain ⟨h1, h2⟩ := grow_spec g n k (v + 1) S best (by omega) hS (fun u hu => by have := hSv u hu; omega) hb
      refine ⟨?_, fun e he hx ha => ?_⟩
      · rcases h1 with h1 | ⟨e, e1, e2, e3, e4, e5⟩
        · exact .inl h1
        · exact .inr ⟨e, e1, e2, e3, fun x hx => by have := e4 x hx; omega, e5⟩
      · refine h2 e he (fun x hxe => ?_) ha
        have := hx x hxe
        rcases Nat.lt_or_ge v x with h | h
        · exact h
        · exfalso
          obtain rfl : x = v := by omega
          obtain ⟨u, hu1, hu2⟩ := List.any_eq_true.1 hany
          have := (List.pairwise_append.1 ha.anti).2.2 u hu1 x hxe
          rw [(cmp_iff g u x).2 this] at hu2
          cases hu2
    · rw [if_neg hany]
      have hS' : AcL (Rb g) n (S ++ [v]) := by
        refine ⟨List.pairwise_append.2 ⟨hS.asc, by simp, fun u hu x hx => ?_⟩, List.pairwise_append.2 ⟨hS.anti, by simp, fun u hu x hx => ?_⟩, fun x hx => ?_⟩
        · rw [List.mem_singleton.1 hx]; exact hSv u hu
        · rw [List.mem_singleton.1 hx]
          refine (cmp_iff g u v).1 ?_
          cases hc : cmpB g u v with
          | false => rfl
          | true => exact absurd (List.any_eq_true.2 ⟨u, hu, hc⟩) hany
        · rcases List.mem_append.1 hx with h | h
          · exact hS.lt x h
          · rw [List.mem_singleton.1 h]; exact hvn
      have hS'v : ∀ u ∈ S ++ [v], u < v + 1 := fun u hu => by
        rcases List.mem_append.1 hu with h | h
        · have := hSv u h; omega
        · rw [List.mem_singleton.1 h]; omega
      have hlen : (S ++ [v]).length = S.length + 1 := by simp
      have hup : (up (S ++ [v]) best = S ++ [v] ∧ best.length < (S ++ [v]).length) ∨ (up (S ++ [v]) best = best ∧ (S ++ [v]).length ≤ best.length) := by
        unfold up
        by_cases h : best.length < (S ++ [v]).length
        · exact .inl ⟨if_pos h, h⟩
        · exact .inr ⟨if_neg h, by omega⟩
      have hup1 : (S ++ [v]).length ≤ (up (S ++ [v]) best).length ∧ best.length ≤ (up (S ++ [v]) best).length := by
        rcases hup with ⟨h1, h2⟩ | ⟨h1, h2⟩ <;> rw [h1] <;> omega
      obtain ⟨i1, i2⟩ := grow_spec g n k (v + 1) (S ++ [v]) (up (S ++ [v]) best) (by omega) hS' hS'v hup1.1
      generalize growL g k (v + 1) (S ++ [v]) (up (S ++ [v]) best) = b' at *
      generalize up (S ++ [v]) best = best1 at *
      have hb1 : best1.length ≤ b'.length := by
        rcases i1 with rfl | ⟨e, _, _, _, _, h⟩
        · exact Nat.le_refl _
        · omega
      obtain ⟨j1, j2⟩ := grow_spec g n k (v + 1) S b' (by omega) hS (fun u hu => by have := hSv u hu; omega) (by omega)
      generalize growL g k (v + 1) S b' = r at *
      have hbr : b'.length ≤ r.length := by
        rcases j1 with rfl | ⟨e, _, _, _, _, h⟩
        · exact Nat.le_refl _
        · omega
      have hr : b'.length = r.length → r = b' := fun h => by
        rcases j1 with h1 | ⟨e, _, _, _, _, h1⟩
        · exact h1
        · omega
      -- a larger one in b' begins with S and v
      have hbig : best.length < b'.length → ∃ t, b' = S ++ v :: t ∧ AcL (Rb g) n (S ++ v :: t) ∧ ∀ x ∈ t, v ≤ x := fun h => by
        rcases i1 with h1 | ⟨e, e1, e2, e3, e4, e5⟩
        · rcases hup with ⟨h2, h3⟩ | ⟨h2, h3⟩
          · exact ⟨[], by rw [h1, h2], hS', by simp⟩
          · rw [h1, h2] at h; omega
        · refine ⟨e, by rw [e1]; simp, by simpa using e3, fun x hx => by have := e4 x hx; omega⟩
      refine ⟨?_, fun e he hx ha => ?_⟩
      · rcases j1 with h1 | ⟨e, e1, e2, e3, e4, e5⟩
        · by_cases hbb : best.length < b'.length
          · obtain ⟨t, t1, t2, t3⟩ := hbig hbb
            refine .inr ⟨v :: t, by rw [h1, t1], by simp, t2, fun x hx => ?_, by rw [h1]; exact hbb⟩
            rcases List.mem_cons.1 hx with rfl | h
            · exact Nat.le_refl _
            · exact t3 x h
          · left
            rw [h1]
            rcases i1 with h2 | ⟨e, _, _, _, _, h2⟩
            · rcases hup with ⟨h3, h4⟩ | ⟨h3, h4⟩
              · rw [h2, h3] at hbb; omega
              · rw [h2, h3]
            · omega
        · exact .inr ⟨e, e1, e2, e3, fun x hx => by have := e4 x hx; omega, by omega⟩
      · obtain ⟨x, t, rfl⟩ := List.exists_cons_of_ne_nil he
        have hxv := hx x (by simp)
        have hasc := (List.pairwise_append.1 ha.asc).2.1
        rw [List.pairwise_cons] at hasc
        by_cases hxe : x = v
        · subst hxe
          have hl : S ++ x :: t = (S ++ [x]) ++ t := by simp
          by_cases ht : t = []
          · subst ht
            refine ⟨by rw [hl]; simp only [List.append_nil]; omega, fun h1 h2 => ?_⟩
            have hb'r : b'.length = r.length := by omega
            have hrb := hr hb'r
            have hb1b : b' = best1 := by
              rcases i1 with h3 | ⟨e, _, _, _, _, h3⟩
              · exact h3
              · omega
            rcases hup with ⟨h3, h4⟩ | ⟨h3, h4⟩
            · rw [hrb, hb1b, h3]
              exact befR_irr _
            · rw [hrb, hb1b, h3] at h2
              omega
          · have i2' := i2 t ht (fun y hy => hasc.1 y hy) (by rw [← hl]; exact ha)
            rw [← hl] at i2'
            refine ⟨by omega, fun h1 h2 => ?_⟩
            have hb'r : b'.length = r.length := by omega
            have hrb := hr hb'r
            rw [hrb]
            by_cases hbb : best1.length < b'.length
            · exact i2'.2 (by omega) hbb
            · exfalso
              have htl : 0 < t.length := List.length_pos_iff.2 ht
              have hb1b : b' = best1 := by
                rcases i1 with h3 | ⟨e, _, _, _, _, h3⟩
                · exact h3
                · omega
              rcases hup with ⟨h3, h4⟩ | ⟨h3, h4⟩
              · have : (S ++ x :: t).length = (S ++ [x]).length + t.length := by rw [hl, List.length_append]
                rw [hb1b, h3] at hb'r
                omega
              · rw [hrb, hb1b, h3] at h2
                omega
        · have hvx : v < x := by omega
          have j2' := j2 (x :: t) he (fun y hy => by
            rcases List.mem_cons.1 hy with rfl | h
            · exact hvx
            · have := hasc.1 y h; omega) ha
          refine ⟨j2'.1, fun h1 h2 => ?_⟩
          by_cases hbb : b'.length < r.length
          · exact j2'.2 h1 hbb
          · have hrb := hr (by omega)
            obtain ⟨s, s1, _, _⟩ := hbig (by rw [← hrb]; exact h2)
            rw [hrb, s1]
            intro h
            exact befR_irr _ (befR_trans h (befR_app S s t hvx))
theorem antL_best (g : Nat → Nat) (n : Nat) : Best (Rb g) n (antL g n) := by
  have hnil : AcL (Rb g) n [] := ⟨by simp, by simp, by simp⟩
  obtain ⟨h1, h2⟩ := grow_spec g n n 0 [] [] (by omega) hnil (by simp) (Nat.le_refl _)
  unfold antL
  refine ⟨?_, fun m hm => ?_, fun m hm he => ?_⟩
  · rcases h1 with h1 | ⟨e, e1, _, e3, _⟩
    · rw [h1]; exact hnil
    · rw [e1]; exact e3
  · by_cases h : m = []
    · subst h; exact Nat.zero_le _
    · have := (h2 m h (by simp) (by simpa using hm)).1
      simpa using this
  · by_cases h : m = []
    · subst h
      intro hb
      exact hb
    · have := (h2 m h (by simp) (by simpa using hm)).2
      have hpos : 0 < m.length := List.length_pos_iff.2 h
      simp only [List.nil_append, List.length_nil] at this
      exact this he (by omega)
/-! ### the reference's -/
theorem anti_iff (p : Nat → Nat → Bool) (l : List Nat) : antiB p l = true ↔ l.Pairwise fun u v => p u v = false ∧ p v u = false := by
  unfold antiB antiI
  rw [List.pairwise_iff_getElem, List.all_eq_true]
  constructor
  · intro h i j hi hj hij
    have := List.all_eq_true.1 (h j (List.mem_range.2 hj)) i (List.mem_range.2 hij)
    unfold apt at this
    rw [nth_get 0 hi, nth_get 0 hj] at this
    simp only [Bool.and_eq_true, Bool.not_eq_true'] at this
    exact ⟨this.2, this.1⟩
  · intro h i hi
    rw [List.all_eq_true]
    intro k hk
    have hi := List.mem_range.1 hi
    have hk := List.mem_range.1 hk
    have := h k i (by omega) hi hk
    unfold apt
    rw [nth_get 0 hi, nth_get 0 (show k < l.length by omega), this.1, this.2]
    rfl
theorem memL_asc (n s : Nat) : (memL n s).Pairwise (· < ·) := List.Pairwise.sublist List.filter_sublist List.pairwise_lt_range
theorem list_mem {R : Nat → Nat → Bool} {n : Nat} {l : List Nat} (h : AcL R n l) : ∃ s, s < pw n ∧ l = memL n s := by
  refine ⟨mkM (fun v => l.contains v) n, mkM_lt _ _, ?_⟩
  refine sorted_ext (· < ·) (fun x => Nat.lt_irrefl x) (fun x y h1 h2 => by omega) l _ h.asc (memL_asc _ _) fun x => ?_
  rw [mem_memL, mkM_bit]
  simp only [Bool.and_eq_true, decide_eq_true_eq, List.contains_iff_mem]
  exact ⟨fun hx => ⟨h.lt x hx, h.lt x hx, hx⟩, fun hx => hx.2.2⟩
theorem bestN_spec (p : Nat → Nat → Bool) (n : Nat) : ∀ k, AcL p n (bestN p n k) ∧ ∀ s, s < k → AcL p n (memL n s) → (memL n s).length ≤ (bestN p n k).length ∧ ((memL n s).length = (bestN p n k).length → ¬ befR (memL n s) (bestN p n k))
  | 0 => ⟨⟨by simp [bestN], by simp [bestN], by simp [bestN]⟩, fun s h => by omega⟩
  | k + 1 => by
    obtain ⟨h1, h2⟩ := bestN_spec p n k
    rw [bestN_succ]
    unfold bestS
    by_cases hb : betB p (bestN p n k) (memL n k) = true
    · rw [if_pos hb]
      unfold betB at hb
      simp only [Bool.and_eq_true, Bool.or_eq_true, decide_eq_true_eq] at hb
      obtain ⟨b1, b2⟩ := hb
      have hac : AcL p n (memL n k) := ⟨memL_asc n k, (anti_iff p _).1 b1, fun v hv => (mem_memL.1 hv).1⟩
      refine ⟨hac, fun s hs ha => ?_⟩
      by_cases e : s = k
      · subst e
        exact ⟨Nat.le_refl _, fun _ => befR_irr _⟩
      · obtain ⟨g1, g2⟩ := h2 s (by omega) ha
        have hle : (bestN p n k).length ≤ (memL n k).length := by rcases b2 with b | b <;> omega
        refine ⟨by omega, fun he hbf => ?_⟩
        rcases b2 with b | ⟨b, b'⟩
        · omega
        · exact g2 (by omega) (befR_trans hbf ((befB_iff b).1 b'))
    · rw [if_neg hb]
      refine ⟨h1, fun s hs ha => ?_⟩
      by_cases e : s = k
      · subst e
        have b1 := (anti_iff p _).2 ha.anti
        unfold betB at hb
        rw [b1, Bool.true_and] at hb
        simp only [Bool.or_eq_true, Bool.and_eq_true, decide_eq_true_eq, not_or, not_and] at hb
        refine ⟨by omega, fun he hbf => ?_⟩
        exact hb.2 he ((befB_iff he).2 hbf)
      · exact h2 s (by omega) ha
theorem bestN_best (p : Nat → Nat → Bool) (n : Nat) : Best p n (bestN p n (pw n)) := by
  obtain ⟨h1, h2⟩ := bestN_spec p n (pw n)
  refine ⟨h1, fun m hm => ?_, fun m hm he => ?_⟩
  · obtain ⟨s, hs, rfl⟩ := list_mem hm
    exact (h2 s hs hm).1
  · obtain ⟨s, hs, rfl⟩ := list_mem hm
    exact (h2 s hs hm).2 he
theorem rea_oR {n : Int} {a : List (Int × Int)} (h : ckE n a = 0) : tbl35 (rea n a) = oR n a := by
  obtain ⟨k, rfl, _, hv, hac⟩ := ck_ok h
  funext i j
  have := oR_iff hv hac i j
  show (rea k a i).testBit j = _
  rw [Bool.eq_iff_iff]
  exact this.symm
theorem refA_ant {n : Int} {a : List (Int × Int)} (h : ckE n a = 0) : refA n a = antL (ordG n a) n.toNat := by
  refine best_unique (R := oR n a) (n := n.toNat) ?_ (antL_best _ _)
  unfold refA
  rw [rea_oR h]
  exact bestN_best _ _
end Go.Mx
namespace Go.Mx
set_option linter.unusedVariables false
set_option linter.unusedSimpArgs false
set_option linter.unusedSectionVars false
open Go

/-- Lists that are a partition into chains. -/
structure Good' (p : Nat → Nat → Bool) (n : Nat) (L : List (List Nat)) : Prop where
  ne : ∀ c ∈ L, c ≠ []
  nod : L.flatten.Nodup
  lt : ∀ v ∈ L.flatten, v < n
  len : L.flatten.length = n
  con : ∀ c ∈ L, ∀ i, 0 < i → i < c.length → p (nth c 0 (i - 1)) (nth c 0 i) = true
theorem seen_bit (s : Nat) (l : List Int) (v : Nat) : ∀ i, i ≤ l.length → ((seenN s l i).testBit v = true ↔ s.testBit v = true ∨ ∃ k, k < i ∧ (nth l 0 k).toNat = v)
  | 0, _ => by
    show s.testBit v = true ↔ _
    constructor
    · exact .inl
    · rintro (h | ⟨k, h, _⟩)
      · exact h
      · omega
  | i + 1, hi => by
    rw [seenN_succ s (by omega), Nat.testBit_or, Bool.or_eq_true, seen_bit s l v i (by omega), pw_bit]
    constructor
    · rintro ((h | ⟨k, h1, h2⟩) | h)
      · exact .inl h
      · exact .inr ⟨k, by omega, h2⟩
      · exact .inr ⟨i, by omega, by simpa using h⟩
    · rintro (h | ⟨k, h1, h2⟩)
      · exact .inl (.inl h)
      · by_cases e : k = i
        · subst e; exact .inr (by simpa using h2)
        · exact .inl (.inr ⟨k, by omega, h2⟩)
theorem zl_toNat {l : List Int} (h : ∀ x ∈ l, 0 ≤ x) : zl (l.map Int.toNat) = l := by
  unfold zl
  rw [List.map_map]
  conv => rhs; rw [← List.map_id l]
  apply List.map_congr_left
  intro x hx
  have := h x hx
  show ((x.toNat : Nat) : Int) = x
  omega
/-- A list that is not refused. -/
theorem badL_iff (p : Nat → Nat → Bool) (n s : Nat) (l : List Int) : badL p n s l = false ↔ ∃ c : List Nat, l = zl c ∧ c.Nodup ∧ (∀ v ∈ c, v < n ∧ s.testBit v = false) ∧ ∀ i, 0 < i → i < c.length → p (nth c 0 (i - 1)) (nth c 0 i) = true := by
  unfold badL
  rw [any_range]
  constructor
  · intro h
    have hb : ∀ i, i < l.length → 0 ≤ nth l 0 i ∧ nth l 0 i < n ∧ (seenN s l i).testBit (nth l 0 i).toNat = false ∧ (0 < i → p (nth l 0 (i - 1)).toNat (nth l 0 i).toNat = true) := fun i hi => bad_not (by simpa using h i hi)
    have hz : zl (l.map Int.toNat) = l := zl_toNat fun x hx => by
      obtain ⟨i, hi, rfl⟩ := List.getElem_of_mem hx
      have := (hb i hi).1
      rwa [nth_get 0 hi] at this
    have hn : ∀ i, nth (l.map Int.toNat) 0 i = (nth l 0 i).toNat := fun i => nth_map Int.toNat l 0 i
    refine ⟨l.map Int.toNat, hz.symm, ?_, ?_, ?_⟩
    · unfold List.Nodup
      rw [List.pairwise_iff_getElem]
      intro i j hi hj hij e
      simp only [List.length_map] at hi hj
      have h1 := (hb j hj).2.2.1
      have h2 := (seen_bit s l (nth l 0 j).toNat j (by omega)).2 (.inr ⟨i, hij, by
        simp only [List.getElem_map] at e
        rw [nth_get 0 hi, nth_get 0 hj]; exact e⟩)
      rw [h1] at h2
      cases h2
    · intro v hv
      obtain ⟨x, hx, rfl⟩ := List.mem_map.1 hv
      obtain ⟨i, hi, rfl⟩ := List.getElem_of_mem hx
      obtain ⟨g1, g2, g3, _⟩ := hb i hi
      rw [nth_get 0 hi] at g1 g2 g3
      refine ⟨by omega, ?_⟩
      cases hs : s.testBit (l[i]).toNat with
      | false => rfl
      | true =>
        have := (seen_bit s l (l[i]).toNat i (by omega)).2 (.inl hs)
        rw [g3] at this
        cases this
    · intro i h0 hi
      rw [hn, hn]
      exact (hb i (by simpa using hi)).2.2.2 h0
  · rintro ⟨c, rfl, h1, h2, h3⟩ i hi
    rw [zl_len] at hi
    have hc := h2 _ (nth_mem 0 hi)
    have hbit : (seenN s (zl c) i).testBit (nth c 0 i) = false := by
      cases hb : (seenN s (zl c) i).testBit (nth c 0 i) with
      | false => rfl
      | true =>
        rcases (seen_bit s (zl c) (nth c 0 i) i (by rw [zl_len]; omega)).1 hb with h | ⟨k, hk, h⟩
        · rw [hc.2] at h; cases h
        · exfalso
          rw [zl_nth] at h
          simp only [Int.toNat_natCast] at h
          rw [nth_get 0 hi, nth_get 0 (show k < c.length by omega)] at h
          unfold List.Nodup at h1
          rw [List.pairwise_iff_getElem] at h1
          exact h1 k i (by omega) hi hk h
    show badV p n (seenN s (zl c) i) (zl c) i = _
    unfold badV
    rw [zl_nth, zl_nth]
    simp only [Int.toNat_natCast]
    rw [hbit]
    have c1 : ¬ ((nth c 0 i : Nat) : Int) < 0 := by omega
    have c2 : ¬ (n : Int) ≤ ((nth c 0 i : Nat) : Int) := by have := hc.1; omega
    by_cases h0 : 0 < i
    · rw [h3 i h0 hi]
      simp [c1, c2]
    · simp [c1, c2, h0]
theorem seen_zl (s : Nat) (c : List Nat) (v : Nat) : (seenN s (zl c) (zl c).length).testBit v = true ↔ s.testBit v = true ∨ v ∈ c := by
  rw [seen_bit s (zl c) v _ (Nat.le_refl _)]
  constructor
  · rintro (h | ⟨k, h1, h2⟩)
    · exact .inl h
    · rw [zl_len] at h1
      rw [zl_nth] at h2
      simp only [Int.toNat_natCast] at h2
      exact .inr (by rw [← h2]; exact nth_mem 0 h1)
  · rintro (h | h)
    · exact .inl h
    · obtain ⟨k, hk, rfl⟩ := List.getElem_of_mem h
      refine .inr ⟨k, by rw [zl_len]; exact hk, ?_⟩
      rw [zl_nth, nth_get 0 hk]
      simp
/-- Lists none of which is refused. -/
theorem badC_iff (p : Nat → Nat → Bool) (n : Nat) (cs : List (Bool × List Int)) : ∀ j, j ≤ cs.length → ((∀ k, k < j → badC p n cs k = false) ↔ ∃ L : List (List Nat), (cs.take j).map (·.2) = L.map zl ∧ (∀ c ∈ L, c ≠ []) ∧ L.flatten.Nodup ∧ (∀ v ∈ L.flatten, v < n) ∧
    (∀ c ∈ L, ∀ i, 0 < i → i < c.length → p (nth c 0 (i - 1)) (nth c 0 i) = true) ∧ ∀ v, (seenC cs j).testBit v = true ↔ v ∈ L.flatten)
  | 0, _ => by
    constructor
    · intro _
      exact ⟨[], by simp, by simp, by simp, by simp, by simp, by simp [seenC]⟩
    · intro _ k hk
      omega
  | j + 1, hj => by
    have ih := badC_iff p n cs j (by omega)
    have hjl : j < cs.length := by omega
    have htake : (cs.take (j + 1)).map (·.2) = (cs.take j).map (·.2) ++ [(nth cs (true, []) j).2] := by
      rw [take_succ_nth (true, []) hjl, List.map_append]
      rfl
    have hsc := seenC_succ hjl
    rw [hsc, htake]
    constructor
    · intro h
      obtain ⟨L, l1, l2, l3, l4, l5, l6⟩ := ih.1 fun k hk => h k (by omega)
      have hb := h j (by omega)
      simp only [badC, Bool.or_eq_false_iff, decide_eq_false_iff_not] at hb
      obtain ⟨c, c1, c2, c3, c4⟩ := (badL_iff p n _ _).1 hb.2
      have hfl : (L ++ [c]).flatten = L.flatten ++ c := by simp
      refine ⟨L ++ [c], ?_, fun x hx => ?_, ?_, ?_, fun x hx => ?_, fun v => ?_⟩
      · rw [l1, List.map_append, c1]; rfl
      · rcases List.mem_append.1 hx with h | h
        · exact l2 x h
        · rw [List.mem_singleton.1 h]
          rintro rfl
          apply hb.1
          rw [c1]; rfl
      · rw [hfl, List.nodup_append]
        refine ⟨l3, c2, fun x hx y hy e => ?_⟩
        subst e
        have := (l6 x).2 hx
        rw [(c3 x hy).2] at this
        cases this
      · intro v hv
        rw [hfl] at hv
        rcases List.mem_append.1 hv with h | h
        · exact l4 v h
        · exact (c3 v h).1
      · rcases List.mem_append.1 hx with h | h
        · exact l5 x h
        · rw [List.mem_singleton.1 h]
          exact c4
      · rw [c1, seen_zl, hfl, List.mem_append, l6]
    · rintro ⟨L', l1, l2, l3, l4, l5, l6⟩
      have hne : L' ≠ [] := by
        rintro rfl
        simp at l1
      obtain ⟨L, c, rfl⟩ : ∃ L c, L' = L ++ [c] := ⟨L'.dropLast, L'.getLast hne, (List.dropLast_concat_getLast hne).symm⟩
      have hfl : (L ++ [c]).flatten = L.flatten ++ c := by simp
      rw [List.map_append] at l1
      obtain ⟨m1, m2⟩ := List.append_inj' l1 (by simp)
      have hcl : (nth cs (true, []) j).2 = zl c := by simpa using m2
      rw [hfl, List.nodup_append] at l3
      have hsc6 : ∀ v, (seenC cs j).testBit v = true → v ∈ L.flatten ∨ v ∈ c := fun v hv => by
        have := (l6 v).1 (by rw [hcl, seen_zl]; exact .inl hv)
        rw [hfl] at this
        exact List.mem_append.1 this
      -- what has been seen before
      have key : ∀ i, i ≤ j → ∀ v, (seenC cs i).testBit v = true ↔ v ∈ (L.take i).flatten := by
        intro i
        induction i with
        | zero => intro _ v; simp [seenC]
        | succ i ihi =>
          intro hi v
          have hil : i < cs.length := by omega
          have hLl : L.length = j := by
            have := congrArg List.length m1
            simp only [List.length_map, List.length_take] at this
            omega
          have hiL : i < L.length := by omega
          have hrow : (nth cs (true, []) i).2 = zl (nth L [] i) := by
            have : nth ((cs.take j).map (·.2)) [] i = nth (L.map zl) [] i := congrArg (fun l => nth l [] i) m1
            rw [nth_get (d := ([] : List Int)) (by simp; omega), nth_get (d := ([] : List Int)) (by simp; omega)] at this
            simp only [List.getElem_map, List.getElem_take] at this
            rw [nth_get (true, []) hil, nth_get [] hiL]
            exact this
          rw [seenC_succ hil, hrow, seen_zl, ihi (by omega), take_succ_nth [] hiL, List.flatten_append, List.mem_append]
          simp
      have hLl : L.length = j := by
        have := congrArg List.length m1
        simp only [List.length_map, List.length_take] at this
        omega
      have keyj := key j (Nat.le_refl _)
      rw [← hLl, List.take_length] at keyj
      rw [hLl] at keyj
      have hprev := ih.2 ⟨L, m1, fun x hx => l2 x (List.mem_append.2 (.inl hx)), l3.1, fun v hv => l4 v (by rw [hfl]; exact List.mem_append.2 (.inl hv)), fun x hx => l5 x (List.mem_append.2 (.inl hx)), keyj⟩
      intro k hk
      by_cases e : k = j
      · subst e
        unfold badC
        rw [hcl, Bool.or_eq_false_iff]
        refine ⟨?_, (badL_iff p n _ _).2 ⟨c, rfl, l3.2.1, fun v hv => ⟨l4 v (by rw [hfl]; exact List.mem_append.2 (.inr hv)), ?_⟩, l5 c (by simp)⟩⟩
        · have := l2 c (by simp)
          rw [zl_len]
          simpa using this
        · cases hb : (seenC cs k).testBit v with
          | false => rfl
          | true => exact absurd rfl (l3.2.2 v ((keyj v).1 hb) v hv)
      · exact hprev k (by omega)
theorem pop_list {s : Nat} {l : List Nat} (h : ∀ v, s.testBit v = true ↔ v ∈ l) (hn : l.Nodup) (hl : ∀ v ∈ l, v < 12) : pop s = l.length := by
  unfold pop
  apply Nat.le_antisymm
  · refine nod_sub _ _ (nod_filter _ List.nodup_range) fun v hv => ?_
    exact (h v).1 (List.mem_filter.1 hv).2
  · refine nod_sub _ _ hn fun v hv => ?_
    exact List.mem_filter.2 ⟨List.mem_range.2 (hl v hv), (h v).2 hv⟩
/-- What IsChains tells. -/
theorem isC_iff {p : Nat → Nat → Bool} {n : Nat} (hn : n ≤ 12) (cs : List (Bool × List Int)) : isC p n cs = true ↔ ∃ L : List (List Nat), cs.map (·.2) = L.map zl ∧ Good' p n L := by
  have key := badC_iff p n cs cs.length (Nat.le_refl _)
  rw [List.take_length] at key
  have hany : (List.range cs.length).any (badC p n cs) = false ↔ ∀ k, k < cs.length → badC p n cs k = false := by
    rw [any_range]
  unfold isC
  rw [Bool.and_eq_true, Bool.not_eq_true', hany, key, beq_iff_eq]
  constructor
  · rintro ⟨⟨L, l1, l2, l3, l4, l5, l6⟩, h⟩
    refine ⟨L, l1, l2, l3, l4, ?_, l5⟩
    rw [← h]
    exact (pop_list l6 l3 fun v hv => by have := l4 v hv; omega).symm
  · rintro ⟨L, l1, h⟩
    have hh := h
    obtain ⟨g1, g2, g3, g4, g5⟩ := hh
    have hbad := (badC_iff p n cs cs.length (Nat.le_refl _))
    rw [List.take_length] at hbad
    -- what is seen, by the lists one after the other
    have kk : ∀ i, i ≤ cs.length → ∀ v, (seenC cs i).testBit v = true ↔ v ∈ (L.take i).flatten := by
      intro i
      have hLl : L.length = cs.length := by
        have := congrArg List.length l1
        simpa using this.symm
      induction i with
      | zero => intro _ v; simp [seenC]
      | succ i ihi =>
        intro hi v
        have hil : i < cs.length := by omega
        have hiL : i < L.length := by omega
        have hrow : (nth cs (true, []) i).2 = zl (nth L [] i) := by
          have : nth (cs.map (·.2)) [] i = nth (L.map zl) [] i := congrArg (fun l => nth l [] i) l1
          rw [nth_get (d := ([] : List Int)) (by simp; omega), nth_get (d := ([] : List Int)) (by simp; omega)] at this
          simp only [List.getElem_map] at this
          rw [nth_get (true, []) hil, nth_get [] hiL]
          exact this
        rw [seenC_succ hil, hrow, seen_zl, ihi (by omega), take_succ_nth [] hiL, List.flatten_append, List.mem_append]
        simp
    have hLl : L.length = cs.length := by
      have := congrArg List.length l1
      simpa using this.symm
    have kkl := kk cs.length (Nat.le_refl _)
    rw [← hLl, List.take_length, hLl] at kkl
    refine ⟨⟨L, l1, g1, g2, g3, g5, kkl⟩, ?_⟩
    rw [pop_list kkl g2 fun v hv => by have := g3 v hv; omega]
    exact g4
end Go.Mx
namespace Go.Mx
set_option linter.unusedVariables false
set_option linter.unusedSimpArgs false
set_option linter.unusedSectionVars false
open Go

section
variable {R : Nat → Nat → Bool} {n : Nat}
/-- A chain is one. -/
theorem con_pair (hR : PO R n) : ∀ {c : List Nat}, (∀ i, 0 < i → i < c.length → R (nth c 0 (i - 1)) (nth c 0 i) = true) → c.Pairwise fun u v => R u v = true
  | [], _ => .nil
  | [x], _ => by simp
  | x :: y :: c, h => by
    have ih := con_pair hR (c := y :: c) fun i h0 hi => by
      have := h (i + 1) (by omega) (by simpa using hi)
      have e1 : nth (x :: y :: c) 0 (i + 1) = nth (y :: c) 0 i := rfl
      have e2 : nth (x :: y :: c) 0 (i + 1 - 1) = nth (y :: c) 0 (i - 1) := by
        obtain ⟨j, rfl⟩ : ∃ j, i = j + 1 := ⟨i - 1, by omega⟩
        rfl
      rwa [e1, e2] at this
    have hxy : R x y = true := h 1 (by omega) (by simp)
    refine List.pairwise_cons.2 ⟨fun z hz => ?_, ih⟩
    rcases List.mem_cons.1 hz with rfl | hz
    · exact hxy
    · exact hR.tr x y z hxy ((List.pairwise_cons.1 ih).1 z hz)
theorem chain_one {c s : List Nat} (hR : PO R n) (hc : c.Pairwise fun u v => R u v = true) (hs : AcL R n s) : (c.filter fun v => s.contains v).length ≤ 1 := by
  have hf : (c.filter fun v => s.contains v).Pairwise fun u v => R u v = true := List.Pairwise.sublist List.filter_sublist hc
  have hm : ∀ v ∈ c.filter fun v => s.contains v, v ∈ s := fun v hv => List.contains_iff_mem.1 (List.mem_filter.1 hv).2
  generalize c.filter (fun v => s.contains v) = f at *
  match f, hf, hm with
  | [], _, _ => simp
  | [_], _, _ => simp
  | x :: y :: f, hf, hm =>
    exfalso
    have hxy : R x y = true := (List.pairwise_cons.1 hf).1 y (by simp)
    have hx := hm x (by simp)
    have hy := hm y (by simp)
    have hne : x ≠ y := fun e => by
      subst e
      rw [hR.irr] at hxy
      cases hxy
    obtain ⟨i, hi, rfl⟩ := List.getElem_of_mem hx
    obtain ⟨j, hj, rfl⟩ := List.getElem_of_mem hy
    have ha := List.pairwise_iff_getElem.1 hs.anti
    rcases Nat.lt_trichotomy i j with h | h | h
    · have := (ha i j hi hj h).1
      rw [this] at hxy; cases hxy
    · subst h; exact hne rfl
    · have := (ha j i hj hi h).2
      rw [this] at hxy; cases hxy
theorem AcL.nod {s : List Nat} (h : AcL R n s) : s.Nodup := List.Pairwise.imp (fun h => Nat.ne_of_lt h) h.asc
theorem flat_sum (f : Nat → Bool) : ∀ L : List (List Nat), (L.flatten.filter f).length = (L.map fun c => (c.filter f).length).sum
  | [] => rfl
  | c :: L => by
    rw [List.flatten_cons, List.filter_append, List.length_append, flat_sum f L]
    rfl
theorem Good'.all {p : Nat → Nat → Bool} {L : List (List Nat)} (h : Good' p n L) {v : Nat} (hv : v < n) : v ∈ L.flatten :=
  nod_all h.nod (fun x hx => List.mem_range.2 (h.lt x hx)) (by rw [List.length_range, h.len]; exact Nat.le_refl _) v (List.mem_range.2 hv)
theorem Good'.sum {L : List (List Nat)} (h : Good' R n L) {s : List Nat} (hs : AcL R n s) : (L.map fun c => (c.filter fun v => s.contains v).length).sum = s.length := by
  rw [← flat_sum]
  apply Nat.le_antisymm
  · refine nod_sub _ _ (nod_filter _ h.nod) fun v hv => List.contains_iff_mem.1 (List.mem_filter.1 hv).2
  · refine nod_sub _ _ hs.nod fun v hv => List.mem_filter.2 ⟨h.all (hs.lt v hv), List.contains_iff_mem.2 hv⟩
theorem sum_le : ∀ {l : List Nat}, (∀ x ∈ l, x ≤ 1) → l.sum ≤ l.length
  | [], _ => Nat.le_refl _
  | x :: l, h => by
    have := sum_le (l := l) fun y hy => h y (by simp [hy])
    have := h x (by simp)
    simp only [List.sum_cons, List.length_cons]
    omega
theorem sum_one : ∀ {l : List Nat}, (∀ x ∈ l, x ≤ 1) → l.length ≤ l.sum → ∀ x ∈ l, x = 1
  | [], _, _, x, hx => by cases hx
  | y :: l, h, hs, x, hx => by
    have h1 := sum_le (l := l) fun z hz => h z (by simp [hz])
    have h2 := h y (by simp)
    simp only [List.sum_cons, List.length_cons] at hs
    rcases List.mem_cons.1 hx with rfl | hx
    · omega
    · exact sum_one (l := l) (fun z hz => h z (by simp [hz])) (by omega) x hx
/-- No antichain has more members than there are chains. -/
theorem Good'.ge (hR : PO R n) {L : List (List Nat)} (h : Good' R n L) {s : List Nat} (hs : AcL R n s) : s.length ≤ L.length := by
  rw [← h.sum hs]
  have := sum_le (l := L.map fun c => (c.filter fun v => s.contains v).length) fun x hx => by
    obtain ⟨c, hc, rfl⟩ := List.mem_map.1 hx
    exact chain_one hR (con_pair hR (h.con c hc)) hs
  simpa using this
/-- As many of both: each chain has one of the members. -/
theorem Good'.each (hR : PO R n) {L : List (List Nat)} (h : Good' R n L) {s : List Nat} (hs : AcL R n s) (he : L.length = s.length) : ∀ c ∈ L, (c.filter fun v => s.contains v).length = 1 := by
  intro c hc
  have hle : ∀ x ∈ L.map fun c => (c.filter fun v => s.contains v).length, x ≤ 1 := fun x hx => by
    obtain ⟨c, hc, rfl⟩ := List.mem_map.1 hx
    exact chain_one hR (con_pair hR (h.con c hc)) hs
  exact sum_one hle (by rw [h.sum hs, List.length_map, he]; exact Nat.le_refl _) _ (List.mem_map.2 ⟨c, hc, rfl⟩)
/-! ### the chains that are found -/
variable {l F : Nat → Option Nat} {mu : Nat → Nat} (ht : Typ R n l) (hFl : ∀ v u, F v = some u ↔ l u = some v) (hmu : ∀ v u, R v u = true → mu u < mu v)
include ht hFl hmu
theorem F_lt {v u : Nat} (h : F v = some u) : mu u < mu v := hmu v u (ht.typ u v ((hFl v u).1 h)).2.2
theorem chF_next : ∀ (k : Nat) (o : Option Nat), mO mu o ≤ k → ∀ x u, x ∈ chF F k o → F x = some u → u ∈ chF F k o
  | 0, _, _, x, u, hx, _ => by simp [chF] at hx
  | k + 1, none, _, x, u, hx, _ => by simp [chF] at hx
  | k + 1, some v, hk, x, u, hx, hu => by
    have hm : mO mu (F v) ≤ k := by
      have hk' : mu v ≤ k := by simpa [mO] using hk
      cases hv : F v with
      | none => simp [mO]
      | some w => have := F_lt ht hFl hmu hv; simp only [mO]; omega
    simp only [chF, List.mem_cons] at hx ⊢
    rcases hx with rfl | hx
    · refine .inr ?_
      rw [hu]
      cases k with
      | zero => rw [hu] at hm; simp [mO] at hm
      | succ k => simp [chF]
    · exact .inr (chF_next k (F v) hm x u hx hu)
omit ht hFl hmu in
theorem chF_prev : ∀ (k : Nat) (o : Option Nat) (u : Nat), u ∈ chF F k o → o = some u ∨ ∃ x, x ∈ chF F k o ∧ F x = some u
  | 0, _, u, hu => by simp [chF] at hu
  | k + 1, none, u, hu => by simp [chF] at hu
  | k + 1, some v, u, hu => by
    simp only [chF, List.mem_cons] at hu ⊢
    rcases hu with rfl | hu
    · exact .inl rfl
    · rcases chF_prev k (F v) u hu with h | ⟨x, h1, h2⟩
      · exact .inr ⟨v, .inl rfl, h⟩
      · exact .inr ⟨x, .inr h1, h2⟩
theorem chF_con : ∀ (k : Nat) (o : Option Nat) (i : Nat), 0 < i → i < (chF F k o).length → R (nth (chF F k o) 0 (i - 1)) (nth (chF F k o) 0 i) = true
  | 0, _, i, _, hi => by simp [chF] at hi
  | k + 1, none, i, _, hi => by simp [chF] at hi
  | k + 1, some v, i, h0, hi => by
    simp only [chF] at hi ⊢
    obtain ⟨j, rfl⟩ : ∃ j, i = j + 1 := ⟨i - 1, by omega⟩
    have e1 : nth (v :: chF F k (F v)) 0 (j + 1) = nth (chF F k (F v)) 0 j := rfl
    rw [e1]
    have hj : j < (chF F k (F v)).length := by simpa using hi
    cases j with
    | zero =>
      show R v _ = true
      cases k with
      | zero => simp [chF] at hj
      | succ k =>
        cases hv : F v with
        | none => rw [hv] at hj; simp [chF] at hj
        | some u =>
          show R v u = true
          exact (ht.typ u v ((hFl v u).1 hv)).2.2
    | succ j => exact chF_con k (F v) (j + 1) (by omega) hj
/-- A chain, from its first on. -/
abbrev chV (F : Nat → Option Nat) (mu : Nat → Nat) (v : Nat) : List Nat := chF F (mu v + 1) (some v)
omit ht hFl hmu in
theorem chV_me (v : Nat) : v ∈ chV F mu v := by simp [chF]
theorem chV_same : ∀ (m u v w : Nat), (∀ x, mu x ≤ m + mu u) → l v = none → l w = none → u ∈ chV F mu v → u ∈ chV F mu w → v = w
  | m, u, v, w, hm, hv, hw, h1, h2 => by
    rcases chF_prev _ _ u h1 with h3 | ⟨x, h3, h4⟩
    · have e3 : v = u := Option.some.inj h3
      rcases chF_prev _ _ u h2 with h5 | ⟨y, _, h6⟩
      · have e5 : w = u := Option.some.inj h5
        rw [e3, e5]
      · rw [e3, (hFl y u).1 h6] at hv; cases hv
    · rcases chF_prev _ _ u h2 with h5 | ⟨y, h5, h6⟩
      · have e5 : w = u := Option.some.inj h5
        rw [e5, (hFl x u).1 h4] at hw; cases hw
      · have hxy : x = y := by
          have a := (hFl x u).1 h4
          have b := (hFl y u).1 h6
          rw [a] at b
          cases b
          rfl
        subst hxy
        have hlt := F_lt ht hFl hmu h4
        match m with
        | 0 => have := hm x; omega
        | m + 1 => exact chV_same m x v w (fun z => by have := hm z; omega) hv hw h3 h5
theorem chV_has (hmn : ∀ v, mu v ≤ n) : ∀ (m u : Nat), u < n → n ≤ m + mu u → ∃ v, v < n ∧ l v = none ∧ u ∈ chV F mu v
  | m, u, hu, hm => by
    cases hlu : l u with
    | none => exact ⟨u, hu, hlu, chV_me u⟩
    | some x =>
      have hx := ht.typ u x hlu
      have hlt := hmu x u hx.2.2
      match m with
      | 0 => have := hmn x; omega
      | m + 1 =>
        obtain ⟨v, v1, v2, v3⟩ := chV_has hmn m x hx.2.1 (by omega)
        exact ⟨v, v1, v2, chF_next ht hFl hmu _ _ (by simp [mO]) x u v3 ((hFl x u).2 hlu)⟩
theorem chV_lt {v u : Nat} (hv : v < n) (hu : u ∈ chV F mu v) : u < n := by
  rcases chF_prev _ _ u hu with h | ⟨x, _, h⟩
  · cases h; exact hv
  · exact (ht.typ u x ((hFl x u).1 h)).1
/-- They are a partition into chains. -/
theorem chL_good (hR : PO R n) (hmn : ∀ v, mu v ≤ n) : Good' R n (chL l F mu n) := by
  have hmem : ∀ c ∈ chL l F mu n, ∃ v, v < n ∧ l v = none ∧ c = chV F mu v := fun c hc => by
    unfold chL at hc
    obtain ⟨v, hv, rfl⟩ := List.mem_map.1 hc
    obtain ⟨h1, h2⟩ := List.mem_filter.1 hv
    exact ⟨v, List.mem_range.1 h1, by simpa using h2, rfl⟩
  have hcon : ∀ c ∈ chL l F mu n, ∀ i, 0 < i → i < c.length → R (nth c 0 (i - 1)) (nth c 0 i) = true := fun c hc => by
    obtain ⟨v, _, _, rfl⟩ := hmem c hc
    exact chF_con ht hFl hmu _ _
  have hnod : (chL l F mu n).flatten.Nodup := by
    unfold List.Nodup
    rw [List.pairwise_flatten]
    refine ⟨fun c hc => ?_, ?_⟩
    · refine List.Pairwise.imp (fun {x y} h e => ?_) (con_pair hR (hcon c hc))
      subst e
      rw [hR.irr] at h
      cases h
    · unfold chL
      rw [List.pairwise_map]
      refine List.Pairwise.imp_of_mem (fun {v w} hv hw hne x hx y hy e => ?_) (nod_filter _ List.nodup_range)
      subst e
      obtain ⟨h1, h2⟩ := List.mem_filter.1 hv
      obtain ⟨h3, h4⟩ := List.mem_filter.1 hw
      exact hne (chV_same ht hFl hmu n x v w (fun z => by have := hmn z; omega) (by simpa using h2) (by simpa using h4) hx hy)
  have hlt : ∀ v ∈ (chL l F mu n).flatten, v < n := fun u hu => by
    obtain ⟨c, hc, hu⟩ := List.mem_flatten.1 hu
    obtain ⟨v, h1, _, rfl⟩ := hmem c hc
    exact chV_lt ht hFl hmu h1 hu
  refine ⟨fun c hc => ?_, hnod, hlt, ?_, hcon⟩
  · obtain ⟨v, _, _, rfl⟩ := hmem c hc
    exact List.ne_nil_of_mem (chV_me v)
  · apply Nat.le_antisymm
    · have := nod_sub _ (List.range n) hnod fun v hv => List.mem_range.2 (hlt v hv)
      simpa using this
    · have := nod_sub (List.range n) (chL l F mu n).flatten List.nodup_range fun u hu => by
        obtain ⟨v, h1, h2, h3⟩ := chV_has ht hFl hmu hmn n u (List.mem_range.1 hu) (by omega)
        refine List.mem_flatten.2 ⟨chV F mu v, ?_, h3⟩
        unfold chL
        exact List.mem_map.2 ⟨v, List.mem_filter.2 ⟨List.mem_range.2 h1, by rw [h2]; rfl⟩, rfl⟩
      simpa using this
end
/-! ### of a digraph -/
theorem chs_good {n : Int} {a : List (Int × Int)} (h : ckE n a = 0) : Good' (oR n a) n.toNat (chs n a) := by
  obtain ⟨k, rfl, _, hv, hac⟩ := ck_ok h
  have hpo := oR_po hv hac
  have hk := kuh_inv (oR k a) (k : Int).toNat (k : Int).toNat (Nat.le_refl _)
  exact chL_good hk.typ (fwO_iff hk.typ) (fun v u hvu => muR_lt hpo hvu) hpo (muR_le _ _)
theorem chs_len {n : Int} {a : List (Int × Int)} (h : ckE n a = 0) : (chs n a).length = (antL (ordG n a) n.toNat).length := by
  have hg := chs_good h
  obtain ⟨k, rfl, _, hv, hac⟩ := ck_ok h
  have hpo := oR_po hv hac
  have hb := antL_best (ordG k a) (k : Int).toNat
  apply Nat.le_antisymm
  · obtain ⟨S, s1, s2, s3, s4⟩ := dilworth (oR k a) (k : Int).toNat
    have hlen : (chs k a).length = ((List.range (k : Int).toNat).filter fun v => (kuhN k a v).isNone).length := by
      unfold chs chL
      rw [List.length_map]
    have hsp := filt_split (fun u => (kuhN k a u).isSome) (List.range (k : Int).toNat)
    have hnn : ((List.range (k : Int).toNat).filter fun x => !(kuhN k a x).isSome) = (List.range (k : Int).toNat).filter fun v => (kuhN k a v).isNone := by
      apply List.filter_congr
      intro v _
      cases kuhN k a v <;> rfl
    rw [hnn, List.length_range] at hsp
    -- the members in their order
    have hac' : AcL (oR k a) (k : Int).toNat (memL (k : Int).toNat (mkM (fun v => S.contains v) (k : Int).toNat)) := by
      have hm : ∀ v, v ∈ memL (k : Int).toNat (mkM (fun v => S.contains v) (k : Int).toNat) → v ∈ S := fun v hv => by
        rw [mem_memL, mkM_bit] at hv
        simp only [Bool.and_eq_true, List.contains_iff_mem] at hv
        exact hv.2.2
      refine ⟨memL_asc _ _, ?_, fun v hv => (mem_memL.1 hv).1⟩
      refine List.Pairwise.imp_of_mem (fun {u v} hu hv _ => ?_) (memL_asc (k : Int).toNat (mkM (fun v => S.contains v) (k : Int).toNat))
      exact ⟨by simpa using s3 u (hm u hu) v (hm v hv), by simpa using s3 v (hm v hv) u (hm u hu)⟩
    have h1 := hb.2.1 _ hac'
    have h2 := nod_sub S (memL (k : Int).toNat (mkM (fun v => S.contains v) (k : Int).toNat)) s1 fun v hv => by
      rw [mem_memL, mkM_bit]
      simp only [Bool.and_eq_true, decide_eq_true_eq, List.contains_iff_mem]
      exact ⟨s2 v hv, s2 v hv, hv⟩
    have s4' : (k : Int).toNat ≤ S.length + ((List.range (k : Int).toNat).filter fun u => (kuhN k a u).isSome).length := s4
    omega
  · exact hg.ge hpo hb.1
end Go.Mx
namespace Go.Mx
set_option linter.unusedVariables false
set_option linter.unusedSimpArgs false
set_option linter.unusedSectionVars false
open Go

/-- Levels of an order. -/
structure LvO (R : Nat → Nat → Bool) (n : Nat) (lv : Nat → Nat) : Prop where
  up : ∀ u v, R u v = true → lv u < lv v
  at' : ∀ v, lv v = 0 ∨ ∃ u, R u v = true ∧ lv u + 1 = lv v
/-- The levels of a digraph. -/
abbrev lvR (n : Int) (a : List (Int × Int)) : Nat → Nat := levR (natA a) n.toNat
abbrev hgt (n : Int) (a : List (Int × Int)) : Nat := maxN (levO n a) n.toNat
theorem lev_lvO {n : Int} {a : List (Int × Int)} (h : ckE n a = 0) : LvO (oR n a) n.toNat (lvR n a) ∧ ∀ v, lvR n a v ≤ n.toNat := by
  obtain ⟨k, rfl, h12, hv, hac⟩ := ck_ok h
  obtain ⟨k', hk', _, ha, hp⟩ := valid_nat hv
  obtain rfl : k = k' := by omega
  have hp' : ∀ p ∈ natA a, p.1 < k ∧ p.2 < k := fun p h => ⟨(hp p h).1, (hp p h).2.1⟩
  have hne : ∀ p ∈ natA a, p.1 ≠ p.2 := fun p h => (hp p h).2.2
  have hirr : ∀ i, i < k → (warr (nextG (natA a)) k i).testBit i = false := fun i hi => by
    have := acy_irr hac (i := i) (by simpa using hi)
    simpa [rea] using this
  obtain ⟨l, hl⟩ := order_of_acyclic hp' hirr k [] (fun pr v po e => by
    have := congrArg List.length e
    simp at this) (by simp) (by simp)
  have hord : IsOrd k (natA a) l := ordR_is (by simpa [ordR] using hl)
  have hLev := lev_all hne hord.good l.length (Nat.le_refl _)
  rw [List.take_length] at hLev
  have heq : ∀ u, lvR k a u = levP (nextG (natA a)) l u := fun u => by
    have := lev_eq hne hp' hord u
    simpa [lvR] using this
  have hup : ∀ f t, (f, t) ∈ natA a → lvR k a f < lvR k a t := fun f t ht => by
    rw [heq, heq]
    exact hLev.up f t ht (hord.all (hp' _ ht).1)
  refine ⟨⟨fun u v huv => ?_, fun v => ?_⟩, fun v => ?_⟩
  · rw [oR_iff hv hac] at huv
    refine warr_ind (nextG (natA a)) (fun i j => lvR k a i < lvR k a j) (fun i j h => ?_) (fun i w j h1 h2 => Nat.lt_trans h1 h2) _ u v huv
    rw [next_bit] at h
    exact hup i j (List.contains_iff_mem.1 h)
  · rw [heq]
    rcases hLev.at' v with h | ⟨f, _, hf, hfe⟩
    · exact .inl h
    · refine .inr ⟨f, ?_, by rw [heq, hfe]⟩
      rw [oR_iff hv hac]
      refine warr_mono _ _ f v ?_
      rw [next_bit]
      exact List.contains_iff_mem.2 hf
  · rw [heq]
    have := levP_le (nextG (natA a)) l v
    rw [hord.len] at this
    simpa using this
section
variable {R : Nat → Nat → Bool} {n : Nat} {lv : Nat → Nat}
theorem LvO.le (h : LvO R n lv) {t : Nat → Nat} (ht : ∀ u v, R u v = true → t u < t v) : ∀ (k v : Nat), lv v ≤ k → lv v ≤ t v
  | 0, v, hk => by omega
  | k + 1, v, hk => by
    rcases h.at' v with h0 | ⟨u, h1, h2⟩
    · omega
    · have := LvO.le h ht k u (by omega)
      have := ht u v h1
      omega
theorem LvO.height (h : LvO R n lv) {k r : Nat} (hs : Sch R n k r) : maxN (fun v => lv v + 1) n ≤ r := by
  obtain ⟨t, t1, t2, _⟩ := hs
  refine maxN_le _ fun v hv => ?_
  have := h.le t2 (lv v) v (Nat.le_refl _)
  have := t1 v hv
  omega
theorem lvl_mem {lv : Nat → Nat} {n i v : Nat} : v ∈ lvl lv n i ↔ v < n ∧ lv v = i := by simp [lvl]
theorem lvl_asc (lv : Nat → Nat) (n i : Nat) : (lvl lv n i).Pairwise (· < ·) := List.Pairwise.sublist List.filter_sublist List.pairwise_lt_range
/-- A level is an antichain. -/
theorem LvO.anti (h : LvO R n lv) (i : Nat) : AcL R n (lvl lv n i) := by
  refine ⟨lvl_asc _ _ _, ?_, fun v hv => (lvl_mem.1 hv).1⟩
  refine List.Pairwise.imp_of_mem (fun {u v} hu hv _ => ?_) (lvl_asc lv n i)
  have h1 := (lvl_mem.1 hu).2
  have h2 := (lvl_mem.1 hv).2
  constructor
  · cases hr : R u v with
    | false => rfl
    | true => have := h.up u v hr; omega
  · cases hr : R v u with
    | false => rfl
    | true => have := h.up v u hr; omega
theorem LvO.sch (h : LvO R n lv) {k : Nat} (hk : ∀ l, AcL R n l → l.length ≤ k) : Sch R n k (maxN (fun v => lv v + 1) n) :=
  ⟨lv, fun _ hv => maxN_ge (fun v => lv v + 1) hv, h.up, fun i => hk _ (h.anti i)⟩
theorem Sch.mono {k k' r : Nat} (h : Sch R n k r) (hk : k ≤ k') : Sch R n k' r := by
  obtain ⟨t, t1, t2, t3⟩ := h
  exact ⟨t, t1, t2, fun i => Nat.le_trans (t3 i) hk⟩
theorem Sch.sub {R' : Nat → Nat → Bool} {k r : Nat} (h : Sch R' n k r) (hR : ∀ u v, R u v = true → R' u v = true) : Sch R n k r := by
  obtain ⟨t, t1, t2, t3⟩ := h
  exact ⟨t, t1, fun u v huv => t2 u v (hR u v huv), t3⟩
theorem Sch.size {k r : Nat} (h : Sch R n k r) : n ≤ r * k := by
  obtain ⟨t, t1, t2, t3⟩ := h
  have key : ∀ i, ((List.range n).filter fun v => decide (t v < i)).length ≤ i * k := by
    intro i
    induction i with
    | zero =>
      rw [List.filter_eq_nil_iff.2 (by simp)]
      simp
    | succ i ih =>
      have hsp := filter_or (fun v => decide (t v < i)) (fun v => t v == i) (fun x hx => by
        have h1 := of_decide_eq_true hx.1
        have h2 := eq_of_beq hx.2
        omega) (List.range n)
      have he : ((List.range n).filter fun v => decide (t v < i + 1)) = (List.range n).filter fun v => decide (t v < i) || t v == i := by
        apply List.filter_congr
        intro v _
        rw [Bool.eq_iff_iff]
        simp only [decide_eq_true_eq, Bool.or_eq_true, beq_iff_eq]
        omega
      rw [he, hsp, Nat.succ_mul]
      have := t3 i
      unfold lvl at this
      omega
  have h := key r
  have he : ((List.range n).filter fun v => decide (t v < r)) = List.range n := by
    rw [List.filter_eq_self]
    intro v hv
    simpa using t1 v (List.mem_range.1 hv)
  rw [he, List.length_range] at h
  exact h
/-- The other way round. -/
theorem Sch.rev (hR : PO R n) {R' : Nat → Nat → Bool} {k r : Nat} (h : Sch R n k r) (hR' : ∀ u v, R' u v = true → R v u = true) : Sch R' n k r := by
  obtain ⟨t, t1, t2, t3⟩ := h
  refine ⟨fun v => r - 1 - t v, fun v hv => ?_, fun u v huv => ?_, fun i => ?_⟩
  · have := t1 v hv
    show r - 1 - t v < r
    omega
  · have h1 := hR' u v huv
    have h2 := t2 v u h1
    have h3 := hR.lt v u h1
    have h4 := t1 u h3.2
    show r - 1 - t u < r - 1 - t v
    omega
  · by_cases hi : i ≤ r - 1
    · have := t3 (r - 1 - i)
      refine Nat.le_trans ?_ this
      refine nod_sub _ _ (nod_filter _ List.nodup_range) fun v hv => ?_
      have h1 := List.mem_filter.1 hv
      have h2 := List.mem_range.1 h1.1
      have h3 := t1 v h2
      have h4 : r - 1 - t v = i := by simpa using h1.2
      exact lvl_mem.2 ⟨h2, by omega⟩
    · have : lvl (fun v => r - 1 - t v) n i = [] := by
        unfold lvl
        rw [List.filter_eq_nil_iff]
        intro v _
        simp
        omega
      rw [this]
      exact Nat.zero_le _
theorem ac_n {l : List Nat} (h : AcL R n l) : l.length ≤ n := by
  have := nod_sub l (List.range n) h.nod fun v hv => List.mem_range.2 (h.lt v hv)
  simpa using this
end
theorem not_of {x y : Bool} (h : x = true → y = true) (hy : y = false) : x = false := by
  cases x
  · rfl
  · rw [h rfl] at hy; cases hy
/-! ### of a digraph -/
abbrev wid (n : Int) (a : List (Int × Int)) : Nat := (antL (ordG n a) n.toNat).length
noncomputable abbrev str (n : Int) (a : List (Int × Int)) (k : Nat) : Nat := stA (bfN n a) n.toNat k
section
variable {n : Int} {a : List (Int × Int)} (h : ckE n a = 0)
include h
theorem dg_po : PO (oR n a) n.toNat := by
  obtain ⟨k, rfl, h12, hv, hac⟩ := ck_ok h
  exact oR_po hv hac
theorem dg_12 : n.toNat ≤ 12 ∧ 0 ≤ n := by
  obtain ⟨k, rfl, h12, hv, hac⟩ := ck_ok h
  simp only [Int.toNat_natCast]
  omega
theorem dg_bf : BF (bfN n a) (oR n a) n.toNat := by
  have := bfK_bf (dg_po h)
  exact ⟨fun v hv u => this.bit v hv u⟩
theorem str_sch {k : Nat} (hk : 1 ≤ k) : Sch (oR n a) n.toNat k (str n a k) ∧ ∀ r, Sch (oR n a) n.toNat k r → str n a k ≤ r := stA_sch (dg_po h) (dg_bf h) (dg_12 h).1 hk
theorem str_le {k : Nat} (hk : 1 ≤ k) : str n a k ≤ n.toNat := (stA_spec (dg_po h) (dg_bf h) (dg_12 h).1 hk).2.2
theorem hgt_le {k r : Nat} (hs : Sch (oR n a) n.toNat k r) : hgt n a ≤ r := (lev_lvO h).1.height hs
theorem hgt_sch {k : Nat} (hk : wid n a ≤ k) : Sch (oR n a) n.toNat k (hgt n a) := (lev_lvO h).1.sch fun l hl => Nat.le_trans ((antL_best (ordG n a) n.toNat).2.1 l hl) hk
theorem wid_n : wid n a ≤ n.toNat := ac_n (antL_best (ordG n a) n.toNat).1
theorem str_ge_h {k : Nat} (hk : 1 ≤ k) : hgt n a ≤ str n a k := hgt_le h (str_sch h hk).1
theorem str_n {k : Nat} (hk : 1 ≤ k) : n.toNat ≤ str n a k * k := (str_sch h hk).1.size
theorem str_mono {k k' : Nat} (hk : 1 ≤ k) (hkk : k ≤ k') : str n a k' ≤ str n a k := (str_sch h (by omega)).2 _ ((str_sch h hk).1.mono hkk)
theorem str_one : str n a 1 = n.toNat := by
  have h1 := str_le h (k := 1) (by omega)
  have h2 := str_n h (k := 1) (by omega)
  omega
theorem str_wide {k : Nat} (hk : 1 ≤ k) (hw : wid n a ≤ k) : str n a k = hgt n a := Nat.le_antisymm ((str_sch h hk).2 _ (hgt_sch h hw)) (str_ge_h h hk)
/-- A further arc. -/
theorem more_all {b : List (Int × Int)} (hb : ckE n b = 0) (hR : ∀ u v, oR n a u v = true → oR n b u v = true) : wid n b ≤ wid n a ∧ hgt n a ≤ hgt n b ∧ ∀ k, 1 ≤ k → str n a k ≤ str n b k := by
  refine ⟨?_, ?_, fun k hk => ?_⟩
  · have hb' := (antL_best (ordG n b) n.toNat).1
    refine (antL_best (ordG n a) n.toNat).2.1 _ ⟨hb'.asc, List.Pairwise.imp (fun {u v} hh => ?_) hb'.anti, hb'.lt⟩
    exact ⟨not_of (hR u v) hh.1, not_of (hR v u) hh.2⟩
  · exact hgt_le h ((hgt_sch hb (wid_n hb)).sub hR)
  · exact (str_sch h hk).2 _ ((str_sch hb hk).1.sub hR)
/-- All arcs turned round. -/
theorem turn_all {b : List (Int × Int)} (hb : ckE n b = 0) (hR : ∀ u v, oR n a u v = oR n b v u) : wid n a = wid n b ∧ hgt n a = hgt n b ∧ ∀ k, 1 ≤ k → str n a k = str n b k := by
  have key : ∀ {a b : List (Int × Int)}, ckE n a = 0 → ckE n b = 0 → (∀ u v, oR n a u v = oR n b v u) → wid n a ≤ wid n b ∧ hgt n a ≤ hgt n b ∧ ∀ k, 1 ≤ k → str n a k ≤ str n b k := by
    intro a b h hb hR
    refine ⟨?_, ?_, fun k hk => ?_⟩
    · have ha' := (antL_best (ordG n a) n.toNat).1
      refine (antL_best (ordG n b) n.toNat).2.1 _ ⟨ha'.asc, List.Pairwise.imp (fun {u v} hh => ?_) ha'.anti, ha'.lt⟩
      exact ⟨by have := hh.2; rwa [show Rb (ordG n a) v u = oR n a v u from rfl, hR] at this, by have := hh.1; rwa [show Rb (ordG n a) u v = oR n a u v from rfl, hR] at this⟩
    · exact hgt_le h ((hgt_sch hb (wid_n hb)).rev (dg_po hb) fun u v huv => by rw [← hR]; exact huv)
    · exact (str_sch h hk).2 _ ((str_sch hb hk).1.rev (dg_po hb) fun u v huv => by rw [← hR]; exact huv)
  have h1 := key h hb hR
  have h2 := key hb h fun u v => (hR v u).symm
  exact ⟨Nat.le_antisymm h1.1 h2.1, Nat.le_antisymm h1.2.1 h2.2.1, fun k hk => Nat.le_antisymm (h1.2.2 k hk) (h2.2.2 k hk)⟩
end
end Go.Mx
namespace Go.Mx
set_option linter.unusedVariables false
set_option linter.unusedSimpArgs false
set_option linter.unusedSectionVars false
open Go

abbrev bV (b : Bool) : D := .v (.bool b)
theorem s13 (k : Nat) (b : Bool) (n : Int) (a : List (Int × Int)) (hl : a.length ≤ 1000) : S (k + 5) 13 [nI n, sa b a] = some (if ckE n a = 0 then .nd .tu [rdG (lvR n a) n.toNat, nI 0] else .nd .tu [gsl eII true [], nI (ckE n a)]) := by
  rw [sA _ _ _ c13 rfl rfl]
  by_cases he : ckE n a = 0
  · refine f13 _ _ (by decide) b n a (lvR n a) (fun i => by have := (lev_lvO he).2 i; have := (dg_12 he).1; omega) (s33 k b n a hl) fun he => ?_
    rw [s34 (k + 1) b n a hl, lev_ok he]
  · have := f13 (S (k + 4)) 6000 (by decide) b n a (fun _ => 0) (fun i => by omega) (s33 k b n a hl) fun h => absurd h he
    rw [if_neg he] at this ⊢
    exact this
theorem s19 (k : Nat) (b : Bool) (n : Int) (a : List (Int × Int)) (hl : a.length ≤ 1000) : S (k + 6) 19 [nI n, sa b a] = some (if ckE n a = 0 then .nd .tu [nI (hgt n a : Nat), nI 0] else .nd .tu [nI 0, nI (ckE n a)]) := by
  rw [sA _ _ _ c19 rfl rfl]
  have := f19 (S (k + 5)) 6000 b n a _ _ (s13 k b n a hl)
  rw [rdR_len] at this
  exact this
theorem s30 (k : Nat) (b c : Bool) (n : Int) (a : List (Int × Int)) (hl : a.length ≤ 1000) (cs : List (Bool × List Int)) (hc : cs.length ≤ 900) (hx : ∀ c ∈ cs, c.2.length ≤ 900) :
    S (k + 5) 30 [nI n, sa b a, gsl eII c cs] = some (bV (if ckE n a = 0 then isC (oR n a) n.toNat cs else false)) := by
  rw [sA _ _ _ c30 rfl rfl]
  exact f30 _ _ (by decide) b c n a cs hc hx (s33 k b n a hl) (fun x hx => u38 sA (k + 2) x hx) fun he u v hu hv => s36 (k + 3) n.toNat (ordG n a) (ord_lt he) u v hu (by have := (dg_12 he).1; omega)
theorem s31 (k : Nat) (b c : Bool) (n : Int) (a : List (Int × Int)) (hl : a.length ≤ 1000) (cs : List (Bool × List Int)) (hc : cs.length ≤ 900) (hx : ∀ c ∈ cs, c.2.length ≤ 900) :
    S (k + 3) 31 [nI n, sa b a, gsl eII c cs] = some (bV (if ckE n a = 0 then isC (oR n a) n.toNat cs else false)) := by
  rw [sA _ _ _ c31 rfl rfl]
  rw [f31 _ _ (by decide) b c n a cs hc hx (s40 k b n a hl) (s47 (k + 1) b n a hl) (s41 (k + 1))]
  by_cases he : ckE n a = 0
  · rw [if_pos he, if_pos he, rea_oR he]
  · rw [if_neg he, if_neg he]
theorem s22 (k : Nat) (b : Bool) (l : List Int) (lo hi : Int) (hl : l.length ≤ 1000) : S (k + 1) 22 [si b l, nI lo, nI hi] = some (bV (!(List.range l.length).any (fun i => !okL l lo hi i))) := by
  rw [sA _ _ _ c22 rfl rfl]; exact f22 _ _ (by decide) b l lo hi hl
/-! ### awake -/
def A0 : List (Int × Int) := [(0, 2), (1, 2), (2, 3), (2, 4)]
theorem A0_ck : ckE 5 A0 = 0 := by decide +kernel
theorem A0_wid : wid 5 A0 = 2 := by decide +kernel
theorem A0_hgt : hgt 5 A0 = 3 := by decide +kernel
theorem A0_rd : rdR (lvR 5 A0) (maxN (fun v => lvR 5 A0 v + 1) 5) 5 = [(false, [0, 1]), (false, [2]), (false, [3, 4])] := by decide +kernel
theorem A0_str : str 5 A0 2 = 3 := by
  refine Nat.le_antisymm ?_ (by rw [← A0_hgt]; exact str_ge_h A0_ck (by omega))
  have := (hgt_sch A0_ck (k := 2) (by rw [A0_wid]; exact Nat.le_refl _))
  rw [A0_hgt] at this
  exact (str_sch A0_ck (by omega)).2 _ this
theorem s11 (k : Nat) : S (k + 6) 11 [] = some (bV true) := by
  have e20 : S (k + 5) 20 [nI 5, sa false A0] = _ := s20 k false 5 A0 (by decide)
  have e15 : S (k + 5) 15 [nI 5, sa false A0, nI 2] = _ := s15 (k + 4) false 5 A0 (by decide) 2
  have e13 : S (k + 5) 13 [nI 5, sa false A0] = _ := s13 k false 5 A0 (by decide)
  have e17 : S (k + 5) 17 [gsl eII false [(false, [0, 1]), (false, [2]), (false, [3, 4])], gsl eII false [(false, [0, 1]), (false, [2]), (false, [3, 4])]] = _ := s17 (k + 3) false false _ _ (by decide) (by decide)
  rw [if_pos A0_ck] at e20 e13
  have hst : stD 5 A0 2 = .nd .tu [nI 3, nI 0] := by
    unfold stD
    rw [if_pos A0_ck, if_pos (by omega)]
    show T.nd K.tu [nI (str 5 A0 2 : Nat), nI 0] = _
    rw [A0_str]
    rfl
  rw [hst] at e15
  rw [show (antL (ordG 5 A0) (5 : Int).toNat).length = 2 from A0_wid] at e20
  have hrd : rdG (lvR 5 A0) (5 : Int).toNat = gsl eII false [(false, [0, 1]), (false, [2]), (false, [3, 4])] := congrArg (gsl eII false) A0_rd
  rw [hrd] at e13
  have hls : listsB [(false, [0, 1]), (false, [2]), (false, [3, 4])] [(false, [0, 1]), (false, [2]), (false, [3, 4])] = true := by decide
  rw [hls] at e17
  have hA : sa false A0 = .nd (.sl false 2 4) [nI 0, nI 2, nI 1, nI 2, nI 2, nI 3, nI 2, nI 4] := rfl
  have hL : gsl eII false [(false, [0, 1]), (false, [2]), (false, [3, 4])] = .nd (.sl false 1 3) [.nd (.sl false 1 2) [nI 0, nI 1], .nd (.sl false 1 1) [nI 2], .nd (.sl false 1 2) [nI 3, nI 4]] := rfl
  rw [hA] at e20 e15 e13
  rw [hL] at e13 e17
  rw [sA _ _ _ c11 rfl rfl]
  rw [callF_tab _ _ c11 24 _ (by exact Nat.le_of_ble_eq_true rfl) (by exact Nat.le_of_ble_eq_true rfl)]
  simp at e20
  generalize S (k + 5) = call at *
  simp [c11, e20, e15, e13, e17]
/-! ### the laws -/
theorem listsB_refl (l : List (Bool × List Int)) : listsB l l = true := by simp [listsB]
theorem callM_eq {call : Oracle} {fuel : Nat} {mf : MF} {ds : List D} (h : hasB mf.code = false) : callM call fuel mf ds = callF call fuel mf ds := by
  unfold callM
  rw [h]
  rfl
/-- A law's own code, at the top. -/
theorem calls_top {f : FuncId} {hints : List (List Bool)} {mf : MF} (hc : compF Go.Proofs.Try.prog hints f = some mf) {n : Nat} {ds : List D} {v : Value} (h : callM (S n) 6000 mf ds = some (.v v)) {w : World} {us : List Value} (ha : ArgsOK w us ds) :
    Calls Go.Proofs.Try.prog f us.toArray w fun e w' => e = .returned v ∧ RowKit.Below w.heap.size w w' := by
  obtain ⟨l, h1, h2, h3, h4⟩ := ha
  have := (callM_ok (semB_ok baseA_ok tbl_ok 6000 n) hc h).2 l w (Glob.none_at w) h1 h3 h4
  rw [h2] at this
  refine Calls.mono this ?_
  rintro e w' ⟨t, rfl, he, hb, _⟩
  cases er_eq_v he
  exact ⟨rfl, hb⟩
end Go.Mx
namespace Go.Mx
set_option linter.unusedVariables false
set_option linter.unusedSimpArgs false
set_option linter.unusedSectionVars false
open Go

abbrev tdArcs : TD := .sl (.st [.int .i64, .int .i64])
theorem rd_pair {ds : List D} (h : (TD.st [.int .i64, .int .i64]).rd ds) : ∃ x : Int × Int, ds = [nI x.1, nI x.2] ∧ I64 x.1 ∧ I64 x.2 := by
  obtain ⟨d1, d2, rfl, ⟨x, hx, rfl⟩, d3, d4, rfl, ⟨y, hy, rfl⟩, rfl⟩ := h
  exact ⟨(x, y), rfl, wf_i64 hx, wf_i64 hy⟩
theorem rd_arcs {d : D} (h : tdArcs.rd [d]) : ∃ b a, d = sa b a ∧ ∀ p ∈ a, I64 p.1 ∧ I64 p.2 := by
  obtain ⟨b, kss, h1, _, _, h2⟩ := h
  have : ∀ kss : List (List D), (∀ ks ∈ kss, (TD.st [.int .i64, .int .i64]).rd ks) → ∃ a : List (Int × Int), kss.flatten = gk eA a ∧ a.length = kss.length ∧ ∀ p ∈ a, I64 p.1 ∧ I64 p.2 := by
    intro kss
    induction kss with
    | nil => intro _; exact ⟨[], rfl, rfl, by simp⟩
    | cons ks kss ih =>
      intro h
      obtain ⟨a, e1, e2, e3⟩ := ih fun k hk => h k (List.mem_cons_of_mem _ hk)
      obtain ⟨x, rfl, hx⟩ := rd_pair (h ks (List.mem_cons_self ..))
      refine ⟨x :: a, by rw [List.flatten_cons, e1]; rfl, by simp [e2], ?_⟩
      intro p hp
      rcases List.mem_cons.1 hp with rfl | hp
      · exact hx
      · exact e3 p hp
  obtain ⟨a, e1, e2, e3⟩ := this kss h2
  refine ⟨b, a, ?_, e3⟩
  rw [e1, ← e2] at h1
  exact (List.cons.inj h1).1
theorem rd_ints {d : D} (h : (TD.sl (.int .i64)).rd [d]) : ∃ b l, d = si b l ∧ (b = true → l = []) ∧ ∀ x ∈ l, I64 x := by
  obtain ⟨b, kss, h1, hb, _, h2⟩ := h
  have : ∀ kss : List (List D), (∀ ks ∈ kss, (TD.int .i64).rd ks) → ∃ l : List Int, kss.flatten = gk (eI .i64) l ∧ l.length = kss.length ∧ ∀ x ∈ l, I64 x := by
    intro kss
    induction kss with
    | nil => intro _; exact ⟨[], rfl, rfl, by simp⟩
    | cons ks kss ih =>
      intro h
      obtain ⟨l, e1, e2, e3⟩ := ih fun k hk => h k (List.mem_cons_of_mem _ hk)
      obtain ⟨x, hx, rfl⟩ := h ks (List.mem_cons_self ..)
      refine ⟨x :: l, by rw [List.flatten_cons, e1]; rfl, by simp [e2], ?_⟩
      intro p hp
      rcases List.mem_cons.1 hp with rfl | hp
      · exact wf_i64 hx
      · exact e3 p hp
  obtain ⟨l, e1, e2, e3⟩ := this kss h2
  refine ⟨b, l, ?_, fun h => by rw [hb h] at e2; simpa using e2, e3⟩
  rw [e1, ← e2] at h1
  exact (List.cons.inj h1).1
theorem rd_lists {d : D} (h : (TD.sl (.sl (.int .i64))).rd [d]) : ∃ b cs, d = gsl eII b cs := by
  obtain ⟨b, kss, h1, hb, _, h2⟩ := h
  have : ∀ kss : List (List D), (∀ ks ∈ kss, (TD.sl (.int .i64)).rd ks) → ∃ l : List (Bool × List Int), kss.flatten = gk eII l ∧ l.length = kss.length := by
    intro kss
    induction kss with
    | nil => intro _; exact ⟨[], rfl, rfl⟩
    | cons ks kss ih =>
      intro h
      obtain ⟨l, e1, e2⟩ := ih fun k hk => h k (List.mem_cons_of_mem _ hk)
      have hx := h ks (List.mem_cons_self ..)
      obtain ⟨c, x, e⟩ : ∃ c x, ks = [si c x] := by
        have hx' := hx
        obtain ⟨b', kss', e, r⟩ := hx
        rw [e] at hx'
        obtain ⟨c, x, e2, _⟩ := rd_ints hx'
        exact ⟨c, x, by rw [e, e2]⟩
      subst e
      exact ⟨(c, x) :: l, by rw [List.flatten_cons, e1]; rfl, by simp [e2]⟩
  obtain ⟨l, e1, e2⟩ := this kss h2
  refine ⟨b, l, ?_⟩
  rw [e1, ← e2] at h1
  exact (List.cons.inj h1).1
end Go.Mx
namespace Go.Mx
set_option linter.unusedVariables false
set_option linter.unusedSimpArgs false
set_option linter.unusedSectionVars false
open Go

theorem valid_mem {n : Int} {a : List (Int × Int)} (h : validB n a = true) : ∀ p ∈ a, 0 ≤ p.1 ∧ p.1 < n ∧ 0 ≤ p.2 ∧ p.2 < n ∧ p.1 ≠ p.2 := by
  intro p hp
  obtain ⟨i, hi, rfl⟩ := List.mem_iff_getElem.1 hp
  have := valid_all h hi
  simp only [okA, nth_get (0, 0) hi, Bool.and_eq_true, decide_eq_true_eq, Bool.not_eq_true', beq_eq_false_iff_ne] at this
  exact ⟨this.1.1.1.1.1, this.1.1.1.1.2, this.1.1.1.2, this.1.1.2, this.1.2⟩
theorem natA_mem {n : Int} {a : List (Int × Int)} (h : validB n a = true) (i j : Nat) : (i, j) ∈ natA a ↔ ((i : Int), (j : Int)) ∈ a := by
  unfold natA
  rw [List.mem_map]
  constructor
  · rintro ⟨p, hp, he⟩
    have hm := valid_mem h p hp
    obtain ⟨e1, e2⟩ := Prod.mk.inj he
    have : p = ((i : Int), (j : Int)) := Prod.ext (by simp only; omega) (by simp only; omega)
    rwa [this] at hp
  · intro hp
    exact ⟨_, hp, by simp⟩
theorem next_iff {n : Int} {a : List (Int × Int)} (h : validB n a = true) (i j : Nat) : (nextG (natA a) i).testBit j = true ↔ ((i : Int), (j : Int)) ∈ a := by
  rw [next_bit, List.contains_iff_mem, natA_mem h]
theorem ck_range (n : Int) (a : List (Int × Int)) : ckE n a = 0 ∨ ckE n a = 1 ∨ ckE n a = 6 ∨ ckE n a = 11 := by
  unfold ckE
  split
  · split
    · simp
    · split <;> simp
  · simp
theorem acy_of {n : Int} {a : List (Int × Int)} (hv : validB n a = true) (h : ∀ i, i < n.toNat → (rea n a i).testBit i = false) : acyB n a = true := by
  unfold acyB
  rw [hv, Bool.true_and, Bool.not_eq_true', any_range]
  exact h
/-- Fewer arcs of a digraph without a cycle. -/
theorem ck_sub {n : Int} {a b : List (Int × Int)} (hs : a.Sublist b) (hb : ckE n b = 0) : ckE n a = 0 ∧ ∀ u v, oR n a u v = true → oR n b u v = true := by
  obtain ⟨k, rfl, h12, hv, hac⟩ := ck_ok hb
  have hva : validB (k : Int) a = true := valid_of (by omega) (List.Pairwise.sublist hs (valid_sorted hv)) fun p hp => valid_mem hv p (hs.subset hp)
  have hr : ∀ i j, (rea k a i).testBit j = true → (rea k b i).testBit j = true := fun i j h => by
    refine warr_ind (nextG (natA a)) (fun i j => (rea k b i).testBit j = true) (fun i j h => ?_) (fun i v j h1 h2 => ?_) _ i j h
    · rw [next_iff hva] at h
      exact warr_mono _ _ i j ((next_iff hv i j).2 (hs.subset h))
    · exact Rr_trans (va_bnd hv) h1 h2
  have haa : acyB (k : Int) a = true := acy_of hva fun i hi => not_of (hr i i) (acy_irr hac hi)
  refine ⟨?_, fun u v h => ?_⟩
  · unfold ckE
    rw [if_pos hva, if_neg (by omega), if_pos haa]
  · rw [oR_iff hv hac]
    rw [oR_iff hva haa] at h
    exact hr u v h
/-! ### arcs turned round -/
def bkR (a : List (Int × Int)) (i k : Nat) : List (Int × Int) := ((a.take k).filter fun p => p.2 == (i : Int)).map fun p => ((i : Int), p.1)
def bkL (a : List (Int × Int)) (i : Nat) : List (Int × Int) := (List.range i).flatMap fun i => bkR a i a.length
theorem bkR_succ (a : List (Int × Int)) (i : Nat) {k : Nat} (h : k < a.length) : bkR a i (k + 1) = if (nth a (0, 0) k).2 = (i : Int) then bkR a i k ++ [((i : Int), (nth a (0, 0) k).1)] else bkR a i k := by
  unfold bkR
  rw [take_succ_nth (0, 0) h, List.filter_append, List.map_append]
  by_cases hc : (nth a (0, 0) k).2 = (i : Int)
  · rw [if_pos hc]
    simp [hc]
  · rw [if_neg hc]
    simp [hc]
theorem bkL_succ (a : List (Int × Int)) (i : Nat) : bkL a (i + 1) = bkL a i ++ bkR a i a.length := by
  unfold bkL; rw [List.range_succ, List.flatMap_append]; simp
theorem mem_bkR {a : List (Int × Int)} {i : Nat} {x : Int × Int} : x ∈ bkR a i a.length ↔ x.1 = (i : Int) ∧ (x.2, x.1) ∈ a := by
  unfold bkR
  rw [List.take_length, List.mem_map]
  constructor
  · rintro ⟨p, hp, rfl⟩
    obtain ⟨h1, h2⟩ := List.mem_filter.1 hp
    have h2 := eq_of_beq h2
    refine ⟨rfl, ?_⟩
    show (p.1, (i : Int)) ∈ a
    rw [← h2]
    exact h1
  · rintro ⟨h1, h2⟩
    refine ⟨(x.2, x.1), List.mem_filter.2 ⟨h2, by simp [h1]⟩, ?_⟩
    rw [← h1]
theorem mem_bkL {a : List (Int × Int)} {k : Nat} {x : Int × Int} : x ∈ bkL a k ↔ 0 ≤ x.1 ∧ x.1 < k ∧ (x.2, x.1) ∈ a := by
  unfold bkL
  rw [List.mem_flatMap]
  constructor
  · rintro ⟨i, hi, h⟩
    obtain ⟨h1, h3⟩ := mem_bkR.1 h
    have := List.mem_range.1 hi
    exact ⟨by omega, by omega, h3⟩
  · rintro ⟨h1, h2, h3⟩
    exact ⟨x.1.toNat, List.mem_range.2 (by omega), mem_bkR.2 ⟨by omega, h3⟩⟩
theorem bkR_sorted {a : List (Int × Int)} (h : a.Pairwise lexB) (i : Nat) : (bkR a i a.length).Pairwise lexB := by
  unfold bkR
  rw [List.take_length, List.pairwise_map]
  refine List.Pairwise.imp_of_mem (fun {p q} hp hq hpq => ?_) (List.Pairwise.filter _ h)
  have h1 := eq_of_beq (List.mem_filter.1 hp).2
  have h2 := eq_of_beq (List.mem_filter.1 hq).2
  unfold lexB at *
  dsimp only
  omega
theorem bkL_sorted {a : List (Int × Int)} (h : a.Pairwise lexB) : ∀ k, (bkL a k).Pairwise lexB
  | 0 => by simp [bkL]
  | k + 1 => by
    rw [bkL_succ, List.pairwise_append]
    refine ⟨bkL_sorted h k, bkR_sorted h k, fun x hx y hy => ?_⟩
    have h1 := mem_bkL.1 hx
    have h2 := mem_bkR.1 hy
    unfold lexB
    omega
theorem bk_valid {n : Int} {a : List (Int × Int)} (h : validB n a = true) : validB n (bkL a n.toNat) = true := by
  obtain ⟨k, rfl, h24, _⟩ := valid_nat h
  refine valid_of h24 (bkL_sorted (valid_sorted h) _) fun x hx => ?_
  have := mem_bkL.1 hx
  have := valid_mem h _ this.2.2
  omega
theorem bk_mem {n : Int} {a : List (Int × Int)} (h : validB n a = true) (i j : Nat) : ((i : Int), (j : Int)) ∈ bkL a n.toNat ↔ ((j : Int), (i : Int)) ∈ a := by
  rw [mem_bkL]
  constructor
  · exact fun h => h.2.2
  · intro hm
    have := valid_mem h _ hm
    dsimp only at *
    exact ⟨by omega, by omega, hm⟩
theorem bk_rea {n : Int} {a : List (Int × Int)} (h : validB n a = true) (i j : Nat) : (rea n (bkL a n.toNat) i).testBit j = (rea n a j).testBit i := by
  have hb := bk_valid h
  rw [Bool.eq_iff_iff]
  constructor
  · intro hr
    refine warr_ind (nextG (natA (bkL a n.toNat))) (fun i j => (rea n a j).testBit i = true) (fun i j h' => ?_) (fun i v j h1 h2 => ?_) _ i j hr
    · rw [next_iff hb, bk_mem h] at h'
      exact warr_mono _ _ j i ((next_iff h j i).2 h')
    · exact Rr_trans (va_bnd h) h2 h1
  · intro hr
    refine warr_ind (nextG (natA a)) (fun j i => (rea n (bkL a n.toNat) i).testBit j = true) (fun j i h' => ?_) (fun j v i h1 h2 => ?_) _ j i hr
    · rw [next_iff h, ← bk_mem h] at h'
      exact warr_mono _ _ i j ((next_iff hb i j).2 h')
    · exact Rr_trans (va_bnd hb) h2 h1
theorem bk_ck {n : Int} {a : List (Int × Int)} (h : validB n a = true) : ckE n (bkL a n.toNat) = ckE n a := by
  have hb := bk_valid h
  have hac : acyB n (bkL a n.toNat) = acyB n a := by
    unfold acyB
    rw [h, hb]
    simp only [bk_rea h]
  unfold ckE
  rw [h, hb, hac]
theorem bk_oR {n : Int} {a : List (Int × Int)} (he : ckE n a = 0) (u v : Nat) : oR n a u v = oR n (bkL a n.toNat) v u := by
  obtain ⟨k, rfl, h12, hv, hac⟩ := ck_ok he
  have hb := bk_valid hv
  have hbc := bk_ck hv
  rw [he] at hbc
  obtain ⟨_, _, _, _, hbac⟩ := ck_ok hbc
  rw [Bool.eq_iff_iff, oR_iff hv hac, oR_iff hb hbac, bk_rea hv]
end Go.Mx
