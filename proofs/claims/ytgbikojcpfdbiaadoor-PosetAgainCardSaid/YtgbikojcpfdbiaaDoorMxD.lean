import Derived.Test.YtgbikojcpfdbiaaDoorMxC
/-
  Mx, part D: what a slot says of the model's memory, and the laws on borrowing, taking, reading.
-/
namespace Go.Mx
set_option linter.unusedVariables false
set_option linter.unusedSimpArgs false
set_option linter.unusedSectionVars false
open Go

/-- What is known of memory that nobody writes: it hangs on some blocks alone. -/
structure Glob where
  blk : Nat → Prop
  ok : World → Prop
  st : ∀ w w', (∀ b, blk b → w'.heap[b]? = w.heap[b]?) → ok w → ok w'
structure Glob.At (g : Glob) (w : World) : Prop where
  ok : g.ok w
  lt : ∀ b, g.blk b → b < w.heap.size
def Glob.none : Glob := ⟨fun _ => False, fun _ => True, fun _ _ _ _ => trivial⟩
theorem Glob.none_at (w : World) : Glob.none.At w := ⟨trivial, fun _ h => h.elim⟩

structure Env where
  base : Nat
  W : Nat → Prop
  w0 : World
  g : Glob
  gold : ∀ b, g.blk b → b < base ∧ ¬ W b
  gok : g.ok w0
/-- At a function's entry. -/
def Env.ent (g : Glob) (w : World) (h : g.At w) : Env := ⟨w.heap.size, fun _ => False, w, g, fun b hb => ⟨h.lt b hb, fun h => h⟩, h.ok⟩

/-- Outside what may be written, old memory is as it was. -/
structure Keep (E : Env) (w : World) : Prop where
  os : w.os = E.w0.os
  tape : w.tape = E.w0.tape
  output : w.output = E.w0.output
  size : E.w0.heap.size ≤ w.heap.size
  block : ∀ k, k < E.base → ¬ E.W k → w.heap[k]? = E.w0.heap[k]?
  low : E.base ≤ E.w0.heap.size

theorem Keep.at' {E : Env} {w : World} (k : Keep E w) : E.g.At w :=
  ⟨E.g.st _ _ (fun b hb => k.block b (E.gold b hb).1 (E.gold b hb).2) E.gok, fun b hb => Nat.lt_of_lt_of_le (E.gold b hb).1 (Nat.le_trans k.low k.size)⟩

def Old (E : Env) (b : Nat) : Prop := b < E.base ∧ ¬ E.W b

def addrOf : C → Option Addr
  | .nd (.sl d _ _) _ => d.a
  | .nd (.bx d) _ => d.a
  | _ => none

def kv : K Bool → List Value → Value
  | .ag, us => .agg us.toArray
  | .tu, us => .tuple us.toArray
  | .fn f nf, us => .func f (us.take nf).toArray (us.drop nf).toArray
  | _, _ => undef

/-- What a node that is not built yet stands for. -/
def KV (k : K Bool) (us : List Value) (u : Value) : Prop :=
  match k with
  | .sl _ _ _ => us = [] ∧ ∃ a, u = .slice (some a) 0 0
  | k => u = kv k us

mutual
def VRel (E : Env) (ts : List C) : V → Value → Prop
  | .sc x, u => u = x
  | .own _, _ => False
  | .ro d, u => ∃ t : C, er t = d ∧ val t = u ∧ Mem E.w0 false t ∧ ∀ b, cnt b t ≠ 0 → Old E b
  | .ref r p, u => ∃ t0 k kids, ts[r]? = some t0 ∧ getAt t0 p = some (.nd k kids) ∧ val (.nd k kids) = u
  | .sub r p lo es n, u => ∃ t0 d n' kids c a ad, ts[r]? = some t0 ∧ getAt t0 p = some (.nd (.sl d es n') kids) ∧ n ≤ c ∧ lo + c * es ≤ d.cap * es ∧ d.a = some a ∧
      (c ≠ 0 → ad = a.add lo) ∧ u = .slice (some ad) n c
  | .ad r p c, u => ∃ t0 k kids a, ts[r]? = some t0 ∧ getAt t0 p = some (.nd k kids) ∧ addrOf (.nd k kids) = some a ∧ u = .pointer (some (a.add c))
  | .rad kids c, u => ∃ (ks : List C) (a : Addr), erL ks = kids ∧ Cells E.w0 a (valL ks) ∧ MemL E.w0 false ks ∧ (∀ b, cntL b ks ≠ 0 → Old E b) ∧ (kids ≠ [] → Old E a.block) ∧ u = .pointer (some (a.add c))
  | .vn k vs, u => ∃ us, VRelL E ts vs us ∧ KV k us u
  | .dead, _ => True
def VRelL (E : Env) (ts : List C) : List V → List Value → Prop
  | [], us => us = []
  | x :: xs, us => ∃ u us', us = u :: us' ∧ VRel E ts x u ∧ VRelL E ts xs us'
end

def SRel (E : Env) (ts : List C) (i : Nat) (x : V) (u : Value) : Prop :=
  match x with
  | .own d => ∃ k kids, ts[i]? = some (.nd k kids) ∧ er (.nd k kids) = d ∧ val (.nd k kids) = u
  | x => VRel E ts x u ∧ ∃ y, ts[i]? = some (.v y)

structure Rel (E : Env) (st : St) (ts : List C) (tm : Array Value) (w : World) : Prop where
  lenT : ts.length = st.length
  lenM : tm.size = st.length
  slot : ∀ (i : Nat) x u, st[i]? = some x → tm[i]? = some u → SRel E ts i x u
  mem : ∀ (i : Nat) t, ts[i]? = some t → Mem w true t
  uniq : ∀ b, cntL b ts ≤ 1
  dom : ∀ b, cntL b ts ≠ 0 → ¬ Old E b ∧ b < w.heap.size
  keep : Keep E w

/-- A place among the trees. -/
def getAt' (ts : List C) (i : Nat) (q : List Nat) : Option C :=
  match ts[i]? with
  | some t => getAt t q
  | none => none

theorem getAt_nil {δ : Type} (t : T δ) : getAt t [] = some t := by cases t <;> rfl
theorem setAt_nil {δ : Type} (t x : T δ) : setAt t [] x = x := by cases t <;> rfl

theorem val_nd (k : K Dec) (kids : List C) : val (.nd k kids) = k.val (kids.map val) := by rw [val, valL_eq]
theorem er_nd (k : K Dec) (kids : List C) : er (.nd k kids) = .nd k.er (kids.map er) := by rw [er, erL_eq]

/-! ### setAt and getAt -/

theorem val_setAt_up {t : C} {q p1 : List Nat} {s x : C} (h : getAt t q = some s) (hv : val (setAt s p1 x) = val s) : val (setAt t (q ++ p1) x) = val t := by
  induction q generalizing t with
  | nil => rw [getAt_nil] at h; cases h; simpa using hv
  | cons i q ih =>
    cases t with
    | v y => simp [getAt] at h
    | hole d => simp [getAt] at h
    | nd k kids =>
      simp only [getAt] at h
      cases hk : kids[i]? with
      | none => simp [hk] at h
      | some t =>
        simp only [hk] at h
        have := ih h
        simp only [List.cons_append, setAt, hk, val_nd]
        congr 1
        rw [List.map_set, this]
        apply List.ext_getElem?
        intro j
        rw [List.getElem?_set]
        split
        · rename_i hj; subst hj
          split
          · simp [hk]
          · rename_i hlt; simp at hlt; simp [List.getElem?_eq_none hlt]
        · rfl

theorem val_setAt_same {t : C} {p : List Nat} {s x : C} (h : getAt t p = some s) (hv : val x = val s) : val (setAt t p x) = val t := by
  have := val_setAt_up (p1 := []) (x := x) h (by rw [setAt_nil]; exact hv)
  simpa using this

def memK : K Dec → Bool
  | .sl .. => true
  | .bx .. => true
  | _ => false

theorem val_setAt_mem {k : K Dec} {kids : List C} {c : Nat} {p : List Nat} {x : C} (hk : memK k = true) : val (setAt (.nd k kids) (c :: p) x) = val (.nd k kids) := by
  simp only [setAt, val_nd]
  cases k <;> simp [memK] at hk <;> rfl

/-- Where a path parts from another one, or leads to above it, nothing but the children turn. -/
def Quiet (t : C) (p : List Nat) (x : C) : Prop := ∀ q p1 s, p = q ++ p1 → p1 ≠ [] → getAt t q = some s → val (setAt s p1 x) = val s

theorem quiet_hole {t : C} {p : List Nat} {s x : C} (h : getAt t p = some s) (hv : val x = val s) : Quiet t p x := by
  intro q p1 s' hp _ hq
  refine val_setAt_same (s := s) ?_ hv
  rw [hp, getAt_append, hq] at h
  simpa using h

theorem quiet_cell {t : C} {p : List Nat} {c : Nat} {k : K Dec} {kids : List C} {x : C} (h : getAt t p = some (.nd k kids)) (hk : memK k = true) : Quiet t (p ++ [c]) x := by
  intro q p1 s hp hne hq
  -- p1 ends in c: p1 = p2 ++ [c]
  obtain ⟨p2, rfl⟩ : ∃ p2, p1 = p2 ++ [c] := by
    have : p1 = p1.dropLast ++ [p1.getLast hne] := (List.dropLast_concat_getLast hne).symm
    rw [this, ← List.append_assoc] at hp
    have h2 := List.append_inj' hp rfl
    exact ⟨p1.dropLast, by rw [List.cons.inj h2.2 |>.1]; exact this⟩
  have hp' : p = q ++ p2 := by
    rw [← List.append_assoc] at hp
    exact (List.append_inj' hp rfl).1
  rw [hp', getAt_append, hq] at h
  exact val_setAt_up (p1 := [c]) h (val_setAt_mem hk)

theorem getAt_setAt {t : C} {p q : List Nat} {x s : C} {k : K Dec} {kids : List C} (hs : getAt t p = some s) (hq : getAt t q = some (.nd k kids)) (hpre : pre p q = false) (hqt : Quiet t p x) :
    ∃ kids', getAt (setAt t p x) q = some (.nd k kids') ∧ val (.nd k kids') = val (.nd k kids) := by
  induction p generalizing t q with
  | nil => simp [pre] at hpre
  | cons i p ih =>
    cases t with
    | v y => simp [getAt] at hs
    | hole d => simp [getAt] at hs
    | nd k0 kids0 =>
      simp only [getAt] at hs
      cases hk : kids0[i]? with
      | none => simp [hk] at hs
      | some t1 =>
        simp only [hk] at hs
        cases q with
        | nil =>
          simp only [getAt, Option.some.injEq, T.nd.injEq] at hq
          obtain ⟨rfl, rfl⟩ := hq
          refine ⟨_, ?_, hqt [] (i :: p) (.nd k0 kids0) rfl (by simp) (by rfl)⟩
          simp only [setAt, getAt]
        | cons j q =>
          simp only [getAt] at hq
          simp only [setAt, hk, getAt]
          by_cases hj : i = j
          · subst hj
            simp only [hk] at hq
            have hlt : i < kids0.length := by
              rcases Nat.lt_or_ge i kids0.length with h | h
              · exact h
              · simp [List.getElem?_eq_none h] at hk
            rw [List.getElem?_set_self hlt]
            simp only [pre, beq_self_eq_true, Bool.true_and] at hpre
            refine ih hs hq hpre ?_
            intro q' p1 s' hp hne hq'
            refine hqt (i :: q') p1 s' (by rw [hp]; rfl) hne ?_
            simp only [getAt, hk]
            exact hq'
          · rw [List.getElem?_set_ne hj]
            exact ⟨kids, hq, rfl⟩

/-! ### what a change of one tree leaves of the others' borrowing -/

theorem VRel_kill {E : Env} {ts ts' : List C} {r : Nat} {p : List Nat} {x : V} {u : Value} (h : VRel E ts x u) (hk : x.under r p = false → VRel E ts x u → VRel E ts' x u) : VRel E ts' (x.kill r p) u := by
  unfold V.kill
  split
  · trivial
  · rename_i hn; exact hk (by simpa using hn) h

mutual
theorem VRel_mono {E : Env} {ts ts' : List C} {r : Nat} {p : List Nat}
    (hr : ∀ i q k kids, getAt' ts i q = some (.nd k kids) → (i = r → pre p q = false) → ∃ kids', getAt' ts' i q = some (.nd k kids') ∧ val (.nd k kids') = val (.nd k kids)) :
    ∀ (x : V) (u : Value), x.under r p = false → VRel E ts x u → VRel E ts' x u
  | .sc _, _, _, h => h
  | .own _, _, _, h => h
  | .ro _, _, _, h => h
  | .ref i q, u, hu, h => by
    obtain ⟨t0, k, kids, h1, h2, h3⟩ := h
    simp only [V.under, Bool.and_eq_false_iff] at hu
    obtain ⟨kids', h4, h5⟩ := hr i q k kids (by simp [getAt', h1, h2]) (by rintro rfl; simpa using hu)
    unfold getAt' at h4
    cases ht : ts'[i]? with
    | none => simp [ht] at h4
    | some t1 => simp only [ht] at h4; exact ⟨t1, k, kids', ht, h4, by rw [h5, h3]⟩
  | .sub i q lo es n, u, hu, h => by
    obtain ⟨t0, d, n', kids, c, a, ad, h1, h2, h3⟩ := h
    simp only [V.under, Bool.and_eq_false_iff] at hu
    obtain ⟨kids', h4, h5⟩ := hr i q (.sl d es n') kids (by simp [getAt', h1, h2]) (by rintro rfl; simpa using hu)
    unfold getAt' at h4
    cases ht : ts'[i]? with
    | none => simp [ht] at h4
    | some t1 => simp only [ht] at h4; exact ⟨t1, d, n', kids', c, a, ad, ht, h4, h3⟩
  | .ad i q c, u, hu, h => by
    obtain ⟨t0, k, kids, a, h1, h2, h3, h6⟩ := h
    simp only [V.under, Bool.and_eq_false_iff] at hu
    obtain ⟨kids', h4, h5⟩ := hr i q k kids (by simp [getAt', h1, h2]) (by rintro rfl; simpa using hu)
    unfold getAt' at h4
    cases ht : ts'[i]? with
    | none => simp [ht] at h4
    | some t1 => simp only [ht] at h4; exact ⟨t1, k, kids', a, ht, h4, by cases k <;> exact h3, h6⟩
  | .rad _ _, _, _, h => h
  | .vn k vs, u, hu, h => by
    obtain ⟨us, h1, h2⟩ := h
    exact ⟨us, VRelL_mono hr vs us (by simpa [V.under] using hu) h1, h2⟩
  | .dead, _, _, _ => trivial
theorem VRelL_mono {E : Env} {ts ts' : List C} {r : Nat} {p : List Nat}
    (hr : ∀ i q k kids, getAt' ts i q = some (.nd k kids) → (i = r → pre p q = false) → ∃ kids', getAt' ts' i q = some (.nd k kids') ∧ val (.nd k kids') = val (.nd k kids)) :
    ∀ (xs : List V) (us : List Value), V.underL r p xs = false → VRelL E ts xs us → VRelL E ts' xs us
  | [], _, _, h => h
  | x :: xs, us, hu, h => by
    obtain ⟨u, us', h1, h2, h3⟩ := h
    simp only [V.underL, Bool.or_eq_false_iff] at hu
    exact ⟨u, us', h1, VRel_mono hr x u hu.1 h2, VRelL_mono hr xs us' hu.2 h3⟩
end

end Go.Mx
