import Derived.Calls
import Derived.Below
import Derived.Laws.Sem
/-
  Mx, part A: data trees. A tree is a scalar, a taken-out place, or a node with children: a slice (with its cells), a variable behind a pointer, a struct or an array, several results, a function value.
  'T Bool' (D): plain data; 'T Dec' (C): the same with the addresses at which the model has it.
-/
namespace Go.Mx
set_option linter.unusedVariables false
set_option linter.unusedSimpArgs false
set_option linter.unusedSectionVars false

inductive K (δ : Type) where
  | sl (dec : δ) (es n : Nat)
  | bx (dec : δ)
  | ag
  | tu
  | fn (f : Fn) (nf : Nat)

inductive T (δ : Type) where
  | v (x : Value)
  | hole (dec : δ)
  | nd (k : K δ) (kids : List (T δ))

structure Dec where
  a : Option Addr
  cap : Nat
  x : Value

abbrev D := T Bool
abbrev C := T Dec

instance {δ : Type} : Inhabited (T δ) := ⟨.v undef⟩

def K.er : K Dec → K Bool
  | .sl d es n => .sl d.a.isNone es n
  | .bx _ => .bx false
  | .ag => .ag
  | .tu => .tu
  | .fn f nf => .fn f nf

mutual
def er : C → D
  | .v x => .v x
  | .hole _ => .hole false
  | .nd k kids => .nd k.er (erL kids)
def erL : List C → List D
  | [] => []
  | t :: ts => er t :: erL ts
end

theorem erL_eq (l : List C) : erL l = l.map er := by
  induction l with
  | nil => rfl
  | cons t ts ih => simp [erL, ih]

def K.val (vs : List Value) : K Dec → Value
  | .sl d _ n => .slice d.a n d.cap
  | .bx d => .pointer d.a
  | .ag => .agg vs.toArray
  | .tu => .tuple vs.toArray
  | .fn f nf => .func f (vs.take nf).toArray (vs.drop nf).toArray

mutual
def val : C → Value
  | .v x => x
  | .hole d => d.x
  | .nd k kids => k.val (valL kids)
def valL : List C → List Value
  | [] => []
  | t :: ts => val t :: valL ts
end

theorem valL_eq (l : List C) : valL l = l.map val := by
  induction l with
  | nil => rfl
  | cons t ts ih => simp [valL, ih]

/-- The block that a node owns. -/
def K.own (b : Nat) : K Dec → Nat
  | .sl d _ _ => if d.cap ≠ 0 ∧ d.a.map (·.block) = some b then 1 else 0
  | .bx d => if d.a.map (·.block) = some b then 1 else 0
  | _ => 0

mutual
/-- How often a block is owned in a tree. -/
def cnt (b : Nat) : C → Nat
  | .v _ => 0
  | .hole _ => 0
  | .nd k kids => k.own b + cntL b kids
def cntL (b : Nat) : List C → Nat
  | [] => 0
  | t :: ts => cnt b t + cntL b ts
end

/-- The cells from an address on hold these values. -/
def Cells (w : World) (a : Addr) (vs : List Value) : Prop := ∀ i u, vs[i]? = some u → w.cell? (a.add i) = some u

/-- A block of at least this many cells, none of which is frozen. -/
def Row (w : World) (b : Nat) (m : Nat) : Prop := ∃ arr e lo hi, w.heap[b]? = some (.cells arr e (lo, hi)) ∧ m ≤ arr.size ∧ (lo = hi ∨ m ≤ lo)

def K.ok (w : World) (o : Bool) (vs : List Value) : K Dec → Prop
  | .sl d es n => vs.length = n * es ∧ n ≤ d.cap ∧ (d.a = none → d.cap = 0) ∧ ∀ a, d.a = some a → Cells w a vs ∧ (o = true → d.cap ≠ 0 → a.spot = none ∧ Row w a.block (a.off + d.cap * es))
  | .bx d => ∃ a, d.a = some a ∧ Cells w a vs ∧ (o = true → a.spot = none ∧ Row w a.block (a.off + vs.length))
  | _ => True

mutual
def Mem (w : World) (o : Bool) : C → Prop
  | .v _ => True
  | .hole _ => True
  | .nd k kids => k.ok w o (valL kids) ∧ MemL w o kids
def MemL (w : World) (o : Bool) : List C → Prop
  | [] => True
  | t :: ts => Mem w o t ∧ MemL w o ts
end

theorem MemL_iff {w : World} {o : Bool} {l : List C} : MemL w o l ↔ ∀ t ∈ l, Mem w o t := by
  induction l with
  | nil => simp [MemL]
  | cons t ts ih => simp [MemL, ih]

/-! ### places -/

def getAt {δ : Type} : T δ → List Nat → Option (T δ)
  | t, [] => some t
  | .nd _ kids, i :: p => match kids[i]? with | some t => getAt t p | none => none
  | _, _ :: _ => none

def setAt {δ : Type} : T δ → List Nat → T δ → T δ
  | _, [], x => x
  | .nd k kids, i :: p, x => .nd k (match kids[i]? with | some t => kids.set i (setAt t p x) | none => kids)
  | t, _ :: _, _ => t

theorem er_getAt (t : C) (p : List Nat) : getAt (er t) p = (getAt t p).map er := by
  induction p generalizing t with
  | nil => cases t <;> rfl
  | cons i p ih =>
    cases t with
    | v x => rfl
    | hole d => rfl
    | nd k kids =>
      simp only [er, getAt, erL_eq, List.getElem?_map]
      cases kids[i]? with
      | none => rfl
      | some t => simpa using ih t

theorem er_setAt (t : C) (p : List Nat) (x : C) : er (setAt t p x) = setAt (er t) p (er x) := by
  induction p generalizing t with
  | nil => cases t <;> rfl
  | cons i p ih =>
    cases t with
    | v x => rfl
    | hole d => rfl
    | nd k kids =>
      simp only [er, setAt, erL_eq, List.getElem?_map]
      cases h : kids[i]? with
      | none => simp
      | some t => simp [List.map_set, ih t]

theorem cntL_set (b : Nat) (l : List C) (i : Nat) (t x : C) (h : l[i]? = some t) : cntL b (l.set i x) + cnt b t = cntL b l + cnt b x := by
  induction l generalizing i with
  | nil => simp at h
  | cons s ss ih =>
    cases i with
    | zero => simp at h; subst h; simp only [List.set_cons_zero, cntL]; omega
    | succ i =>
      simp at h
      have := ih i h
      simp only [List.set_cons_succ, cntL]; omega

theorem cntL_append (b : Nat) (l m : List C) : cntL b (l ++ m) = cntL b l + cntL b m := by
  induction l with
  | nil => simp [cntL]
  | cons s ss ih => simp only [List.cons_append, cntL, ih]; omega

theorem cnt_le_cntL (b : Nat) (l : List C) (i : Nat) (t : C) (h : l[i]? = some t) : cnt b t ≤ cntL b l := by
  induction l generalizing i with
  | nil => simp at h
  | cons s ss ih =>
    cases i with
    | zero => simp at h; subst h; simp only [cntL]; omega
    | succ i => simp at h; have := ih i h; simp only [cntL]; omega

theorem cnt_setAt (b : Nat) (t : C) (p : List Nat) (s x : C) (h : getAt t p = some s) : cnt b (setAt t p x) + cnt b s = cnt b t + cnt b x := by
  induction p generalizing t with
  | nil =>
    have : s = t := by cases t <;> simpa [getAt] using h.symm
    subst this
    cases s <;> simp [setAt] <;> omega
  | cons i p ih =>
    cases t with
    | v x => simp [getAt] at h
    | hole d => simp [getAt] at h
    | nd k kids =>
      simp only [getAt] at h
      cases hk : kids[i]? with
      | none => simp [hk] at h
      | some t =>
        simp only [hk] at h
        simp only [setAt, hk, cnt]
        have h1 := ih t h
        have h2 := cntL_set b kids i t (setAt t p x) hk
        omega

theorem cnt_getAt (b : Nat) (t : C) (p : List Nat) (s : C) (h : getAt t p = some s) : cnt b s ≤ cnt b t := by
  induction p generalizing t with
  | nil =>
    have : s = t := by cases t <;> simpa [getAt] using h.symm
    subst this; exact Nat.le_refl _
  | cons i p ih =>
    cases t with
    | v x => simp [getAt] at h
    | hole d => simp [getAt] at h
    | nd k kids =>
      simp only [getAt] at h
      cases hk : kids[i]? with
      | none => simp [hk] at h
      | some t =>
        simp only [hk] at h
        have h1 := ih t h
        have h2 := cnt_le_cntL b kids i t hk
        simp only [cnt]; omega

theorem Mem_getAt {w : World} {o : Bool} {t : C} {p : List Nat} {s : C} (hm : Mem w o t) (h : getAt t p = some s) : Mem w o s := by
  induction p generalizing t with
  | nil =>
    have : s = t := by cases t <;> simpa [getAt] using h.symm
    subst this; exact hm
  | cons i p ih =>
    cases t with
    | v x => simp [getAt] at h
    | hole d => simp [getAt] at h
    | nd k kids =>
      simp only [getAt] at h
      cases hk : kids[i]? with
      | none => simp [hk] at h
      | some t =>
        simp only [hk] at h
        simp only [Mem, MemL_iff] at hm
        exact ih (hm.2 t (List.mem_of_getElem? hk)) h

theorem getAt_append {δ : Type} (t : T δ) (p q : List Nat) : getAt t (p ++ q) = (getAt t p).bind (getAt · q) := by
  induction p generalizing t with
  | nil => cases t <;> rfl
  | cons i p ih =>
    cases t with
    | v x => rfl
    | hole d => rfl
    | nd k kids =>
      simp only [List.cons_append, getAt]
      cases kids[i]? with
      | none => rfl
      | some t => exact ih t

/-! ### what is kept -/

theorem Cells.same {w w' : World} {a : Addr} {vs : List Value} (h : Cells w a vs) (hb : w'.heap[a.block]? = w.heap[a.block]?) : Cells w' a vs := by
  intro i u hu
  have := h i u hu
  rw [← this]
  have hbl : (a.add i).block = a.block := by unfold Addr.add; split <;> rfl
  unfold World.cell?
  rw [hbl, hb]

theorem Row.same {w w' : World} {b m : Nat} (h : Row w b m) (hb : w'.heap[b]? = w.heap[b]?) : Row w' b m := by
  obtain ⟨arr, e, lo, hi, h1, h2⟩ := h
  exact ⟨arr, e, lo, hi, by rw [hb]; exact h1, h2⟩

theorem K.ok_same {w w' : World} {o : Bool} {vs : List Value} {k : K Dec} (h : k.ok w o vs) (hb : ∀ b, k.own b ≠ 0 → w'.heap[b]? = w.heap[b]?)
    (hz : ∀ a es n d, k = .sl d es n → d.a = some a → d.cap = 0 → vs = []) : k.ok w' o vs := by
  cases k with
  | sl d es n =>
    obtain ⟨h1, h2, h3, h4⟩ := h
    refine ⟨h1, h2, h3, fun a ha => ?_⟩
    obtain ⟨h5, h6⟩ := h4 a ha
    by_cases hc : d.cap = 0
    · have := hz a es n d rfl ha hc
      subst this
      exact ⟨fun i u hu => by simp at hu, fun _ hne => absurd hc hne⟩
    · have := hb a.block (by simp [K.own, hc, ha])
      exact ⟨h5.same this, fun ho hne => ⟨(h6 ho hne).1, (h6 ho hne).2.same this⟩⟩
  | bx d =>
    obtain ⟨a, ha, h1, h2⟩ := h
    have := hb a.block (by simp [K.own, ha])
    exact ⟨a, ha, h1.same this, fun ho => ⟨(h2 ho).1, (h2 ho).2.same this⟩⟩
  | ag => trivial
  | tu => trivial
  | fn f nf => trivial

theorem K.ok_empty {w : World} {o : Bool} {vs : List Value} {k : K Dec} (h : k.ok w o vs) : ∀ a es n d, k = .sl d es n → d.a = some a → d.cap = 0 → vs = [] := by
  intro a es n d hk ha hc
  subst hk
  obtain ⟨h1, h2, _⟩ := h
  have : n = 0 := by omega
  subst this
  simpa using h1

mutual
theorem Mem.same {w w' : World} {o : Bool} : ∀ {t : C}, Mem w o t → (∀ b, cnt b t ≠ 0 → w'.heap[b]? = w.heap[b]?) → Mem w' o t
  | .v _, _, _ => trivial
  | .hole _, _, _ => trivial
  | .nd k kids, h, hb => by
    simp only [Mem] at h ⊢
    exact ⟨K.ok_same h.1 (fun b hne => hb b (by simp only [cnt]; omega)) (K.ok_empty h.1), MemL.same h.2 (fun b hne => hb b (by simp only [cnt]; omega))⟩
theorem MemL.same {w w' : World} {o : Bool} : ∀ {l : List C}, MemL w o l → (∀ b, cntL b l ≠ 0 → w'.heap[b]? = w.heap[b]?) → MemL w' o l
  | [], _, _ => trivial
  | t :: ts, h, hb => by
    simp only [MemL] at h ⊢
    exact ⟨Mem.same h.1 (fun b hne => hb b (by simp only [cntL]; omega)), MemL.same h.2 (fun b hne => hb b (by simp only [cntL]; omega))⟩
end

end Go.Mx
