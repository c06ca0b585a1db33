import Derived.Test.YtgbikojcpfdbiaaDoorMxK
import Derived.Laws.MakeOwn
import Derived.Laws.IdiomStrings
/-
  Mx, part L: new blocks.
-/
namespace Go.Mx
set_option linter.unusedVariables false
set_option linter.unusedSimpArgs false
set_option linter.unusedSectionVars false
open Go

section
variable {P : Program} {E : Env} {st st' : St} {ts : List C} {a : Act} {w : World}

/-- The memory has only grown. -/
structure Grew (w w' : World) : Prop where
  os : w'.os = w.os
  tape : w'.tape = w.tape
  output : w'.output = w.output
  size : w.heap.size ≤ w'.heap.size
  block : ∀ k, k < w.heap.size → w'.heap[k]? = w.heap[k]?

theorem Grew.push {w w' : World} {o : Obj} (hh : w'.heap = w.heap.push o) (h1 : w'.os = w.os) (h2 : w'.tape = w.tape) (h3 : w'.output = w.output) : Grew w w' :=
  ⟨h1, h2, h3, by rw [hh]; simp, fun k hk => by rw [hh, Array.getElem?_push, if_neg (by omega)]⟩

theorem Rel.grow {tm : Array Value} (h : Rel E st ts tm w) {w' : World} (g : Grew w w') : Rel E st ts tm w' := by
  refine ⟨h.lenT, h.lenM, h.slot, ?_, h.uniq, fun b hb => ⟨(h.dom b hb).1, by have := (h.dom b hb).2; have := g.size; omega⟩, ?_⟩
  · intro i t ht
    refine (h.mem i t ht).same fun b hb => g.block b (h.dom b ?_).2
    have := cnt_le_cntL b ts i t ht
    omega
  · have k := h.keep
    exact ⟨g.os.trans k.os, g.tape.trans k.tape, g.output.trans k.output, Nat.le_trans k.size g.size, fun b hb hw => (g.block b (by have := k.size; have := k.low; omega)).trans (k.block b hb hw), k.low⟩

theorem new_block {w w' : World} {o : Obj} (hh : w'.heap = w.heap.push o) : w'.heap[w.heap.size]? = some o := by rw [hh]; simp

theorem MemL.grow {w w' : World} {l : List C} (h : MemL w true l) (g : Grew w w') (hl : ∀ b, cntL b l ≠ 0 → b < w.heap.size) : MemL w' true l := h.same fun b hb => g.block b (hl b hb)

theorem cells_new {w w' : World} {arr : Array Value} {e : TypeId} {fr : Nat × Nat} (hh : w'.heap = w.heap.push (.cells arr e fr)) {vs : List Value} (h : ∀ (i : Nat) v, vs[i]? = some v → arr[i]? = some v) : Cells w' ⟨w.heap.size, 0, none⟩ vs := by
  intro i v hv
  rw [Addr.add_lit, Nat.zero_add]
  simp only [World.cell?, new_block hh]
  exact h i v hv

/-- A new block, which a slot owns from now on. -/
theorem Rel.fresh {st0 : St} {ts0 : List C} {tm : Array Value} (h0 : Rel E st0 ts0 tm w) (h : Rel E st ts tm w) {kids : List C} (hk : MemL w true kids) (hc : ∀ b, cntL b ts + cntL b kids ≤ cntL b ts0)
    {w' : World} {arr : Array Value} {e : TypeId} {lo hi : Nat} (hh : w'.heap = w.heap.push (.cells arr e (lo, hi))) (hw1 : w'.os = w.os) (hw2 : w'.tape = w.tape) (hw3 : w'.output = w.output)
    (hfr : lo = hi ∨ arr.size ≤ lo) (harr : ∀ (i : Nat) v, (valL kids)[i]? = some v → arr[i]? = some v) (d : Nat) {k : K Dec}
    (hkk : (∃ cap es n, k = .sl ⟨some ⟨w.heap.size, 0, none⟩, cap, undef⟩ es n ∧ kids.length = n * es ∧ n ≤ cap ∧ cap * es ≤ arr.size) ∨ (k = .bx ⟨some ⟨w.heap.size, 0, none⟩, 0, undef⟩ ∧ kids.length ≤ arr.size)) :
    Rel E (setv st d (.own (er (.nd k kids)))) (ts.set d (.nd k kids)) (tm.setIfInBounds d (val (.nd k kids))) w' := by
  have g := Grew.push hh hw1 hw2 hw3
  have hlt : ∀ b, cntL b kids ≠ 0 → ¬ Old E b ∧ b < w.heap.size := fun b hb => h0.dom b (by have := hc b; omega)
  have hdomts : cntL w.heap.size ts = 0 := by
    by_cases hz : cntL w.heap.size ts = 0
    · exact hz
    · have := (h.dom _ hz).2; omega
  have hdomk : cntL w.heap.size kids = 0 := by
    by_cases hz : cntL w.heap.size kids = 0
    · exact hz
    · have := (hlt _ hz).2; omega
  have hcells := cells_new hh harr
  have hrow : Row w' w.heap.size arr.size := ⟨arr, e, lo, hi, new_block hh, Nat.le_refl _, hfr⟩
  have hown : ∀ b, k.own b ≤ 1 ∧ (k.own b ≠ 0 → b = w.heap.size) := by
    intro b
    rcases hkk with ⟨cap, es, n, rfl, _⟩ | ⟨rfl, _⟩
    · simp only [K.own, Option.map_some, Option.some.injEq]
      split
      · rename_i hq; exact ⟨Nat.le_refl _, fun _ => hq.2.symm⟩
      · exact ⟨by omega, fun hne => absurd rfl hne⟩
    · simp only [K.own, Option.map_some, Option.some.injEq]
      split
      · rename_i hq; exact ⟨Nat.le_refl _, fun _ => hq.symm⟩
      · exact ⟨by omega, fun hne => absurd rfl hne⟩
  refine (h.grow g).setOwn d ⟨k, kids, rfl⟩ ⟨?_, hk.grow g fun b hb => (hlt b hb).2⟩ ?_
  · rcases hkk with ⟨cap, es, n, rfl, h1, h2, h3⟩ | ⟨rfl, h1⟩
    · refine ⟨by rw [valL_len, h1], h2, (by intro hn; cases hn), ?_⟩
      intro ad had
      cases had
      exact ⟨hcells, fun _ _ => ⟨rfl, hrow.le (by simpa using h3)⟩⟩
    · exact ⟨_, rfl, hcells, fun _ => ⟨rfl, hrow.le (by simpa [valL_len] using h1)⟩⟩
  · intro b hb
    simp only [cnt] at hb ⊢
    obtain ⟨o1, o2⟩ := hown b
    by_cases hz : k.own b = 0
    · have hkb : cntL b kids ≠ 0 := by omega
      have h1 := hc b
      have h2 := h0.uniq b
      obtain ⟨h3, h4⟩ := hlt b hkb
      exact ⟨by omega, by omega, h3, by have := g.size; omega⟩
    · have hbs := o2 hz
      subst hbs
      refine ⟨hdomts, by omega, ?_, by rw [hh]; simp⟩
      intro ho
      have := ho.1
      have := h.keep.low
      have := h.keep.size
      omega

/-! ### zeros -/

theorem bytes_empty {x : ByteArray} (h : x.size = 0) : x = ByteArray.empty := by
  obtain ⟨⟨l⟩⟩ := x
  have : l = [] := by cases l with
    | nil => rfl
    | cons y ys => simp [ByteArray.size] at h
  subst this
  rfl

theorem sameZ_ok {d : D} {v : Value} (h : sameZ d v = true) : Kon d v := by
  unfold sameZ at h
  split at h
  · simp at h; subst h; exact scConst_kon
  · simp at h; obtain ⟨rfl, rfl⟩ := h; exact scConst_kon
  · simp at h
    obtain ⟨rfl, rfl⟩ := h; exact scConst_kon
  · exact scConst_kon
  · exact scConst_kon
  · exact scConst_kon
  · exact scConst_kon
  · rename_i es
    exact ⟨.nd (.sl ⟨none, 0, undef⟩ es 0) [], rfl, rfl, fun w o => ⟨⟨by simp [valL], by simp, fun _ => rfl, fun a ha => by cases ha⟩, trivial⟩, fun b => by simp [cnt, K.own, cntL]⟩
  · cases h

/-- A list of constants. -/
def KonL (ds : List D) (us : List Value) : Prop := ∃ l : List C, erL l = ds ∧ valL l = us ∧ (∀ w o, MemL w o l) ∧ ∀ b, cntL b l = 0

theorem KonL.nil : KonL [] [] := ⟨[], rfl, rfl, fun _ _ => trivial, fun _ => rfl⟩

theorem KonL.cons {d : D} {ds : List D} {u : Value} {us : List Value} (h : Kon d u) (k : KonL ds us) : KonL (d :: ds) (u :: us) := by
  obtain ⟨t, h1, h2, h3, h4⟩ := h
  obtain ⟨l, k1, k2, k3, k4⟩ := k
  exact ⟨t :: l, by rw [erL, h1, k1], by rw [valL, h2, k2], fun w o => ⟨h3 w o, k3 w o⟩, fun b => by rw [cntL, h4, k4]⟩

theorem KonL.append {ds ds' : List D} {us us' : List Value} (h : KonL ds us) (k : KonL ds' us') : KonL (ds ++ ds') (us ++ us') := by
  obtain ⟨l, h1, h2, h3, h4⟩ := h
  obtain ⟨m, k1, k2, k3, k4⟩ := k
  refine ⟨l ++ m, by rw [erL_eq, List.map_append, ← erL_eq, ← erL_eq, h1, k1], by rw [valL_eq, List.map_append, ← valL_eq, ← valL_eq, h2, k2], fun w o => ?_, fun b => by rw [cntL_append, h4, k4]⟩
  rw [MemL_iff]
  intro t ht
  rcases List.mem_append.1 ht with ht | ht
  · exact MemL_iff.1 (h3 w o) t ht
  · exact MemL_iff.1 (k3 w o) t ht

theorem reps_succ {α : Type} (n : Nat) (l : List α) : reps (n + 1) l = l ++ reps n l := by simp [reps, List.replicate_succ]

theorem KonL.reps {ds : List D} {us : List Value} (h : KonL ds us) (n : Nat) : KonL (reps n ds) (Mx.reps n us) := by
  induction n with
  | zero => exact KonL.nil
  | succ n ih => rw [reps_succ, reps_succ]; exact h.append ih

theorem reps_len {α : Type} (n : Nat) (l : List α) : (reps n l).length = n * l.length := by
  induction n with
  | zero => simp [reps]
  | succ n ih => rw [reps_succ, List.length_append, ih, Nat.succ_mul]; omega

theorem reps_get {α : Type} (n : Nat) (l : List α) (i : Nat) (h : i < n * l.length) : (reps n l)[i]? = l[i % l.length]? := by
  induction n generalizing i with
  | zero => simp at h
  | succ n ih =>
    rw [reps_succ]
    rw [Nat.succ_mul] at h
    by_cases hi : i < l.length
    · rw [List.getElem?_append_left hi, Nat.mod_eq_of_lt hi]
    · have e1 : i % l.length = (i - l.length) % l.length := Nat.mod_eq_sub_mod (by omega)
      rw [List.getElem?_append_right (by omega), ih _ (by omega), e1]

theorem sameZs_ok {ds : List D} {vs : List Value} (h : sameZs ds vs = true) : KonL ds vs := by
  induction ds generalizing vs with
  | nil => cases vs with
    | nil => exact KonL.nil
    | cons _ _ => simp [sameZs] at h
  | cons d ds ih => cases vs with
    | nil => simp [sameZs] at h
    | cons v vs =>
      simp only [sameZs, Bool.and_eq_true] at h
      exact KonL.cons (sameZ_ok h.1) (ih h.2)

theorem zeroOf_ok {t : TypeId} {ds : List D} (h : zeroOf P t = some ds) : ∃ i z, P.info? t = some i ∧ i.zero = some z ∧ KonL ds z.cells.toList ∧ ds.length = i.size := by
  unfold zeroOf at h
  split at h
  · rename_i ds' i h1 h2
    split at h
    · rename_i z hz
      split at h
      · rename_i hc
        cases h
        exact ⟨i, z, h2, hz, sameZs_ok hc.1, hc.2⟩
      · cases h
    · cases h
  · cases h

theorem KonL.len {ds : List D} {us : List Value} (h : KonL ds us) : ds.length = us.length := by
  obtain ⟨l, rfl, rfl, _⟩ := h
  rw [erL_len, valL_len]

/-! ### a variable, a slice of zeros -/

theorem alc_ok (hr : Rel E st ts a.tmps w) {o : Oper} {t : TypeId} (ho : o.op = .alloc t) {ds : List D} (hz : zeroOf P t = some ds) {d : Nat} (hd : o.dst = some d)
    {call : Oracle} (hs : step call st (.alc d ds) = some st') : Goes P E o a w st' := by
  simp only [step, Option.some.injEq] at hs
  subst hs
  obtain ⟨i, z, h1, h2, ⟨l, h3, h4, h5, h6⟩, h7⟩ := zeroOf_ok hz
  have hfr := hr.fresh hr (kids := l) (h5 w true) (fun b => by rw [h6]; omega) (w' := w.alloc (.cells z.cells t)) (arr := z.cells) (e := t) (lo := 0) (hi := 0) rfl rfl rfl rfl (.inl rfl)
    (fun i v hv => by rw [h4] at hv; simpa using hv) d (k := .bx ⟨some ⟨w.heap.size, 0, none⟩, 0, undef⟩) (.inr ⟨rfl, by rw [← valL_len, h4]; simp⟩)
  refine goes_value (v := .pointer (some ⟨w.heap.size, 0, none⟩)) (w' := w.alloc (.cells z.cells t)) ?_ ?_ (ts' := ts.set d (.nd (.bx ⟨some ⟨w.heap.size, 0, none⟩, 0, undef⟩) l))
  · simp [execOp, ho, Instr.alloc, zeroValue, typeInfo, h1, h2, newVar, newRow]
  · rw [hd]
    have e1 : er (.nd (.bx ⟨some ⟨w.heap.size, 0, none⟩, 0, undef⟩) l) = T.nd (.bx false) ds := by rw [er, h3]; rfl
    rw [e1] at hfr
    exact hfr

theorem mks_ok (hr : Rel E st ts a.tmps w) {o : Oper} {t e : TypeId} {x y : Operand} (ho : o.op = .makeSlice t x y) (ht : P.underlying t = some (.slice e)) {es : Nat} (hes : sizeT P e = some es) {ds : List D} (hz : zeroOf P e = some ds)
    (hby : (P.info? e).any (fun i => i.bytes ≤ 4096) = true) {d e1 e2 : Nat} (hd : o.dst = some d) {mx my : MO} (hx : opd e1 x = some mx) (hy : opd e2 y = some my)
    {call : Oracle} (hs : step call st (.mks d es ds mx my) = some st') : Goes P E o a w st' := by
  simp only [step] at hs
  split at hs
  · rename_i n m hn hm
    obtain ⟨k1, hk1⟩ := ev_nat hr hx hn
    obtain ⟨k2, hk2⟩ := ev_nat hr hy hm
    split at hs
    · rename_i hc
      cases hs
      obtain ⟨i, z, h1, h2, hkon, h7⟩ := zeroOf_ok hz
      have hsz : i.size = es := by simp [sizeT, h1] at hes; exact hes
      have hbytes : i.bytes ≤ 4096 := by simp [h1] at hby; exact hby
      obtain ⟨l, h3, h4, h5, h6⟩ := hkon.reps n
      have hlen := hkon.len
      rw [h7, hsz] at hlen
      have hm36 : m ≤ 2 ^ 36 := hc.2
      have hrun := run_make (P := P) w t e i z ht h1 h2 k1 k2 (n : Int) (m : Int) (by omega) (by omega)
        (by have : i.bytes * m ≤ 4096 * 2 ^ 36 := Nat.mul_le_mul hbytes hm36
            have h9 : ((i.bytes * m : Nat) : Int) ≤ 281474976710656 := by omega
            rwa [Int.natCast_mul] at h9) (by omega)
      simp only [Int.toNat_natCast] at hrun
      have hll : l.length = n * es := by rw [← valL_len, h4, reps_len, ← hlen]
      have hfr := hr.fresh hr (kids := l) (h5 w true) (fun b => by rw [h6]; omega) (w' := w.alloc (.cells (madeCells z.cells (m * i.size)) e)) (arr := madeCells z.cells (m * i.size)) (e := e) (lo := 0) (hi := 0) rfl rfl rfl rfl (.inl rfl)
        (fun j v hv => by
          have hj := lt_of_get hv
          rw [valL_len, hll] at hj
          rw [h4, reps_get _ _ _ (by rw [← hlen]; exact hj)] at hv
          have hjm : j < m * i.size := by
            rw [hsz]
            exact Nat.lt_of_lt_of_le hj (Nat.mul_le_mul_right _ hc.1)
          simp only [madeCells]
          rw [Array.getElem?_map, Array.getElem?_range, if_pos hjm]
          simp only [Option.map_some]
          rw [Array.length_toList, Array.getElem?_toList] at hv
          rw [getElem!_def, hv]) d (k := .sl ⟨some ⟨w.heap.size, 0, none⟩, m, undef⟩ es n) (.inl ⟨m, es, n, rfl, hll, hc.1, by rw [size_madeCells, hsz]; omega⟩)
      refine goes_value (v := .slice (some ⟨w.heap.size, 0, none⟩) n m) (w' := w.alloc (.cells (madeCells z.cells (m * i.size)) e)) ?_ ?_ (ts' := ts.set d (.nd (.sl ⟨some ⟨w.heap.size, 0, none⟩, m, undef⟩ es n) l))
      · simp [execOp, ho, hk1, hk2, hrun]
      · rw [hd]
        have e1 : er (.nd (.sl ⟨some ⟨w.heap.size, 0, none⟩, m, undef⟩ es n) l) = T.nd (.sl false es n) (reps n ds) := by rw [er, h3]; rfl
        rw [e1] at hfr
        exact hfr
    · cases hs
  · cases hs

theorem cntL_vv (b : Nat) (l : List Value) : cntL b (l.map T.v : List C) = 0 := by
  induction l with
  | nil => rfl
  | cons x xs ih => simp [cntL, cnt, ih]

theorem MemL_vv (w : World) (o : Bool) (l : List Value) : MemL w o (l.map T.v : List C) := by
  induction l with
  | nil => trivial
  | cons x xs ih => exact ⟨trivial, ih⟩

theorem Row.freeze {w : World} {b m k : Nat} (h : Row w b m) {b0 : Nat} (hk : ∀ arr e fr, w.heap[b0]? = some (.cells arr e fr) → k = arr.size) : Row (w.freeze ⟨b0, k, none⟩ 1) b m := by
  obtain ⟨arr, e, lo, hi, h1, h2, h3⟩ := h
  by_cases hb : b0 = b
  · subst hb
    have := hk arr e (lo, hi) h1
    subst this
    refine ⟨arr, e, (if lo == hi then (arr.size, arr.size + 1) else (min lo arr.size, max hi (arr.size + 1))).1, (if lo == hi then (arr.size, arr.size + 1) else (min lo arr.size, max hi (arr.size + 1))).2, ?_, h2, ?_⟩
    · simp only [World.freeze, Nat.one_ne_zero, if_false, Array.getElem?_modify, if_true, h1, Option.map_some]
    · by_cases hl : lo = hi
      · simp [hl]; omega
      · have : (lo == hi) = false := by simpa using hl
        rw [this]
        simp only [Bool.false_eq_true, if_false]
        right
        omega
  · refine ⟨arr, e, lo, hi, ?_, h2, h3⟩
    simp only [World.freeze, Nat.one_ne_zero, if_false, Array.getElem?_modify, if_neg hb, h1]

theorem Cells.freeze {w : World} {a : Addr} {vs : List Value} (h : Cells w a vs) (b0 k : Nat) : Cells (w.freeze ⟨b0, k, none⟩ 1) a vs := by
  intro i u hu
  have := h i u hu
  rw [← this]
  simp only [World.cell?, World.freeze]
  simp only [Nat.one_ne_zero, if_false, Array.getElem?_modify]
  by_cases hb : b0 = (a.add i).block
  · rw [if_pos hb]
    cases hx : w.heap[(a.add i).block]? with
    | none => rfl
    | some o => cases o <;> rfl
  · rw [if_neg hb]

theorem K.ok_freeze {w : World} {o : Bool} {vs : List Value} {k : K Dec} (h : k.ok w o vs) {b0 n : Nat} (hk : ∀ arr e fr, w.heap[b0]? = some (.cells arr e fr) → n = arr.size) : k.ok (w.freeze ⟨b0, n, none⟩ 1) o vs := by
  cases k with
  | sl d es m =>
    obtain ⟨h1, h2, h3, h4⟩ := h
    exact ⟨h1, h2, h3, fun a ha => ⟨(h4 a ha).1.freeze _ _, fun ho hne => ⟨((h4 a ha).2 ho hne).1, ((h4 a ha).2 ho hne).2.freeze hk⟩⟩⟩
  | bx d =>
    obtain ⟨a, ha, h1, h2⟩ := h
    exact ⟨a, ha, h1.freeze _ _, fun ho => ⟨(h2 ho).1, (h2 ho).2.freeze hk⟩⟩
  | ag => trivial
  | tu => trivial
  | fn f nf => trivial

mutual
theorem Mem.freeze {w : World} {o : Bool} {b0 n : Nat} (hk : ∀ arr e fr, w.heap[b0]? = some (.cells arr e fr) → n = arr.size) : ∀ {t : C}, Mem w o t → Mem (w.freeze ⟨b0, n, none⟩ 1) o t
  | .v _, _ => trivial
  | .hole _, _ => trivial
  | .nd k kids, h => by
    simp only [Mem] at h ⊢
    exact ⟨K.ok_freeze h.1 hk, MemL.freeze hk h.2⟩
theorem MemL.freeze {w : World} {o : Bool} {b0 n : Nat} (hk : ∀ arr e fr, w.heap[b0]? = some (.cells arr e fr) → n = arr.size) : ∀ {l : List C}, MemL w o l → MemL (w.freeze ⟨b0, n, none⟩ 1) o l
  | [], _ => trivial
  | t :: ts, h => by
    simp only [MemL] at h ⊢
    exact ⟨Mem.freeze hk h.1, MemL.freeze hk h.2⟩
end

theorem Rel.freeze {tm : Array Value} (h : Rel E st ts tm w) {b0 n : Nat} (hk : ∀ arr e fr, w.heap[b0]? = some (.cells arr e fr) → n = arr.size) (hold : ¬ Old E b0) : Rel E st ts tm (w.freeze ⟨b0, n, none⟩ 1) := by
  have hs : (w.freeze ⟨b0, n, none⟩ 1).heap.size = w.heap.size := by simp [World.freeze]
  refine ⟨h.lenT, h.lenM, h.slot, fun i t ht => (h.mem i t ht).freeze hk, h.uniq, fun b hb => ⟨(h.dom b hb).1, by rw [hs]; exact (h.dom b hb).2⟩, ?_⟩
  have k := h.keep
  refine ⟨k.os, k.tape, k.output, by rw [hs]; exact k.size, fun b hb hw => ?_, k.low⟩
  rw [← k.block b hb hw]
  have : ¬ b0 = b := by rintro rfl; exact hold ⟨hb, hw⟩
  simp only [World.freeze, Nat.one_ne_zero, if_false, Array.getElem?_modify, if_neg this]

/-- '[]byte("..")' of a constant: the row is marked. -/
theorem cvm_ok (hr : Rel E st ts a.tmps w) {o : Oper} {t e : TypeId} {x : Operand} (ho : o.op = .convert t t x) (hut : P.underlying t = some (.slice e)) (hue : P.underlying e = some (.int .u8))
    {d es : Nat} (hd : o.dst = some d) {m : MO} (hm : opd es x = some m) {call : Oracle} (hs : step call st (.cvm d m) = some st') : Goes P E o a w st' := by
  have hv := ev_ok hr (opd_ok (a := a) hm)
  simp only [step] at hs
  split at hs
  · rename_i r p hev
    rw [hev] at hv
    split at hs
    · rename_i es' n kids hp
      split at hs
      · rename_i hn
        cases hs
        obtain ⟨t0, s, h1, h2, h3, _⟩ := hr.place hp
        have hv' := hv
        obtain ⟨t1, k, kids', f1, f2, f3⟩ := hv
        rw [h1] at f1; cases f1
        rw [h2] at f2; cases f2
        obtain ⟨dd, ks, he, hks, hna⟩ := er_sl h3
        cases he
        have hm := Mem_getAt (hr.mem r _ h1) h2
        obtain ⟨aa, haa⟩ : ∃ aa, dd.a = some aa := by
          cases hda : dd.a with
          | none => rw [hda] at hna; cases hna
          | some aa => exact ⟨aa, rfl⟩
        simp only [Mem] at hm
        obtain ⟨⟨m1, m2, m3, m4⟩, _⟩ := hm
        have hcap : dd.cap ≠ 0 := by omega
        obtain ⟨hspot, hrow⟩ := (m4 aa haa).2 rfl hcap
        obtain ⟨arr, e0, lo, hi, g1, g2, g3⟩ := hrow
        have hold : ¬ Old E aa.block := by
          refine (hr.dom aa.block ?_).1
          have q1 := cnt_getAt aa.block _ p _ h2
          have q2 := cnt_le_cntL aa.block ts r _ h1
          have q3 : (K.sl dd es' n).own aa.block = 1 := by simp [K.own, hcap, haa]
          simp only [cnt] at q1
          omega
        have hrf := hr.freeze (b0 := aa.block) (n := arr.size) (fun arr' e' fr' h' => by rw [g1] at h'; cases h'; rfl) hold
        have hu : a.eval x = .slice (some aa) n dd.cap := by rw [← f3, val, K.val, haa]
        refine goes_value (v := a.eval x) (w' := w.freeze ⟨aa.block, arr.size, none⟩ 1) ?_ ?_ (ts' := ts.set d (.v undef))
        · simp only [execOp, ho]
          rw [Sem.run_bind]
          have hsh : w.shape? aa.block = some (e0, arr.size) := by simp [World.shape?, g1]
          have hc : (convert t t (a.eval x)).run P w = .ok (a.eval x) (w.freeze ⟨aa.block, arr.size, none⟩ 1) := by
            rw [hu]
            simp [convert, run_underlying hut, run_underlying hue, markStringish, hsh]
          rw [hc]
          rfl
        · rw [hd]
          exact hrf.set d hv'
      · cases hs
    · cases hs
  · cases hs

/-- '[]byte(s)': a new row. -/
theorem cvb_ok (hr : Rel E st ts a.tmps w) {o : Oper} {s t e : TypeId} {x : Operand} (ho : o.op = .convert s t x) (hus : P.underlying s = some .string) (hut : P.underlying t = some (.slice e)) (hue : P.underlying e = some (.int .u8))
    {d es : Nat} (hd : o.dst = some d) {m : MO} (hm : opd es x = some m) {call : Oracle} (hs : step call st (.cvb d m) = some st') : Goes P E o a w st' := by
  simp only [step] at hs
  split at hs
  · rename_i sv hev
    split at hs
    · cases hs
      have hu : a.eval x = .string sv := ev_sc hr hm hev
      have hrun := run_bytes_of_string (P := P) w s t e sv hus hut hue
      have hge := grownCap_ge w sv.size 0 e
      have hlen : (sv.data.toList.map fun b => Value.int .u8 (b.toNat : Int)).length = sv.size := by rw [List.length_map, Array.length_toList]; rfl
      have harr : (bytesRow sv (grownCap w sv.size 0 e)).size = grownCap w sv.size 0 e := by
        unfold bytesRow
        rw [Array.size_append, Array.size_map, Array.size_replicate]
        show sv.size + _ = _
        omega
      have hfr := hr.fresh hr (kids := (sv.data.toList.map fun b => Value.int .u8 (b.toNat : Int)).map T.v) (MemL_vv w true _) (fun b => by rw [cntL_vv]; omega)
        (w' := w.drew.alloc (.cells (bytesRow sv (grownCap w sv.size 0 e)) e ((bytesRow sv (grownCap w sv.size 0 e)).size, (bytesRow sv (grownCap w sv.size 0 e)).size + 1)))
        (arr := bytesRow sv (grownCap w sv.size 0 e)) (e := e) (lo := (bytesRow sv (grownCap w sv.size 0 e)).size) (hi := (bytesRow sv (grownCap w sv.size 0 e)).size + 1) rfl rfl rfl rfl (.inr (Nat.le_refl _))
        (fun j v hv => by
          rw [valL_v] at hv
          have hj := lt_of_get hv
          rw [hlen] at hj
          unfold bytesRow
          rw [Array.getElem?_append_left (by rw [Array.size_map]; exact hj), Array.getElem?_map]
          rw [List.getElem?_map, Array.getElem?_toList] at hv
          exact hv) d (k := .sl ⟨some ⟨w.heap.size, 0, none⟩, grownCap w sv.size 0 e, undef⟩ 1 sv.size)
        (.inl ⟨_, _, _, rfl, by rw [List.length_map, hlen]; omega, hge, by rw [harr]; omega⟩)
      refine goes_value (v := .slice (some ⟨w.heap.size, 0, none⟩) sv.size (grownCap w sv.size 0 e)) (w' := w.drew.alloc (.cells (bytesRow sv (grownCap w sv.size 0 e)) e ((bytesRow sv (grownCap w sv.size 0 e)).size, (bytesRow sv (grownCap w sv.size 0 e)).size + 1))) ?_ ?_ (ts' := ts.set d (.nd (.sl ⟨some ⟨w.heap.size, 0, none⟩, grownCap w sv.size 0 e, undef⟩ 1 sv.size) ((sv.data.toList.map fun b => Value.int .u8 (b.toNat : Int)).map T.v)))
      · simp only [execOp, ho, hu]
        rw [Sem.run_bind, hrun]
        rfl
      · rw [hd]
        have e1 : er (.nd (.sl ⟨some ⟨w.heap.size, 0, none⟩, grownCap w sv.size 0 e, undef⟩ 1 sv.size) ((sv.data.toList.map fun b => Value.int .u8 (b.toNat : Int)).map T.v)) = T.nd (.sl false 1 sv.size) (bytesD sv) := by
          rw [er, erL_v, List.map_map]; rfl
        rw [e1] at hfr
        exact hfr
    · cases hs
  · cases hs

/-! ### a value's cells -/

/-- The cells of a value. -/
def cellsOfC : C → List C
  | .nd .ag kids => kids
  | t => [t]

theorem erL_cellsOf (t : C) : erL (cellsOfC t) = cellsOfD (er t) := by
  cases t with
  | v x => rfl
  | hole d => rfl
  | nd k kids => cases k <;> simp [cellsOfC, cellsOfD, er, K.er, erL]

theorem flat_one {t : C} (h : flatOk (er t) = true) : (val t).oneCell' = true := by
  cases t with
  | v x => simp only [er, flatOk] at h; simpa [val] using h
  | hole d => simp [er, flatOk] at h
  | nd k kids => cases k <;> simp [er, K.er, flatOk] at h <;> simp [val, K.val, Value.oneCell']

theorem cells_one {v : Value} (h : v.oneCell' = true) : v.cells = #[v] := by cases v <;> first | rfl | simp [Value.oneCell'] at h

theorem val_cellsOf {t : C} (h : (cellsOfD (er t)).all flatOk = true) : (val t).cells = (valL (cellsOfC t)).toArray := by
  have key : (∀ kids, t ≠ .nd .ag kids) → (val t).cells = (valL (cellsOfC t)).toArray := by
    intro hne
    have h1 : cellsOfC t = [t] := by
      cases t with
      | v x => rfl
      | hole d => rfl
      | nd k kids => cases k <;> first | rfl | exact absurd rfl (hne kids)
    have h2 : cellsOfD (er t) = [er t] := by rw [← erL_cellsOf, h1]; rfl
    rw [h2] at h
    simp only [List.all_cons, List.all_nil, Bool.and_true] at h
    rw [cells_one (flat_one h), h1]; rfl
  cases t with
  | v x => exact key (by simp)
  | hole d => exact key (by simp)
  | nd k kids =>
    cases k with
    | ag => simp [val, K.val, Value.cells, cellsOfC]
    | _ => exact key (by simp)

theorem Mem_cellsOf {o : Bool} {t : C} (h : Mem w o t) : MemL w o (cellsOfC t) := by
  cases t with
  | v x => exact ⟨h, trivial⟩
  | hole d => exact ⟨h, trivial⟩
  | nd k kids =>
    cases k with
    | ag => exact h.2
    | _ => exact ⟨h, trivial⟩

theorem cnt_cellsOf (b : Nat) (t : C) : cntL b (cellsOfC t) = cnt b t := by
  cases t with
  | v x => rfl
  | hole d => rfl
  | nd k kids => cases k <;> simp [cellsOfC, cntL, cnt, K.own]

theorem all_one {l : List C} (h : (erL l).all flatOk = true) : ∀ v ∈ valL l, v.oneCell' = true := by
  intro v hv
  rw [valL_eq] at hv
  obtain ⟨t, ht, rfl⟩ := List.mem_map.1 hv
  rw [erL_eq, List.all_map, List.all_eq_true] at h
  exact flat_one (h t ht)

theorem box_ok (hr : Rel E st ts a.tmps w) {o : Oper} {t : TypeId} {x : Operand} (ho : o.op = .box t x) {d es : Nat} (hd : o.dst = some d) {m : MO} (hm : opd es x = some m)
    {call : Oracle} (hs : step call st (.box d m) = some st') : Goes P E o a w st' := by
  simp only [step] at hs
  cases htk : take st (ev st m) with
  | none => simp [htk] at hs
  | some q =>
    obtain ⟨dd, st1⟩ := q
    simp only [htk] at hs
    split at hs
    · rename_i hfl
      cases hs
      obtain ⟨tt, ts1, h1, h2, h3, h4, h5, h6⟩ := take_ok _ (ev_ok hr (opd_ok (a := a) hm)) (Evolve.refl _) hr htk
      subst h1
      have hcv := val_cellsOf hfl
      rw [h2] at hcv
      have hfr := hr.fresh h4 (kids := cellsOfC tt) (Mem_cellsOf h3) (fun b => by rw [cnt_cellsOf]; exact h6 b) (w' := w.alloc (.cells (a.eval x).cells t)) (arr := (a.eval x).cells) (e := t) (lo := 0) (hi := 0) rfl rfl rfl rfl (.inl rfl)
        (fun i v hv => by rw [hcv]; simpa using hv) d (k := .bx ⟨some ⟨w.heap.size, 0, none⟩, 0, undef⟩) (.inr ⟨rfl, by rw [hcv]; simp [valL_len]⟩)
      refine goes_value (v := .pointer (some ⟨w.heap.size, 0, none⟩)) (w' := w.alloc (.cells (a.eval x).cells t)) ?_ ?_ (ts' := ts1.set d (.nd (.bx ⟨some ⟨w.heap.size, 0, none⟩, 0, undef⟩) (cellsOfC tt)))
      · simp [execOp, ho, Instr.box, newVar, newRow]
      · rw [hd]
        have e1 : er (.nd (.bx ⟨some ⟨w.heap.size, 0, none⟩, 0, undef⟩) (cellsOfC tt)) = T.nd (.bx false) (cellsOfD (er tt)) := by rw [er, erL_cellsOf]; rfl
        rw [e1] at hfr
        exact hfr
    · cases hs

end
end Go.Mx
