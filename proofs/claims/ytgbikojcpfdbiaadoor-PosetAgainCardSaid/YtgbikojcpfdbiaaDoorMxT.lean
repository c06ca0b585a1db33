import Derived.Test.YtgbikojcpfdbiaaDoorMxS
/-
  Mx, part T: from a law's call to the given statement's walk.
-/
namespace Go.Mx
set_option linter.unusedVariables false
set_option linter.unusedSimpArgs false
set_option linter.unusedSectionVars false
open Go

/-- An argument reads as a tree. -/
def ArgOK (w : World) (u : Value) (d : D) : Prop := ∃ t : C, er t = d ∧ val t = u ∧ Mem w false t ∧ ∀ b, cnt b t ≠ 0 → b < w.heap.size

def ArgsOK (w : World) (us : List Value) (ds : List D) : Prop := ∃ l : List C, erL l = ds ∧ valL l = us ∧ MemL w false l ∧ ∀ b, cntL b l ≠ 0 → b < w.heap.size

theorem ArgsOK.nil (w : World) : ArgsOK w [] [] := ⟨[], rfl, rfl, trivial, fun b hb => absurd rfl hb⟩

theorem ArgsOK.cons {w : World} {u : Value} {d : D} {us : List Value} {ds : List D} (h : ArgOK w u d) (k : ArgsOK w us ds) : ArgsOK w (u :: us) (d :: ds) := by
  obtain ⟨t, h1, h2, h3, h4⟩ := h
  obtain ⟨l, k1, k2, k3, k4⟩ := k
  refine ⟨t :: l, by simp [erL, h1, k1], by simp [valL, h2, k2], ⟨h3, k3⟩, fun b hb => ?_⟩
  simp only [cntL] at hb
  by_cases hz : cnt b t = 0
  · exact k4 b (by omega)
  · exact h4 b hz

theorem ArgOK.sc (w : World) (v : Value) : ArgOK w v (.v v) := ⟨.v v, rfl, rfl, trivial, fun b hb => absurd rfl hb⟩

theorem cell_lt {w : World} {a : Addr} {v : Value} (h : w.cell? a = some v) : a.block < w.heap.size := by
  unfold World.cell? at h
  rcases Nat.lt_or_ge a.block w.heap.size with hl | hl
  · exact hl
  · rw [Array.getElem?_eq_none hl] at h
    simp at h

theorem cntL_v (b : Nat) (l : List Value) : cntL b (l.map T.v : List C) = 0 := by
  induction l with
  | nil => rfl
  | cons x xs ih => simp [cntL, cnt, ih]

theorem MemL_v (w : World) (o : Bool) (l : List Value) : MemL w o (l.map T.v : List C) := by
  induction l with
  | nil => trivial
  | cons x xs ih => exact ⟨trivial, ih⟩

/-- A slice of numbers. -/
theorem ArgOK.ints {w : World} {k : IntKind} {a : Option Addr} {len cap : Nat} {zs : List Int}
    (h : (a = none ∧ len = 0 ∧ cap = 0 ∧ zs = []) ∨ ∃ x, a = some x ∧ len ≤ cap ∧ cap ≤ maxLen ∧ zs.length = cap ∧ (∀ i, i < zs.length → w.cell? (x.add i) = some (.int k (zs.getD i 0))) ∧ ∀ n ∈ zs, (Lit.int k n).wf = true) :
    ArgOK w (.slice a len cap) (.nd (.sl a.isNone 1 len) ((zs.take len).map fun n => .v (.int k n))) ∧ (zs.take len).length = len ∧ ∀ n ∈ zs.take len, (Lit.int k n).wf = true := by
  rcases h with ⟨rfl, rfl, rfl, rfl⟩ | ⟨x, rfl, h1, h2, h3, h4, h5⟩
  · refine ⟨⟨.nd (.sl ⟨none, 0, undef⟩ 1 0) [], rfl, rfl, ⟨⟨by simp [valL], by simp, fun _ => rfl, fun a ha => by cases ha⟩, trivial⟩, fun b hb => absurd (by simp [cnt, K.own, cntL]) hb⟩, rfl, by simp⟩
  · have e : (zs.take len).map (fun n => (T.v (.int k n) : D)) = ((zs.take len).map (Value.int k)).map T.v := by rw [List.map_map]; rfl
    refine ⟨⟨.nd (.sl ⟨some x, cap, undef⟩ 1 len) (((zs.take len).map (Value.int k)).map T.v), ?_, rfl, ⟨⟨?_, h1, by simp, ?_⟩, MemL_v _ _ _⟩, ?_⟩, by simp; omega, fun n hn => h5 n (List.mem_of_mem_take hn)⟩
    · rw [er, erL_v, e]; rfl
    · rw [valL_len]; simp; omega
    · intro a ha
      cases ha
      refine ⟨fun i u hu => ?_, fun hf => by cases hf⟩
      rw [valL_v] at hu
      rw [List.getElem?_map, List.getElem?_take] at hu
      split at hu
      · rename_i hi
        have hlt : i < zs.length := by omega
        rw [h4 i hlt]
        rw [List.getElem?_eq_getElem hlt] at hu
        simp only [Option.map_some, Option.some.injEq] at hu
        rw [List.getD_eq_getElem?_getD, List.getElem?_eq_getElem hlt]
        simpa using hu
      · simp at hu
    · intro b hb
      simp only [cnt, cntL_v, Nat.add_zero, K.own] at hb
      split at hb
      · rename_i hc
        have hx : x.block = b := by simpa using hc.2
        subst hx
        have hp : 0 < zs.length := by have := hc.1; omega
        have := cell_lt (h4 0 hp)
        rwa [Addr.add_block] at this
      · exact absurd rfl hb

theorem resI_nd {st : St} {rs : List Nat} {v : Value} (h : resI st rs = some (.v v)) : False := by
  unfold resI at h
  split at h
  · cases h
  · split at h
    · split at h
      · cases h
      · cases h
    · cases h
theorem sem_lt {P : Program} {tbl : FuncId → Option MF} (ht : ∀ f mf, tbl f = some mf → ∃ hints, compF P hints f = some mf) {fuel n : Nat} {f : FuncId} {ds : List D} {v : Value} (h : sem tbl fuel n f ds = some (.v v)) : f < ioB := by
  cases n with
  | zero => simp [sem] at h
  | succ n =>
    simp only [sem] at h
    split at h
    · rename_i mf hmf
      obtain ⟨hints, hc⟩ := ht f mf hmf
      exact compF_lt hc
    · split at h
      · split at h
        · unfold callI at h
          split at h
          · split at h
            · exact (resI_nd h).elim
            · exact (resI_nd h).elim
            · cases h
          · cases h
        · cases h
      · cases h

theorem calls_sem {P : Program} {tbl : FuncId → Option MF} (ht : ∀ f mf, tbl f = some mf → ∃ hints, compF P hints f = some mf) {fuel n : Nat} {f : FuncId} {ds : List D} {v : Value} (h : sem tbl fuel n f ds = some (.v v))
    {w : World} {us : List Value} (ha : ArgsOK w us ds) : Calls P f us.toArray w fun e w' => e = .returned v ∧ RowKit.Below w.heap.size w w' := by
  obtain ⟨l, h1, h2, h3, h4⟩ := ha
  have := ((sem_ok (g := Glob.none) ht fuel n).reg f ds (.v v) (sem_lt ht h) h).2 l w (Glob.none_at w) h1 h3 h4
  rw [h2] at this
  refine Calls.mono this ?_
  rintro e w' ⟨t, rfl, he, hb, _⟩
  cases er_eq_v he
  exact ⟨rfl, hb⟩

/-! ### with functions that are proved by hand -/
/-- What is proved by hand of some functions. -/
def BaseOK (P : Program) (g : Glob) (base : Oracle) : Prop := ∀ f ds d, f < ioB → base f ds = some d → Enters P f ∧ ∀ (l : List C) (w : World), g.At w → erL l = ds → MemL w false l → (∀ b, cntL b l ≠ 0 → b < w.heap.size) →
    Calls P f (valL l).toArray w fun e w' => ∃ t, e = .returned (val t) ∧ er t = d ∧ RowKit.Below w.heap.size w w' ∧ FreshT w w' t
/-- As sem, over such functions. -/
noncomputable def semB (base : Oracle) (tbl : FuncId → Option MF) (fuel : Nat) : Nat → Oracle
  | 0 => fun _ _ => none
  | n + 1 => fun f ds => match tbl f with
    | some mf => callM (semB base tbl fuel n) fuel mf ds
    | none => if ioB ≤ f then match tbl (f - ioB), ds with
        | some mf, d0 :: ds' => callI (semB base tbl fuel n) fuel mf d0 ds'
        | _, _ => none
      else base f ds
theorem semB_ok {P : Program} {g : Glob} {base : Oracle} (hb : BaseOK P g base) {tbl : FuncId → Option MF} (ht : ∀ f mf, tbl f = some mf → ∃ hints, compF P hints f = some mf) (fuel : Nat) : ∀ n, CallsOK P g (semB base tbl fuel n)
  | 0 => ⟨fun f ds d _ h => by simp [semB] at h, fun f ds d _ h => by simp [semB] at h⟩
  | n + 1 => by
    refine ⟨fun f ds d hlt h => ?_, fun f ds d hlt h => ?_⟩
    · simp only [semB] at h
      split at h
      · rename_i mf hmf
        obtain ⟨hints, hc⟩ := ht f mf hmf
        exact callM_ok (semB_ok hb ht fuel n) hc h
      · rw [if_neg (Nat.not_le_of_lt hlt)] at h
        exact hb f ds d hlt h
    · simp only [semB] at h
      split at h
      · rename_i mf hmf
        obtain ⟨hints, hc⟩ := ht _ mf hmf
        exact absurd (compF_lt hc) (Nat.not_lt_of_le (Nat.le_add_left _ _))
      · rw [if_pos (Nat.le_add_left _ _), Nat.add_sub_cancel] at h
        split at h
        · rename_i mf d0 ds' hmf
          obtain ⟨hints, hc⟩ := ht f mf hmf
          exact callM_io (semB_ok hb ht fuel n) hc h
        · cases h
theorem semB_succ {base : Oracle} {tbl : FuncId → Option MF} {fuel n : Nat} {f : FuncId} {ds : List D} {mf : MF} (h : tbl f = some mf) (hb : hasB mf.code = false := by rfl) : semB base tbl fuel (n + 1) f ds = callF (semB base tbl fuel n) fuel mf ds := by
  simp [semB, h, callM, hb]
theorem semB_succB {base : Oracle} {tbl : FuncId → Option MF} {fuel n : Nat} {f : FuncId} {ds : List D} {mf : MF} (h : tbl f = some mf) (hb : hasB mf.code = true := by rfl) : semB base tbl fuel (n + 1) f ds = callB (semB base tbl fuel n) fuel mf ds := by
  simp [semB, h, callM, hb]
theorem semB_io {base : Oracle} {tbl : FuncId → Option MF} {fuel n : Nat} {f : FuncId} {d0 : D} {ds : List D} {mf : MF} (h : tbl f = some mf) (hn : tbl (f + ioB) = none) : semB base tbl fuel (n + 1) (f + ioB) (d0 :: ds) = callI (semB base tbl fuel n) fuel mf d0 ds := by
  simp only [semB]
  rw [hn]
  simp only [ge_iff_le, Nat.le_add_left, if_true, Nat.add_sub_cancel, h]
theorem semB_base {base : Oracle} {tbl : FuncId → Option MF} {fuel n : Nat} {f : FuncId} {ds : List D} (h : tbl f = none) (hlt : f < ioB) : semB base tbl fuel (n + 1) f ds = base f ds := by
  simp only [semB]
  rw [h]
  simp only [if_neg (Nat.not_le_of_lt hlt)]
theorem calls_semB {P : Program} {g : Glob} {base : Oracle} (hbase : BaseOK P g base) {tbl : FuncId → Option MF} (ht : ∀ f mf, tbl f = some mf → ∃ hints, compF P hints f = some mf) {fuel n : Nat} {f : FuncId} (hlt : f < ioB) {ds : List D} {v : Value} (h : semB base tbl fuel n f ds = some (.v v))
    {w : World} (hg : g.At w) {us : List Value} (ha : ArgsOK w us ds) : Calls P f us.toArray w fun e w' => e = .returned v ∧ RowKit.Below w.heap.size w w' := by
  obtain ⟨l, h1, h2, h3, h4⟩ := ha
  have := ((semB_ok hbase ht fuel n).reg f ds (.v v) hlt h).2 l w hg h1 h3 h4
  rw [h2] at this
  refine Calls.mono this ?_
  rintro e w' ⟨t, rfl, he, hb, _⟩
  cases er_eq_v he
  exact ⟨rfl, hb⟩

theorem wf_i64 {n : Int} (h : (Lit.int .i64 n).wf = true) : I64 n := by
  have h1 : IntKind.i64.min ≤ n ∧ n ≤ IntKind.i64.max := by simpa [Lit.wf] using h
  have e1 : IntKind.i64.min = -9223372036854775808 := by decide
  have e2 : IntKind.i64.max = 9223372036854775807 := by decide
  rw [e1, e2] at h1
  exact h1

end Go.Mx
