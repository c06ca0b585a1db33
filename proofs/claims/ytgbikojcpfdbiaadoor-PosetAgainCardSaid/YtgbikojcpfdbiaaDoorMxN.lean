import Derived.Test.YtgbikojcpfdbiaaDoorMxM
import Derived.Laws.AppendOwn
/-
  Mx, part N: stores, appends, bytes of a string.
-/
namespace Go.Mx
set_option linter.unusedVariables false
set_option linter.unusedSimpArgs false
set_option linter.unusedSectionVars false
open Go

section
variable {P : Program} {E : Env} {st st' : St} {ts : List C} {a : Act} {w : World}

theorem add_plain {ad : Addr} (h : ad.spot = none) (k : Nat) : ad.add k = ⟨ad.block, ad.off + k, none⟩ := by
  obtain ⟨b, o, s⟩ := ad
  simp only at h
  subst h
  exact Addr.add_lit b o k

theorem setCell_heap {w : World} {b : Nat} {arr : Array Value} {e : TypeId} {fr : Nat × Nat} (h : w.heap[b]? = some (.cells arr e fr)) (off : Nat) (v : Value) :
    (w.setCell ⟨b, off, none⟩ v).heap[b]? = some (.cells (arr.setIfInBounds off v) e fr) := by
  have hlt : b < w.heap.size := (Array.getElem?_eq_some_iff.1 h).1
  have hv := (Array.getElem?_eq_some_iff.1 h).2
  simp only [World.setCell]
  rw [Array.getElem?_eq_getElem (by simpa using hlt), Array.getElem_modify]
  simp [hv]

theorem setCell_heap_ne {w : World} {a : Addr} {v : Value} {k : Nat} (h : k ≠ a.block) : (w.setCell a v).heap[k]? = w.heap[k]? := by
  simp only [World.setCell, Array.getElem?_modify]
  rw [if_neg (fun e => h e.symm)]

theorem Row.setCell {w : World} {b m : Nat} (h : Row w b m) (off : Nat) (v : Value) : Row (w.setCell ⟨b, off, none⟩ v) b m := by
  obtain ⟨arr, e, lo, hi, h1, h2, h3⟩ := h
  exact ⟨_, e, lo, hi, setCell_heap h1 off v, by simpa using h2, h3⟩

theorem Row.cell {w : World} {b m : Nat} (h : Row w b m) {off : Nat} (ho : off < m) : ∃ u, w.cell? ⟨b, off, none⟩ = some u := by
  obtain ⟨arr, e, lo, hi, h1, h2, h3⟩ := h
  exact ⟨arr[off]'(by omega), by simp [World.cell?, h1, show off < arr.size by omega]⟩

theorem Row.unfrozen {w : World} {b m : Nat} (h : Row w b m) {off : Nat} (ho : off < m) : w.frozen? ⟨b, off, none⟩ = false := by
  obtain ⟨arr, e, lo, hi, h1, h2, h3⟩ := h
  have : ¬ (lo ≤ off ∧ off < hi) := by omega
  simp only [World.frozen?, h1]
  simp only [Bool.and_eq_false_iff, decide_eq_false_iff_not]
  by_cases hl : lo ≤ off
  · right; omega
  · left; omega

theorem run_store1 {w : World} {b m : Nat} (h : Row w b m) {off : Nat} (ho : off < m) {v : Value} (hv : v.oneCell' = true) : (Go.store ⟨b, off, none⟩ v).run P w = .ok () (w.setCell ⟨b, off, none⟩ v) := by
  obtain ⟨u, hu⟩ := h.cell ho
  rw [run_store P w _ v .plain hv, hu]
  simp [h.unfrozen ho]

/-! ### one cell of a tree -/

theorem setAt_append {t : C} {p q : List Nat} {s x : C} (h : getAt t p = some s) : setAt t (p ++ q) x = setAt t p (setAt s q x) := by
  induction p generalizing t with
  | nil => rw [getAt_nil] at h; cases h; rw [setAt_nil]; rfl
  | cons i p ih =>
    cases t with
    | v y => simp [getAt] at h
    | hole d => simp [getAt] at h
    | nd k kids =>
      simp only [getAt] at h
      cases hk : kids[i]? with
      | none => simp [hk] at h
      | some t1 =>
        simp only [hk] at h
        simp only [List.cons_append, setAt, hk, ih h]

theorem getAt_setAt_self {t : C} {p : List Nat} {s x : C} (h : getAt t p = some s) : getAt (setAt t p x) p = some x := by
  induction p generalizing t with
  | nil => rw [setAt_nil, getAt_nil]
  | cons i p ih =>
    cases t with
    | v y => simp [getAt] at h
    | hole d => simp [getAt] at h
    | nd k kids =>
      simp only [getAt] at h
      cases hk : kids[i]? with
      | none => simp [hk] at h
      | some t1 =>
        simp only [hk] at h
        simp only [setAt, hk, getAt]
        rw [List.getElem?_set_self (lt_of_get hk)]
        exact ih h

theorem setAt_one {k : K Dec} {kids : List C} {c : Nat} {old x : C} (h : kids[c]? = some old) : setAt (.nd k kids) [c] x = .nd k (kids.set c x) := by
  simp only [setAt, h, setAt_nil]

/-- Two children: what both own is owned twice. -/
theorem cnt_two {b : Nat} {kids : List C} {i j : Nat} {s t : C} (hi : kids[i]? = some s) (hj : kids[j]? = some t) (hne : i ≠ j) : cnt b s + cnt b t ≤ cntL b kids := by
  have e1 := cntL_set b kids i s (.v undef) hi
  have e2 := cnt_le_cntL b (kids.set i (.v undef)) j t (by rw [List.getElem?_set_ne hne]; exact hj)
  simp only [cnt] at e1
  omega

theorem Mem_put {w w' : World} {b : Nat} {k : K Dec} {kids kids' : List C} (hb : k.own b = 1) (hh : ∀ b', b' ≠ b → w'.heap[b']? = w.heap[b']?) (hnew : Mem w' true (.nd k kids')) (hv : val (.nd k kids') = val (.nd k kids)) :
    ∀ {t : C} {p : List Nat}, Mem w true t → getAt t p = some (.nd k kids) → cnt b t ≤ 1 → Mem w' true (setAt t p (.nd k kids')) := by
  intro t p
  induction p generalizing t with
  | nil => intro _ _ _; rw [setAt_nil]; exact hnew
  | cons i p ih =>
    intro hm hg hc
    cases t with
    | v y => simp [getAt] at hg
    | hole d => simp [getAt] at hg
    | nd k0 kids0 =>
      simp only [getAt] at hg
      cases hk : kids0[i]? with
      | none => simp [hk] at hg
      | some t1 =>
        simp only [hk] at hg
        have hc1 : 1 ≤ cnt b t1 := by have := cnt_getAt b t1 p _ hg; simp only [cnt] at this; omega
        simp only [cnt] at hc
        have hc2 := cnt_le_cntL b kids0 i t1 hk
        simp only [Mem, MemL_iff] at hm
        simp only [setAt, hk, Mem, MemL_iff]
        have hsame : valL (kids0.set i (setAt t1 p (.nd k kids'))) = valL kids0 := by
          rw [valL_eq, valL_eq, List.map_set, val_setAt_same hg hv]
          apply List.ext_getElem?
          intro j
          rw [List.getElem?_set]
          split
          · rename_i hj; subst hj
            split
            · simp [hk]
            · rename_i hlt; simp at hlt; simp [List.getElem?_eq_none hlt]
          · rfl
        refine ⟨?_, ?_⟩
        · rw [hsame]
          exact K.ok_same hm.1 (fun b' hb' => hh b' (by rintro rfl; omega)) (K.ok_empty hm.1)
        · intro t' ht'
          obtain ⟨j, hj⟩ := List.getElem?_of_mem ht'
          by_cases hij : i = j
          · subst hij
            rw [List.getElem?_set_self (lt_of_get hk)] at hj
            cases hj
            exact ih (hm.2 t1 (List.mem_of_getElem? hk)) hg (by omega)
          · rw [List.getElem?_set_ne hij] at hj
            have := cnt_two (b := b) hk hj hij
            exact (hm.2 t' (List.mem_of_getElem? hj)).same fun b' hb' => hh b' (by rintro rfl; omega)

/-- A node's block: where its cells are. -/
theorem node_row {k : K Dec} {kids : List C} (hm : Mem w true (.nd k kids)) {ad : Addr} (ha : addrOf (.nd k kids) = some ad) {c : Nat} {old : C} (hk : kids[c]? = some old) :
    ad.spot = none ∧ memK k = true ∧ k.own ad.block = 1 ∧ ∃ m, c < m ∧ Row w ad.block (ad.off + m) ∧ kids.length ≤ m := by
  have hc := lt_of_get hk
  cases k with
  | sl d es n =>
    simp only [addrOf] at ha
    obtain ⟨⟨h1, h2, h3, h4⟩, _⟩ := hm
    rw [valL_len] at h1
    have hcap : d.cap ≠ 0 := by
      intro h0
      have : n = 0 := by omega
      subst this
      simp at h1
      rw [h1] at hc; simp at hc
    obtain ⟨g1, g2⟩ := h4 ad ha
    obtain ⟨g3, g4⟩ := g2 rfl hcap
    have hle : n * es ≤ d.cap * es := Nat.mul_le_mul_right _ h2
    exact ⟨g3, rfl, by simp [K.own, hcap, ha], d.cap * es, by omega, g4, by omega⟩
  | bx d =>
    simp only [addrOf] at ha
    obtain ⟨⟨ad', h1, h2, h3⟩, _⟩ := hm
    rw [ha] at h1; cases h1
    obtain ⟨g3, g4⟩ := h3 rfl
    rw [valL_len] at g4
    exact ⟨g3, rfl, by simp [K.own, ha], kids.length, hc, g4, Nat.le_refl _⟩
  | ag => simp [addrOf] at ha
  | tu => simp [addrOf] at ha
  | fn f nf => simp [addrOf] at ha

theorem cell_put {k : K Dec} {kids : List C} (hm : Mem w true (.nd k kids)) {ad : Addr} (ha : addrOf (.nd k kids) = some ad) {c : Nat} {old x : C} (hk : kids[c]? = some old)
    (hx : Mem w true x) (hcx : cnt ad.block x = 0) (hck : cntL ad.block kids = 0) : Mem (w.setCell (ad.add c) (val x)) true (.nd k (kids.set c x)) := by
  obtain ⟨hsp, _, hown, m, hcm, hrow, hlen⟩ := node_row hm ha hk
  rw [add_plain hsp]
  have hne : ∀ b', b' ≠ ad.block → (w.setCell ⟨ad.block, ad.off + c, none⟩ (val x)).heap[b']? = w.heap[b']? := fun b' h => setCell_heap_ne h
  have hcells : ∀ {vs : List Value}, vs = valL kids → Cells w ad vs → Cells (w.setCell ⟨ad.block, ad.off + c, none⟩ (val x)) ad (valL (kids.set c x)) := by
    rintro vs rfl hc i u hu
    rw [add_plain hsp]
    rw [valL_eq, List.map_set] at hu
    by_cases hi : c = i
    · subst hi
      rw [List.getElem?_set_self (by rw [List.length_map]; exact lt_of_get hk)] at hu
      cases hu
      have := hc c (val old) (by rw [valL_get, hk]; rfl)
      rw [add_plain hsp] at this
      exact World.cell?_setCell_same w _ _ this
    · rw [List.getElem?_set_ne hi, ← valL_eq] at hu
      have := hc i u hu
      rw [add_plain hsp] at this
      rw [World.cell?_setCell_other w _ _ _ (by simp; omega)]
      exact this
  have hkids : MemL (w.setCell ⟨ad.block, ad.off + c, none⟩ (val x)) true (kids.set c x) := by
    rw [MemL_iff]
    intro t ht
    rcases List.mem_or_eq_of_mem_set ht with h | rfl
    · refine (MemL_iff.1 hm.2 t h).same fun b' hb' => hne b' ?_
      rintro rfl
      obtain ⟨j, hj⟩ := List.getElem?_of_mem h
      have := cnt_le_cntL ad.block kids j t hj
      omega
    · exact hx.same fun b' hb' => hne b' (by rintro rfl; exact hb' hcx)
  refine ⟨?_, hkids⟩
  cases k with
  | sl d es n =>
    simp only [addrOf] at ha
    obtain ⟨⟨h1, h2, h3, h4⟩, _⟩ := hm
    refine ⟨by rw [valL_len] at h1 ⊢; simpa using h1, h2, h3, ?_⟩
    intro ad' had'
    rw [ha] at had'; cases had'
    obtain ⟨g1, g2⟩ := h4 ad ha
    exact ⟨hcells rfl g1, fun ho hc => ⟨(g2 ho hc).1, (g2 ho hc).2.setCell _ _⟩⟩
  | bx d =>
    simp only [addrOf] at ha
    obtain ⟨⟨ad', h1, h2, h3⟩, _⟩ := hm
    rw [ha] at h1; cases h1
    refine ⟨ad, ha, hcells rfl h2, fun ho => ⟨(h3 ho).1, ?_⟩⟩
    have := (h3 ho).2.setCell (ad.off + c) (val x)
    rw [valL_len] at this ⊢
    simpa using this
  | ag => simp [addrOf] at ha
  | tu => simp [addrOf] at ha
  | fn f nf => simp [addrOf] at ha

theorem keep_setCell (h : Keep E w) {ad : Addr} {v : Value} (ho : ¬ Old E ad.block) : Keep E (w.setCell ad v) :=
  ⟨h.os, h.tape, h.output, by simpa using h.size, fun k hk hw => by rw [setCell_heap_ne (by rintro rfl; exact ho ⟨hk, hw⟩)]; exact h.block k hk hw, h.low⟩

/-- Cells are overwritten. -/
theorem putCells_ok {tm : Array Value} {r : Nat} {p : List Nat} {ad : Addr} {c0 : Nat} : ∀ (l : List C) (i : Nat) {st st' : St} {ts : List C} {w : World} {t0 : C} {k : K Dec} {kids : List C}, Rel E st ts tm w → MemL w true l →
    (∀ b, cntL b ts + cntL b l ≤ 1) → (∀ b, cntL b l ≠ 0 → ¬ Old E b ∧ b < w.heap.size) → ts[r]? = some t0 → getAt t0 p = some (.nd k kids) → addrOf (.nd k kids) = some ad → (erL l).all flatOk = true →
    putCells r p st (c0 + i) (erL l) = some st' → ∃ ts' w', (storeCells (ad.add c0) (valL l) i).run P w = .ok () w' ∧ Rel E st' ts' tm w'
  | [], i, st, st', ts, w, t0, k, kids, hr, hm, hc, hd, ht, hg, ha, hf, hs => by
    simp only [erL, putCells, Option.some.injEq] at hs
    subst hs
    exact ⟨ts, w, rfl, hr⟩
  | x :: l, i, st, st', ts, w, t0, k, kids, hr, hm, hc, hd, ht, hg, ha, hf, hs => by
    simp only [erL, putCells] at hs
    cases hroot : rootD st r with
    | none => simp [hroot] at hs
    | some d0 =>
      simp only [hroot] at hs
      obtain ⟨k0, kids0, q1, q2, q3⟩ := hr.root hroot
      rw [ht] at q1; cases q1
      subst q2
      rw [er_getAt, hg] at hs
      simp only [Option.map_some, er, erL_get] at hs
      cases hk : kids[c0 + i]? with
      | none => simp [hk] at hs
      | some old =>
        simp only [hk, Option.map_some] at hs
        have hmn := Mem_getAt (hr.mem r _ ht) hg
        obtain ⟨hsp, hmk, hown, m, hcm, hrow, hlen⟩ := node_row hmn ha hk
        have hcnode := cnt_getAt ad.block _ p _ hg
        have hcts := cnt_le_cntL ad.block ts r _ ht
        have hu := hr.uniq ad.block
        have hcb := hc ad.block
        have hcn : cnt ad.block (T.nd k kids) = k.own ad.block + cntL ad.block kids := rfl
        simp only [cntL] at hcb
        have hk0 : cntL ad.block kids = 0 := by omega
        have hx0 : cnt ad.block x = 0 := by omega
        have hold : ¬ Old E ad.block := (hr.dom ad.block (by omega)).1
        simp only [MemL] at hm
        simp only [erL, List.all_cons, Bool.and_eq_true] at hf
        have hone := flat_one hf.1
        have hnew := cell_put hmn ha hk hm.1 hx0 hk0
        have hset : setAt (T.nd k0 kids0) (p ++ [c0 + i]) x = setAt (T.nd k0 kids0) p (.nd k (kids.set (c0 + i) x)) := by rw [setAt_append hg, setAt_one hk]
        have hvsame : val (.nd k (kids.set (c0 + i) x)) = val (.nd k kids) := by rw [← setAt_one hk]; exact val_setAt_mem hmk
        have hsame : ∀ b', b' ≠ ad.block → (w.setCell (ad.add (c0 + i)) (val x)).heap[b']? = w.heap[b']? := fun b' h => setCell_heap_ne (by rw [Addr.add_block]; exact h)
        have hch := hr.change (w' := w.setCell (ad.add (c0 + i)) (val x)) ht (p := p ++ [c0 + i]) (s := old) (x := x) (by rw [getAt_append, hg]; simp [getAt, hk]) (by simp) (quiet_cell hg hmk) (rootD_some hroot)
          (st1 := if isSc (er old) then st else kill r (p ++ [c0 + i]) st) (by
            split
            · rename_i hsc
              right
              refine ⟨rfl, ?_⟩
              intro k' kids' e
              rw [e] at hsc
              simp [er, isSc] at hsc
            · left; rfl)
          (by
            intro j t hj
            by_cases hjr : r = j
            · subst hjr
              rw [List.getElem?_set_self (lt_of_get ht)] at hj
              cases hj
              rw [hset]
              exact Mem_put hown hsame hnew hvsame (hr.mem r _ ht) hg (by omega)
            · rw [List.getElem?_set_ne hjr] at hj
              have := cnt_two (b := ad.block) ht hj hjr
              refine (hr.mem j t hj).same fun b' hb' => hsame b' ?_
              rintro rfl
              omega)
          (by
            intro b hb
            have h1 := hc b
            simp only [cntL] at h1
            obtain ⟨h2, h3⟩ := hd b (by simp only [cntL]; omega)
            exact ⟨by omega, h2, by simpa using h3⟩)
          (by simp) (keep_setCell hr.keep (by rw [Addr.add_block]; exact hold))
        have herset : setAt (er (T.nd k0 kids0)) (p ++ [c0 + i]) (er x) = er (setAt (T.nd k0 kids0) (p ++ [c0 + i]) x) := (er_setAt _ _ _).symm
        have hnewcnt : ∀ b, cntL b (ts.set r (setAt (T.nd k0 kids0) (p ++ [c0 + i]) x)) ≤ cntL b ts + cnt b x := by
          intro b
          have e1 := cntL_set b ts r _ (setAt (T.nd k0 kids0) (p ++ [c0 + i]) x) ht
          have e2 := cnt_setAt b (T.nd k0 kids0) (p ++ [c0 + i]) old x (by rw [getAt_append, hg]; simp [getAt, hk])
          omega
        have hs' : putCells r p ((if isSc (er old) then st else kill r (p ++ [c0 + i]) st).set r (.own (setAt (er (T.nd k0 kids0)) (p ++ [c0 + i]) (er x)))) (c0 + (i + 1)) (erL l) = some st' := by
          simpa [er, Nat.add_assoc] using hs
        obtain ⟨ts', w', h1, h2⟩ := putCells_ok l (i + 1) (w := w.setCell (ad.add (c0 + i)) (val x)) hch
          (hm.2.same fun b' hb' => hsame b' (by rintro rfl; omega))
          (fun b => by have := hnewcnt b; have := hc b; simp only [cntL] at this; omega)
          (fun b hb => by obtain ⟨g1, g2⟩ := hd b (by simp only [cntL]; omega); exact ⟨g1, by simpa using g2⟩)
          (List.getElem?_set_self (lt_of_get ht)) (p := p) (k := k) (kids := kids.set (c0 + i) x) (by rw [hset]; exact getAt_setAt_self hg)
          (by cases k <;> exact ha) hf.2 hs'
        refine ⟨ts', w', ?_, h2⟩
        have e := run_store1 (P := P) hrow (off := ad.off + (c0 + i)) (by omega) hone
        rw [← add_plain hsp] at e
        simp only [valL, storeCells]
        rw [Sem.run_bind, Addr.add_add', e]
        exact h1

/-- Where an address leads, for a store. -/
theorem target_ok {tm : Array Value} (hr : Rel E st ts tm w) {x : V} {u : Value} (hv : VRel E ts x u) {r : Nat} {p : List Nat} {c : Nat} (h : target st x = some (r, p, c)) :
    ∃ t0 k kids ad, ts[r]? = some t0 ∧ getAt t0 p = some (.nd k kids) ∧ addrOf (.nd k kids) = some ad ∧ u = .pointer (some (ad.add c)) := by
  unfold target at h
  split at h
  · rename_i r' p' c'
    split at h
    · rename_i d hp
      split at h
      · cases h
        obtain ⟨t0, k, kids, ad, h1, h2, h3, h4⟩ := hv
        exact ⟨t0, k, kids, ad, h1, h2, h3, h4⟩
      · cases h
    · cases h
  · rename_i r' p'
    split at h
    · rename_i d hp
      split at h
      · rename_i kids hk
        cases h
        obtain ⟨b, rfl⟩ := boxKids_some hk
        obtain ⟨t0, s, h1, h2, h3, _⟩ := hr.place hp
        obtain ⟨t1, k, kids1, f1, f2, f3⟩ := hv
        rw [h1] at f1; cases f1
        rw [h2] at f2; cases f2
        obtain ⟨d, ks, he, _⟩ := er_bx h3
        cases he
        have hm := Mem_getAt (hr.mem _ _ h1) h2
        obtain ⟨⟨ad, hda, _, _⟩, _⟩ := hm
        exact ⟨t0, .bx d, kids1, ad, h1, h2, hda, by rw [← f3]; simp [val, K.val, hda, Addr.add]⟩
      · cases h
    · cases h
  · cases h

theorem stn_ok (hr : Rel E st ts a.tmps w) {o : Oper} {t : TypeId} {x y : Operand} (ho : o.op = .store t x y) {m : Nat} (hm : sizeT P t = some m) {e1 e2 : Nat} {mx my : MO} (hx : opd e1 x = some mx) (hy : opd e2 y = some my)
    {call : Oracle} (hs : step call st (.stn o.dst m mx my) = some st') : Goes P E o a w st' := by
  simp only [step] at hs
  cases hst : store st mx my m with
  | none => simp [hst] at hs
  | some st2 =>
    simp only [hst, Option.some.injEq] at hs
    unfold store at hst
    cases htk : take st (ev st my) with
    | none => simp [htk] at hst
    | some q =>
      obtain ⟨d, st1⟩ := q
      simp only [htk] at hst
      cases htg : target st1 (ev st1 mx) with
      | none => simp [htg] at hst
      | some q2 =>
        obtain ⟨r, p, c⟩ := q2
        simp only [htg] at hst
        split at hst
        · rename_i hc
          obtain ⟨hlen, hfl⟩ := hc
          obtain ⟨tt, ts1, h1, h2, h3, h4, h5, h6⟩ := take_ok _ (ev_ok hr (opd_ok (a := a) hy)) (Evolve.refl _) hr htk
          subst h1
          obtain ⟨t0, k, kids, ad, g1, g2, g3, g4⟩ := target_ok h4 (ev_ok h4 (opd_ok (a := a) hx)) htg
          have hcv := val_cellsOf hfl
          rw [h2] at hcv
          rw [← erL_cellsOf] at hst hfl hlen
          rw [erL_len] at hlen
          obtain ⟨ts', w', k1, k2⟩ := putCells_ok (P := P) (cellsOfC tt) 0 h4 (Mem_cellsOf h3) (fun b => by rw [cnt_cellsOf]; have := h6 b; have := hr.uniq b; omega)
            (fun b hb => by rw [cnt_cellsOf] at hb; have := moved hr h6 b hb; exact this.2.2) g1 g2 g3 hfl hst
          have hrun : (execOp a.eval o).run P w = .ok .skip w' := by
            simp only [execOp, ho, Instr.storeAt, g4, Instr.sureAddr, storeVar, Sem.run_bind, Sem.run_pure, Result.andThen_ok, run_sizeOf' hm, hcv, Sem.run_ite]
            rw [if_neg (by simp [valL_len, hlen])]
            simp only [k1, Result.andThen_ok]
          cases hd : o.dst with
          | none =>
            rw [hd] at hs
            simp only [put] at hs
            subst hs
            exact goes_skip hrun (ts' := ts') (by rw [hd]; exact k2)
          | some d =>
            rw [hd] at hs
            simp only [put] at hs
            subst hs
            exact goes_skip hrun (ts' := ts'.set d (.v undef)) (by rw [hd]; exact k2.set d (x := .sc undef) rfl)
        · cases hst

end
end Go.Mx
