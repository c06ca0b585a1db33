import Derived.Test.YtgbikojcpfdbiaaDoorMxF
/-
  Mx, part G: leaving a place; taking; reading; what an operand gives.
-/
namespace Go.Mx
set_option linter.unusedVariables false
set_option linter.unusedSimpArgs false
set_option linter.unusedSectionVars false
open Go

theorem Addr.add_add' (a : Addr) (i j : Nat) : (a.add i).add j = a.add (i + j) := by
  unfold Addr.add
  by_cases hi : i = 0
  · subst hi; simp
  · by_cases hj : j = 0
    · subst hj; simp
    · rw [if_neg hj, if_neg hi, if_neg (by omega)]; simp [Nat.add_assoc]

theorem Addr.add_block (a : Addr) (i : Nat) : (a.add i).block = a.block := by unfold Addr.add; split <;> rfl

theorem Cells.drop {w : World} {a : Addr} {vs : List Value} (h : Cells w a vs) (lo : Nat) : Cells w (a.add lo) (vs.drop lo) := by
  intro i u hu
  rw [Addr.add_add']
  exact h (lo + i) u (by simpa using hu)

theorem Cells.take {w : World} {a : Addr} {vs : List Value} (h : Cells w a vs) (n : Nat) : Cells w a (vs.take n) := by
  intro i u hu
  refine h i u ?_
  rw [List.getElem?_take] at hu
  split at hu
  · exact hu
  · cases hu

theorem Row.le {w : World} {b m m' : Nat} (h : Row w b m) (hl : m' ≤ m) : Row w b m' := by
  obtain ⟨arr, e, lo, hi, h1, h2, h3⟩ := h
  exact ⟨arr, e, lo, hi, h1, by omega, by omega⟩

theorem K.ok_weak {w : World} {vs : List Value} {k : K Dec} (h : k.ok w true vs) : k.ok w false vs := by
  cases k with
  | sl d es n =>
    obtain ⟨h1, h2, h3, h4⟩ := h
    exact ⟨h1, h2, h3, fun a ha => ⟨(h4 a ha).1, fun hf => by cases hf⟩⟩
  | bx d =>
    obtain ⟨a, ha, h1, h2⟩ := h
    exact ⟨a, ha, h1, fun hf => by cases hf⟩
  | ag => trivial
  | tu => trivial
  | fn f nf => trivial

mutual
theorem Mem.weak {w : World} : ∀ {t : C}, Mem w true t → Mem w false t
  | .v _, _ => trivial
  | .hole _, _ => trivial
  | .nd k kids, h => by
    simp only [Mem] at h ⊢
    exact ⟨K.ok_weak h.1, MemL.weak h.2⟩
theorem MemL.weak {w : World} : ∀ {l : List C}, MemL w true l → MemL w false l
  | [], _ => trivial
  | t :: ts, h => by
    simp only [MemL] at h ⊢
    exact ⟨Mem.weak h.1, MemL.weak h.2⟩
end

theorem Mem_setAt {w : World} {o : Bool} {t : C} {p : List Nat} {s x : C} (hm : Mem w o t) (h : getAt t p = some s) (hx : Mem w o x) (hv : val x = val s) : Mem w o (setAt t p x) := by
  induction p generalizing t with
  | nil => rw [setAt_nil]; exact hx
  | cons i p ih =>
    cases t with
    | v x => simp [getAt] at h
    | hole d => simp [getAt] at h
    | nd k kids =>
      simp only [getAt] at h
      cases hk : kids[i]? with
      | none => simp [hk] at h
      | some t =>
        simp only [hk] at h
        simp only [Mem, MemL_iff] at hm
        simp only [setAt, hk, Mem, MemL_iff]
        refine ⟨?_, ?_⟩
        · have hsame : valL (kids.set i (setAt t p x)) = valL kids := by
            rw [valL_eq, valL_eq, List.map_set, val_setAt_same h hv]
            apply List.ext_getElem?
            intro j
            rw [List.getElem?_set]
            split
            · rename_i hj; subst hj
              split
              · simp [hk]
              · rename_i hlt; simp at hlt; simp [List.getElem?_eq_none hlt]
            · rfl
          rw [hsame]; exact hm.1
        · intro t' ht'
          rcases List.mem_or_eq_of_mem_set ht' with h' | h'
          · exact hm.2 t' h'
          · rw [h']; exact ih (hm.2 t (List.mem_of_getElem? hk)) h

/-- A place is left: it is a hole from now on. -/
theorem leave_ok {E : Env} {st : St} {ts : List C} {tm : Array Value} {w : World} (h : Rel E st ts tm w) {r : Nat} {d0 : D} (hd : rootD st r = some d0) {t0 : C} (ht : ts[r]? = some t0)
    {p : List Nat} {k : K Dec} {kids : List C} (hs : getAt t0 p = some (.nd k kids)) :
    ∃ ts', Rel E (leave st r d0 p) ts' tm w ∧ (∀ b, cntL b ts' + cnt b (.nd k kids) = cntL b ts) ∧ Evolve ts ts' ∧ Mem w true (.nd k kids) := by
  have hd' := rootD_some hd
  obtain ⟨k0, kids0, h1, h2, h3⟩ := h.root hd
  rw [ht] at h1; cases h1
  have hmem : Mem w true (.nd k kids) := Mem_getAt (h.mem r _ ht) hs
  cases p with
  | nil =>
    rw [getAt_nil] at hs; cases hs
    refine ⟨ts.set r (.v undef), ?_, ?_, evolve_leaf _ _ _, hmem⟩
    · have := h.set r (x := .dead) (u := tm.getD r undef) trivial
      have e1 : setv st r .dead = leave st r d0 [] := by simp [setv, hd', leave, V.kill, V.under]
      have e2 : tm.setIfInBounds r (tm.getD r undef) = tm := by
        have hg := h.tm_get hd'
        apply Array.ext_getElem?
        intro i
        by_cases hi : r = i
        · subst hi
          have hlt : r < tm.size := by have := lt_of_get hd'; have := h.lenM; omega
          rw [Array.getElem?_setIfInBounds_self_of_lt hlt, hg]
        · rw [Array.getElem?_setIfInBounds_ne hi]
      rw [e1, e2] at this
      exact this
    · intro b
      have := cntL_set b ts r _ (.v undef) ht
      simp only [cnt] at this ⊢; omega
  | cons i p =>
    have hx : val (T.hole (δ := Dec) ⟨none, 0, val (.nd k kids)⟩) = val (.nd k kids) := by rw [val]
    refine ⟨ts.set r (setAt (.nd k0 kids0) (i :: p) (.hole ⟨none, 0, val (.nd k kids)⟩)), ?_, ?_, evolve_hole ht hs rfl, hmem⟩
    · have := h.change (w' := w) ht hs (x := .hole ⟨none, 0, val (.nd k kids)⟩) (by simp) (quiet_hole hs hx) hd' (st1 := kill r (i :: p) st) (.inl rfl) ?_ (fun b hb => absurd rfl hb) (Nat.le_refl _) h.keep
      · exact this
      · intro j t hj
        by_cases hi : r = j
        · subst hi
          rw [List.getElem?_set_self (lt_of_get ht)] at hj
          cases hj
          exact Mem_setAt (h.mem r _ ht) hs trivial hx
        · rw [List.getElem?_set_ne hi] at hj; exact h.mem j t hj
    · intro b
      have e1 := cntL_set b ts r _ (setAt (.nd k0 kids0) (i :: p) (.hole ⟨none, 0, val (.nd k kids)⟩)) ht
      have e2 := cnt_setAt b (.nd k0 kids0) (i :: p) _ (.hole ⟨none, 0, val (.nd k kids)⟩) hs
      have e3 : cnt b (T.hole (δ := Dec) ⟨none, 0, val (.nd k kids)⟩) = 0 := rfl
      omega

/-! ### no memory -/

theorem noMem_ok {w0 w : World} {o : Bool} {t : C} (h : noMem (er t) = true) (hm : Mem w0 false t) : Mem w o t ∧ ∀ b, cnt b t = 0 := by
  cases t with
  | v x => exact ⟨trivial, fun _ => rfl⟩
  | hole d => exact ⟨trivial, fun _ => rfl⟩
  | nd k kids =>
    cases k with
    | sl d es n =>
      simp only [er, K.er] at h
      cases n with
      | succ n => simp [noMem] at h
      | zero =>
        cases kids with
        | cons a b => simp [erL, noMem] at h
        | nil =>
          cases hd : d.a with
          | some a => simp [hd, noMem] at h
          | none =>
            obtain ⟨⟨h1, h2, h3, h4⟩, _⟩ := hm
            refine ⟨⟨⟨h1, h2, h3, fun a ha => by rw [hd] at ha; cases ha⟩, trivial⟩, fun b => by simp [cnt, K.own, hd, cntL]⟩
    | bx d => simp [er, K.er, noMem] at h
    | ag => simp [er, K.er, noMem] at h
    | tu => simp [er, K.er, noMem] at h
    | fn f nf => simp [er, K.er, noMem] at h

theorem noMemL_ok {w0 w : World} {o : Bool} {l : List C} (h : noMemL (erL l) = true) (hm : MemL w0 false l) : MemL w o l ∧ ∀ b, cntL b l = 0 := by
  induction l with
  | nil => exact ⟨trivial, fun _ => rfl⟩
  | cons t l ih =>
    simp only [erL, noMemL, List.all_cons, Bool.and_eq_true] at h
    simp only [MemL] at hm ⊢
    obtain ⟨h1, h2⟩ := noMem_ok (w := w) (o := o) h.1 hm.1
    obtain ⟨h3, h4⟩ := ih h.2 hm.2
    exact ⟨⟨h1, h3⟩, fun b => by simp [cntL, h2 b, h4 b]⟩

/-! ### taking -/

theorem subD_some {lo es n : Nat} {d s : D} (h : subD lo es n d = some s) : ∃ n' kids, d = .nd (.sl false es n') kids ∧ 0 < es ∧ lo + n * es ≤ kids.length ∧ s = .nd (.sl false es n) ((kids.drop lo).take (n * es)) := by
  unfold subD at h
  split at h
  · rename_i b es' n' kids
    split at h
    · rename_i hc
      obtain ⟨rfl, rfl, h3, h4⟩ := hc
      cases h
      exact ⟨n', kids, rfl, h3, h4, rfl⟩
    · cases h
  · cases h

theorem erL_drop (l : List C) (n : Nat) : erL (l.drop n) = (erL l).drop n := by rw [erL_eq, erL_eq, List.map_drop]
theorem erL_take (l : List C) (n : Nat) : erL (l.take n) = (erL l).take n := by rw [erL_eq, erL_eq, List.map_take]
theorem erL_len (l : List C) : (erL l).length = l.length := by rw [erL_eq, List.length_map]
theorem valL_drop (l : List C) (n : Nat) : valL (l.drop n) = (valL l).drop n := by rw [valL_eq, valL_eq, List.map_drop]
theorem valL_take (l : List C) (n : Nat) : valL (l.take n) = (valL l).take n := by rw [valL_eq, valL_eq, List.map_take]
theorem valL_len (l : List C) : (valL l).length = l.length := by rw [valL_eq, List.length_map]

theorem cntL_take_drop (b : Nat) (l : List C) (n : Nat) : cntL b (l.take n) + cntL b (l.drop n) = cntL b l := by rw [← cntL_append, List.take_append_drop]

theorem MemL_take {w : World} {o : Bool} {l : List C} (h : MemL w o l) (n : Nat) : MemL w o (l.take n) := MemL_iff.2 fun t ht => MemL_iff.1 h t (List.mem_of_mem_take ht)
theorem MemL_drop {w : World} {o : Bool} {l : List C} (h : MemL w o l) (n : Nat) : MemL w o (l.drop n) := MemL_iff.2 fun t ht => MemL_iff.1 h t (List.mem_of_mem_drop ht)

/-- The part of a slice, as a tree of its own. -/
theorem part_ok {w : World} {o : Bool} {d : Dec} {es n' : Nat} {kids : List C} (hm : Mem w o (.nd (.sl d es n') kids)) {lo n c : Nat} (hes : 0 < es) (hlen : lo + n * es ≤ kids.length)
    (hnc : n ≤ c) (hcap : lo + c * es ≤ d.cap * es) {a ad : Addr} (ha : d.a = some a) (had : c ≠ 0 → ad = a.add lo) :
    ∃ t : C, er t = .nd (.sl false es n) (((erL kids).drop lo).take (n * es)) ∧ val t = .slice (some ad) n c ∧ Mem w o t ∧
      (∀ b, cnt b t ≤ cnt b (.nd (.sl d es n') kids)) := by
  have hcd : c ≠ 0 → d.cap ≠ 0 := by
    intro hc0 h0
    rw [h0] at hcap
    have : 0 < c * es := Nat.mul_pos (by omega) hes
    omega
  refine ⟨.nd (.sl ⟨some ad, c, undef⟩ es n) ((kids.drop lo).take (n * es)), ?_, ?_, ?_, ?_⟩
  · simp [er, K.er, erL_take, erL_drop]
  · simp [val, K.val]
  · obtain ⟨⟨h1, h2, h3, h4⟩, h5⟩ := hm
    obtain ⟨h6, h7⟩ := h4 a ha
    refine ⟨⟨?_, hnc, by simp, ?_⟩, MemL_take (MemL_drop h5 lo) _⟩
    · rw [valL_len, List.length_take, List.length_drop]
      omega
    · intro a' ha'
      simp only [Option.some.injEq] at ha'
      subst ha'
      rw [valL_take, valL_drop]
      refine ⟨?_, ?_⟩
      · by_cases hc0 : c = 0
        · have : n = 0 := by omega
          subst this
          intro i u hu
          simp at hu
        · rw [had hc0]; exact (h6.drop lo).take _
      · intro ho hc0
        simp only [] at hc0
        rw [had hc0]
        obtain ⟨g1, g2⟩ := h7 ho (hcd hc0)
        refine ⟨?_, ?_⟩
        · unfold Addr.add; split
          · exact g1
          · rfl
        · rw [Addr.add_block]
          refine g2.le ?_
          have : (a.add lo).off = a.off + lo := by unfold Addr.add; split <;> simp_all
          rw [this]
          show a.off + lo + c * es ≤ _
          omega
  · intro b
    have e1 := cntL_take_drop b (kids.drop lo) (n * es)
    have e2 := cntL_take_drop b kids lo
    simp only [cnt]
    have : K.own b (.sl ⟨some ad, c, undef⟩ es n) ≤ K.own b (.sl d es n') := by
      simp only [K.own, ha]
      by_cases hc0 : c = 0
      · simp [hc0]
      · rw [had hc0]
        simp [hc0, hcd hc0, Addr.add_block]
    omega

/-- A slice without room. -/
theorem mz_ok {E : Env} {ts : List C} {w : World} {o : Bool} {k : K Bool} {vs : List V} {u : Value} {d : D} (hv : VRel E ts (.vn k vs) u) (h : mzD k vs = some d) :
    ∃ (es : Nat) (t : C), d = .nd (.sl false es 0) [] ∧ er t = d ∧ val t = u ∧ Mem w o t ∧ ∀ b, cnt b t = 0 := by
  unfold mzD at h
  split at h
  · rename_i es
    cases h
    obtain ⟨us, _, h2⟩ := hv
    obtain ⟨_, a, rfl⟩ := h2
    refine ⟨es, .nd (.sl ⟨some a, 0, undef⟩ es 0) [], rfl, rfl, rfl, ?_, fun b => ?_⟩
    · refine ⟨⟨by simp [valL], Nat.le_refl _, fun _ => rfl, fun a' _ => ⟨fun i x hx => by simp [valL] at hx, fun _ hne => absurd rfl hne⟩⟩, trivial⟩
    · simp [cnt, cntL, K.own]
  · cases h

mutual
theorem take_ok {E : Env} {tm : Array Value} {w : World} {ts0 : List C} :
    ∀ (x : V) {u : Value} {st st' : St} {ts : List C} {d : D}, VRel E ts0 x u → Evolve ts0 ts → Rel E st ts tm w → take st x = some (d, st') →
      ∃ (t : C) (ts' : List C), er t = d ∧ val t = u ∧ Mem w true t ∧ Rel E st' ts' tm w ∧ Evolve ts ts' ∧ ∀ b, cntL b ts' + cnt b t ≤ cntL b ts
  | .sc x, u, st, st', ts, d, hv, he, hr, ht => by
    simp only [take, Option.some.injEq, Prod.mk.injEq] at ht
    obtain ⟨rfl, rfl⟩ := ht
    exact ⟨.v x, ts, rfl, hv.symm, trivial, hr, Evolve.refl _, fun b => by simp [cnt]⟩
  | .own _, _, _, _, _, _, _, _, _, ht => by simp [take] at ht
  | .ro dd, u, st, st', ts, d, hv, he, hr, ht => by
    obtain ⟨t, h1, h2, h3, _⟩ := hv
    have key : noMem dd = true → dd = d → st = st' → ∃ (t : C) (ts' : List C), er t = d ∧ val t = u ∧ Mem w true t ∧ Rel E st' ts' tm w ∧ Evolve ts ts' ∧ ∀ b, cntL b ts' + cnt b t ≤ cntL b ts := by
      rintro hn rfl rfl
      obtain ⟨h4, h5⟩ := noMem_ok (w := w) (o := true) (by rw [h1]; exact hn) h3
      exact ⟨t, ts, h1, h2, h4, hr, Evolve.refl _, fun b => by simp [h5 b]⟩
    cases dd with
    | v x => simp only [take, noMem, if_true, Option.some.injEq, Prod.mk.injEq] at ht; exact key rfl ht.1 ht.2
    | hole b => simp [take, noMem] at ht
    | nd k kids =>
      cases k with
      | ag =>
        simp only [take] at ht
        split at ht
        · rename_i hn
          simp only [Option.some.injEq, Prod.mk.injEq] at ht
          obtain ⟨rfl, rfl⟩ := ht
          obtain ⟨k', kids', rfl, hk, hks⟩ := er_eq_nd h1
          cases k' <;> simp [K.er] at hk
          simp only [Mem] at h3
          obtain ⟨h4, h5⟩ := noMemL_ok (w := w) (o := true) (by rw [hks]; exact hn) h3.2
          exact ⟨.nd .ag kids', ts, h1, h2, ⟨trivial, h4⟩, hr, Evolve.refl _, fun b => by simp [cnt, K.own, h5 b]⟩
        · cases ht
      | sl a b c =>
        simp only [take] at ht
        split at ht
        · rename_i hn
          simp only [Option.some.injEq, Prod.mk.injEq] at ht; exact key hn ht.1 ht.2
        · cases ht
      | bx a => simp [take, noMem] at ht
      | tu => simp [take, noMem] at ht
      | fn f nf => simp [take, noMem] at ht
  | .ref r p, u, st, st', ts, d, hv, he, hr, ht => by
    simp only [take] at ht
    cases hd : rootD st r with
    | none => simp [hd] at ht
    | some d0 =>
      simp only [hd] at ht
      obtain ⟨k0, kids0, g1, g2, g3⟩ := hr.root hd
      subst g2
      rw [er_getAt] at ht
      cases hg : getAt (T.nd k0 kids0) p with
      | none => simp [hg] at ht
      | some s =>
        simp only [hg, Option.map_some] at ht
        cases s with
        | v x => simp [er] at ht
        | hole x => simp [er] at ht
        | nd k kids =>
          have hval : val (.nd k kids) = u := by
            obtain ⟨kids1, e1, e2⟩ := he r p k kids (by simp [getAt', g1, hg])
            obtain ⟨t0, k2, kids2, f1, f2, f3⟩ := hv
            simp only [getAt', f1, f2, Option.some.injEq] at e1
            rw [e2, ← f3, e1]
          have fin : T.nd k.er (erL kids) = d → leave st r (er (T.nd k0 kids0)) p = st' → ∃ (t : C) (ts' : List C), er t = d ∧ val t = u ∧ Mem w true t ∧ Rel E st' ts' tm w ∧ Evolve ts ts' ∧ ∀ b, cntL b ts' + cnt b t ≤ cntL b ts := by
            rintro rfl rfl
            obtain ⟨ts', h1, h2, h3, h4⟩ := leave_ok hr hd g1 hg
            exact ⟨.nd k kids, ts', by rw [er], hval, h4, h1, h3, fun b => Nat.le_of_eq (h2 b)⟩
          cases k with
          | ag =>
            simp only [er, K.er] at ht
            split at ht
            · rename_i hn
              simp only [Option.some.injEq, Prod.mk.injEq] at ht
              obtain ⟨rfl, rfl⟩ := ht
              have hm := Mem_getAt (hr.mem r _ g1) hg
              simp only [Mem] at hm
              obtain ⟨h4, h5⟩ := noMemL_ok (w := w) (o := true) hn hm.2.weak
              exact ⟨.nd .ag kids, ts, by rw [er]; rfl, hval, ⟨trivial, h4⟩, hr, Evolve.refl _, fun b => by simp [cnt, K.own, h5 b]⟩
            · simp only [Option.some.injEq, Prod.mk.injEq] at ht
              exact fin ht.1 ht.2
          | sl a b c => simp only [er, K.er, Option.some.injEq, Prod.mk.injEq] at ht; exact fin ht.1 ht.2
          | bx a => simp only [er, K.er, Option.some.injEq, Prod.mk.injEq] at ht; exact fin ht.1 ht.2
          | tu => simp only [er, K.er, Option.some.injEq, Prod.mk.injEq] at ht; exact fin ht.1 ht.2
          | fn f nf => simp only [er, K.er, Option.some.injEq, Prod.mk.injEq] at ht; exact fin ht.1 ht.2
  | .sub r p lo es n, u, st, st', ts, d, hv, he, hr, ht => by
    simp only [take] at ht
    cases hd : rootD st r with
    | none => simp [hd] at ht
    | some d0 =>
      simp only [hd] at ht
      obtain ⟨k0, kids0, g1, g2, g3⟩ := hr.root hd
      subst g2
      rw [er_getAt] at ht
      cases hg : getAt (T.nd k0 kids0) p with
      | none => simp [hg] at ht
      | some s =>
        simp only [hg, Option.map_some] at ht
        cases hs : subD lo es n (er s) with
        | none => simp [hs] at ht
        | some sd =>
          simp only [hs, Option.some.injEq, Prod.mk.injEq] at ht
          obtain ⟨rfl, rfl⟩ := ht
          obtain ⟨n', kidsD, e1, e2, e3, e4⟩ := subD_some hs
          obtain ⟨k', kids', rfl, hk, hks⟩ := er_eq_nd e1
          obtain ⟨ts', h1, h2, h3, h4⟩ := leave_ok hr hd g1 hg
          obtain ⟨kids1, q1, q2⟩ := he r p k' kids' (by simp [getAt', g1, hg])
          obtain ⟨t0, dd, n2, kids2, c, aa, ad, f1, f2, f3, f4, f5, f6', f6⟩ := hv
          simp only [getAt', f1, f2, Option.some.injEq, T.nd.injEq] at q1
          obtain ⟨rfl, rfl⟩ := q1
          obtain ⟨t, p1, p2, p3, p4⟩ := part_ok h4 (lo := lo) (n := n) (c := c) e2 (by rw [← erL_len kids', hks]; exact e3) f3 f4 f5 f6'
          refine ⟨t, ts', ?_, by rw [p2, f6], p3, h1, h3, fun b => ?_⟩
          · rw [p1, e4, hks]
          · have := h2 b; have := p4 b; omega
  | .ad _ _ _, _, _, _, _, _, _, _, _, ht => by simp [take] at ht
  | .rad _ _, _, _, _, _, _, _, _, _, ht => by simp [take] at ht
  | .vn k vs, u, st, st', ts, d, hv, he, hr, ht => by
    simp only [take] at ht
    split at ht
    · cases hz : mzD k vs with
      | none => simp [hz] at ht
      | some d1 =>
        simp only [hz, Option.some.injEq, Prod.mk.injEq] at ht
        obtain ⟨rfl, rfl⟩ := ht
        obtain ⟨es, t, e1, e2, e3, e4, e5⟩ := mz_ok (w := w) (o := true) hv hz
        exact ⟨t, ts, e2, e3, e4, hr, Evolve.refl _, fun b => by rw [e5]; omega⟩
    · rename_i hk
      obtain ⟨us, hv1, hkv⟩ := hv
      cases hts : takeL st vs with
      | none => simp [hts] at ht
      | some dst =>
        obtain ⟨ds, st1⟩ := dst
        simp only [hts, Option.some.injEq, Prod.mk.injEq] at ht
        obtain ⟨rfl, rfl⟩ := ht
        obtain ⟨l, ts', h1, h2, h3, h4, h5, h6⟩ := takeL_ok vs hv1 he hr hts
        cases k with
        | sl _ _ _ => simp [memB] at hk
        | bx _ => simp [memB] at hk
        | ag => exact ⟨.nd .ag l, ts', by simp [er, K.er, h1], by rw [show _ = _ from hkv]; simp [val, K.val, kv, h2], ⟨trivial, h3⟩, h4, h5, fun b => by simpa [cnt, K.own] using h6 b⟩
        | tu => exact ⟨.nd .tu l, ts', by simp [er, K.er, h1], by rw [show _ = _ from hkv]; simp [val, K.val, kv, h2], ⟨trivial, h3⟩, h4, h5, fun b => by simpa [cnt, K.own] using h6 b⟩
        | fn f nf => exact ⟨.nd (.fn f nf) l, ts', by simp [er, K.er, h1], by rw [show _ = _ from hkv]; simp [val, K.val, kv, h2], ⟨trivial, h3⟩, h4, h5, fun b => by simpa [cnt, K.own] using h6 b⟩
  | .dead, _, _, _, _, _, _, _, _, ht => by simp [take] at ht
theorem takeL_ok {E : Env} {tm : Array Value} {w : World} {ts0 : List C} :
    ∀ (xs : List V) {us : List Value} {st st' : St} {ts : List C} {ds : List D}, VRelL E ts0 xs us → Evolve ts0 ts → Rel E st ts tm w → takeL st xs = some (ds, st') →
      ∃ (l : List C) (ts' : List C), erL l = ds ∧ valL l = us ∧ MemL w true l ∧ Rel E st' ts' tm w ∧ Evolve ts ts' ∧ ∀ b, cntL b ts' + cntL b l ≤ cntL b ts
  | [], us, st, st', ts, ds, hv, he, hr, ht => by
    simp only [takeL, Option.some.injEq, Prod.mk.injEq] at ht
    obtain ⟨rfl, rfl⟩ := ht
    exact ⟨[], ts, rfl, hv.symm, trivial, hr, Evolve.refl _, fun b => by simp [cntL]⟩
  | x :: xs, us, st, st', ts, ds, hv, he, hr, ht => by
    obtain ⟨u, us', rfl, hv1, hv2⟩ := hv
    simp only [takeL] at ht
    cases h1 : take st x with
    | none => simp [h1] at ht
    | some r1 =>
      obtain ⟨d1, st1⟩ := r1
      simp only [h1] at ht
      cases h2 : takeL st1 xs with
      | none => simp [h2] at ht
      | some r2 =>
        obtain ⟨ds2, st2⟩ := r2
        simp only [h2, Option.some.injEq, Prod.mk.injEq] at ht
        obtain ⟨rfl, rfl⟩ := ht
        obtain ⟨t, ts1, a1, a2, a3, a4, a5, a6⟩ := take_ok x hv1 he hr h1
        obtain ⟨l, ts2, b1, b2, b3, b4, b5, b6⟩ := takeL_ok xs hv2 (he.trans a5) a4 h2
        exact ⟨t :: l, ts2, by simp [erL, a1, b1], by simp [valL, a2, b2], ⟨a3, b3⟩, b4, a5.trans b5, fun b => by have := a6 b; have := b6 b; simp only [cntL]; omega⟩
end

/-! ### reading -/

theorem Keep.old {E : Env} {w : World} (h : Keep E w) {t : C} (hm : Mem E.w0 false t) (ho : ∀ b, cnt b t ≠ 0 → Old E b) : Mem w false t :=
  hm.same fun b hb => h.block b (ho b hb).1 (ho b hb).2

theorem Keep.oldL {E : Env} {w : World} (h : Keep E w) {t : List C} (hm : MemL E.w0 false t) (ho : ∀ b, cntL b t ≠ 0 → Old E b) : MemL w false t :=
  hm.same fun b hb => h.block b (ho b hb).1 (ho b hb).2

theorem Keep.lt {E : Env} {w : World} (h : Keep E w) {b : Nat} (ho : Old E b) : b < w.heap.size := by have := ho.1; have := h.low; have := h.size; omega

mutual
theorem rd_ok' {E : Env} {tm : Array Value} {w : World} {st : St} {ts : List C} (hr : Rel E st ts tm w) :
    ∀ (x : V) {u : Value} {d : D}, VRel E ts x u → rd st x = some d → ∃ t : C, er t = d ∧ val t = u ∧ Mem w false t ∧ ∀ b, cnt b t ≠ 0 → Old E b ∨ cntL b ts ≠ 0
  | .sc x, u, d, hv, h => by
    simp only [rd, Option.some.injEq] at h
    subst h
    exact ⟨.v x, rfl, hv.symm, trivial, fun b hb => absurd rfl hb⟩
  | .own _, _, _, hv, _ => hv.elim
  | .ro dd, u, d, hv, h => by
    simp only [rd, Option.some.injEq] at h
    subst h
    obtain ⟨t, h1, h2, h3, h4⟩ := hv
    exact ⟨t, h1, h2, hr.keep.old h3 h4, fun b hb => .inl (h4 b hb)⟩
  | .ref r p, u, d, hv, h => by
    simp only [rd] at h
    obtain ⟨t0, s, h1, h2, h3, _⟩ := hr.place h
    obtain ⟨t1, k, kids, f1, f2, f3⟩ := hv
    rw [h1] at f1; cases f1
    rw [h2] at f2; cases f2
    refine ⟨_, h3, f3, (Mem_getAt (hr.mem r _ h1) h2).weak, fun b hb => .inr ?_⟩
    have := cnt_getAt b _ p _ h2
    have := cnt_le_cntL b ts r _ h1
    omega
  | .sub r p lo es n, u, d, hv, h => by
    simp only [rd] at h
    cases hp : placeD st r p with
    | none => simp [hp] at h
    | some d1 =>
      simp only [hp] at h
      obtain ⟨t0, s, h1, h2, h3, _⟩ := hr.place hp
      obtain ⟨t1, dd, n2, kids2, c, aa, ad, f1, f2, f3, f4, f5, f6', f6⟩ := hv
      rw [h1] at f1; cases f1
      rw [h2] at f2; cases f2
      obtain ⟨n', kidsD, e1, e2, e3, e4⟩ := subD_some h
      subst e1
      simp only [er, K.er, T.nd.injEq, K.sl.injEq] at h3
      obtain ⟨⟨g1, _, _⟩, g4⟩ := h3
      have hm := (Mem_getAt (hr.mem r _ h1) h2).weak
      obtain ⟨t, p1, p2, p3, p4⟩ := part_ok hm (lo := lo) (n := n) (c := c) e2 (by rw [← erL_len kids2, g4]; exact e3) f3 f4 f5 f6'
      refine ⟨t, ?_, by rw [p2, f6], p3, fun b hb => .inr ?_⟩
      · rw [p1, e4, g4]
      · have := p4 b
        have := cnt_getAt b _ p _ h2
        have := cnt_le_cntL b ts r _ h1
        omega
  | .ad _ _ _, _, _, _, h => by simp [rd] at h
  | .rad _ _, _, _, _, h => by simp [rd] at h
  | .vn k vs, u, d, hv, h => by
    simp only [rd] at h
    split at h
    · obtain ⟨es, t, e1, e2, e3, e4, e5⟩ := mz_ok (w := w) (o := false) hv h
      exact ⟨t, e2, e3, e4, fun b hb => absurd (e5 b) hb⟩
    · rename_i hk
      obtain ⟨us, hv1, hkv⟩ := hv
      cases hts : rdL st vs with
      | none => simp [hts] at h
      | some ds =>
        simp only [hts, Option.some.injEq] at h
        subst h
        obtain ⟨l, h1, h2, h3, h4⟩ := rdL_ok' hr vs hv1 hts
        cases k with
        | sl _ _ _ => simp [memB] at hk
        | bx _ => simp [memB] at hk
        | ag => exact ⟨.nd .ag l, by simp [er, K.er, h1], by rw [show _ = _ from hkv]; simp [val, K.val, kv, h2], ⟨trivial, h3⟩, fun b hb => h4 b (by simpa [cnt, K.own] using hb)⟩
        | tu => exact ⟨.nd .tu l, by simp [er, K.er, h1], by rw [show _ = _ from hkv]; simp [val, K.val, kv, h2], ⟨trivial, h3⟩, fun b hb => h4 b (by simpa [cnt, K.own] using hb)⟩
        | fn f nf => exact ⟨.nd (.fn f nf) l, by simp [er, K.er, h1], by rw [show _ = _ from hkv]; simp [val, K.val, kv, h2], ⟨trivial, h3⟩, fun b hb => h4 b (by simpa [cnt, K.own] using hb)⟩
  | .dead, _, _, _, h => by simp [rd] at h
theorem rdL_ok' {E : Env} {tm : Array Value} {w : World} {st : St} {ts : List C} (hr : Rel E st ts tm w) :
    ∀ (xs : List V) {us : List Value} {ds : List D}, VRelL E ts xs us → rdL st xs = some ds → ∃ l : List C, erL l = ds ∧ valL l = us ∧ MemL w false l ∧ ∀ b, cntL b l ≠ 0 → Old E b ∨ cntL b ts ≠ 0
  | [], us, ds, hv, h => by
    simp only [rdL, Option.some.injEq] at h
    subst h
    exact ⟨[], rfl, hv.symm, trivial, fun b hb => absurd rfl hb⟩
  | x :: xs, us, ds, hv, h => by
    obtain ⟨u, us', rfl, hv1, hv2⟩ := hv
    simp only [rdL] at h
    cases h1 : rd st x with
    | none => simp [h1] at h
    | some d1 =>
      simp only [h1] at h
      cases h2 : rdL st xs with
      | none => simp [h2] at h
      | some ds2 =>
        simp only [h2, Option.some.injEq] at h
        subst h
        obtain ⟨t, a1, a2, a3, a4⟩ := rd_ok' hr x hv1 h1
        obtain ⟨l, b1, b2, b3, b4⟩ := rdL_ok' hr xs hv2 h2
        exact ⟨t :: l, by simp [erL, a1, b1], by simp [valL, a2, b2], ⟨a3, b3⟩, fun b hb => by
          simp only [cntL] at hb
          by_cases h0 : cnt b t = 0
          · exact b4 b (by omega)
          · exact a4 b h0⟩
end

/-- Whatever is read lies in memory that is there. -/
theorem Rel.below {E : Env} {tm : Array Value} {w : World} {st : St} {ts : List C} (hr : Rel E st ts tm w) {b : Nat} (h : Old E b ∨ cntL b ts ≠ 0) : b < w.heap.size := by
  rcases h with h | h
  · exact hr.keep.lt h
  · exact (hr.dom b h).2
theorem rd_ok {E : Env} {tm : Array Value} {w : World} {st : St} {ts : List C} (hr : Rel E st ts tm w) (x : V) {u : Value} {d : D} (hv : VRel E ts x u) (h : rd st x = some d) : ∃ t : C, er t = d ∧ val t = u ∧ Mem w false t ∧ ∀ b, cnt b t ≠ 0 → b < w.heap.size := by
  obtain ⟨t, h1, h2, h3, h4⟩ := rd_ok' hr x hv h
  exact ⟨t, h1, h2, h3, fun b hb => hr.below (h4 b hb)⟩
theorem rdL_ok {E : Env} {tm : Array Value} {w : World} {st : St} {ts : List C} (hr : Rel E st ts tm w) (xs : List V) {us : List Value} {ds : List D} (hv : VRelL E ts xs us) (h : rdL st xs = some ds) : ∃ l : List C, erL l = ds ∧ valL l = us ∧ MemL w false l ∧ ∀ b, cntL b l ≠ 0 → b < w.heap.size := by
  obtain ⟨t, h1, h2, h3, h4⟩ := rdL_ok' hr xs hv h
  exact ⟨t, h1, h2, h3, fun b hb => hr.below (h4 b hb)⟩

/-! ### operands -/

/-- A constant: no memory. -/
def Kon (d : D) (u : Value) : Prop := ∃ t : C, er t = d ∧ val t = u ∧ (∀ w o, Mem w o t) ∧ ∀ b, cnt b t = 0

theorem Kon.ro {E : Env} {ts : List C} {d : D} {u : Value} (h : Kon d u) : VRel E ts (mkRo d) u := by
  obtain ⟨t, rfl, rfl, h3, h4⟩ := h
  cases t with
  | v x => rfl
  | hole x => exact ⟨.hole x, rfl, rfl, trivial, fun b hb => absurd rfl hb⟩
  | nd k kids => exact ⟨.nd k kids, rfl, rfl, h3 _ _, fun b hb => absurd (h4 b) hb⟩

/-- What an operand says of a value. -/
def MORel (tm : Array Value) : MO → Value → Prop
  | .t i, u => u = tm.getD i undef
  | .c d, u => Kon d u

theorem VRel_dead {E : Env} {ts : List C} {u : Value} : VRel E ts .dead u := trivial

theorem ev_ok {E : Env} {tm : Array Value} {w : World} {st : St} {ts : List C} (hr : Rel E st ts tm w) {m : MO} {u : Value} (hm : MORel tm m u) : VRel E ts (ev st m) u := by
  cases m with
  | t i =>
    simp only [MORel] at hm
    subst hm
    simp only [ev]
    cases hs : st[i]? with
    | none => trivial
    | some x =>
      have h := hr.slot' hs
      cases x with
      | own d =>
        obtain ⟨k, kids, h1, h2, h3⟩ := h
        exact ⟨_, k, kids, h1, getAt_nil _, h3⟩
      | sc _ => exact h.1
      | ro _ => exact h.1
      | ref _ _ => exact h.1
      | sub _ _ _ _ _ => exact h.1
      | ad _ _ _ => exact h.1
      | rad _ _ => exact h.1
      | vn _ _ => exact h.1
      | dead => exact h.1
  | c d => exact Kon.ro hm

/-- All operands. -/
def MORelL (tm : Array Value) : List MO → List Value → Prop
  | [], us => us = []
  | m :: ms, us => ∃ u us', us = u :: us' ∧ MORel tm m u ∧ MORelL tm ms us'

theorem rdAll_ok' {E : Env} {tm : Array Value} {w : World} {st : St} {ts : List C} (hr : Rel E st ts tm w) :
    ∀ (ms : List MO) {us : List Value} {ds : List D}, MORelL tm ms us → rdAll st ms = some ds → ∃ l : List C, erL l = ds ∧ valL l = us ∧ MemL w false l ∧ ∀ b, cntL b l ≠ 0 → Old E b ∨ cntL b ts ≠ 0
  | [], us, ds, hm, h => by
    simp only [rdAll, Option.some.injEq] at h
    subst h
    exact ⟨[], rfl, hm.symm, trivial, fun b hb => absurd rfl hb⟩
  | m :: ms, us, ds, hm, h => by
    obtain ⟨u, us', rfl, hm1, hm2⟩ := hm
    simp only [rdAll] at h
    cases h1 : rd st (ev st m) with
    | none => simp [h1] at h
    | some d1 =>
      simp only [h1] at h
      cases h2 : rdAll st ms with
      | none => simp [h2] at h
      | some ds2 =>
        simp only [h2, Option.some.injEq] at h
        subst h
        obtain ⟨t, a1, a2, a3, a4⟩ := rd_ok' hr _ (ev_ok hr hm1) h1
        obtain ⟨l, b1, b2, b3, b4⟩ := rdAll_ok' hr ms hm2 h2
        exact ⟨t :: l, by simp [erL, a1, b1], by simp [valL, a2, b2], ⟨a3, b3⟩, fun b hb => by
          simp only [cntL] at hb
          by_cases h0 : cnt b t = 0
          · exact b4 b (by omega)
          · exact a4 b h0⟩

theorem rdAll_ok {E : Env} {tm : Array Value} {w : World} {st : St} {ts : List C} (hr : Rel E st ts tm w) (ms : List MO) {us : List Value} {ds : List D} (hm : MORelL tm ms us) (h : rdAll st ms = some ds) : ∃ l : List C, erL l = ds ∧ valL l = us ∧ MemL w false l ∧ ∀ b, cntL b l ≠ 0 → b < w.heap.size := by
  obtain ⟨t, h1, h2, h3, h4⟩ := rdAll_ok' hr ms hm h
  exact ⟨t, h1, h2, h3, fun b hb => hr.below (h4 b hb)⟩

theorem takeAll_ok {E : Env} {tm : Array Value} {w : World} :
    ∀ (ms : List MO) {us : List Value} {st st' : St} {ts : List C} {ds : List D}, MORelL tm ms us → Rel E st ts tm w → takeAll st ms = some (ds, st') →
      ∃ (l : List C) (ts' : List C), erL l = ds ∧ valL l = us ∧ MemL w true l ∧ Rel E st' ts' tm w ∧ Evolve ts ts' ∧ ∀ b, cntL b ts' + cntL b l ≤ cntL b ts
  | [], us, st, st', ts, ds, hv, hr, ht => by
    simp only [takeAll, Option.some.injEq, Prod.mk.injEq] at ht
    obtain ⟨rfl, rfl⟩ := ht
    exact ⟨[], ts, rfl, hv.symm, trivial, hr, Evolve.refl _, fun b => by simp [cntL]⟩
  | x :: xs, us, st, st', ts, ds, hv, hr, ht => by
    obtain ⟨u, us', rfl, hv1, hv2⟩ := hv
    simp only [takeAll] at ht
    cases h1 : take st (ev st x) with
    | none => simp [h1] at ht
    | some r1 =>
      obtain ⟨d1, st1⟩ := r1
      simp only [h1] at ht
      cases h2 : takeAll st1 xs with
      | none => simp [h2] at ht
      | some r2 =>
        obtain ⟨ds2, st2⟩ := r2
        simp only [h2, Option.some.injEq, Prod.mk.injEq] at ht
        obtain ⟨rfl, rfl⟩ := ht
        obtain ⟨t, ts1, a1, a2, a3, a4, a5, a6⟩ := take_ok _ (ev_ok hr hv1) (Evolve.refl _) hr h1
        obtain ⟨l, ts2, b1, b2, b3, b4, b5, b6⟩ := takeAll_ok xs hv2 a4 h2
        exact ⟨t :: l, ts2, by simp [erL, a1, b1], by simp [valL, a2, b2], ⟨a3, b3⟩, b4, a5.trans b5, fun b => by have := a6 b; have := b6 b; simp only [cntL]; omega⟩

end Go.Mx
