import Derived.Test.YtgbikojcpfdbiaaDoorMxH
import Derived.Laws.StructEq
/-
  Mx, part I: the operations that read memory.
-/
namespace Go.Mx
set_option linter.unusedVariables false
set_option linter.unusedSimpArgs false
set_option linter.unusedSectionVars false
open Go

section
variable {P : Program} {E : Env} {st st' : St} {ts : List C} {a : Act} {w : World}

/-- A slice's element: its address. -/
theorem elemAt_ok {tm : Array Value} (hr : Rel E st ts tm w) {es n : Nat} {x y : V} {u : Value} (hv : VRel E ts x u) (h : elemAt st es x n = some y) :
    ∃ ad len cap, u = .slice (some ad) len cap ∧ n < len ∧ VRel E ts y (.pointer (some (ad.add (n * es)))) := by
  unfold elemAt at h
  split at h
  · rename_i r p
    split at h
    · rename_i b es0 n0 kids hp
      split at h
      · rename_i hc
        cases h
        obtain ⟨t0, s, h1, h2, h3, _⟩ := hr.place hp
        obtain ⟨t1, k, kids1, f1, f2, f3⟩ := hv
        rw [h1] at f1; cases f1
        rw [h2] at f2; cases f2
        obtain ⟨k', kids', he, hk, hks⟩ := er_eq_nd h3
        cases he
        cases k with
        | sl d es1 n1 =>
          simp only [K.er, K.sl.injEq] at hk
          obtain ⟨_, rfl, rfl⟩ := hk
          have hm := Mem_getAt (hr.mem r _ h1) h2
          obtain ⟨⟨g1, g2, g3, g4⟩, _⟩ := hm
          cases hda : d.a with
          | none => have := g3 hda; omega
          | some ad =>
            refine ⟨ad, n1, d.cap, by rw [← f3]; simp [val, K.val, hda], hc.1, t0, .sl d es1 n1, kids1, ad, h1, h2, hda, rfl⟩
        | _ => simp [K.er] at hk
      · cases h
    · cases h
  · rename_i r p lo es' n0
    split at h
    · rename_i b es0 n1 kids hp
      split at h
      · rename_i hc
        cases h
        obtain ⟨t1, d, n2, kids2, c, aa, ad, f1, f2, f3, f4, f5, f6', f6⟩ := hv
        have hc0 : c ≠ 0 := by omega
        refine ⟨ad, n0, c, f6, hc.1, t1, .sl d es' n2, kids2, aa, f1, f2, f5, ?_⟩
        rw [f6' hc0, Addr.add_add']
      · cases h
    · cases h
  · rename_i b es0 n0 kids
    split at h
    · rename_i hc
      cases h
      obtain ⟨t, h1, h2, h3, h4⟩ := hv
      obtain ⟨k', kids', rfl, hk, hks⟩ := er_eq_nd h1
      cases k' with
      | sl d es1 n1 =>
        simp only [K.er, K.sl.injEq] at hk
        obtain ⟨_, rfl, rfl⟩ := hk
        obtain ⟨⟨g1, g2, g3, g4⟩, g5⟩ := h3
        cases hda : d.a with
        | none => have := g3 hda; omega
        | some ad =>
          have hcap : d.cap ≠ 0 := by omega
          refine ⟨ad, n1, d.cap, by rw [← h2]; simp [val, K.val, hda], hc.1, kids', ad, hks, (g4 ad hda).1, g5, fun b hb => h4 b (by simp only [cnt]; omega), fun _ => h4 ad.block (by simp [cnt, K.own, hda, hcap]), rfl⟩
      | _ => simp [K.er] at hk
    · cases h
  · cases h

theorem ixs_ok (hr : Rel E st ts a.tmps w) {o : Oper} {t e : TypeId} {x i : Operand} (ho : o.op = .indexAddr t x i) (ht : P.underlying t = some (.slice e)) {es : Nat} (hes : sizeT P e = some es)
    {d e1 e2 : Nat} (hd : o.dst = some d) {mx mi : MO} (hx : opd e1 x = some mx) (hi : opd e2 i = some mi) {call : Oracle} (hs : step call st (.ixs d es mx mi) = some st') : Goes P E o a w st' := by
  simp only [step] at hs
  cases hn : asNat (ev st mi) with
  | none => simp [hn] at hs
  | some n =>
    simp only [hn] at hs
    obtain ⟨k, hk⟩ := ev_nat hr hi hn
    cases he : elemAt st es (ev st mx) n with
    | none => simp [he] at hs
    | some y =>
      simp only [he, Option.some.injEq] at hs
      subst hs
      obtain ⟨ad, len, cap, h1, h2, h3⟩ := elemAt_ok hr (ev_ok hr (opd_ok (a := a) hx)) he
      refine goes_value (v := .pointer (some (ad.add (n * es)))) (w' := w) ?_ ?_ (ts' := ts.set d (.v undef))
      · have hlt : (n : Int) < len := by omega
        simp [execOp, ho, Instr.indexAt, hk, h1, asIntOf, run_underlying ht, run_sizeOf' hes, hlt, show ¬ len ≤ n by omega]
      · rw [hd]; exact hr.set d h3

/-- An address some cells on. -/
theorem addAt_ok {tm : Array Value} (hr : Rel E st ts tm w) {off : Nat} {x y : V} {u : Value} (hv : VRel E ts x u) (h : addAt st x off = some y) :
    ∃ ad, u = .pointer (some ad) ∧ VRel E ts y (.pointer (some (ad.add off))) := by
  unfold addAt at h
  split at h
  · rename_i r p c
    cases h
    obtain ⟨t0, k, kids, ad, h1, h2, h3, h4⟩ := hv
    exact ⟨ad.add c, h4, t0, k, kids, ad, h1, h2, h3, by rw [Addr.add_add']⟩
  · rename_i kids c
    cases h
    obtain ⟨ks, ad, h1, h2, h3, h4, h5, h6⟩ := hv
    exact ⟨ad.add c, h6, ks, ad, h1, h2, h3, h4, h5, by rw [Addr.add_add']⟩
  · rename_i r p
    split at h
    · rename_i b kids hp
      cases h
      obtain ⟨t0, s, h1, h2, h3, _⟩ := hr.place hp
      obtain ⟨t1, k, kids1, f1, f2, f3⟩ := hv
      rw [h1] at f1; cases f1
      rw [h2] at f2; cases f2
      obtain ⟨k', kids', he, hk, hks⟩ := er_eq_nd h3
      cases he
      cases k with
      | bx d =>
        have hm := Mem_getAt (hr.mem r _ h1) h2
        obtain ⟨⟨ad, hda, g1, g2⟩, _⟩ := hm
        exact ⟨ad, by rw [← f3]; simp [val, K.val, hda], t0, .bx d, kids1, ad, h1, h2, hda, rfl⟩
      | _ => simp [K.er] at hk
    · cases h
  · rename_i b kids
    cases h
    obtain ⟨t, h1, h2, h3, h4⟩ := hv
    obtain ⟨k', kids', rfl, hk, hks⟩ := er_eq_nd h1
    cases k' with
    | bx d =>
      obtain ⟨⟨ad, hda, g1, g2⟩, g3⟩ := h3
      exact ⟨ad, by rw [← h2]; simp [val, K.val, hda], kids', ad, hks, g1, g3, fun b hb => h4 b (by simp only [cnt]; omega), fun _ => h4 ad.block (by simp [cnt, K.own, hda]), rfl⟩
    | _ => simp [K.er] at hk
  · cases h

theorem ixa_ok (hr : Rel E st ts a.tmps w) {o : Oper} {t e : TypeId} {x i : Operand} (ho : o.op = .indexAddr t x i) {len : Nat} (ht : P.underlying t = some (.array len e)) {es : Nat} (hes : sizeT P e = some es)
    {d e1 e2 : Nat} (hd : o.dst = some d) {mx mi : MO} (hx : opd e1 x = some mx) (hi : opd e2 i = some mi) {call : Oracle} (hs : step call st (.ixa d es len mx mi) = some st') : Goes P E o a w st' := by
  simp only [step] at hs
  cases hn : asNat (ev st mi) with
  | none => simp [hn] at hs
  | some n =>
    simp only [hn] at hs
    obtain ⟨k, hk⟩ := ev_nat hr hi hn
    split at hs
    · rename_i hlt0
      cases he : addAt st (ev st mx) (n * es) with
      | none => simp [he] at hs
      | some y =>
        simp only [he, Option.some.injEq] at hs
        subst hs
        obtain ⟨ad, h1, h2⟩ := addAt_ok hr (ev_ok hr (opd_ok (a := a) hx)) he
        refine goes_value (v := .pointer (some (ad.add (n * es)))) (w' := w) ?_ ?_ (ts' := ts.set d (.v undef))
        · have hlt : (n : Int) < len := by omega
          simp [execOp, ho, Instr.indexAt, hk, h1, asIntOf, run_underlying ht, run_sizeOf' hes, hlt, Instr.sureAddr, show ¬ len ≤ n by omega]
        · rw [hd]; exact hr.set d h2
    · cases hs

theorem fa_ok (hr : Rel E st ts a.tmps w) {o : Oper} {t : TypeId} {x : Operand} {i : Nat} (ho : o.op = .fieldAddr t x i) {fs : Array Field} (ht : P.underlying t = some (.struct fs)) {f : Field} (hf : fs[i]? = some f) {s : Nat} (hfs : sizeT P f.type = some s) (hs0 : s ≠ 0)
    {d e1 : Nat} (hd : o.dst = some d) {mx : MO} (hx : opd e1 x = some mx) {call : Oracle} (hs : step call st (.fa d f.offset mx) = some st') : Goes P E o a w st' := by
  simp only [step] at hs
  cases he : addAt st (ev st mx) f.offset with
  | none => simp [he] at hs
  | some y =>
    simp only [he, Option.some.injEq] at hs
    subst hs
    obtain ⟨ad, h1, h2⟩ := addAt_ok hr (ev_ok hr (opd_ok (a := a) hx)) he
    refine goes_value (v := .pointer (some (ad.add f.offset))) (w' := w) ?_ ?_ (ts' := ts.set d (.v undef))
    · simp [execOp, ho, Instr.fieldAt, h1, run_underlying ht, hf, Instr.sureAddr, fieldPlace, run_sizeOf' hfs, hs0]
    · rw [hd]; exact hr.set d h2

/-! ### loads -/

theorem erL_get {l : List C} {i : Nat} : (erL l)[i]? = (l[i]?).map er := by rw [erL_eq, List.getElem?_map]
theorem valL_get {l : List C} {i : Nat} : (valL l)[i]? = (l[i]?).map val := by rw [valL_eq, List.getElem?_map]

/-- A cell, as the machine gives it. -/
theorem cellV_ok {r : Nat} {p : List Nat} {t0 : C} {k : K Dec} {ks : List C} (h1 : ts[r]? = some t0) (h2 : getAt t0 p = some (.nd k ks)) {c : Nat} {y : V} (h : cellV r p (erL ks) c = some y) :
    ∃ t, ks[c]? = some t ∧ VRel E ts y (val t) := by
  unfold cellV at h
  rw [erL_get] at h
  cases hk : ks[c]? with
  | none => simp [hk] at h
  | some t =>
    refine ⟨t, rfl, ?_⟩
    simp only [hk, Option.map_some] at h
    cases t with
    | v x => simp only [er, Option.some.injEq] at h; subst h; rfl
    | hole d => simp [er] at h
    | nd k' kids' =>
      simp only [er, Option.some.injEq] at h; subst h
      refine ⟨t0, k', kids', h1, ?_, rfl⟩
      rw [getAt_append, h2]
      simp [getAt, hk]

theorem cellR_ok {ks : List C} (hm : MemL E.w0 false ks) (ho : ∀ b, cntL b ks ≠ 0 → Old E b) {c : Nat} {y : V} (h : cellR (erL ks) c = some y) :
    ∃ t, ks[c]? = some t ∧ VRel E ts y (val t) := by
  unfold cellR at h
  rw [erL_get] at h
  cases hk : ks[c]? with
  | none => simp [hk] at h
  | some t =>
    refine ⟨t, rfl, ?_⟩
    simp only [hk, Option.map_some] at h
    cases t with
    | v x => simp only [er, Option.some.injEq] at h; subst h; rfl
    | hole d => simp [er] at h
    | nd k' kids' =>
      simp only [er, Option.some.injEq] at h; subst h
      refine ⟨.nd k' kids', by rw [er], rfl, MemL_iff.1 hm _ (List.mem_of_getElem? hk), fun b hb => ho b ?_⟩
      have := cnt_le_cntL b ks c _ hk
      omega

theorem kidsOf_some {d : D} {kids : List D} (h : kidsOf d = some kids) : (∃ b es n, d = .nd (.sl b es n) kids) ∨ ∃ b, d = .nd (.bx b) kids := by
  unfold kidsOf at h
  split at h
  · cases h; exact .inl ⟨_, _, _, rfl⟩
  · cases h; exact .inr ⟨_, rfl⟩
  · cases h

theorem boxKids_some {d : D} {kids : List D} (h : boxKids d = some kids) : ∃ b, d = .nd (.bx b) kids := by
  unfold boxKids at h
  split at h
  · cases h; exact ⟨_, rfl⟩
  · cases h

/-- The cells at a node's address. -/
theorem cells_of {k : K Dec} {ks : List C} {o : Bool} (hm : Mem w o (.nd k ks)) {ad : Addr} (ha : addrOf (.nd k ks) = some ad) : Cells w ad (valL ks) := by
  cases k with
  | sl d es n => exact (hm.1.2.2.2 ad ha).1
  | bx d =>
    obtain ⟨a', h1, h2, _⟩ := hm.1
    simp only [addrOf] at ha
    rw [h1] at ha; cases ha
    exact h2
  | ag => simp [addrOf] at ha
  | tu => simp [addrOf] at ha
  | fn f nf => simp [addrOf] at ha

/-- What an address leads to: the cells from its base on; how they are read one by one. -/
inductive Leads (st : St) : V → (Nat → Option V) → (Nat → Nat → Option V) → List D → Nat → Prop where
  | ad {r p c d kids} : placeD st r p = some d → kidsOf d = some kids → Leads st (.ad r p c) (cellV r p kids) (aggV r p kids) kids c
  | ref {r p d kids} : placeD st r p = some d → boxKids d = some kids → Leads st (.ref r p) (cellV r p kids) (aggV r p kids) kids 0
  | rad {kids c} : Leads st (.rad kids c) (cellR kids) (aggR kids) kids c
  | ro {b kids} : Leads st (.ro (.nd (.bx b) kids)) (cellR kids) (aggR kids) kids 0

theorem load1_leads {x y : V} (h : load1 st x = some y) : ∃ f g kids c, Leads st x f g kids c ∧ f c = some y := by
  unfold load1 at h
  split at h
  · rename_i r p c
    split at h
    · rename_i d hp
      split at h
      · rename_i kids hk; exact ⟨_, _, _, _, .ad hp hk, h⟩
      · cases h
    · cases h
  · rename_i r p
    split at h
    · rename_i d hp
      split at h
      · rename_i kids hk; exact ⟨_, _, _, _, .ref hp hk, h⟩
      · cases h
    · cases h
  · exact ⟨_, _, _, _, .rad, h⟩
  · exact ⟨_, _, _, _, .ro, h⟩
  · cases h

theorem loadN_leads {x y : V} {m : Nat} (h : loadN st x m = some y) : ∃ f g kids c, Leads st x f g kids c ∧ g c m = some y := by
  unfold loadN at h
  split at h
  · rename_i r p c
    split at h
    · rename_i d hp
      split at h
      · rename_i kids hk; exact ⟨_, _, _, _, .ad hp hk, h⟩
      · cases h
    · cases h
  · rename_i r p
    split at h
    · rename_i d hp
      split at h
      · rename_i kids hk; exact ⟨_, _, _, _, .ref hp hk, h⟩
      · cases h
    · cases h
  · exact ⟨_, _, _, _, .rad, h⟩
  · exact ⟨_, _, _, _, .ro, h⟩
  · cases h

/-- Scalars: no memory. -/
theorem allSc {ks : List C} (h : (erL ks).all isSc = true) : ∃ l : List Value, ks = l.map .v := by
  induction ks with
  | nil => exact ⟨[], rfl⟩
  | cons t ks ih =>
    simp only [erL, List.all_cons, Bool.and_eq_true] at h
    obtain ⟨l, rfl⟩ := ih h.2
    cases t with
    | v x => exact ⟨x :: l, rfl⟩
    | hole d => simp [er, isSc] at h
    | nd k kids => simp [er, isSc] at h

theorem valL_v (l : List Value) : valL (l.map T.v) = l := by
  rw [valL_eq, List.map_map]
  induction l with
  | nil => rfl
  | cons x xs ih => simp [ih, val]

theorem erL_v (l : List Value) : erL (l.map T.v) = l.map T.v := by
  rw [erL_eq, List.map_map]
  induction l with
  | nil => rfl
  | cons x xs ih => simp [ih, er]

theorem seqM_ok {l : List (Option V)} {vs : List V} (h : seqM l = some vs) : l = vs.map some := by
  induction l generalizing vs with
  | nil => simp only [seqM, Option.some.injEq] at h; subst h; rfl
  | cons x l ih =>
    cases x with
    | none => simp [seqM] at h
    | some y =>
      simp only [seqM] at h
      cases hs : seqM l with
      | none => simp [hs] at h
      | some ys => simp only [hs, Option.some.injEq] at h; subst h; simp [ih hs]

theorem VRelL_of {xs : List V} {us : List Value} (hl : xs.length = us.length) (h : ∀ (i : Nat) x u, xs[i]? = some x → us[i]? = some u → VRel E ts x u) : VRelL E ts xs us := by
  induction xs generalizing us with
  | nil => cases us with
    | nil => rfl
    | cons _ _ => simp at hl
  | cons x xs ih =>
    cases us with
    | nil => simp at hl
    | cons u us =>
      exact ⟨u, us, rfl, h 0 x u rfl rfl, ih (by simpa using hl) fun i x' u' h1 h2 => h (i + 1) x' u' (by simpa using h1) (by simpa using h2)⟩

/-- What is loaded. -/
theorem leads_ok {tm : Array Value} (hr : Rel E st ts tm w) {x : V} {u : Value} (hv : VRel E ts x u) {f : Nat → Option V} {g : Nat → Nat → Option V} {kids : List D} {c : Nat} (h : Leads st x f g kids c) :
    ∃ (ad : Addr) (ks : List C), u = .pointer (some (ad.add c)) ∧ erL ks = kids ∧ Cells w ad (valL ks) ∧ (∀ i y, f i = some y → ∃ t, ks[i]? = some t ∧ VRel E ts y (val t)) ∧
      (∀ i m y, g i m = some y → i + m ≤ ks.length ∧ VRel E ts y (.agg ((valL ks).drop i |>.take m).toArray)) := by
  have agV : ∀ {r p t0 k ks}, ts[r]? = some t0 → getAt t0 p = some (.nd k ks) → ∀ i m y, aggV r p (erL ks) i m = some y → i + m ≤ ks.length ∧ VRel E ts y (.agg ((valL ks).drop i |>.take m).toArray) := by
    intro r p t0 k ks h1 h2 i m y hy
    unfold aggV at hy
    split at hy
    · rename_i hlen
      rw [erL_len] at hlen
      refine ⟨hlen, ?_⟩
      simp only [] at hy
      split at hy
      · rename_i hsc
        cases hy
        rw [← erL_drop, ← erL_take] at hsc ⊢
        obtain ⟨l, hl⟩ := allSc hsc
        have hval : ((valL ks).drop i).take m = l := by rw [← valL_drop, ← valL_take, hl, valL_v]
        rw [hval, hl, erL_v]
        exact Kon.ro (kon_agg l)
      · split at hy
        · rename_i vs hvs
          cases hy
          have he := seqM_ok hvs
          have hlv : vs.length = m := by have := congrArg List.length he; simpa using this.symm
          refine ⟨_, VRelL_of (us := ((valL ks).drop i).take m) ?_ ?_, rfl⟩
          · simp [hlv, valL_len]; omega
          · intro j x' u' hx hu
            have hj : j < m := by have := lt_of_get hx; omega
            have hcell : cellV r p (erL ks) (i + j) = some x' := by
              have h3 := congrArg (fun l => l[j]?) he
              simp [hj, hx] at h3
              exact h3
            obtain ⟨t, ht, hvt⟩ := cellV_ok (E := E) h1 h2 hcell
            rw [List.getElem?_take, if_pos hj, List.getElem?_drop, valL_get, ht] at hu
            simp only [Option.map_some, Option.some.injEq] at hu
            rw [← hu]; exact hvt
        · cases hy
    · cases hy
  have agR : ∀ {ks : List C}, MemL E.w0 false ks → (∀ b, cntL b ks ≠ 0 → Old E b) → ∀ i m y, aggR (erL ks) i m = some y → i + m ≤ ks.length ∧ VRel E ts y (.agg ((valL ks).drop i |>.take m).toArray) := by
    intro ks hm ho i m y hy
    unfold aggR at hy
    split at hy
    · rename_i hlen
      rw [erL_len] at hlen
      refine ⟨hlen, ?_⟩
      cases hy
      refine ⟨.nd .ag ((ks.drop i).take m), by rw [er, erL_take, erL_drop]; rfl, by simp [val, K.val, valL_take, valL_drop], ⟨trivial, MemL_take (MemL_drop hm i) m⟩, fun b hb => ho b ?_⟩
      have e1 := cntL_take_drop b (ks.drop i) m
      have e2 := cntL_take_drop b ks i
      simp only [cnt, K.own] at hb
      omega
    · cases hy
  cases h with
  | @ad r p c d kids hp hk =>
    obtain ⟨t0, s, h1, h2, h3, _⟩ := hr.place hp
    obtain ⟨t1, k, kids1, ad, f1, f2, f3, f4⟩ := hv
    rw [h1] at f1; cases f1
    rw [h2] at f2; cases f2
    have hks : erL kids1 = kids := by
      rcases kidsOf_some hk with ⟨b, es, n, rfl⟩ | ⟨b, rfl⟩ <;> (simp only [er, T.nd.injEq] at h3; exact h3.2)
    subst hks
    exact ⟨ad, kids1, f4, rfl, cells_of (Mem_getAt (hr.mem r _ h1) h2) f3, fun i y hy => cellV_ok h1 h2 hy, agV h1 h2⟩
  | @ref r p d kids hp hk =>
    obtain ⟨t0, s, h1, h2, h3, _⟩ := hr.place hp
    obtain ⟨t1, k, kids1, f1, f2, f3⟩ := hv
    rw [h1] at f1; cases f1
    rw [h2] at f2; cases f2
    obtain ⟨b, rfl⟩ := boxKids_some hk
    obtain ⟨k', kids', he, hk', hks⟩ := er_eq_nd h3
    cases he
    cases k with
    | bx d =>
      have hm := Mem_getAt (hr.mem r _ h1) h2
      obtain ⟨ad, hda, g1, g2⟩ := hm.1
      refine ⟨ad, kids1, by rw [← f3]; simp [val, K.val, hda, Addr.add], hks, g1, ?_, ?_⟩
      · subst hks; exact fun i y hy => cellV_ok h1 h2 hy
      · subst hks; exact agV h1 h2
    | _ => simp [K.er] at hk'
  | @rad kids c =>
    obtain ⟨ks, ad, h1, h2, h3, h4, h5, h6⟩ := hv
    refine ⟨ad, ks, h6, h1, ?_, ?_, ?_⟩
    · by_cases hks : kids = []
      · intro i u hu
        have : ks = [] := by
          have := congrArg List.length h1
          rw [erL_len, hks] at this
          exact List.length_eq_zero_iff.1 this
        subst this
        simp [valL] at hu
      · exact h2.same (hr.keep.block _ (h5 hks).1 (h5 hks).2)
    · subst h1; exact fun i y hy => cellR_ok h3 h4 hy
    · subst h1; exact agR h3 h4
  | @ro b kids =>
    obtain ⟨t, h1, h2, h3, h4⟩ := hv
    obtain ⟨k', kids', rfl, hk, hks⟩ := er_eq_nd h1
    cases k' with
    | bx d =>
      obtain ⟨⟨ad, hda, g1, g2⟩, g3⟩ := h3
      have hold : Old E ad.block := h4 ad.block (by simp [cnt, K.own, hda])
      have ho : ∀ b, cntL b kids' ≠ 0 → Old E b := fun b hb => h4 b (by simp only [cnt]; omega)
      refine ⟨ad, kids', by rw [← h2]; simp [val, K.val, hda, Addr.add], hks, g1.same (hr.keep.block _ hold.1 hold.2), ?_, ?_⟩
      · subst hks; exact fun i y hy => cellR_ok g3 ho hy
      · subst hks; exact agR g3 ho
    | _ => simp [K.er] at hk

theorem isAggT_true {t : TypeId} (h : isAggT P t = true) (w : World) : (isAgg t).run P w = .ok true w := by
  unfold isAggT at h
  split at h
  · rename_i hu; simp [isAgg, run_underlying hu]
  · rename_i hu; simp [isAgg, run_underlying hu]
  · cases h

theorem isAggT_false {t : TypeId} {d : TypeDesc} (h : isAggT P t = false) (hu : P.underlying t = some d) (w : World) : (isAgg t).run P w = .ok false w := by
  unfold isAggT at h
  rw [hu] at h
  cases d <;> simp at h <;> simp [isAgg, run_underlying hu]

theorem ld1_ok (hr : Rel E st ts a.tmps w) {o : Oper} {t : TypeId} {x : Operand} (ho : o.op = .load t x) (hag : isAggT P t = false) {ds : TypeDesc} (hu : P.underlying t = some ds)
    {d e1 : Nat} (hd : o.dst = some d) {mx : MO} (hx : opd e1 x = some mx) {call : Oracle} (hs : step call st (.ld1 d mx) = some st') : Goes P E o a w st' := by
  simp only [step] at hs
  cases he : load1 st (ev st mx) with
  | none => simp [he] at hs
  | some y =>
    simp only [he, Option.some.injEq] at hs
    subst hs
    obtain ⟨f, g, kids, c, h1, h2⟩ := load1_leads he
    obtain ⟨ad, ks, g1, g2, g3, g4, _⟩ := leads_ok hr (ev_ok hr (opd_ok (a := a) hx)) h1
    obtain ⟨tt, h3, h4⟩ := g4 c y h2
    have hcell := g3 c (val tt) (by rw [valL_get, h3]; rfl)
    refine goes_value (v := val tt) (w' := w) ?_ ?_ (ts' := ts.set d (.v undef))
    · simp [execOp, ho, Instr.loadAt, g1, Instr.sureAddr, loadVar, isAggT_false hag hu, hcell]
    · rw [hd]; exact hr.set d h4

theorem ldn_ok (hr : Rel E st ts a.tmps w) {o : Oper} {t : TypeId} {x : Operand} (ho : o.op = .load t x) (hag : isAggT P t = true) {m : Nat} (hm : sizeT P t = some m)
    {d e1 : Nat} (hd : o.dst = some d) {mx : MO} (hx : opd e1 x = some mx) {call : Oracle} (hs : step call st (.ldn d m mx) = some st') : Goes P E o a w st' := by
  simp only [step] at hs
  cases he : loadN st (ev st mx) m with
  | none => simp [he] at hs
  | some y =>
    simp only [he, Option.some.injEq] at hs
    subst hs
    obtain ⟨f, g, kids, c, h1, h2⟩ := loadN_leads he
    obtain ⟨ad, ks, g1, g2, g3, _, g4⟩ := leads_ok hr (ev_ok hr (opd_ok (a := a) hx)) h1
    obtain ⟨h3, h4⟩ := g4 c m y h2
    have hlen : (((valL ks).drop c).take m).length = m := by simp [valL_len]; omega
    have hl := run_loadCells_list (P := P) w (ad.add c) (((valL ks).drop c).take m) (fun j v hj => (g3.drop c).take m j v hj)
    rw [hlen] at hl
    refine goes_value (v := .agg (((valL ks).drop c).take m).toArray) (w' := w) ?_ ?_ (ts' := ts.set d (.v undef))
    · simp [execOp, ho, Instr.loadAt, g1, Instr.sureAddr, loadVar, isAggT_true hag, run_sizeOf' hm, hl]
    · rw [hd]; exact hr.set d h4

end
end Go.Mx
