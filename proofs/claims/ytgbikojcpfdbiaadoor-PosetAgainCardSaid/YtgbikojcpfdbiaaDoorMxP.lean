import Derived.Test.YtgbikojcpfdbiaaDoorMxO
/-
  Mx, part P: append.
-/
namespace Go.Mx
set_option linter.unusedVariables false
set_option linter.unusedSimpArgs false
set_option linter.unusedSectionVars false
open Go

section
variable {P : Program} {E : Env} {st st' : St} {ts : List C} {a : Act} {w : World}

/-- Cells of a row are stored. -/
theorem run_storeRow {b m off : Nat} : ∀ (vs : List Value) (i : Nat) (w : World), Row w b m → off + i + vs.length ≤ m → (∀ v ∈ vs, v.oneCell' = true) →
    ∃ w', (Go.storeCells ⟨b, off, none⟩ vs i).run P w = .ok () w' ∧ Row w' b m ∧ (∀ k, k ≠ b → w'.heap[k]? = w.heap[k]?) ∧ w'.os = w.os ∧ w'.tape = w.tape ∧ w'.output = w.output ∧ w'.heap.size = w.heap.size ∧
      (∀ j, off + i ≤ j → j < off + i + vs.length → w'.cell? ⟨b, j, none⟩ = vs[j - (off + i)]?) ∧ (∀ j, j < off + i → w'.cell? ⟨b, j, none⟩ = w.cell? ⟨b, j, none⟩)
  | [], i, w, hrow, _, _ => ⟨w, rfl, hrow, fun _ _ => rfl, rfl, rfl, rfl, rfl, fun j h1 h2 => by simp at h2; omega, fun _ _ => rfl⟩
  | v :: vs, i, w, hrow, hle, hone => by
    simp only [List.length_cons] at hle
    have h1 := run_store1 (P := P) hrow (off := off + i) (by omega) (hone v (by simp))
    obtain ⟨w', g1, g2, g3, g4, g5, g6, g7, g8, g9⟩ := run_storeRow (m := m) (off := off) vs (i + 1) (w.setCell ⟨b, off + i, none⟩ v) (hrow.setCell _ _) (by omega) (fun u hu => hone u (by simp [hu]))
    obtain ⟨u0, hu0⟩ := hrow.cell (off := off + i) (by omega)
    refine ⟨w', ?_, g2, fun k hk => (g3 k hk).trans (setCell_heap_ne hk), g4, g5, g6, by rw [g7]; simp, ?_, ?_⟩
    · rw [Go.storeCells]
      simp only [Addr.add_lit]
      rw [Sem.run_bind, h1, Result.andThen_ok]
      exact g1
    · intro j hj1 hj2
      simp only [List.length_cons] at hj2
      by_cases he : j = off + i
      · subst he
        rw [g9 _ (by omega), World.cell?_setCell_same _ _ _ hu0]
        simp
      · rw [g8 j (by omega) (by omega)]
        obtain ⟨q, rfl⟩ : ∃ q, j = off + (i + 1) + q := ⟨j - (off + (i + 1)), by omega⟩
        rw [show off + (i + 1) + q - (off + (i + 1)) = q by omega, show off + (i + 1) + q - (off + i) = q + 1 by omega]
        simp
    · intro j hj
      rw [g9 j (by omega)]
      exact World.cell?_setCell_other _ _ _ _ (by simp; omega)

/-- What stands behind the second argument of an append. -/
structure Src (P : Program) (w : World) (u : Value) (es m : Nat) (vs : List Value) : Prop where
  len : ∀ w, (Builtin.lenOf u).run P w = .ok m w
  cells : ∀ w', w'.heap = w.heap → (Builtin.firstCells es m u).run P w' = .ok vs.toArray w'

theorem Src.sl {d : Dec} {es es' m : Nat} {kids : List C} {o : Bool} (h : Mem w o (.nd (.sl d es' m) kids)) (he : es' = es ∨ m = 0) : Src P w (val (.nd (.sl d es' m) kids)) es m (valL kids) := by
  obtain ⟨⟨h1, h2, h3, h4⟩, _⟩ := h
  have hl : (valL kids).length = m * es := by
    rcases he with rfl | rfl
    · exact h1
    · simpa using h1
  refine ⟨fun w => rfl, fun w' hw => ?_⟩
  simp only [val, K.val]
  cases hd : d.a with
  | none =>
    have := h3 hd
    have hm : m = 0 := by omega
    subst hm
    have : valL kids = [] := List.length_eq_zero_iff.1 (by simpa using hl)
    rw [this]
    exact run_firstCells_none _ _ _ _ _
  | some ad =>
    refine run_firstCells_some w' es m ad m d.cap _ hl fun j v hv => ?_
    have := (h4 ad hd).1 j v hv
    rw [← this]
    unfold World.cell?
    rw [hw]

theorem all_sc : ∀ {l : List C}, (erL l).all isSc = true → (∀ w o, MemL w o l) ∧ ∀ b, cntL b l = 0
  | [], _ => ⟨fun _ _ => trivial, fun _ => rfl⟩
  | t :: ts, h => by
    simp only [erL, List.all_cons, Bool.and_eq_true] at h
    obtain ⟨h1, h2⟩ := all_sc h.2
    cases t with
    | v x => exact ⟨fun w o => ⟨trivial, h1 w o⟩, fun b => by simp [cntL, cnt, h2 b]⟩
    | hole d => simp [er, isSc] at h
    | nd k kids => simp [er, isSc] at h

theorem bytes_er (s : ByteArray) : bytesD s = erL ((s.data.map fun b => Value.int .u8 b.toNat).toList.map .v) := by
  rw [erL_eq, List.map_map]
  simp [bytesD, er]

theorem appSrc_ok (hr : Rel E st ts a.tmps w) {es : Nat} {y : MO} {u : Value} (hy : MORel a.tmps y u) {m : Nat} {ks : List D} {st1 : St} (h : appSrc st es y = some (m, ks, st1)) :
    ∃ (l : List C) (ts1 : List C), erL l = ks ∧ l.length = m * es ∧ MemL w true l ∧ Rel E st1 ts1 a.tmps w ∧ (∀ b, cntL b ts1 + cntL b l ≤ cntL b ts) ∧ (erL l).all flatOk = true ∧ Src P w u es m (valL l) := by
  have hv := ev_ok hr hy
  unfold appSrc at h
  split at h
  · rename_i b es' n kids hrd
    split at h
    · rename_i hc
      split at h
      · rename_i hflat
        split at h
        · rename_i hsc
          cases h
          obtain ⟨t, h1, h2, h3, _⟩ := rd_ok hr _ hv hrd
          obtain ⟨dd, kk, rfl, rfl, _⟩ := er_sl h1
          obtain ⟨g1, g2⟩ := all_sc hsc
          refine ⟨kk, ts, rfl, by rw [← erL_len]; exact hc.2, g1 w true, hr, fun b => by rw [g2]; omega, hflat, ?_⟩
          rw [← h2]
          exact Src.sl h3 hc.1
        · split at h
          · rename_i b' es'' n' kids' st1' htk
            split at h
            · rename_i hc'
              cases h
              obtain ⟨t, ts1, h1, h2, h3, h4, _, h6⟩ := take_ok _ hv (Evolve.refl _) hr htk
              obtain ⟨dd, kk, rfl, rfl, _⟩ := er_sl h1
              have hn := hc'.1
              subst hn
              obtain ⟨t2, f1, f2, f3, _⟩ := rd_ok hr _ hv hrd
              obtain ⟨dd2, kk2, rfl, rfl, _⟩ := er_sl f1
              refine ⟨kk, ts1, rfl, by rw [← erL_len]; exact hc'.2.1, h3.2, h4, fun b => ?_, hc'.2.2, ?_⟩
              · have := h6 b
                simp only [cnt] at this
                omega
              · rw [← h2]
                refine Src.sl h3 ?_
                have q1 := h3.1.1
                have q2 := hc'.2.1
                rw [erL_len] at q2
                rw [valL_len, q2] at q1
                rcases Nat.eq_zero_or_pos n' with hz | hz
                · exact .inr hz
                · exact .inl (Nat.eq_of_mul_eq_mul_left hz q1.symm)
            · cases h
          · cases h
      · cases h
    · cases h
  · rename_i s hrd
    split at h
    · rename_i hc
      cases h
      obtain ⟨t, h1, h2, h3, _⟩ := rd_ok hr _ hv hrd
      have := er_eq_v h1
      subst this
      have hu : u = .string s := h2.symm
      subst hu
      obtain ⟨rfl, _⟩ := hc
      have hall : ∀ l : List Value, (∀ w o, MemL w o (l.map T.v)) ∧ ∀ b, cntL b (l.map T.v) = 0 := by
        intro l
        induction l with
        | nil => exact ⟨fun _ _ => trivial, fun _ => rfl⟩
        | cons x xs ih => exact ⟨fun w o => ⟨trivial, ih.1 w o⟩, fun b => by simp [cntL, cnt, ih.2 b]⟩
      obtain ⟨g1, g2⟩ := hall (s.data.map fun b => Value.int .u8 b.toNat).toList
      refine ⟨_, ts, (bytes_er s).symm, by rw [List.length_map, Array.length_toList, Array.size_map, Nat.mul_one]; rfl, g1 w true, hr, fun b => by rw [g2]; omega, ?_, ⟨fun w => rfl, fun w' _ => ?_⟩⟩
      · rw [← bytes_er, bytesD, List.all_map, List.all_eq_true]
        intro b _
        rfl
      · rw [valL_v]
        simp only [Builtin.firstCells, Array.toArray_toList]
        have : s.extract 0 s.size = s := by
          apply ByteArray.ext
          rw [ByteArray.data_extract]
          exact Array.extract_size
        rw [this]
        rfl
    · cases h
  · cases h

theorem run_app_room {t t' ty e : TypeId} {i : TypeInfo} (ht : P.underlying t = some (.slice e)) {ds : TypeDesc} (ht' : P.underlying t' = some ds) (hds : ∀ k, ds ≠ .int k) (hi : P.info? e = some i)
    {base : Option Addr} {n cap m : Nat} {u : Value} {vs : List Value} (hs : Src P w u i.size m vs) (hroom : n + m ≤ cap) {w' : World}
    (hst : match base with | some ad => (Go.storeCells (ad.add (n * i.size)) vs).run P w = .ok () w' | none => w' = w) :
    (Builtin.append_ #[t, t'] ty #[.slice base n cap, u]).run P w = .ok (.slice base (n + m) cap) w' := by
  have h1 := hs.len w
  have h2 := hs.cells w rfl
  have hz : (match ds with | .int _ => true | _ => false) = false := by cases ds <;> first | rfl | exact absurd rfl (hds _)
  cases base with
  | none =>
    subst hst
    simp [Builtin.append_, run_underlying ht, run_underlying ht', sizeOf, typeInfo, hi, hz, h1, h2, hroom]
  | some ad =>
    simp [Builtin.append_, run_underlying ht, run_underlying ht', sizeOf, typeInfo, hi, hz, h1, h2, hroom, hst]

theorem run_app_grow {t t' ty e : TypeId} {i : TypeInfo} {z : Value} (ht : P.underlying t = some (.slice e)) {ds : TypeDesc} (ht' : P.underlying t' = some ds) (hds : ∀ k, ds ≠ .int k) (hi : P.info? e = some i)
    (hz0 : i.zero = some z) {base : Option Addr} {n cap m : Nat} {u : Value} {vs us : List Value} (hs : Src P w u i.size m vs) (ho : ∀ w', w'.heap = w.heap → (Builtin.firstCells i.size n (.slice base n cap)).run P w' = .ok us.toArray w')
    (hroom : cap < n + m) (hfit : Builtin.nextslicecap (n + m) cap * i.bytes ≤ 281474976710656) (h63 : n + m ≤ 9223372036854775807) :
    (Builtin.append_ #[t, t'] ty #[.slice base n cap, u]).run P w = .ok (.slice (some ⟨w.heap.size, 0, none⟩) (n + m) (grownCap w (n + m) cap e))
      (w.drew.alloc (.cells (us.toArray ++ vs.toArray ++ Builtin.zeroCells z.cells (grownCap w (n + m) cap e - (n + m))) e)) := by
  have h1 := hs.len w
  have h2 := hs.cells w.drew rfl
  have h3 := ho w.drew rfl
  have hn : ¬ (n + m ≤ cap) := by omega
  have h63' : ¬ (9223372036854775807 < ((n : Int) + (m : Int))) := by omega
  have h48' : ¬ (281474976710656 < Builtin.nextslicecap (n + m) cap * i.bytes) := by omega
  have hz : (match ds with | .int _ => true | _ => false) = false := by cases ds <;> first | rfl | exact absurd rfl (hds _)
  simp [Builtin.append_, run_underlying ht, run_underlying ht', sizeOf, typeInfo, zeroValue, hi, hz0, hz, h1, hn, h63', h48', Question.forced, h2, h3, newRow, grownCap]
  congr 2
  apply Array.ext'
  simp [List.append_assoc]

/-- A block that no tree owns is written. -/
theorem Rel.other {tm : Array Value} (h : Rel E st ts tm w) {w' : World} {b0 : Nat} (hb : cntL b0 ts = 0) (hold : ¬ Old E b0) (h1 : w'.os = w.os) (h2 : w'.tape = w.tape) (h3 : w'.output = w.output)
    (h4 : w'.heap.size = w.heap.size) (h5 : ∀ k, k ≠ b0 → w'.heap[k]? = w.heap[k]?) (hbase : ∀ k, k < E.base → ¬ E.W k → k ≠ b0) : Rel E st ts tm w' := by
  refine ⟨h.lenT, h.lenM, h.slot, ?_, h.uniq, fun b hb' => ⟨(h.dom b hb').1, by rw [h4]; exact (h.dom b hb').2⟩, ?_⟩
  · intro i t ht
    refine (h.mem i t ht).same fun b hne => h5 b ?_
    rintro rfl
    have := cnt_le_cntL b ts i t ht
    omega
  · have k := h.keep
    exact ⟨h1.trans k.os, h2.trans k.tape, h3.trans k.output, by rw [h4]; exact k.size, fun b hb' hw => (h5 b (hbase b hb' hw)).trans (k.block b hb' hw), k.low⟩

theorem app_ok (hr : Rel E st ts a.tmps w) {o : Oper} {c : Call} {x y : Operand} {t t' e : TypeId} (ho : o.op = .call c) (hcal : c.callee = .builtin .append) (hargs : c.args.toList = [x, y]) (hats : c.argTypes.toList = [t, t'])
    (ht : P.underlying t = some (.slice e)) {ds : TypeDesc} (ht' : P.underlying t' = some ds) (hds : ∀ k, ds ≠ .int k) {es : Nat} (hes : sizeT P e = some es) (hpos : 0 < es)
    {z : Value} (hz : (P.info? e).bind (·.zero) = some z) (hzs : z.cells.size = es) (hby : (P.info? e).any (fun i => i.bytes ≤ 1024) = true)
    {d e1 e2 : Nat} (hd : o.dst = some d) {mx my : MO} (hx : opd e1 x = some mx) (hy : opd e2 y = some my)
    {call : Oracle} (hs : step call st (.app d es mx my) = some st') : Goes P E o a w st' := by
  simp only [step] at hs
  cases happ : append st es mx my with
  | none => simp [happ] at hs
  | some q =>
    obtain ⟨dres, st2⟩ := q
    simp only [happ, Option.some.injEq] at hs
    subst hs
    unfold append at happ
    cases hsrc : appSrc st es my with
    | none => simp [hsrc] at happ
    | some q =>
      obtain ⟨m, ks, st1⟩ := q
      simp only [hsrc] at happ
      split at happ
      · rename_i b es' n kids st2' htk
        split at happ
        · rename_i hc
          cases happ
          obtain ⟨hes', hklen, hmost⟩ := hc
          obtain ⟨l, ts1, q1, q2, q3, q4, q5, q6, q7⟩ := appSrc_ok (P := P) hr (opd_ok (a := a) hy) hsrc
          subst q1
          obtain ⟨tx, ts2, f1, f2, f3, f4, _, f6⟩ := take_ok _ (ev_ok q4 (opd_ok (a := a) hx)) (Evolve.refl _) q4 htk
          obtain ⟨dd, kk, rfl, rfl, hb⟩ := er_sl f1
          have hb := hb.symm
          rw [erL_len] at hklen
          obtain ⟨i, hi, hisz⟩ : ∃ i, P.info? e = some i ∧ i.size = es := by
            unfold sizeT at hes
            cases hi : P.info? e with
            | none => simp [hi] at hes
            | some i => simp [hi] at hes; exact ⟨i, rfl, hes⟩
          subst hisz
          have hz0 : i.zero = some z := by simpa [hi] using hz
          have hbytes : i.bytes ≤ 1024 := by simp [hi] at hby; exact hby
          have hm36 : n + m ≤ 2 ^ 36 := hmost
          have hux : a.eval x = .slice dd.a n dd.cap := f2.symm
          have hexec : ∀ v w', (Builtin.append_ #[t, t'] o.type #[.slice dd.a n dd.cap, a.eval y]).run P w = .ok v w' → (execOp a.eval o).run P w = .ok (.value v) w' := by
            intro v w' hrun
            have ha : c.args = #[x, y] := by apply Array.toList_inj.1; rw [hargs]
            have hat : c.argTypes = #[t, t'] := by apply Array.toList_inj.1; rw [hats]
            simp [execOp, ho, resolve, hcal, ha, hat, invoke, builtin, hux, hrun]
          obtain ⟨⟨m1, m2, m3, m4⟩, m5⟩ := f3
          have hcount : ∀ bb, cntL bb ts2 + cntL bb (kk ++ l) ≤ cntL bb ts := by
            intro bb
            have := q5 bb
            have h7 := f6 bb
            simp only [cnt] at h7
            rw [cntL_append]
            omega
          have hmem : MemL w true (kk ++ l) := MemL_append m5 q3
          have hlen2 : (kk ++ l).length = (n + m) * i.size := by rw [List.length_append, hklen, q2, Nat.add_mul]
          by_cases hroom : n + m ≤ dd.cap
          · by_cases hcap : dd.cap = 0
            · have hn : n = 0 := by omega
              have hm0 : m = 0 := by omega
              subst hn
              subst hm0
              have hk0 : kk = [] := List.length_eq_zero_iff.1 (by simpa using hklen)
              have hl0 : l = [] := List.length_eq_zero_iff.1 (by simpa using q2)
              subst hk0
              subst hl0
              have hrun := run_app_room (t := t) (ty := o.type) ht ht' hds hi (base := dd.a) (n := 0) (cap := dd.cap) q7 hroom (w' := w) (by cases dd.a <;> rfl)
              refine goes_value (hexec _ _ hrun) ?_ (ts' := ts2.set d (.nd (.sl dd i.size 0) []))
              rw [hd]
              have h8 := f4.setOwn d (t := .nd (.sl dd i.size 0) []) ⟨_, _, rfl⟩ ⟨⟨by simp [valL], by omega, m3, fun ad had => ⟨fun j u hu => by simp [valL] at hu, fun _ hne => absurd hcap hne⟩⟩, trivial⟩
                (fun bb hbb => absurd (by simp [cnt, K.own, hcap, cntL]) hbb)
              have e1 : er (.nd (.sl dd i.size 0) []) = T.nd (.sl (b && (0 : Nat) == 0) i.size (0 + 0)) (erL [] ++ erL []) := by
                rw [hb]; simp [er, K.er, erL]
              rw [e1] at h8
              exact h8
            · cases hda : dd.a with
              | none => exact absurd (m3 hda) hcap
              | some ad =>
                have hbf : b = false := by rw [hb, hda]; rfl
                have hee : es' = i.size := hes'.resolve_right (by rw [hbf]; simp)
                subst hee
                obtain ⟨hcells, hrow⟩ := m4 ad hda
                obtain ⟨hspot, hrow⟩ := hrow rfl hcap
                obtain ⟨bk, off, sp⟩ := ad
                simp only at hspot
                subst hspot
                have hle : off + n * i.size + 0 + (valL l).length ≤ off + dd.cap * i.size := by
                  rw [valL_len, q2, Nat.add_zero, Nat.add_assoc, ← Nat.add_mul]
                  exact Nat.add_le_add_left (Nat.mul_le_mul_right _ hroom) _
                obtain ⟨w', g1, g2, g3, g4, g5, g6, g7, g8, g9⟩ := run_storeRow (P := P) (off := off + n * i.size) (valL l) 0 w hrow hle (all_one q6)
                have hrun := run_app_room (t := t) (ty := o.type) ht ht' hds hi (base := dd.a) (n := n) (cap := dd.cap) q7 hroom (w' := w') (by rw [hda]; simp only [Addr.add_lit]; exact g1)
                have hown : (K.sl dd i.size n).own bk = 1 := by simp [K.own, hcap, hda]
                have hz2 : cntL bk ts2 = 0 ∧ cntL bk (kk ++ l) = 0 ∧ cntL bk ts ≠ 0 := by
                  have h7 := f6 bk
                  have h9 := q5 bk
                  have h10 := hr.uniq bk
                  simp only [cnt, hown] at h7
                  rw [cntL_append]
                  omega
                obtain ⟨z1, z2, z3⟩ := hz2
                obtain ⟨z4, z5⟩ := hr.dom bk z3
                have hold : ∀ k, k < E.base → ¬ E.W k → k ≠ bk := fun k h1 h2 he => z4 (he ▸ ⟨h1, h2⟩)
                have hrel := f4.other (b0 := bk) z1 z4 g4 g5 g6 g7 g3 hold
                have hnew : Mem w' true (.nd (.sl dd i.size (n + m)) (kk ++ l)) := by
                  refine ⟨⟨by rw [valL_len, hlen2], hroom, m3, fun ad had => ?_⟩, hmem.same fun bb hbb => g3 bb fun he => hbb (he ▸ z2)⟩
                  rw [hda] at had
                  cases had
                  refine ⟨fun j u hu => ?_, fun _ _ => ⟨rfl, g2⟩⟩
                  rw [Addr.add_lit]
                  rw [valL_append] at hu
                  have hvk : (valL kk).length = n * i.size := by rw [valL_len, hklen]
                  by_cases hj : j < n * i.size
                  · rw [List.getElem?_append_left (by omega)] at hu
                    rw [g9 _ (by omega)]
                    have := hcells j u hu
                    rwa [Addr.add_lit] at this
                  · rw [List.getElem?_append_right (by omega), hvk] at hu
                    have hj2 := lt_of_get hu
                    rw [g8 _ (by omega) (by omega)]
                    rw [show off + j - (off + n * i.size + 0) = j - n * i.size by omega]
                    exact hu
                have h8 := hrel.setOwn d (t := .nd (.sl dd i.size (n + m)) (kk ++ l)) ⟨_, _, rfl⟩ hnew (fun bb hbb => by
                  simp only [cnt] at hbb ⊢
                  by_cases he : bb = bk
                  · subst he
                    have : (K.sl dd i.size (n + m)).own bb = 1 := by simp [K.own, hcap, hda]
                    exact ⟨z1, by omega, z4, by rw [g7]; exact z5⟩
                  · have h0 : (K.sl dd i.size (n + m)).own bb = 0 := by simp [K.own, hcap, hda]; exact fun h => he h.symm
                    have h1 := hcount bb
                    have h2 := hr.uniq bb
                    obtain ⟨h3, h4⟩ := hr.dom bb (by omega)
                    exact ⟨by omega, by omega, h3, by rw [g7]; exact h4⟩)
                refine goes_value (hexec _ _ hrun) ?_ (ts' := ts2.set d (.nd (.sl dd i.size (n + m)) (kk ++ l)))
                rw [hd]
                have e1 : er (.nd (.sl dd i.size (n + m)) (kk ++ l)) = T.nd (.sl (b && m == 0) i.size (n + m)) (erL kk ++ erL l) := by
                  rw [hbf]; simp [er, K.er, erL_append, hda]
                rw [e1] at h8
                exact h8
          · have hvk : (valL kk).length = n * i.size := by rw [valL_len, hklen]
            have ho : ∀ w', w'.heap = w.heap → (Builtin.firstCells i.size n (.slice dd.a n dd.cap)).run P w' = .ok (valL kk).toArray w' := by
              have := Src.sl (P := P) (es := i.size) (w := w) (o := true) (d := dd) (es' := es') (m := n) (kids := kk) ⟨⟨m1, m2, m3, m4⟩, m5⟩ (by
                rcases hes' with h | h
                · exact .inl h
                · right
                  have : dd.a = none := by rw [hb] at h; simpa using h
                  have := m3 this
                  omega)
              exact this.cells
            have hg := grownCap_ge w (n + m) dd.cap e
            have hrun := run_app_grow (t := t) (ty := o.type) ht ht' hds hi hz0 (base := dd.a) (n := n) (cap := dd.cap) q7 ho (by omega)
              (growslice_fits (by omega) (Nat.le_trans (Nat.mul_le_mul hm36 hbytes) (by decide))) (by omega)
            have harr : ((valL kk).toArray ++ (valL l).toArray ++ Builtin.zeroCells z.cells (grownCap w (n + m) dd.cap e - (n + m))).size = grownCap w (n + m) dd.cap e * i.size := by
              simp only [Array.size_append, List.size_toArray, size_zeroCells, hzs, hvk, valL_len, q2, ← Nat.add_mul]
              congr 1
              omega
            have hfr := hr.fresh f4 hmem hcount (w' := w.drew.alloc (.cells ((valL kk).toArray ++ (valL l).toArray ++ Builtin.zeroCells z.cells (grownCap w (n + m) dd.cap e - (n + m))) e))
              (arr := (valL kk).toArray ++ (valL l).toArray ++ Builtin.zeroCells z.cells (grownCap w (n + m) dd.cap e - (n + m))) (e := e) (lo := 0) (hi := 0) rfl rfl rfl rfl (.inl rfl)
              (fun j v hv => by
                have hj := lt_of_get hv
                rw [valL_append] at hv hj
                rw [Array.getElem?_append_left (by simpa using hj)]
                rw [← Array.getElem?_toList]
                simpa using hv) d (k := .sl ⟨some ⟨w.heap.size, 0, none⟩, grownCap w (n + m) dd.cap e, undef⟩ i.size (n + m)) (.inl ⟨_, _, _, rfl, hlen2, hg, by rw [harr]; omega⟩)
            refine goes_value (hexec _ _ hrun) ?_ (ts' := ts2.set d (.nd (.sl ⟨some ⟨w.heap.size, 0, none⟩, grownCap w (n + m) dd.cap e, undef⟩ i.size (n + m)) (kk ++ l)))
            rw [hd]
            have hbm : (b && m == 0) = false := by
              by_cases hbt : b = true
              · have h9 : dd.a = none := by rw [hb] at hbt; simpa using hbt
                have := m3 h9
                have : m ≠ 0 := by omega
                simp [this]
              · simp [hbt]
            have e1 : er (.nd (.sl ⟨some ⟨w.heap.size, 0, none⟩, grownCap w (n + m) dd.cap e, undef⟩ i.size (n + m)) (kk ++ l)) = T.nd (.sl (b && m == 0) i.size (n + m)) (erL kk ++ erL l) := by
              rw [hbm]; simp [er, K.er, erL_append]
            rw [e1] at hfr
            exact hfr
        · cases happ
      · cases happ

end
end Go.Mx
