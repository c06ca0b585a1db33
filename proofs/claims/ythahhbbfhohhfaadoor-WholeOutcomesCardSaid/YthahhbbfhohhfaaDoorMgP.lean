import Derived.Test.YthahhbbfhohhfaaDoorMgN
import Derived.Test.YthahhbbfhohhfaaDoorMgO
import Derived.Test.YthahhbbfhohhfaaDoorMgI
import Derived.Lib.Hide
/-
  natural.Text at numbers of one or two digits, by hand.
-/
namespace Go.Mx
set_option linter.unusedVariables false
set_option linter.unusedSimpArgs false
set_option linter.unusedSectionVars false
open Go Go.RowKit

set_option maxRecDepth 100000 in
theorem fm80 (n : Nat) (h : n < 100) (w : World) : Calls Go.Proofs.Tryd.prog 80 #[.int .u64 (n : Int), .int .i64 10] w fun e w' => e = .returned (.string ⟨(Lib.decDigits n).toArray⟩) ∧ w' = w := by
  go_enter Go.Proofs.Tryd.func80, Go.Proofs.Tryd.ntmps80
  have hi : ((n : Int) < 100) := by omega
  have hw : IntKind.i64.wrap (n : Int) = (n : Int) := wrapI (by omega)
  go_wp2_with (first
    | (go_at_call 105; refine (sm105 n h _).mono ?_; rintro e w' ⟨rfl, rfl⟩)
    | go_in)
  go_ret
  exact ⟨rfl, rfl⟩
/-- The program's own functions, with trim alone by hand. -/
noncomputable abbrev semV : Oracle := semW baseV tbl 2000000 2
theorem baseV_reg (g : Glob) : BaseOK Go.Proofs.Tryd.prog g baseV := by
  intro f ds d hlt h
  unfold baseV at h
  split at h
  · rename_i hf
    exact absurd hf (by show f ≠ 85 + 3145728; have : f < 1048576 := hlt; omega)
  · cases h
theorem semV_ok : CallsOK Go.Proofs.Tryd.prog Glob.none semV := semW_ok (baseV_reg _) (baseV_ok _) tbl_ok _ _
theorem semV_85 : Trim85 (semW baseV tbl 2000000 1) := by
  intro b l hl
  rw [semW_vw tbl_ok (by decide)]
  exact baseV_at b l hl
theorem semV_64 (n : Nat) (h : (dg n).length < 1000000) : semV 64 [nz n] = some (ul false (dg n)) := by
  unfold semV
  rw [semW_succB (mf := c64) rfl]
  exact f64 _ _ (by decide) semV_85 n h
theorem ul_tree {b : Bool} {l : List Nat} {w : World} {t : C} (h : er t = ul b l) (hm : Mem w md0 t) : ∃ a cap, val t = .slice a l.length cap ∧ a.isNone = b ∧ (a = none → cap = 0) ∧ l.length ≤ cap ∧ ∀ ad, a = some ad → ∀ i, i < l.length → w.cell? (ad.add i) = some (.int .u32 (nth l 0 i : Nat)) := by
  obtain ⟨k', kids', rfl, hk, hks⟩ := er_eq_nd h
  cases k' with
  | sl d es m' =>
    simp only [K.er, K.sl.injEq] at hk
    obtain ⟨hnone, _, rfl⟩ := hk
    obtain ⟨⟨h1, h2, h3, h4⟩, _⟩ := hm
    have hzl : (zl l).length = l.length := zl_len l
    refine ⟨d.a, d.cap, by simp [val, K.val, hzl], hnone, h3, by rw [← hzl]; exact h2, fun ad had i hi => ?_⟩
    refine (h4 ad had).1 i _ ?_
    have e1 : (erL kids')[i]? = some (.v (.int .u32 (nth l 0 i : Nat))) := by
      rw [hks, I_cell, if_pos (by rw [hzl]; exact hi), zl_nth]
    rw [erL_eq, List.getElem?_map, Option.map_eq_some_iff] at e1
    obtain ⟨x, hx, he⟩ := e1
    rw [valL_eq, List.getElem?_map, hx, er_eq_v he]
    rfl
  | im d es m' => simp [K.er] at hk
  | bx d => simp [K.er] at hk
  | ag => simp [K.er] at hk
  | tu => simp [K.er] at hk
  | fn f nf => simp [K.er] at hk
theorem dg_one' {n : Nat} (h1 : 1 ≤ n) (h2 : n < 100) : dg n = [n] := by
  rw [dg_small (by unfold BB; omega), if_neg (by omega)]
theorem lim_calls (n : Nat) (h1 : 1 ≤ n) (h2 : n < 100) (u : Value) (w : World) (hA : ArgOK w u (nz n)) :
    Calls Go.Proofs.Tryd.prog 64 #[u] w fun e w' => ∃ a c, e = .returned (.slice (some a) 1 c) ∧ w'.cell? a = some (.int .u32 (n : Int)) ∧ Below w.heap.size w w' := by
  obtain ⟨t, ht, hv, hm, hl⟩ := hA
  subst hv
  have hd := dg_one' h1 h2
  obtain ⟨_, H⟩ := semV_ok.reg 64 [nz n] (ul false (dg n)) (by decide) (semV_64 n (by rw [hd]; simp))
  have H := H [t] w (Glob.none_at w) (by simp [erL, ht]) ⟨hm, trivial⟩ (fun b hb => hl b (by simpa [cntL] using hb))
  refine Calls.mono H ?_
  rintro e w' ⟨t', rfl, he, hb, hf⟩
  obtain ⟨a, cap, e1, e2, e3, e4, e5⟩ := ul_tree he hf.mem
  rw [hd] at e1 e5
  cases a with
  | none => simp at e2
  | some ad =>
    refine ⟨ad, cap, by rw [e1]; rfl, ?_, hb⟩
    have := e5 ad rfl 0 (by simp)
    simpa [nth, Addr.add] using this
theorem nz_tree {n : Nat} (h1 : 1 ≤ n) (h2 : n < 100) {u : Value} {w : World} (hA : ArgOK w u (nz n)) : ∃ a c, u = .agg #[.slice (some a) 1 c] := by
  obtain ⟨t, ht, hv, hm, hl⟩ := hA
  subst hv
  obtain ⟨k', kids', rfl, hk, hks⟩ := er_eq_nd ht
  cases k' <;> simp [K.er] at hk
  cases kids' with
  | nil => simp [erL] at hks
  | cons t' l =>
    simp only [erL, List.cons.injEq] at hks
    obtain ⟨hks, hl⟩ := hks
    cases l with
    | cons => simp [erL] at hl
    | nil =>
      obtain ⟨k2, kids2, rfl, hk2, hks2⟩ := er_eq_nd (k := .sl (n == 0) 1 (zl (dg n)).length) (kids := gk (eI .u32) (zl (dg n))) hks
      cases k2 with
      | sl d es m =>
        simp only [K.er, K.sl.injEq] at hk2
        obtain ⟨q1, _, q2⟩ := hk2
        rw [dg_one' h1 h2] at q2
        have q2 : m = 1 := q2
        have q1' : d.a.isNone = false := by rw [q1]; simp; omega
        cases hda : d.a with
        | none => rw [hda] at q1'; cases q1'
        | some a => exact ⟨a, d.cap, by simp [val, valL, K.val, hda, q2]⟩
      | im d es m => simp [K.er] at hk2
      | bx d => simp [K.er] at hk2
      | ag => simp [K.er] at hk2
      | tu => simp [K.er] at hk2
      | fn f nf => simp [K.er] at hk2
theorem ArgOK.grew {w w' : World} {u : Value} {d : D} (h : ArgOK w u d) (g : Below w.heap.size w w') : ArgOK w' u d := by
  obtain ⟨t, h1, h2, h3, h4⟩ := h
  exact ⟨t, h1, h2, h3.same fun b hb => g.block b (h4 b hb), fun b hb => Nat.lt_of_lt_of_le (h4 b hb) g.size⟩
/-- The decimal form of a number below 100. -/
def txD (n : Nat) : List UInt8 := if n < 10 then [UInt8.ofNat (48 + n)] else [UInt8.ofNat (48 + n / 10), UInt8.ofNat (48 + n % 10)]
theorem txD_eq {n : Nat} (h : n < 100) : Lib.decDigits n = txD n := by
  unfold txD
  split
  · rename_i h1; exact Lib.decDigits_one h1
  · rename_i h1; exact Lib.decDigits_two h1 h
theorem txD_len (n : Nat) : (txD n).length ≤ 2 ∧ txD n ≠ [] := by
  unfold txD; split <;> simp
theorem str_bytes (l : List UInt8) : Lib.strCells ⟨l.toArray⟩ = Lib.byteCells l := by simp [Lib.strCells, Lib.byteCells]
theorem tx59 (n : Nat) (h1 : 1 ≤ n) (h2 : n < 100) (u : Value) (w : World) (hA : ArgOK w u (nz n)) :
    Calls Go.Proofs.Tryd.prog 59 #[u] w fun e w' => e = .returned (.string ⟨(Lib.decDigits n).toArray⟩) ∧ Below w.heap.size w w' := by
  obtain ⟨a, c, rfl⟩ := nz_tree h1 h2 hA
  go_enter Go.Proofs.Tryd.func59, Go.Proofs.Tryd.ntmps59
  go_wp2_with fail
  have hbA : Below w.heap.size w (w.alloc (.cells #[.slice (some a) 1 c] 28)) := (Below.refl _ _).alloc (Nat.le_refl _) _
  refine (lim_calls n h1 h2 _ _ (hA.grew hbA)).mono ?_
  rintro e w1 ⟨a1, c1, rfl, hc1, hb1⟩
  go_wp2_with fail
  have hlt1 : a1.block < w1.heap.size := cell_lt hc1
  have hc2 : (w1.alloc (.cells #[.pointer none, .slice none 0 0] 110)).cell? a1 = some (.int .u32 (n : Int)) := by
    rw [((Below.refl _ w1).alloc (Nat.le_refl _) _).cell hlt1]; exact hc1
  have hnew : Lib.IsBuilder 110 5 w1.heap.size w1.heap.size [] (w1.alloc (.cells #[.pointer none, .slice none 0 0] 110)) := Lib.fresh_isBuilder 110 5 w1
  have hwu : IntKind.u64.wrap (n : Int) = (n : Int) := wrap64 (by omega)
  have HA := Lib.hid hA
  have HB := Lib.hid hnew
  clear hA hnew
  have hsz : (⟨(Lib.decDigits n).toArray⟩ : ByteArray).size ≤ 2 := by
    rw [txD_eq h2]
    show (txD n).toArray.size ≤ 2
    simpa using (txD_len n).1
  have hbn : Below w1.heap.size w1 (w1.alloc (.cells #[.pointer none, .slice none 0 0] 110)) := (Below.refl _ _).alloc (Nat.le_refl _) _
  have HN := Lib.hid hbn
  have HW := Lib.hid (And.intro hbA hb1)
  clear hbn hbA hb1
  go_loopg [5] 1 (fun r p wr => (r = 1 ∧ p = .int .i64 0 ∧ wr = w1.alloc (.cells #[.pointer none, .slice none 0 0] 110)) ∨
    (r = 0 ∧ p = .int .i64 (-1) ∧ Lib.BuilderAt 110 5 w1.heap.size w1.heap.size (.pointer (some ⟨w1.heap.size, 0, none⟩)) (Lib.strCells ⟨(Lib.decDigits n).toArray⟩) wr ∧ Below w1.heap.size w1 wr))
  case atStart => exact .inl ⟨rfl, rfl, rfl⟩
  case round =>
    rcases hrel with ⟨rfl, rfl, rfl⟩ | ⟨rfl, rfl, hB, hbl⟩
    · go_wp2_with fail
      refine (fm80 n h2 _).mono ?_
      rintro e w3 ⟨rfl, rfl⟩
      go_wp2_with fail
      refine (wr81 w1.heap.size w1.heap.size [] _ _ HB.out (by simp only [List.length_nil]; omega) HN.out.size).mono ?_
      rintro e w4 ⟨rfl, hB4, hb4⟩
      have HB4 := Lib.hid hB4
      have HL4 := Lib.hid (HN.out.trans hb4)
      clear hB4 hb4
      go_wp2_with fail
      go_roundg 0
      case measure => omega
      case rel => exact .inr ⟨rfl, rfl, HB4.out, HL4.out⟩
    · have HB5 : Lib.IsBuilder 110 5 w1.heap.size w1.heap.size (Lib.byteCells (Lib.decDigits n)) wr := .inr (by rw [← str_bytes]; exact hB)
      have HL := Lib.hid hbl
      have HB6 := Lib.hid HB5
      clear hB hbl HB5
      go_wp2_with fail
      refine (st83 w1.heap.size w1.heap.size (Lib.decDigits n) wr HB6.out (by rw [txD_eq h2]; exact (txD_len n).2)).mono ?_
      rintro e w5 ⟨rfl, hb5⟩
      have HL5 := Lib.hid (HL.out.trans hb5)
      clear hb5
      go_wp2_with fail
      go_ret
      refine ⟨rfl, HW.out.1.trans ((HW.out.2.mono HW.out.1.size).trans (HL5.out.mono ?_))⟩
      exact Nat.le_trans HW.out.1.size HW.out.2.size
/-- The functions that are proved by hand: trim, and Text at small numbers. -/
def baseX : Oracle := fun f ds => if f = 59 then match ds with
    | [.nd .ag [.nd (.sl false 1 1) [.v (.int .u32 x)]]] => if 1 ≤ x ∧ x < 100 then some (.v (.string ⟨(txD x.toNat).toArray⟩)) else none
    | _ => none
  else baseV f ds
theorem nz_small {n : Nat} (h1 : 1 ≤ n) (h2 : n < 100) : nz n = .nd .ag [.nd (.sl false 1 1) [.v (.int .u32 (n : Int))]] := by
  have hz : (n == 0) = false := by simp; omega
  show T.nd .ag [ul (n == 0) (dg n)] = _
  rw [hz, dg_one' h1 h2]
  rfl
def Txt59 (call : Oracle) : Prop := ∀ n : Nat, 1 ≤ n → n < 100 → call 59 [nz n] = some (.v (.string ⟨(txD n).toArray⟩))
theorem baseX_at : Txt59 baseX := by
  intro n h1 h2
  rw [nz_small h1 h2]
  unfold baseX
  rw [if_pos rfl]
  show (if 1 ≤ (n : Int) ∧ (n : Int) < 100 then _ else _) = _
  rw [if_pos ⟨by omega, by omega⟩, Int.toNat_natCast]
theorem baseX_85 (b : Bool) (l : List Nat) (hl : l.length < 4611686018427387904) : baseX (85 + vwB) [ul b l] = some (.v (.int .i64 (trn l : Nat))) := by
  unfold baseX
  rw [if_neg (by decide)]
  exact baseV_at b l hl
theorem baseX_vw (g : Glob) : BaseVW Go.Proofs.Tryd.prog g baseX := by
  intro f d0 k n hlt h
  unfold baseX at h
  split at h
  · rename_i hf
    exact absurd hf (by show f + 3145728 ≠ 59; omega)
  · exact baseV_ok g f d0 k n hlt h
theorem baseX_reg (g : Glob) : BaseOK Go.Proofs.Tryd.prog g baseX := by
  intro f ds d hlt h
  unfold baseX at h
  split at h
  case isFalse => exact baseV_reg g f ds d hlt h
  rename_i hf
  subst hf
  split at h
  case h_2 => cases h
  rename_i x
  split at h
  case isFalse => cases h
  rename_i hx
  cases h
  refine ⟨⟨_, _, Go.Proofs.Tryd.func59, by kernel_rfl, rfl⟩, fun l w hg he hm hl => ?_⟩
  obtain ⟨n, rfl⟩ : ∃ n : Nat, x = n := ⟨x.toNat, by omega⟩
  have h1 : 1 ≤ n := by omega
  have h2 : n < 100 := by omega
  rw [← nz_small h1 h2] at he
  match l, he with
  | [t], he =>
    simp only [erL, List.cons.injEq, and_true] at he
    have hA : ArgOK w (val t) (nz n) := ⟨t, he, rfl, hm.1, fun b hb => hl b (by simpa [cntL] using hb)⟩
    refine Calls.mono (tx59 n h1 h2 _ w hA) ?_
    rintro e w' ⟨rfl, hb⟩
    rw [Int.toNat_natCast, txD_eq h2]
    exact ⟨.v (.string ⟨(txD n).toArray⟩), rfl, rfl, hb, trivial, fun b => ⟨by simp [cnt], fun h => absurd rfl h⟩⟩
  | [], he => simp [erL] at he
  | _ :: _ :: _, he => simp [erL] at he
end Go.Mx
namespace Go.Mx
set_option linter.unusedVariables false
set_option linter.unusedSimpArgs false
set_option linter.unusedSectionVars false
open Go

theorem calls_semW {P : Program} {g : Glob} {base : Oracle} (hb : BaseOK P g base) (hv : BaseVW P g base) {tbl : FuncId → Option MF} (ht : ∀ f mf, tbl f = some mf → ∃ hints, compF P hints f = some mf) {fuel n : Nat} {f : FuncId} (hlt : f < ioB) {ds : List D} {v : Value} (h : semW base tbl fuel n f ds = some (.v v))
    {w : World} (hg : g.At w) {us : List Value} (ha : ArgsOK w us ds) : Calls P f us.toArray w fun e w' => e = .returned v ∧ RowKit.Below w.heap.size w w' := by
  obtain ⟨l, h1, h2, h3, h4⟩ := ha
  have := ((semW_ok hb hv ht fuel n).reg f ds (.v v) hlt h).2 l w hg h1 h3 h4
  rw [h2] at this
  refine Calls.mono this ?_
  rintro e w' ⟨t, rfl, he, hb, _⟩
  cases er_eq_v he
  exact ⟨rfl, hb⟩
end Go.Mx
namespace Go.Mx
set_option linter.unusedVariables false
set_option linter.unusedSimpArgs false
set_option linter.unusedSectionVars false
open Go Go.RowKit

theorem nz_tree0 {u : Value} {w : World} (hA : ArgOK w u (nz 0)) : ∃ a c, u = .agg #[.slice a 0 c] := by
  obtain ⟨t, ht, hv, hm, hl⟩ := hA
  subst hv
  obtain ⟨k', kids', rfl, hk, hks⟩ := er_eq_nd ht
  cases k' <;> simp [K.er] at hk
  cases kids' with
  | nil => simp [erL] at hks
  | cons t' l =>
    simp only [erL, List.cons.injEq] at hks
    obtain ⟨hks, hl⟩ := hks
    cases l with
    | cons => simp [erL] at hl
    | nil =>
      obtain ⟨k2, kids2, rfl, hk2, hks2⟩ := er_eq_nd (k := .sl true 1 0) (kids := []) hks
      cases k2 with
      | sl d es m =>
        simp only [K.er, K.sl.injEq] at hk2
        obtain ⟨q1, _, q2⟩ := hk2
        exact ⟨d.a, d.cap, by simp [val, valL, K.val, q2]⟩
      | im d es m => simp [K.er] at hk2
      | bx d => simp [K.er] at hk2
      | ag => simp [K.er] at hk2
      | tu => simp [K.er] at hk2
      | fn f nf => simp [K.er] at hk2
theorem lim_calls0 (u : Value) (w : World) (hA : ArgOK w u (nz 0)) :
    Calls Go.Proofs.Tryd.prog 64 #[u] w fun e w' => ∃ a c, e = .returned (.slice a 0 c) ∧ Below w.heap.size w w' := by
  obtain ⟨t, ht, hv, hm, hl⟩ := hA
  subst hv
  obtain ⟨_, H⟩ := semV_ok.reg 64 [nz 0] (ul false (dg 0)) (by decide) (semV_64 0 (by decide))
  have H := H [t] w (Glob.none_at w) (by simp [erL, ht]) ⟨hm, trivial⟩ (fun b hb => hl b (by simpa [cntL] using hb))
  refine Calls.mono H ?_
  rintro e w' ⟨t', rfl, he, hb, hf⟩
  obtain ⟨a, cap, e1, e2, e3, e4, e5⟩ := ul_tree he hf.mem
  exact ⟨a, cap, by rw [e1]; rfl, hb⟩
theorem tx59z (u : Value) (w : World) (hA : ArgOK w u (nz 0)) :
    Calls Go.Proofs.Tryd.prog 59 #[u] w fun e w' => e = .returned (.string ⟨#[48]⟩) ∧ Below w.heap.size w w' := by
  obtain ⟨a, c, rfl⟩ := nz_tree0 hA
  go_enter Go.Proofs.Tryd.func59, Go.Proofs.Tryd.ntmps59
  go_wp2_with fail
  have hbA : Below w.heap.size w (w.alloc (.cells #[.slice a 0 c] 28)) := (Below.refl _ _).alloc (Nat.le_refl _) _
  refine (lim_calls0 _ _ (hA.grew hbA)).mono ?_
  rintro e w1 ⟨a1, c1, rfl, hb1⟩
  go_wp2_with fail
  go_ret
  exact ⟨rfl, hbA.trans (hb1.mono hbA.size)⟩
/-- As baseX, and the text of zero. -/
def baseZ : Oracle := fun f ds => if f = 59 then match ds with
    | [.nd .ag [.nd (.sl true 1 0) []]] => some (.v (.string ⟨#[48]⟩))
    | _ => baseX f ds
  else baseX f ds
theorem baseZ_vw (g : Glob) : BaseVW Go.Proofs.Tryd.prog g baseZ := by
  intro f d0 k n hlt h
  unfold baseZ at h
  split at h
  · rename_i hf
    exact absurd hf (by show f + 3145728 ≠ 59; omega)
  · exact baseX_vw g f d0 k n hlt h
theorem baseZ_reg (g : Glob) : BaseOK Go.Proofs.Tryd.prog g baseZ := by
  intro f ds d hlt h
  unfold baseZ at h
  split at h
  case isFalse => exact baseX_reg g f ds d hlt h
  rename_i hf
  subst hf
  split at h
  case h_2 => exact baseX_reg g 59 _ d hlt h
  cases h
  refine ⟨⟨_, _, Go.Proofs.Tryd.func59, by kernel_rfl, rfl⟩, fun l w hg he hm hl => ?_⟩
  change erL l = [nz 0] at he
  match l, he with
  | [t], he =>
    simp only [erL, List.cons.injEq, and_true] at he
    have hA : ArgOK w (val t) (nz 0) := ⟨t, he, rfl, hm.1, fun b hb => hl b (by simpa [cntL] using hb)⟩
    refine Calls.mono (tx59z _ w hA) ?_
    rintro e w' ⟨rfl, hb⟩
    exact ⟨.v (.string ⟨#[48]⟩), rfl, rfl, hb, trivial, fun b => ⟨by simp [cnt], fun h => absurd rfl h⟩⟩
  | [], he => simp [erL] at he
  | _ :: _ :: _, he => simp [erL] at he
end Go.Mx
