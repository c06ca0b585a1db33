import Derived.Test.YtgbikojcpfdbiaaPoE
/-
  Order: the program's.
-/
namespace Go.Mx
set_option linter.unusedVariables false
set_option linter.unusedSimpArgs false
set_option linter.unusedSectionVars false
open Go

def addNeed (g : Nat → Nat) (p : Nat × Nat) : Nat → Nat := updF g p.2 (g p.2 ||| pw p.1)
def needG (a : NA) : Nat → Nat := a.foldl addNeed fun _ => 0
def swapA (a : NA) : NA := a.map fun p => (p.2, p.1)
theorem need_next (a : NA) : needG a = nextG (swapA a) := by
  unfold needG nextG swapA
  rw [List.foldl_map]; rfl
theorem need_lt {n : Nat} (hn : n ≤ 32) {a : NA} (h : ∀ p ∈ a, p.1 < n ∧ p.2 < n) (i : Nat) : needG a i < 2 ^ 32 := by
  rw [need_next]
  refine nextG_lt hn (fun p hp => ?_) i
  obtain ⟨q, hq, rfl⟩ := List.mem_map.1 hp
  exact ⟨(h q hq).2, (h q hq).1⟩

theorem next_bit (a : NA) (i j : Nat) : (nextG a i).testBit j = a.contains (i, j) := by
  suffices ∀ (a : NA) (g : Nat → Nat), (a.foldl addArc g i).testBit j = ((g i).testBit j || a.contains (i, j)) by
    have := this a fun _ => 0
    rw [Nat.zero_testBit, Bool.false_or] at this
    exact this
  intro a
  induction a with
  | nil => intro g; simp
  | cons p a ih =>
    intro g
    rw [List.foldl_cons, ih, List.contains_cons]
    obtain ⟨f, t⟩ := p
    simp only [addArc, updF]
    by_cases h : i = f
    · subst h
      rw [if_pos rfl, Nat.testBit_or, pw_bit]
      by_cases h2 : t = j
      · subst h2; simp
      · have h3 : ¬ j = t := fun e => h2 e.symm
        have h4 : ((i, j) == (i, t)) = false := by simp [h3]
        rw [h4]; simp [h2]
    · rw [if_neg h]
      have : ((i, j) == (f, t)) = false := by simp [h]
      rw [this, Bool.false_or]

theorem need_bit (a : NA) (v u : Nat) : (needG a v).testBit u = a.contains (u, v) := by
  rw [need_next, next_bit]
  simp only [swapA, List.contains_eq_any_beq, List.any_map]
  congr 1
  funext p
  obtain ⟨f, t⟩ := p
  simp only [Function.comp]
  rw [Bool.eq_iff_iff]
  simp
  omega

def doneM (out : List Nat) : Nat := out.foldl (fun m v => m ||| pw v) 0
theorem done_snoc (out : List Nat) (v : Nat) : doneM (out ++ [v]) = doneM out ||| pw v := by simp [doneM]
theorem done_bit (out : List Nat) (k : Nat) : (doneM out).testBit k = out.contains k := by
  suffices ∀ (out : List Nat) (m : Nat), (out.foldl (fun m v => m ||| pw v) m).testBit k = (m.testBit k || out.contains k) by
    have := this out 0
    simpa [doneM] using this
  intro out
  induction out with
  | nil => intro m; simp
  | cons v out ih =>
    intro m
    rw [List.foldl_cons, ih, Nat.testBit_or, pw_bit, List.contains_cons, Bool.or_assoc]
    congr 2
    rw [Bool.eq_iff_iff]; simp
    exact eq_comm
theorem done_lt {n : Nat} (hn : n ≤ 32) {out : List Nat} (h : ∀ v ∈ out, v < n) : doneM out < 2 ^ 32 := by
  suffices ∀ (out : List Nat) (m : Nat), (∀ v ∈ out, v < n) → m < 2 ^ 32 → out.foldl (fun m v => m ||| pw v) m < 2 ^ 32 from this out 0 h (by decide)
  intro out
  induction out with
  | nil => intro m _ hm; exact hm
  | cons v out ih =>
    intro m h hm
    exact ih _ (fun w hw => h w (List.mem_cons_of_mem _ hw)) (Nat.or_lt_two_pow hm (pw_lt (by have := h v (List.mem_cons_self ..); omega)))

theorem free_bits (a : NA) (out : List Nat) (k : Nat) : freeB a out k = (!(doneM out).testBit k && decide (andN (needG a k) (doneM out) = 0)) := by
  unfold freeB
  rw [done_bit]
  congr 1
  rw [Bool.eq_iff_iff, List.all_eq_true, decide_eq_true_eq]
  constructor
  · intro h
    apply Nat.eq_of_testBit_eq
    intro u
    rw [andN_bit, need_bit, done_bit, Nat.zero_testBit]
    by_cases hc : a.contains (u, k) = true
    · have := h (u, k) (by simpa using hc)
      simp at this
      simp [this]
    · simp at hc
      simp [hc]
  · intro h p hp
    have := congrArg (fun x => x.testBit p.1) h
    simp only [andN_bit, need_bit, done_bit, Nat.zero_testBit] at this
    by_cases h2 : p.2 = k
    · have hc : a.contains (p.1, k) = true := by rw [← h2]; simpa using hp
      rw [hc] at this
      simp at this
      simp [this]
    · simp [h2]

theorem loop11_0 (call : Oracle) (fuel : Nat) (b : Bool) (n : Nat) (hn : n ≤ 24) (a : NA) (hv : ∀ p ∈ a, p.1 < n ∧ p.2 < n) (hl : a.length ≤ 1000) (fu : Nat) (hf : 1000 < fu) (st : St)
    (h0 : drops st h11_0 = L11_0 (ii n) (.ro (sa b (arcsZ a))) (.own (su n fun _ => 0)) (.ro (sa b (arcsZ a))) (ii a.length) (ii 0)) :
    run.loopN (run call fuel b11_0) fu st = some (.ex 0, X11_0 (ii n) (.own (su n (needG a)))) := by
  refine loop_cnt call fuel h11_0 _ a.length (fun i => L11_0 (ii n) (.ro (sa b (arcsZ a))) (.own (su n (needG (a.take i)))) (.ro (sa b (arcsZ a))) (ii a.length) (ii i)) _ (by simp) ?_ (by simp) fu st h0 (by omega)
  intro i hi
  have hw := wrap_succ (i := i) (by omega)
  obtain ⟨h1, h2⟩ := hv _ (nth_mem (0, 0) hi)
  have hs : needG (a.take (i + 1)) = _ := foldl_take addNeed _ (0, 0) hi
  have hb : ∀ j, needG (a.take i) j < 2 ^ 32 := need_lt (n := n) (by omega) fun p hp => hv p (List.mem_of_mem_take hp)
  rw [hs]
  change _ = some (Ex.norm, L11_0 _ _ (.own (su n (addNeed (needG (a.take i)) (nth a (0, 0) i)))) _ _ _)
  generalize needG (a.take i) = g at *
  generalize hp : nth a (0, 0) i = p at *
  obtain ⟨f, t⟩ := p
  simp only at h1 h2
  have e1 := zr_nth n g h2
  have e2 := bits_shl1 .u32 (t := f) (Nat.lt_of_lt_of_le h1 (Nat.le_trans hn (by decide)))
  have e3 := bits_or .u32 (hb t) (b := pw f) (pw_lt (m := 32) (by omega))
  simp [hi, hw, hp, h1, h2, e1, e2, e3, addNeed]

theorem loop11_2 (call : Oracle) (fuel : Nat) (n : Nat) (hn : n ≤ 24) (a : NA) (hv : ∀ p ∈ a, p.1 < n ∧ p.2 < n) (out : List Nat) (ho : ∀ v ∈ out, v < n) (h28 : Bit28 call) (fu : Nat) (hf : 1000 < fu) (st : St)
    (h0 : drops st h11_2 = L11_2 (ii n) (.own (su n (needG a))) (uu (doneM out : Nat)) (.own (so out)) (ii 0)) :
    run.loopN (run call fuel b11_2) fu st = some (.ex 4, X11_4 (ii n) (.own (su n (needG a))) (uu (doneM out : Nat)) (.own (so out)) (ii (((List.range n).find? (freeB a out)).elim (n : Int) (fun v => (v : Int))))) := by
  have key : run.loopN (run call fuel b11_2) fu st = some (((List.range n).find? (freeB a out)).elim (.ex 4, X11_4 (ii n) (.own (su n (needG a))) (uu (doneM out : Nat)) (.own (so out)) (ii n)) (fun i => (.ex 4, X11_4 (ii n) (.own (su n (needG a))) (uu (doneM out : Nat)) (.own (so out)) (ii i)))) := by
   refine loop_find call fuel h11_2 _ n (freeB a out) (fun i => L11_2 (ii n) (.own (su n (needG a))) (uu (doneM out : Nat)) (.own (so out)) (ii i))
    (fun i => (.ex 4, X11_4 (ii n) (.own (su n (needG a))) (uu (doneM out : Nat)) (.own (so out)) (ii i))) (.ex 4, X11_4 (ii n) (.own (su n (needG a))) (uu (doneM out : Nat)) (.own (so out)) (ii n)) (by simp) (by simp) ?_ (by simp) fu st h0 (by omega)
   · intro i hi _
     have hw := wrap_succ (i := i) (by omega)
     have hd := done_lt (n := n) (by omega) ho
     have hg := need_lt (n := n) (by omega) hv i
     have e1 := h28 (doneM out) i hd (by omega)
     have e2 := zr_nth n (needG a) hi
     have e3 := bits_andN .u32 hg hd
     rw [free_bits]
     generalize doneM out = m at *
     generalize needG a = g at *
     cases c1 : m.testBit i <;> rw [c1] at e1
     · by_cases c2 : andN (g i) m = 0
       · rw [c2] at e3
         simp [hi, hw, e1, e2, e3, c2]
       · simp [hi, hw, e1, e2, e3, c2]
     · simp [hi, hw, e1]
  rw [key]
  cases (List.range n).find? (freeB a out) <;> rfl

theorem loop11_1 (call : Oracle) (fuel : Nat) (n : Nat) (hn : n ≤ 24) (a : NA) (hv : ∀ p ∈ a, p.1 < n ∧ p.2 < n) (h28 : Bit28 call) (hf : 1000 < fuel) (st : St)
    (h0 : drops st h11_1 = L11_1 (ii n) (.own (su n (needG a))) (uu 0) (.own (so []))) :
    run.loopN (run call fuel b11_1) fuel st = some ((ordR n a []).elim (.ret, R11 (.own (.nd (.sl true 1 0) [])) (ii 11)) (fun l => (.ex 2, X11_2 (.own (so l))))) := by
  refine loop_iter call fuel h11_1 _ (fun out : List Nat => out.length ≤ n ∧ ∀ v ∈ out, v < n) (fun out => L11_1 (ii n) (.own (su n (needG a))) (uu (doneM out : Nat)) (.own (so out))) (fun out => n - out.length)
    (fun out => if out.length < n then (match (List.range n).find? (freeB a out) with | some v => .inl (out ++ [v]) | none => .inr (.ret, R11 (.own (.nd (.sl true 1 0) [])) (ii 11))) else .inr (.ex 2, X11_2 (.own (so out))))
    (fun out => (ordR n a out).elim (.ret, R11 (.own (.nd (.sl true 1 0) [])) (ii 11)) (fun l => (.ex 2, X11_2 (.own (so l))))) ?_ ?_ ?_ fuel [] st ⟨Nat.zero_le _, by simp⟩ h0 (by simp; omega)
  · rintro out ⟨ho, hov⟩
    by_cases hlt : out.length < n
    · have e := loop11_2 call fuel n hn a hv out hov h28 fuel hf
      have hm : out.length + 1 ≤ most := by unfold most; omega
      simp only [if_pos hlt]
      simp [hlt]
      rw [e _ (by simp)]
      cases hq : (List.range n).find? (freeB a out) with
      | none => simp
      | some v =>
        have hvn : v < n := List.mem_range.1 (List.mem_of_find?_eq_some hq)
        have hd := done_lt (n := n) (by omega) hov
        have e2 := bits_shl1 .u32 (t := v) (Nat.lt_of_lt_of_le hvn (Nat.le_trans hn (by decide)))
        have e3 := bits_or .u32 hd (b := pw v) (pw_lt (m := 32) (by omega))
        have e4 : ¬ (v : Int) = (n : Int) := by omega
        simp [hm, so_snoc, e2, e3, e4, done_snoc]
    · simp only [if_neg hlt]
      simp [hlt]
  · rintro out out' ⟨ho, hov⟩ hs
    split at hs
    · rename_i hlt
      split at hs
      · rename_i v hv
        cases hs
        have hvn : v < n := List.mem_range.1 (List.mem_of_find?_eq_some hv)
        refine ⟨⟨by simp; omega, ?_⟩, by simp; omega, ?_⟩
        · intro w hw
          rcases List.mem_append.1 hw with h | h
          · exact hov w h
          · simp at h; omega
        · have : n - out.length = (n - (out ++ [v]).length) + 1 := by simp; omega
          simp only [ordR]
          rw [this, ordL, hv]
      · cases hs
    · cases hs
  · rintro out r ⟨ho, hov⟩ hs
    split at hs
    · rename_i hlt
      split at hs
      · cases hs
      · rename_i hv
        cases hs
        refine ⟨?_, by simp⟩
        have : n - out.length = (n - out.length - 1) + 1 := by omega
        simp only [ordR]
        rw [this, ordL, hv]
        rfl
    · rename_i hlt
      cases hs
      refine ⟨?_, by simp⟩
      have : n - out.length = 0 := by omega
      simp only [ordR]
      rw [this]
      rfl

theorem f11 (call : Oracle) (fuel : Nat) (hf : 1000 < fuel) (b : Bool) (n : Int) (a : List (Int × Int)) (hl : a.length ≤ 1000) (h28 : Bit28 call)
    (h20 : call 20 [.v (.int .i64 n), sa b a] = some (.v (.bool (validB n a)))) : callF call fuel c11 [.v (.int .i64 n), sa b a] = some (ordD n a) := by
  rw [callF_tab call fuel c11 21 _ (by exact Nat.le_of_ble_eq_true rfl) (by exact Nat.le_of_ble_eq_true rfl)]
  by_cases hv : validB n a = true
  · obtain ⟨k, rfl, hk, ha, hp⟩ := valid_nat hv
    have hp' : ∀ p ∈ natA a, p.1 < k ∧ p.2 < k := fun p h => ⟨(hp p h).1, (hp p h).2.1⟩
    have e := loop11_0 call fuel b k hk (natA a) hp' (by simpa [natA] using hl) fuel hf
    have e2 := loop11_1 call fuel k hk (natA a) hp' h28 hf
    have hz : List.replicate k (0 : Int) = zr k fun _ => 0 := row_rep k 0
    have hm : k ≤ most := by unfold most; omega
    have hlen : (natA a).length = a.length := by simp [natA]
    rw [← ha, hlen] at e
    rw [hv] at h20
    unfold ordD
    rw [if_pos hv]
    simp [c11, h20, hz, hm]
    rw [e _ (by simp)]
    simp
    rw [e2 _ (by simp; rfl)]
    cases ordR k (natA a) [] with
    | none => simp; rfl
    | some l => simp
  · have hv' : validB n a = false := by simpa using hv
    rw [hv'] at h20
    unfold ordD
    rw [if_neg hv]
    simp [c11, h20]
    rfl

end Go.Mx
