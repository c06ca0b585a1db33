import Derived.Test.YtigplgminjhgmaaJoJ
/-
  Journals: the functions at depths.
-/
namespace Go.Mx
set_option linter.unusedVariables false
set_option linter.unusedSimpArgs false
set_option linter.unusedSectionVars false
open Go
noncomputable abbrev S (n : Nat) : Oracle := sem tbl 21000 n
theorem s39 (k : Nat) (b : Bool) (l : List Nat) (hb : By l) (hl : l.length ≤ 20000) : S (k + 1) 39 [gsl (eI .u8) b (zl l)] = some (.v (.int .u32 ((adler l : Nat) : Int))) := by
  rw [S, sem_succ (mf := c39) rfl]; exact f39 _ _ (by decide) b l hb hl
theorem s41 (k : Nat) (b : Bool) (l : List Nat) (hb : By l) (hl : l.length ≤ 20000) : S (k + 1) 41 [gsl (eI .u8) b (zl l)] = some (.v (.int .u32 ((adler l : Nat) : Int))) := by
  rw [S, sem_succ (mf := c41) rfl]; exact f41 _ _ (by decide) b l hb hl
theorem s38 (k : Nat) (x n : Nat) (hn : n ≤ 8) : S (k + 1) 38 [.v (.int .u64 (x : Int)), .v (.int .i64 (n : Int))] = some (gsl (eI .u8) false (zl (bigL x n))) := by
  rw [S, sem_succ (mf := c38) rfl]; exact f38 _ _ (by decide) x n hn
theorem s40 (k : Nat) (x n : Nat) (hx : x < 18446744073709551616) (hn : n ≤ 8) : S (k + 1) 40 [.v (.int .u64 (x : Int)), .v (.int .i64 (n : Int))] = some (gsl (eI .u8) false (zl (bigL x n))) := by
  rw [S, sem_succ (mf := c40) rfl]; exact f40 _ _ (by decide) x n hx hn
theorem s43 (k : Nat) (b : Bool) (l : List Nat) (hb : By l) (hl : l.length ≤ 8) : S (k + 1) 43 [gsl (eI .u8) b (zl l)] = some (.v (.int .u64 ((valF l : Nat) : Int))) := by
  rw [S, sem_succ (mf := c43) rfl]; exact f43 _ _ (by decide) b l hb hl
theorem s44 (k : Nat) (b : Bool) (l : List Nat) (hb : By l) (hl : l.length ≤ 8) : S (k + 1) 44 [gsl (eI .u8) b (zl l)] = some (.v (.int .u64 ((valF l : Nat) : Int))) := by
  rw [S, sem_succ (mf := c44) rfl]; exact f44 _ _ (by decide) b l hb hl
theorem s32 (k : Nat) (l : List Nat) (hl : l.length ≤ 20000) : S (k + 1) 32 [su8 false l] = some (su8 false l) := by
  rw [S, sem_succ (mf := c32) rfl]; exact f32 _ _ false l (by simp) hl
theorem s22 (k : Nat) (b c : Bool) (l m : List Nat) (hl : By l) (hm : By m) : S (k + 1) 22 [su8 b l, su8 c m] = some (bV (l == m)) := by
  rw [S, sem_succ (mf := c22) rfl]; exact f22 _ _ b c l m hl hm
theorem s22r (k : Nat) (b c : Bool) (l : List Nat) (hl : By l) : S (k + 1) 22 [su8 b l, su8 c l] = some (bV true) := by
  rw [s22 k b c l l hl hl]; simp
theorem s42 (k : Nat) (l : List Nat) (hl : By l) (h5 : 5 ≤ l.length) : S (k + 1) 42 [txV l, magV] = some (bV (l.take 5 == magL)) := by
  rw [S, sem_succ (mf := c42) rfl]; exact f42 _ _ l hl h5
theorem s33 (k : Nat) (l : List Nat) (hl : By l) (h5 : 5 ≤ l.length) : S (k + 2) 33 [txV l, magV] = some (bV (l.take 5 == magL)) := by
  rw [S, sem_succ (mf := c33) rfl]; exact f33 _ _ l _ (s42 k l hl h5)
theorem s12 (k : Nat) : S (k + 1) 12 [] = some (jD true []) := by
  rw [S, sem_succ (mf := c12) rfl]; exact f12 _ _
theorem s13 (k : Nat) : S (k + 1) 13 [] = some (wD true []) := by
  rw [S, sem_succ (mf := c13) rfl]; exact f13 _ _
theorem s21 (k : Nat) (b : Bool) (es : ES) : S (k + 1) 21 [jD b es] = some (nV es.length) := by
  rw [S, sem_succ (mf := c21) rfl]; exact f21 _ _ b es
theorem s30 (k : Nat) (b : Bool) (es : ES) : S (k + 1) 30 [wD b es] = some (nV es.length) := by
  rw [S, sem_succ (mf := c30) rfl]; exact f30 _ _ b es
theorem s37 (k : Nat) (b : Bool) (l : List Int) (hb : b = true → l = []) (hl : l.length ≤ 20000) : S (k + 1) 37 [gsl (eI .i64) b l] = some (gsl (eI .i64) b l) := by
  rw [S, sem_succ (mf := c37) rfl]; exact f37 _ _ b l hb hl
theorem s36 (k : Nat) (b : Bool) (es : ES) (i : Nat) (hi : i ≤ es.length) (hl : es.length ≤ 10000) : S (k + 1) 36 [jD b es, nV i] = some (nV (bgN es i)) := by
  rw [S, sem_succ (mf := c36) rfl]; exact f36 _ _ b es i hi hl
theorem s31 (k : Nat) (b : Bool) (es : ES) (i : Int) (hd : ∀ e ∈ es, e.2.length ≤ 8192) : S (k + 1) 31 [wD b es, nV i] = some (enD es i) := by
  rw [S, sem_succ (mf := c31) rfl]; exact f31 _ _ b es i hd
theorem s11 (k : Nat) (b : Bool) (l : List EN) : S (k + 1) 11 [sE b l] = some (bV (fewB l)) := by
  rw [S, sem_succ (mf := c11) rfl]; exact f11 _ _ (by decide) b l
theorem s27 (k : Nat) (b : Bool) (x : Nat) (d : List Nat) (hx : x < 256) (hb : By d) (hd : d.length ≤ 10000) : S (k + 2) 27 [kV x, su8 b d] = some (sealD x d) := by
  rw [S, sem_succ (mf := c27) rfl]
  exact f27 _ _ b x d (by omega) (fun _ => s39 k false _ (By.body hx hb) (by rw [body_len]; omega)) (s38 k _ 4 (by omega))
theorem s28 (k : Nat) (b : Bool) (x : Nat) (d : List Nat) (hx : x < 256) (hb : By d) (hd : d.length ≤ 10000) : S (k + 2) 28 [kV x, su8 b d] = some (sealD x d) := by
  rw [S, sem_succ (mf := c28) rfl]
  exact f28 _ _ b x d (by omega) (fun _ => s41 k false _ (By.body hx hb) (by rw [body_len]; omega)) (s40 k)
theorem s34 (k : Nat) (l : List Nat) (hb : By l) (hl : l.length ≤ 20000) : S (k + 2) 34 [su8 false l] = some (opnD l) := by
  rw [S, sem_succ (mf := c34) rfl]; exact f34 _ _ false l hb hl (by simp) (s39 k) (s43 k) (s32 k)
theorem s35 (k : Nat) (l : List Nat) (hb : By l) (hl : l.length ≤ 20000) : S (k + 2) 35 [su8 false l] = some (opnD l) := by
  rw [S, sem_succ (mf := c35) rfl]; exact f35 _ _ false l hb hl (by simp) (s41 k) (s44 k)
theorem s18 (k : Nat) (b : Bool) (es : ES) (h : (jbL es).length ≤ 20000) : S (k + 2) 18 [jD b es] = some (su8 false (jbL es)) := by
  rw [S, sem_succ (mf := c18) rfl]; exact f18 _ _ b es (s32 k _ h)
theorem je_nil' {b : Bool} {es : ES} (h : b = true → es = []) : b = true → zl (jeL es) = [] := by
  intro hb; rw [h hb]; rfl
theorem s25 (k : Nat) (b : Bool) (es : ES) (hb : b = true → es = []) (h : (jbL es).length ≤ 20000) (hl : es.length ≤ 10000) : S (k + 2) 25 [jD b es] = some (jD b es) := by
  rw [S, sem_succ (mf := c25) rfl]; exact f25 _ _ b es (s32 k _ h) (s37 k b _ (je_nil' hb) (by simp; omega))
theorem s26 (k : Nat) (b : Bool) (es : ES) (hes : OkJ es) (hl : es.length ≤ 10000) (i : Int) : S (k + 3) 26 [jD b es, nV i] = some (enD es i) := by
  rw [S, sem_succ (mf := c26) rfl]
  refine f26 _ _ b es hl i (fun i hi => s36 (k + 1) b es i hi hl) (fun l h => s32 (k + 1) l (by omega)) (fun e he => ?_) (fun e he => (hes.by8 e he).2.2)
  obtain ⟨h1, h2, h3⟩ := hes.by8 e he
  refine (s34 k _ (By.sealL h1 h2) (by rw [seal_len]; omega)).trans ?_
  have := open_seal e.1 e.2 [] h3
  rw [List.append_nil] at this
  rw [this]
theorem s29 (k : Nat) (b : Bool) (es : ES) (hes : OkJ es) (hl : es.length ≤ 10000) : S (k + 3) 29 [wD b es] = some (su8 false (jbL es)) := by
  rw [S, sem_succ (mf := c29) rfl]
  exact f29 _ _ (by decide) b es hes hl fun e he => s28 k false e.1 e.2 (hes.by8 e he).1 (hes.by8 e he).2.1 (by have := (hes.by8 e he).2.2; omega)
theorem s14 (k : Nat) (b bd : Bool) (es : ES) (x : Nat) (d : List Nat) (h1 : (jbL es).length ≤ 65536) (hl : es.length ≤ 10000) (hx : x < 256) (hb : By d) (hd : d.length ≤ 10000) : S (k + 3) (14 + ioB) [jD b es, kV x, su8 bd d] = some (apJ b es x d) := by
  rw [S, sem_io (mf := c14) rfl (by decide)]
  exact f14 _ _ b bd es h1 x d hl (s27 k bd x d hx hb hd)
theorem s15 (k : Nat) (b bd : Bool) (es : ES) (x : Nat) (d : List Nat) (hes : OkJ es) (hl : es.length ≤ 10000) (hx : x < 256) (hb : By d) (hd : d.length ≤ 10000) : S (k + 4) (15 + ioB) [wD b es, kV x, su8 bd d] = some (apW b es x d) := by
  rw [S, sem_io (mf := c15) rfl (by decide)]
  exact f15 _ _ b bd es hes.len x d hl (s28 (k + 1) bd x d hx hb hd) (s29 k b es hes hl)
theorem apOK (k : Nat) : ApOK (S (k + 4)) := ⟨fun b bd es x d h1 hl hx hb hd => s14 (k + 1) b bd es x d h1 hl hx hb hd, fun b bd es x d hes hl hx hb hd => s15 k b bd es x d hes hl hx hb hd⟩
theorem s17 (k : Nat) (b : Bool) (l : List EN) (hb : ByE l) (hf : fewB l = true) : S (k + 5) 17 [sE b l] = some (.nd .tu [jD (l.length == 0) (esL l), wD (l.length == 0) (esL l)]) := by
  rw [S, sem_succ (mf := c17) rfl]
  exact f17 _ _ (by decide) (apOK k) (s12 (k + 3)) (s13 (k + 3)) b l hb hf
theorem s23 (k : Nat) (b : Bool) (es : ES) (hb : b = true → es = []) (n : Int) (hl : es.length ≤ 10000) : S (k + 2) (23 + ioB) [jD b es, nV n] = some (ctD b es n) := by
  rw [S, sem_io (mf := c23) rfl (by decide)]
  exact f23 _ _ b es hb n fun i hi => s36 k b es i hi hl
theorem s24 (k : Nat) (b : Bool) (es : ES) (hb : b = true → es = []) (n : Int) (hl : es.length ≤ 10000) : S (k + 1) (24 + ioB) [wD b es, nV n] = some (ctW b es n) := by
  rw [S, sem_io (mf := c24) rfl (by decide)]
  exact f24 _ _ b es hb n hl
theorem s19 (k : Nat) (b : Bool) (l : List Nat) (hbl : b = true → l = []) (hb : By l) (hl : l.length ≤ 10000) : S (k + 3) 19 [su8 b l] = some (opJ l) := by
  rw [S, sem_succ (mf := c19) rfl]
  exact f19 _ _ (by decide) b l hbl hb hl (s34 k) (s33 k l hb) (s12 (k + 1))
theorem s20 (k : Nat) (b : Bool) (l : List Nat) (hbl : b = true → l = []) (hb : By l) (hl : l.length ≤ 10000) : S (k + 3) 20 [su8 b l] = some (opW l) := by
  rw [S, sem_succ (mf := c20) rfl]
  exact f20 _ _ (by decide) b l hbl hb hl (s35 k) (s13 (k + 1))
theorem By.jb {es : ES} (h : ∀ e ∈ es, e.1 < 256 ∧ By e.2 ∧ e.2.length ≤ 8192) : By (jbL es) := by
  unfold jbL
  refine By.app byMag ?_
  intro x hx
  obtain ⟨e, he, hx⟩ := List.mem_flatMap.1 hx
  exact By.sealL (h e he).1 (h e he).2.1 x hx
theorem s16 (k : Nat) (b c : Bool) (es : ES) (hes : OkJ es) (hl : es.length ≤ 10000) (h : (jbL es).length ≤ 20000) : S (k + 4) 16 [jD b es, wD c es] = some (bV true) := by
  rw [S, sem_succ (mf := c16) rfl]
  refine f16 _ _ (by decide) (jD b es) (wD c es) es.length hl (jbL es) false (enD es) (.inr ⟨⟨_, rfl⟩, _, rfl⟩) (s21 (k + 2) b es) (s30 (k + 2) c es) (s18 (k + 1) b es h) (s29 k c es hes hl) (s22r (k + 2) false false _ (By.jb hes.by8)) (s26 k b es hes hl) (fun i => s31 (k + 2) c es i fun e he => (hes.by8 e he).2.2) fun i => ?_
  obtain ⟨x, bb, d, e, e1, e2, e3⟩ := enD_eq es i
  refine ⟨x, bb, d, e, e1, s22r (k + 2) bb bb d ?_⟩
  rcases e3 with e3 | ⟨_, rfl⟩
  · exact (hes.by8 _ e3).2.1
  · intro x hx; cases hx
theorem s16n (k : Nat) : S (k + 4) 16 [ptr0, ptr0] = some (bV true) := by
  rw [S, sem_succ (mf := c16) rfl]
  refine f16 _ _ (by decide) ptr0 ptr0 0 (by omega) [] true (fun _ => enN) (.inl ⟨rfl, rfl⟩) ?_ ?_ ?_ ?_ (s22r (k + 2) true true [] (by simp [By])) (fun i => ?_) (fun i => ?_) fun i => ⟨0, true, [], 1, rfl, s22r (k + 2) true true [] (by simp [By])⟩
  · rw [sem_succ (mf := c21) rfl]; exact f21n _ _
  · rw [sem_succ (mf := c30) rfl]; exact f30n _ _
  · rw [sem_succ (mf := c18) rfl]; exact f18n _ _
  · rw [sem_succ (mf := c29) rfl]; exact f29n _ _
  · rw [sem_succ (mf := c26) rfl]; exact f26n _ _ i
  · rw [sem_succ (mf := c31) rfl]; exact f31n _ _ i
end Go.Mx
