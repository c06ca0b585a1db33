import Derived.Test.YthahhbbfhohhfaaMgJ
import Derived.Test.YthahhbbfhohhfaaMgL
/-
  Posets: the functions (from the texts of chapter 6,with the numbers of this program).
-/
namespace Go.Mx
set_option linter.unusedVariables false
set_option linter.unusedSimpArgs false
set_option linter.unusedSectionVars false
open Go
theorem loop38 (call : Oracle) (fuel : Nat) (b : Bool) (n : Int) (a : List (Int × Int)) (hl : a.length ≤ 1000) (fu : Nat) (hf : 1000 < fu) (st : St) (h0 : drops st h38_0 = L38_0 (ii n) (.ro (sa b a)) (.ro (sa b a)) (ii a.length) (ii 0)) :
    run.loopN (run call fuel b38_0) fu st = some (if (List.range a.length).any (fun i => !okA n a i) = true then (.ret,R38 (bb false)) else (.ex 0,X38_0)):=by
  refine loop_any call fuel h38_0 _ a.length (fun i => !okA n a i) (fun i => L38_0 (ii n) (.ro (sa b a)) (.ro (sa b a)) (ii a.length) (ii i)) (.ret,R38 (bb false)) (.ex 0,X38_0) (by simp) (by simp) ?_ (by simp) fu st h0 (by omega)
  intro i hi _
  have hw:=wrap_succ (i:=i) (by omega)
  have hp:=wrap_pred (i:=i) (by omega)
  have hi' : i - 1 < a.length:=by omega
  simp [hi,hw,hp,hi']
  unfold okA
  generalize nth a (0,0) i = p
  generalize nth a (0,0) (i - 1) = q
  grind
theorem f38 (call : Oracle) (fuel : Nat) (hf : 1000 < fuel) (b : Bool) (n : Int) (a : List (Int × Int)) (hl : a.length ≤ 1000) : callF call fuel c38 [.v (.int .i64 n),sa b a] = some (.v (.bool (validB n a))):=by
  have e:=loop38 call fuel b n a hl fuel hf
  rw [callF_tab call fuel c38 16 _ (by exact Nat.le_of_ble_eq_true rfl) (by exact Nat.le_of_ble_eq_true rfl)]
  simp [c38]
  rw [e _ (by simp)]
  unfold validB
  cases (List.range a.length).any (fun i => !okA n a i) <;> simp <;> grind
theorem f48 (call : Oracle) (fuel : Nat) (s t : Nat) (hs : s < 2 ^ 32) (ht : t < 32) : callF call fuel c48 [.v (.int .u32 (s : Int)),.v (.int .i64 (t : Int))] = some (.v (.bool (s.testBit t))):=by
  rw [callF_tab call fuel c48 5 _ (by exact Nat.le_of_ble_eq_true rfl) (by exact Nat.le_of_ble_eq_true rfl)]
  have h1:=bits_shr .u32 s t (by simpa [IntKind.bits] using Nat.le_of_lt ht)
  have h2:=bits_bit .u32 hs t
  simp [c48,h1,h2]
  cases s.testBit t <;> rfl
theorem loop47 (call : Oracle) (fuel : Nat) (b : Bool) (n : Nat) (hn : n ≤ 24) (a : NA) (hv : ∀ p ∈ a,p.1 < n∧p.2 < n) (hl : a.length ≤ 1000) (fu : Nat) (hf : 1000 < fu) (st : St)
    (h0 : drops st h47_0 = L47_0 (.ro (sa b (arcsZ a))) (.own (su n fun _ => 0)) (.ro (sa b (arcsZ a))) (ii a.length) (ii 0)) :
    run.loopN (run call fuel b47_0) fu st = some (.ex 0,X47_0 (.own (su n (nextG a)))):=by
  refine loop_cnt call fuel h47_0 _ a.length (fun i => L47_0 (.ro (sa b (arcsZ a))) (.own (su n (nextG (a.take i)))) (.ro (sa b (arcsZ a))) (ii a.length) (ii i)) (.ex 0,X47_0 (.own (su n (nextG a)))) (by simp) ?_ (by simp) fu st h0 (by omega)
  intro i hi
  have hw:=wrap_succ (i:=i) (by omega)
  obtain ⟨h1,h2⟩:=hv _ (nth_mem (0,0) hi)
  have hs : nextG (a.take (i + 1)) = _:=foldl_take addArc _ (0,0) hi
  have hb : ∀ j,nextG (a.take i) j < 2 ^ 32:=nextG_lt (by omega) fun p hp => hv p (List.mem_of_mem_take hp)
  rw [hs]
  change _ = some (Ex.norm,L47_0 _ (.own (su n (addArc (nextG (a.take i)) (nth a (0,0) i)))) _ _ _)
  generalize nextG (a.take i) = g at *
  generalize hp : nth a (0,0) i = p at *
  obtain ⟨f,t⟩:=p
  simp only at h1 h2
  have e1:=zr_nth n g h1
  have e2:=bits_shl1 .u32 (t:=t) (Nat.lt_of_lt_of_le h2 (Nat.le_trans hn (by decide)))
  have e3:=bits_or .u32 (hb f) (b:=pw t) (pw_lt (m:=32) (by omega))
  simp [hi,hw,hp,h1,h2,e1,e2,e3,addArc]
theorem f47 (call : Oracle) (fuel : Nat) (hf : 1000 < fuel) (b : Bool) (n : Nat) (hn : n ≤ 24) (a : NA) (hv : ∀ p ∈ a,p.1 < n∧p.2 < n) (hl : a.length ≤ 1000) :
    callF call fuel c47 [.v (.int .i64 (n : Int)),sa b (arcsZ a)] = some (su n (nextG a)):=by
  have e:=loop47 call fuel b n hn a hv hl fuel hf
  have h0 : (List.replicate n (0 : Int)) = zr n fun _ => 0:=row_rep n 0
  have hm : n ≤ most:=by unfold most; omega
  rw [callF_tab call fuel c47 13 _ (by exact Nat.le_of_ble_eq_true rfl) (by exact Nat.le_of_ble_eq_true rfl)]
  simp [c47,h0,hm]
  rw [e _ (by simp)]
  simp
def Bit48 (call : Oracle) : Prop:=∀ s t : Nat,s < 2 ^ 32→t < 32→call 48 [.v (.int .u32 (s : Int)),.v (.int .i64 (t : Int))] = some (.v (.bool (s.testBit t)))
theorem loop50_1 (call : Oracle) (fuel : Nat) (n : Nat) (hn : n ≤ 24) (g : Nat→Nat) (hg : ∀ i,g i < 2 ^ 32) (m : Nat) (hm : m < n) (h46 : Bit48 call) (fu : Nat) (hf : 1000 < fu) (st : St)
    (h0 : drops st h50_1 = L50_1 (ii n) (.own (su n g)) (ii m) (ii n) (ii m) (ii n) (ii 0)) :
    run.loopN (run call fuel b50_1) fu st = some (.ex 2,X50_2 (ii n) (.own (su n (stp g m))) (ii n) (ii m)):=by
  have he : su n (prt g m n) = su n (stp g m):=congrArg (gsl (eI .u32) false) (zr_ext fun j hj => by simp [prt,hj])
  have hz : prt g m 0 = g:=by funext j; simp [prt]
  refine loop_cnt call fuel h50_1 _ n (fun i => L50_1 (ii n) (.own (su n (prt g m i))) (ii m) (ii n) (ii m) (ii n) (ii i)) _ (by simp) ?_ (by simp [he]) fu st (by rw [hz]; exact h0) (by omega)
  intro i hi
  have hw:=wrap_succ (i:=i) (by omega)
  have e1:=zr_nth n (prt g m i) hi
  have e2:=zr_nth n (prt g m i) hm
  have e3:=bits_or .u32 (hg i) (hg m)
  have e4:=h46 (g i) m (hg i) (by omega)
  have hs:=prt_succ g m i
  rw [prt_i] at e1
  rw [prt_m] at e2
  rw [hs]
  generalize prt g m i = p at *
  cases hb : (g i).testBit m <;> rw [hb] at e4 <;> simp [hi,hm,hw,e1,e2,e3,e4]
theorem loop50_0 (call : Oracle) (fuel : Nat) (hf : 1000 < fuel) (n : Nat) (hn : n ≤ 24) (g : Nat→Nat) (hg : ∀ i,g i < 2 ^ 32) (h46 : Bit48 call) (st : St)
    (h0 : drops st h50_0 = L50_0 (ii n) (.own (su n g)) (ii n) (ii 0)) :
    run.loopN (run call fuel b50_0) fuel st = some (.ex 0,X50_0 (.own (su n (warr g n)))):=by
  refine loop_cnt call fuel h50_0 _ n (fun i => L50_0 (ii n) (.own (su n (warr g i))) (ii n) (ii i)) _ (by simp) ?_ (by simp) fuel st h0 (by omega)
  intro i hi
  have hw:=wrap_succ (i:=i) (by omega)
  have e:=loop50_1 call fuel n hn (warr g i) (warr_lt hg i) i hi h46 fuel hf
  simp [hi]
  rw [e _ (by simp)]
  simp [hw,warr]
theorem f50 (call : Oracle) (fuel : Nat) (hf : 1000 < fuel) (b : Bool) (n : Nat) (hn : n ≤ 24) (a : NA) (hv : ∀ p ∈ a,p.1 < n∧p.2 < n) (h46 : Bit48 call)
    (h54 : call 47 [.v (.int .i64 (n : Int)),sa b (arcsZ a)] = some (su n (nextG a))) :
    callF call fuel c50 [.v (.int .i64 (n : Int)),sa b (arcsZ a)] = some (su n (warr (nextG a) n)):=by
  have e:=loop50_0 call fuel hf n hn (nextG a) (nextG_lt (by omega) hv) h46
  rw [callF_tab call fuel c50 17 _ (by exact Nat.le_of_ble_eq_true rfl) (by exact Nat.le_of_ble_eq_true rfl)]
  simp [c50,h54]
  rw [e _ (by simp)]
  simp
theorem loop62 (call : Oracle) (fuel : Nat) (n : Nat) (hn : n ≤ 24) (g : Nat→Nat) (hg : ∀ i,g i < 2 ^ 32) (h46 : Bit48 call) (fu : Nat) (hf : 1000 < fu) (st : St)
    (h0 : drops st h62_0 = L62_0 (.ro (su n g)) (.ro (su n g)) (ii n) (ii 0)) :
    run.loopN (run call fuel b62_0) fu st = some (if (List.range n).any (fun i => (g i).testBit i) = true then (.ret,R62 (bb false)) else (.ex 0,X62_0)):=by
  refine loop_any call fuel h62_0 _ n (fun i => (g i).testBit i) (fun i => L62_0 (.ro (su n g)) (.ro (su n g)) (ii n) (ii i)) _ _ (by simp) (by simp) ?_ (by simp) fu st h0 (by omega)
  intro i hi _
  have hw:=wrap_succ (i:=i) (by omega)
  have e1:=zr_nth n g hi
  have e4:=h46 (g i) i (hg i) (by omega)
  cases hb : (g i).testBit i <;> rw [hb] at e4 <;> simp [hi,hw,e1,e4]
theorem f62 (call : Oracle) (fuel : Nat) (hf : 1000 < fuel) (n : Nat) (hn : n ≤ 24) (g : Nat→Nat) (hg : ∀ i,g i < 2 ^ 32) (h46 : Bit48 call) :
    callF call fuel c62 [su n g] = some (.v (.bool (!(List.range n).any (fun i => (g i).testBit i)))):=by
  have e:=loop62 call fuel n hn g hg h46 fuel hf
  rw [callF_tab call fuel c62 8 _ (by exact Nat.le_of_ble_eq_true rfl) (by exact Nat.le_of_ble_eq_true rfl)]
  simp [c62]
  rw [e _ (by simp)]
  cases (List.range n).any (fun i => (g i).testBit i) <;> simp
def Reach50 (call : Oracle) : Prop:=∀ (b : Bool) (n : Int) (a : List (Int × Int)),validB n a = true→a.length ≤ 1000→call 50 [.v (.int .i64 n),sa b a] = some (su n.toNat (rea n a))
theorem f39 (call : Oracle) (fuel : Nat) (b : Bool) (n : Int) (a : List (Int × Int)) (hl : a.length ≤ 1000)
    (h44 : call 38 [.v (.int .i64 n),sa b a] = some (.v (.bool (validB n a)))) (h45 : Reach50 call)
    (h62 : ∀ (k : Nat) (g : Nat→Nat),k ≤ 24→(∀ i,g i < 2 ^ 32)→call 62 [su k g] = some (.v (.bool (!(List.range k).any (fun i => (g i).testBit i))))) :
    callF call fuel c39 [.v (.int .i64 n),sa b a] = some (.v (.bool (acyB n a))):=by
  rw [callF_tab call fuel c39 5 _ (by exact Nat.le_of_ble_eq_true rfl) (by exact Nat.le_of_ble_eq_true rfl)]
  by_cases hv : validB n a = true
  · have e:=h45 b n a hv hl
    obtain ⟨k,hk,hk2,_⟩:=valid_nat hv
    have e2:=h62 n.toNat (rea n a) (by omega) (rea_lt hv)
    rw [hv] at h44
    simp [c39,h44,e,e2,acyB,hv]
  · have hv' : validB n a = false:=by simpa using hv
    rw [hv'] at h44
    simp [c39,h44,acyB,hv']
abbrev saE (l : List (Int × Int)) : D:=sa (l.length == 0) l
def pL (g : Nat→Nat) (i j : Nat) : Bool:=decide (i ≠ j) && (g i).testBit j
theorem app_nz {α : Type} (l : List α) (x : α) : ((l ++ [x]).length == 0) = false:=by simp
theorem saE_snoc (l : List (Int × Int)) (x : Int × Int) : saE (l ++ [x]) = sa false (l ++ [x]):=by unfold saE; rw [app_nz]
theorem loop63_1 (call : Oracle) (fuel : Nat) (n : Nat) (hn : n ≤ 24) (g : Nat→Nat) (hg : ∀ i,g i < 2 ^ 32) (h46 : Bit48 call) (i : Nat) (hi : i < n) (fu : Nat) (hf : 1000 < fu) (st : St)
    (h0 : drops st h63_1 = L63_1 (.ro (su n g)) (.own (saE (arcP n (pL g) i))) (ii i) (.sc (.int .u32 (g i : Int))) (.ro (su n g)) (ii n) (ii i) (ii n) (ii 0)) :
    run.loopN (run call fuel b63_1) fu st = some (.ex 2,X63_2 (.ro (su n g)) (.own (saE (arcP n (pL g) (i + 1)))) (.ro (su n g)) (ii n) (ii i)):=by
  have e0 : arcP n (pL g) i ++ rowT (pL g) i 0 = arcP n (pL g) i:=by simp [rowT]
  rw [← e0] at h0
  rw [arcP_succ]
  refine loop_cnt call fuel h63_1 _ n (fun j => L63_1 (.ro (su n g)) (.own (saE (arcP n (pL g) i ++ rowT (pL g) i j))) (ii i) (.sc (.int .u32 (g i : Int))) (.ro (su n g)) (ii n) (ii i) (ii n) (ii j)) _ (by simp) ?_ ?_ fu st h0 (by omega)
  · intro j hj
    have hw:=wrap_succ (i:=j) (by omega)
    have k24:=h46 (g i) j (hg i) (by omega)
    have hlen : (arcP n (pL g) i ++ rowT (pL g) i j).length + 1 ≤ most:=by
      have h1:=arcP_len n (pL g) i
      have h2:=rowT_len (pL g) i j
      have h3 : i * n ≤ 24 * 24:=Nat.mul_le_mul (by omega) (by omega)
      rw [List.length_append]
      unfold most
      omega
    rw [rowT_succ]
    by_cases hij : i = j
    · have hp : ¬ pL g i j = true:=by simp [pL,hij]
      rw [if_neg hp]
      generalize arcP n (pL g) i ++ rowT (pL g) i j = A at *
      simp [hj,hw,hij]
    · have hij' : ¬ (i : Int) = (j : Int):=by omega
      by_cases hb : (g i).testBit j = true
      · have hp : pL g i j = true:=by simp [pL,hij,hb]
        rw [if_pos hp,← List.append_assoc]
        rw [hb] at k24
        generalize arcP n (pL g) i ++ rowT (pL g) i j = A at *
        rw [saE_snoc]
        simp [hj,hw,hij,hij',k24,hlen]
      · have hb : (g i).testBit j = false:=by simpa using hb
        have hp : ¬ pL g i j = true:=by simp [pL,hb]
        rw [if_neg hp]
        rw [hb] at k24
        generalize arcP n (pL g) i ++ rowT (pL g) i j = A at *
        simp [hj,hw,hij,hij',k24]
  · generalize arcP n (pL g) i ++ rowT (pL g) i n = A at *
    simp
theorem loop63_0 (call : Oracle) (fuel : Nat) (n : Nat) (hn : n ≤ 24) (g : Nat→Nat) (hg : ∀ i,g i < 2 ^ 32) (h46 : Bit48 call) (hF : 1000 < fuel) (st : St)
    (h0 : drops st h63_0 = L63_0 (.ro (su n g)) (.own (saE [])) (.ro (su n g)) (ii n) (ii 0)) :
    run.loopN (run call fuel b63_0) fuel st = some (.ex 0,X63_0 (.own (saE (arcL n (pL g))))):=by
  refine loop_cnt call fuel h63_0 _ n (fun i => L63_0 (.ro (su n g)) (.own (saE (arcP n (pL g) i))) (.ro (su n g)) (ii n) (ii i)) _ (by simp) ?_ ?_ fuel st (by rw [h0]; rfl) (by omega)
  · intro i hi
    have hw:=wrap_succ (i:=i) (by omega)
    have hz:=zr_nth n g hi
    have L:=loop63_1 call fuel n hn g hg h46 i hi fuel hF
    generalize arcP n (pL g) (i + 1) = B at *
    generalize arcP n (pL g) i = A at *
    simp [hi,hw,hz]
    rw [L _ (by simp)]
    simp [hw]
  · unfold arcL
    generalize arcP n (pL g) n = A at *
    simp
theorem f63 (call : Oracle) (fuel : Nat) (hF : 1000 < fuel) (n : Nat) (hn : n ≤ 24) (g : Nat→Nat) (hg : ∀ i,g i < 2 ^ 32) (h46 : Bit48 call) : callF call fuel c63 [su n g] = some (saE (arcL n (pL g))):=by
  have L:=loop63_0 call fuel n hn g hg h46 hF
  rw [callF_tab call fuel c63 17 _ (by exact Nat.le_of_ble_eq_true rfl) (by exact Nat.le_of_ble_eq_true rfl)]
  generalize arcL n (pL g) = A at *
  simp [c63]
  rw [L _ (by simp; rfl)]
  simp
def clD (n : Int) (a : List (Int × Int)) : D:=if validB n a = true then .nd .tu [saE (arcL n.toNat (pL (rea n a))),.v (.int .i64 0)] else .nd .tu [sa true [],.v (.int .i64 1)]
def List63 (call : Oracle) : Prop:=∀ (n : Nat) (g : Nat→Nat),n ≤ 24→(∀ i,g i < 2 ^ 32)→call 63 [su n g] = some (saE (arcL n (pL g)))
theorem f40 (call : Oracle) (fuel : Nat) (b : Bool) (n : Int) (a : List (Int × Int)) (hl : a.length ≤ 1000) (h44 : call 38 [.v (.int .i64 n),sa b a] = some (.v (.bool (validB n a)))) (h45 : Reach50 call) (h63 : List63 call) :
    callF call fuel c40 [.v (.int .i64 n),sa b a] = some (clD n a):=by
  rw [callF_tab call fuel c40 6 _ (by exact Nat.le_of_ble_eq_true rfl) (by exact Nat.le_of_ble_eq_true rfl)]
  unfold clD
  by_cases hv : validB n a = true
  · rw [if_pos hv]
    rw [hv] at h44
    obtain ⟨k,hk,hk2,_⟩:=valid_nat hv
    have k18:=h45 b n a hv hl
    have k17:=h63 n.toNat (rea n a) (by omega) (rea_lt hv)
    generalize arcL n.toNat (pL (rea n a)) = A at *
    generalize zr n.toNat (rea n a) = Z at *
    simp [c40,h44,k18,k17]
  · rw [if_neg hv]
    have hv : validB n a = false:=by simpa using hv
    rw [hv] at h44
    simp [c40,h44]
    rfl
end Go.Mx
namespace Go.Mx
set_option linter.unusedVariables false
set_option linter.unusedSimpArgs false
set_option linter.unusedSectionVars false
open Go
section
variable {n : Int} {a : List (Int × Int)} (hv : validB n a = true)
include hv
theorem va_bnd : ∀ i j,(nextG (natA a) i).testBit j = true→i < n.toNat∧j < n.toNat:=by
  obtain ⟨k,rfl,h1,h2,h3⟩:=valid_nat hv
  intro i j h
  rw [next_bit,List.contains_iff_mem] at h
  rw [Int.toNat_natCast]
  exact ⟨(h3 _ h).1,(h3 _ h).2.1⟩
theorem va_24 : n.toNat ≤ 24:=by
  obtain ⟨k,rfl,h1,_⟩:=valid_nat hv
  simpa using h1
theorem va_cast : ((n.toNat : Nat) : Int) = n:=by
  obtain ⟨k,rfl,h1,_⟩:=valid_nat hv
  simp
abbrev cloL (n : Int) (a : List (Int × Int)) : List (Int × Int):=arcL n.toNat (pL (rea n a))
omit hv in
theorem cl_len (n : Int) (hn : n.toNat ≤ 24) (p : Nat→Nat→Bool) : (arcL n.toNat p).length ≤ 600:=by
  have h1:=arcP_len n.toNat p n.toNat
  have h2 : n.toNat * n.toNat ≤ 24 * 24:=Nat.mul_le_mul hn hn
  unfold arcL
  omega
omit hv in
theorem pL_irr (g : Nat→Nat) (i : Nat) : pL g i i = false:=by simp [pL]
theorem cl_valid : validB n (cloL n a) = true:=by
  have:=arcL_valid (va_24 hv) (p:=pL (rea n a)) fun i _ => pL_irr _ i
  rwa [va_cast hv] at this
end
abbrev su6 (n : Nat) (g : Nat→Nat) : D:=gsl (eI .u64) false (zr n g)
theorem loop17 (call : Oracle) (fuel : Nat) (n : Nat) (hn : n ≤ 12) (a : NA) (hv : ∀ p ∈ a,p.1 < n∧p.2 < n) (hl : a.length ≤ 1000) (b : Bool) (fu : Nat) (hf : 1000 < fu) (st : St)
    (h0 : drops st h17_0 = L17_0 (.own (su6 n fun _ => 0)) (.own (sa b (arcsZ a))) (.ref 7 []) (ii a.length) (ii 0)) :
    run.loopN (run call fuel b17_0) fu st = some (.ex 1,X17_1 (.own (su6 n (nextG a)))):=by
  refine loop_cnt call fuel h17_0 _ a.length (fun i => L17_0 (.own (su6 n (nextG (a.take i)))) (.own (sa b (arcsZ a))) (.ref 7 []) (ii a.length) (ii i)) (.ex 1,X17_1 (.own (su6 n (nextG a)))) (by simp) ?_ (by simp) fu st h0 (by omega)
  intro i hi
  have hw:=wrap_succ (i:=i) (by omega)
  obtain ⟨h1,h2⟩:=hv _ (nth_mem (0,0) hi)
  have hs : nextG (a.take (i + 1)) = _:=foldl_take addArc _ (0,0) hi
  have hb : ∀ j,nextG (a.take i) j < 2 ^ 64:=fun j => Nat.lt_of_lt_of_le (nextG_lt (n:=n) (by omega) (fun p hp => hv p (List.mem_of_mem_take hp)) j) (by decide)
  rw [hs]
  change _ = some (Ex.norm,L17_0 (.own (su6 n (addArc (nextG (a.take i)) (nth a (0,0) i)))) _ _ _ _)
  generalize nextG (a.take i) = g at *
  generalize hp : nth a (0,0) i = p at *
  obtain ⟨f,t⟩:=p
  simp only at h1 h2
  have e1:=zr_nth n g h1
  have e2:=bits_shl1 .u64 (t:=t) (Nat.lt_of_lt_of_le h2 (Nat.le_trans hn (by decide)))
  have e3:=bits_or .u64 (hb f) (b:=pw t) (pw_lt (m:=64) (by omega))
  simp [hi,hw,hp,h1,h2,e1,e2,e3,addArc]
def ordG (n : Int) (a : List (Int × Int)) : Nat→Nat:=nextG (natA (cloL n a))
def ckE (n : Int) (a : List (Int × Int)) : Int:=if validB n a = true then (if 12 < n then 6 else if acyB n a = true then 0 else 11) else 1
def ckD (n : Int) (a : List (Int × Int)) : D:=if ckE n a = 0 then .nd .tu [su6 n.toNat (ordG n a),.v (.int .i64 0)] else .nd .tu [gsl (eI .u64) true [],.v (.int .i64 (ckE n a))]
theorem f17 (call : Oracle) (fuel : Nat) (hF : 1000 < fuel) (b : Bool) (n : Int) (a : List (Int × Int)) (h44 : call 38 [.v (.int .i64 n),sa b a] = some (.v (.bool (validB n a)))) (h51 : call 39 [.v (.int .i64 n),sa b a] = some (.v (.bool (acyB n a))))
    (h52 : call 40 [.v (.int .i64 n),sa b a] = some (clD n a)) : callF call fuel c17 [.v (.int .i64 n),sa b a] = some (ckD n a):=by
  rw [callF_tab call fuel c17 35 _ (by exact Nat.le_of_ble_eq_true rfl) (by exact Nat.le_of_ble_eq_true rfl)]
  unfold ckD ckE
  by_cases hv : validB n a = true
  · rw [if_pos hv]
    rw [hv] at h44
    by_cases h12 : 12 < n
    · rw [if_pos h12,if_neg (by decide)]
      simp [c17,h44,h12]
      rfl
    · rw [if_neg h12]
      by_cases hac : acyB n a = true
      · rw [if_pos hac,if_pos rfl]
        rw [hac] at h51
        unfold clD at h52
        rw [if_pos hv] at h52
        have hcv:=cl_valid hv
        obtain ⟨k,rfl,hk2,_⟩:=valid_nat hv
        rw [Int.toNat_natCast] at *
        have hk : k ≤ 12:=by omega
        obtain ⟨k',hk',_,hC,hp⟩:=valid_nat hcv
        obtain rfl : k = k':=by omega
        have hlen : (natA (cloL k a)).length ≤ 1000:=by
          have:=cl_len (k : Int) (by simpa using hk2) (pL (rea k a))
          unfold natA cloL
          rw [List.length_map]
          omega
        have L:=loop17 call fuel k hk (natA (cloL k a)) (fun p hp' => ⟨(hp p hp').1,(hp p hp').2.1⟩) hlen ((cloL k a).length == 0) fuel hF
        rw [← hC] at L
        have hll : (natA (cloL k a)).length = (cloL k a).length:=by simp [natA]
        rw [hll] at L
        have h0 : (List.replicate k (0 : Int)) = zr k fun _ => 0:=row_rep k 0
        have hm : k ≤ most:=by unfold most; omega
        have h52' : call 40 [.v (.int .i64 (k : Int)),sa b a] = some (.nd .tu [saE (cloL k a),.v (.int .i64 0)]):=h52
        unfold ordG
        generalize nextG (natA (cloL k a)) = gg at *
        clear hC hp hcv h52
        generalize cloL k a = C at *
        simp [c17,h44,h12,h51,h52',h0,hm]
        rw [L _ (by simp)]
        simp
      · rw [if_neg hac,if_neg (by decide)]
        have hac : acyB n a = false:=by simpa using hac
        rw [hac] at h51
        simp [c17,h44,h12,h51]
        rfl
  · rw [if_neg hv,if_neg (by decide)]
    have hv : validB n a = false:=by simpa using hv
    rw [hv] at h44
    simp [c17,h44]
    rfl
end Go.Mx
namespace Go.Mx
set_option linter.unusedVariables false
set_option linter.unusedSimpArgs false
set_option linter.unusedSectionVars false
open Go
theorem f21 (call : Oracle) (fuel : Nat) (n : Nat) (g : Nat→Nat) (hg : ∀ i,g i < 2 ^ 64) (i k : Nat) (hi : i < n) (hk : k < 64) : callF call fuel c21 [su6 n g,.v (.int .i64 (i : Int)),.v (.int .i64 (k : Int))] = some (.v (.bool ((g i).testBit k))):=by
  rw [callF_tab call fuel c21 7 _ (by exact Nat.le_of_ble_eq_true rfl) (by exact Nat.le_of_ble_eq_true rfl)]
  have hz:=zr_nth n g hi
  have h1:=bits_shr .u64 (g i) k (by simpa [IntKind.bits] using Nat.le_of_lt hk)
  have h2:=bits_bit .u64 (hg i) k
  simp [c21,hi,hz,h1,h2]
  cases (g i).testBit k <;> rfl
theorem f6 (call : Oracle) (fuel : Nat) (b c : Bool) (n : Int) (a : List (Int × Int)) (L : List Int) (h33 : call 17 [.v (.int .i64 n),sa b a] = some (ckD n a)) (h43 : ckE n a = 0→call 18 [su6 n.toNat (ordG n a)] = some (gsl (eI .i64) c L)) :
    callF call fuel c6 [.v (.int .i64 n),sa b a] = some (if ckE n a = 0 then .nd .tu [.v (.int .i64 (L.length : Int)),.v (.int .i64 0)] else .nd .tu [.v (.int .i64 0),.v (.int .i64 (ckE n a))]):=by
  rw [callF_tab call fuel c6 9 _ (by exact Nat.le_of_ble_eq_true rfl) (by exact Nat.le_of_ble_eq_true rfl)]
  unfold ckD at h33
  by_cases he : ckE n a = 0
  · rw [if_pos he] at h33
    rw [if_pos he]
    have h43:=h43 he
    generalize zr n.toNat (ordG n a) = Z at *
    simp [c6,h33,h43]
  · rw [if_neg he] at h33
    rw [if_neg he]
    generalize ckE n a = e at *
    simp [c6,h33,he]
theorem f8 (call : Oracle) (fuel : Nat) (b c : Bool) (n : Int) (a : List (Int × Int)) (L : List Int) (h33 : call 17 [.v (.int .i64 n),sa b a] = some (ckD n a)) (h43 : ckE n a = 0→call 18 [su6 n.toNat (ordG n a)] = some (gsl (eI .i64) c L)) :
    callF call fuel c8 [.v (.int .i64 n),sa b a] = some (if ckE n a = 0 then .nd .tu [gsl (eI .i64) c L,.v (.int .i64 0)] else .nd .tu [gsl (eI .i64) true [],.v (.int .i64 (ckE n a))]):=by
  rw [callF_tab call fuel c8 9 _ (by exact Nat.le_of_ble_eq_true rfl) (by exact Nat.le_of_ble_eq_true rfl)]
  unfold ckD at h33
  by_cases he : ckE n a = 0
  · rw [if_pos he] at h33
    rw [if_pos he]
    have h43:=h43 he
    generalize zr n.toNat (ordG n a) = Z at *
    simp [c8,h33,h43]
  · rw [if_neg he] at h33
    rw [if_neg he]
    generalize ckE n a = e at *
    simp [c8,h33,he]
    rfl
end Go.Mx
namespace Go.Mx
set_option linter.unusedVariables false
set_option linter.unusedSimpArgs false
set_option linter.unusedSectionVars false
open Go
def q1 (x : Nat) : Nat:=(srn x 1 &&& 6148914691236517205) + (x &&& 6148914691236517205)
def q2 (x : Nat) : Nat:=(srn x 2 &&& 3689348814741910323) + (x &&& 3689348814741910323)
def q3 (x : Nat) : Nat:=(srn x 4 + x) &&& 1085102592571150095
def q4 (k x : Nat) : Nat:=x + srn x k
def oc (x : Nat) : Nat:=q4 32 (q4 16 (q4 8 (q3 (q2 (q1 x))))) &&& 127
theorem srn_le (x k : Nat) : srn x k ≤ x:=by
  unfold srn
  rw [Nat.shiftRight_eq_div_pow]
  exact Nat.div_le_self _ _
theorem q1_le (x : Nat) : q1 x ≤ 2 * x:=by
  have h1 : srn x 1 &&& 6148914691236517205 ≤ srn x 1:=Nat.and_le_left
  have h2 : x &&& 6148914691236517205 ≤ x:=Nat.and_le_left
  have:=srn_le x 1
  unfold q1; omega
theorem q2_le (x : Nat) : q2 x ≤ 2 * x:=by
  have h1 : srn x 2 &&& 3689348814741910323 ≤ srn x 2:=Nat.and_le_left
  have h2 : x &&& 3689348814741910323 ≤ x:=Nat.and_le_left
  have:=srn_le x 2
  unfold q2; omega
theorem q3_le (x : Nat) : q3 x ≤ 2 * x:=by
  have h1 : (srn x 4 + x) &&& 1085102592571150095 ≤ srn x 4 + x:=Nat.and_le_left
  have:=srn_le x 4
  unfold q3; omega
theorem q4_le (k x : Nat) : q4 k x ≤ 2 * x:=by
  have:=srn_le x k
  unfold q4; omega
theorem oc_pop2 : ∀ a,a < 64→∀ b,b < 64→oc (64 * a + b) = ((List.range 12).filter fun i => (64 * a + b).testBit i).length:=by decide +kernel
theorem oc_pop (x : Nat) (h : x < 4096) : oc x = ((List.range 12).filter fun i => x.testBit i).length:=by
  have:=oc_pop2 (x / 64) (by omega) (x % 64) (by omega)
  rwa [Nat.div_add_mod] at this
theorem wrap64 {n : Nat} (h : n < 18446744073709551616) : IntKind.u64.wrap (n : Int) = (n : Int):=by
  simp [IntKind.wrap,IntKind.bits,IntKind.signed]; omega
theorem f52 (call : Oracle) (fuel : Nat) (x : Nat) (hx : x < 4096) : callF call fuel c52 [.v (.int .u64 (x : Int))] = some (.v (.int .i64 ((oc x : Nat) : Int))):=by
  rw [callF_tab call fuel c52 3 _ (by exact Nat.le_of_ble_eq_true rfl) (by exact Nat.le_of_ble_eq_true rfl)]
  have sh : ∀ (y k : Nat),k ≤ 63→shiftBin .shr .u64 (y : Int) (k : Int) = some (.int .u64 ((srn y k : Nat) : Int)):=fun y k h => bits_shr .u64 y k (by simp [IntKind.bits]; omega)
  have an : ∀ (y m : Nat),y < 2 ^ 64→m < 2 ^ 64→intBin .and .u64 (y : Int) (m : Int) = some (.int .u64 ((y &&& m : Nat) : Int)):=fun y m h1 h2 => bits_and (k:=.u64) h1 h2
  have l1:=q1_le x
  have l2:=q2_le (q1 x)
  have l3:=q3_le (q2 (q1 x))
  have l4:=q4_le 8 (q3 (q2 (q1 x)))
  have l5:=q4_le 16 (q4 8 (q3 (q2 (q1 x))))
  have l6:=q4_le 32 (q4 16 (q4 8 (q3 (q2 (q1 x)))))
  have a1 : shiftBin .shr .u64 (x : Int) 1 = some (.int .u64 ((srn x 1 : Nat) : Int)):=sh x 1 (by omega)
  have a2 : intBin .and .u64 ((srn x 1 : Nat) : Int) 6148914691236517205 = some (.int .u64 ((srn x 1 &&& 6148914691236517205 : Nat) : Int)):=an _ 6148914691236517205 (by have:=srn_le x 1; omega) (by decide)
  have a3 : intBin .and .u64 (x : Int) 6148914691236517205 = some (.int .u64 ((x &&& 6148914691236517205 : Nat) : Int)):=an _ 6148914691236517205 (by omega) (by decide)
  have a4 : IntKind.u64.wrap (((srn x 1 &&& 6148914691236517205 : Nat) : Int) + ((x &&& 6148914691236517205 : Nat) : Int)) = ((q1 x : Nat) : Int):=by
    rw [← Int.natCast_add]; exact wrap64 (by have : q1 x < 18446744073709551616 := by omega
                                             exact this)
  generalize hy1 : q1 x = y1 at *
  have b1 : shiftBin .shr .u64 (y1 : Int) 2 = some (.int .u64 ((srn y1 2 : Nat) : Int)):=sh y1 2 (by omega)
  have b2 : intBin .and .u64 ((srn y1 2 : Nat) : Int) 3689348814741910323 = some (.int .u64 ((srn y1 2 &&& 3689348814741910323 : Nat) : Int)):=an _ 3689348814741910323 (by have:=srn_le y1 2; omega) (by decide)
  have b3 : intBin .and .u64 (y1 : Int) 3689348814741910323 = some (.int .u64 ((y1 &&& 3689348814741910323 : Nat) : Int)):=an _ 3689348814741910323 (by omega) (by decide)
  have b4 : IntKind.u64.wrap (((srn y1 2 &&& 3689348814741910323 : Nat) : Int) + ((y1 &&& 3689348814741910323 : Nat) : Int)) = ((q2 y1 : Nat) : Int):=by
    rw [← Int.natCast_add]; exact wrap64 (by have : q2 y1 < 18446744073709551616 := by omega
                                             exact this)
  generalize hy2 : q2 y1 = y2 at *
  have c1 : shiftBin .shr .u64 (y2 : Int) 4 = some (.int .u64 ((srn y2 4 : Nat) : Int)):=sh y2 4 (by omega)
  have c2 : IntKind.u64.wrap (((srn y2 4 : Nat) : Int) + (y2 : Int)) = ((srn y2 4 + y2 : Nat) : Int):=by
    rw [← Int.natCast_add]; exact wrap64 (by have:=srn_le y2 4; omega)
  have c3 : intBin .and .u64 (((srn y2 4 : Nat) : Int) + (y2 : Int)) 1085102592571150095 = some (.int .u64 ((q3 y2 : Nat) : Int)):=by
    rw [← Int.natCast_add]
    exact an _ 1085102592571150095 (by have:=srn_le y2 4; omega) (by decide)
  generalize hy3 : q3 y2 = y3 at *
  have d (k y : Nat) (hk : k ≤ 63) (hy : 2 * y < 18446744073709551616) : IntKind.u64.wrap ((y : Int) + ((srn y k : Nat) : Int)) = ((q4 k y : Nat) : Int):=by
    rw [← Int.natCast_add]; exact wrap64 (by have:=srn_le y k; omega)
  have d1 : shiftBin .shr .u64 (y3 : Int) 8 = some (.int .u64 ((srn y3 8 : Nat) : Int)):=sh y3 8 (by omega)
  have d2:=d 8 y3 (by omega) (by omega)
  generalize hy4 : q4 8 y3 = y4 at *
  have e1 : shiftBin .shr .u64 (y4 : Int) 16 = some (.int .u64 ((srn y4 16 : Nat) : Int)):=sh y4 16 (by omega)
  have e2:=d 16 y4 (by omega) (by omega)
  generalize hy5 : q4 16 y4 = y5 at *
  have f1 : shiftBin .shr .u64 (y5 : Int) 32 = some (.int .u64 ((srn y5 32 : Nat) : Int)):=sh y5 32 (by omega)
  have f2:=d 32 y5 (by omega) (by omega)
  have ho : oc x = q4 32 y5 &&& 127:=by unfold oc; rw [hy1,hy2,hy3,hy4,hy5]
  generalize hy6 : q4 32 y5 = y6 at *
  have g1 : IntKind.i64.wrap (y6 : Int) = (y6 : Int):=wrap_eq (by unfold I64; omega)
  have g2 : intBin .and .i64 (y6 : Int) 127 = some (.int .i64 ((y6 &&& 127 : Nat) : Int)):=bits_and (k:=.i64) (a:=y6) (b:=127) (show y6 < 2 ^ 63 by omega) (by decide)
  rw [ho]
  simp [c52,a1,a2,a3,a4,b1,b2,b3,b4,c1,c2,c3,d1,d2,e1,e2,f1,f2,g1,g2]
theorem f28 (call : Oracle) (fuel : Nat) (x c : Nat) (h56 : call 52 [.v (.int .u64 (x : Int))] = some (.v (.int .i64 (c : Int)))) : callF call fuel c28 [.v (.int .u64 (x : Int))] = some (.v (.int .i64 (c : Int))):=by
  rw [callF_tab call fuel c28 3 _ (by exact Nat.le_of_ble_eq_true rfl) (by exact Nat.le_of_ble_eq_true rfl)]
  simp [c28,h56]
end Go.Mx
namespace Go.Mx
set_option linter.unusedVariables false
set_option linter.unusedSimpArgs false
set_option linter.unusedSectionVars false
open Go
def zl (l : List Nat) : List Int:=l.map fun (v : Nat) => (v : Int)
@[simp] theorem zl_len (l : List Nat) : (zl l).length = l.length:=by simp [zl]
theorem zl_nth (l : List Nat) (i : Nat) : nth (zl l) 0 i = ((nth l 0 i : Nat) : Int):=nth_map (fun (v : Nat) => (v : Int)) l 0 i
def cmpB (g : Nat→Nat) (u v : Nat) : Bool:=(g u).testBit v || (g v).testBit u
abbrev boO (n : Nat) (g : Nat→Nat) : D:=.nd (.bx false) [su6 n g]
abbrev boI (v : Nat) : D:=.nd (.bx false) [.v (.int .i64 (v : Int))]
abbrev clo60 (n : Nat) (g : Nat→Nat) (v : Nat) : D:=.nd (.fn (.func 44) 0) [boO n g,boI v]
theorem f44 (call : Oracle) (fuel : Nat) (n : Nat) (g : Nat→Nat) (u v : Nat)
    (h1 : call 21 [su6 n g,.v (.int .i64 (u : Int)),.v (.int .i64 (v : Int))] = some (.v (.bool ((g u).testBit v))))
    (h2 : call 21 [su6 n g,.v (.int .i64 (v : Int)),.v (.int .i64 (u : Int))] = some (.v (.bool ((g v).testBit u)))) :
    callF call fuel c44 [.v (.int .i64 (u : Int)),boO n g,boI v] = some (.v (.bool (cmpB g u v))):=by
  rw [callF_tab call fuel c44 5 _ (by exact Nat.le_of_ble_eq_true rfl) (by exact Nat.le_of_ble_eq_true rfl)]
  unfold cmpB
  generalize zr n g = Z at *
  cases hb : (g u).testBit v <;> rw [hb] at h1 <;> simp [c44,h1,h2]
theorem f64 (call : Oracle) (fuel : Nat) (hf : 1000 < fuel) (b : Bool) (n : Nat) (g : Nat→Nat) (S : List Nat) (hl : S.length ≤ 900) (v : Nat)
    (h : ∀ u ∈ S,call 44 [.v (.int .i64 (u : Int)),boO n g,boI v] = some (.v (.bool (cmpB g u v)))) :
    callF call fuel c64 [si b (zl S),clo60 n g v] = some (.v (.int .i64 (((List.range S.length).find? fun i => cmpB g (nth S 0 i) v).elim (-1) fun i => (i : Int)))):=by
  have e : ∀ st : St,drops st h64_0 = L64_0 (.ro (si b (zl S))) (.ro (clo60 n g v)) (ii S.length) (ii 0)→run.loopN (run call fuel b64_0) fuel st = some (((List.range S.length).find? (fun i => cmpB g (nth S 0 i) v)).elim (.ex 0,X64_0) (fun i => (.ret,R64 (ii i)))):=by
    intro st h0
    refine loop_find call fuel h64_0 _ S.length _ (fun i => L64_0 (.ro (si b (zl S))) (.ro (clo60 n g v)) (ii S.length) (ii i)) _ _ (by simp) (by simp) ?_ (by simp) fuel st h0 (by omega)
    intro i hi _
    have hw:=wrap_succ (i:=i) (by omega)
    have e1:=zl_nth S i
    have e2:=h _ (nth_mem 0 hi)
    generalize nth S 0 i = x at *
    generalize zr n g = Z at *
    have io : 44 < ioB:=by decide
    cases hb : cmpB g x v <;> rw [hb] at e2 <;> simp [hi,hw,e1,e2,hb,io]
  rw [callF_tab call fuel c64 9 _ (by exact Nat.le_of_ble_eq_true rfl) (by exact Nat.le_of_ble_eq_true rfl)]
  generalize zr n g = Z at *
  simp [c64]
  rw [e _ (by simp)]
  cases (List.range S.length).find? fun i => cmpB g (nth S 0 i) v <;> simp
theorem f43 (call : Oracle) (fuel : Nat) (b : Bool) (n : Nat) (g : Nat→Nat) (S : List Nat) (v : Nat)
    (h : call 64 [si b (zl S),clo60 n g v] = some (.v (.int .i64 (((List.range S.length).find? fun i => cmpB g (nth S 0 i) v).elim (-1) fun i => (i : Int))))) :
    callF call fuel c43 [si b (zl S),clo60 n g v] = some (.v (.bool (S.any fun u => cmpB g u v))):=by
  have hq : S.any (fun u => cmpB g u v) = ((List.range S.length).find? fun i => cmpB g (nth S 0 i) v).isSome:=by
    rw [Bool.eq_iff_iff,List.any_eq_true,List.find?_isSome]
    constructor
    · rintro ⟨u,h1,h2⟩
      obtain ⟨i,h3,rfl⟩:=List.getElem_of_mem h1
      exact ⟨i,List.mem_range.2 h3,by rw [nth_get 0 h3]; exact h2⟩
    · rintro ⟨i,h1,h2⟩
      exact ⟨_,nth_mem 0 (List.mem_range.1 h1),h2⟩
  rw [callF_tab call fuel c43 5 _ (by exact Nat.le_of_ble_eq_true rfl) (by exact Nat.le_of_ble_eq_true rfl),hq]
  generalize zr n g = Z at *
  cases hr : (List.range S.length).find? fun i => cmpB g (nth S 0 i) v with
  | none =>
    rw [hr] at h
    simp only [Option.elim] at h
    simp [c43,h]
  | some i =>
    rw [hr] at h
    simp only [Option.elim] at h
    simp [c43,h]
theorem f42 (call : Oracle) (fuel : Nat) (l : List Int) (hl : l.length ≤ 900) : callF call fuel c42 [si false l] = some (si false l):=by
  have hm : l.length ≤ most:=by unfold most; omega
  rw [callF_tab call fuel c42 3 _ (by exact Nat.le_of_ble_eq_true rfl) (by exact Nat.le_of_ble_eq_true rfl)]
  simp [c42,hm]
end Go.Mx
namespace Go.Mx.Q
set_option linter.unusedVariables false
set_option linter.unusedSimpArgs false
set_option linter.unusedSectionVars false
open Go Go.Mx
def eA : En (Int × Int) where
  es:=2
  enc p:=[.v (.int .i64 p.1),.v (.int .i64 p.2)]
  d:=(0,0)
  pos:=by decide
  len _:=rfl
  flat _:=rfl
abbrev sa (b : Bool) (l : List (Int × Int)) : D:=gsl eA b l
section
variable (l : List (Int × Int)) (i : Nat)
@[simp] theorem A_elP (r : Nat) (p : List Nat) (b : Bool) : elP r p 2 i (gsl eA b l) = if i < l.length then some (.ad r p (i * 2)) else none:=elP_ge eA r p i b l
@[simp] theorem A_elR (b : Bool) : elR 2 i (gsl eA b l) = if i < l.length then some (.rad (gk eA l) (i * 2)) else none:=elR_ge eA i b l
@[simp high] theorem A_cell0 : (gk eA l)[i * 2]? = if i < l.length then some (.v (.int .i64 (nth l (0,0) i).1)) else none:=gk_cell eA l i 0 (by decide)
@[simp high] theorem A_cell1 : (gk eA l)[i * 2 + 1]? = if i < l.length then some (.v (.int .i64 (nth l (0,0) i).2)) else none:=gk_cell eA l i 1 (by decide)
@[simp] theorem A_aggR : aggR (gk eA l) (i * 2) 2 = if i < l.length then some (.ro (.nd .ag [.v (.int .i64 (nth l (0,0) i).1),.v (.int .i64 (nth l (0,0) i).2)])) else none:=aggR_ge eA i l
@[simp] theorem A_aggV (r : Nat) (p : List Nat) : aggV r p (gk eA l) (i * 2) 2 = if i < l.length then some (.ro (.nd .ag [.v (.int .i64 (nth l (0,0) i).1),.v (.int .i64 (nth l (0,0) i).2)])) else none:=agg_ge eA r p i l rfl
@[simp] theorem A_apD1 (b : Bool) (x y : Int) : apD 2 1 [.v (.int .i64 x),.v (.int .i64 y)] (gsl eA b l) = if l.length + 1 ≤ most then some (gsl eA false (l ++ [(x,y)])) else none:=by
  show apD eA.es [(x,y)].length (gk eA [(x,y)]) (gsl eA b l) = _
  rw [apD_ge]; simp
end
theorem sc_A (l : List (Int × Int)) : (gk eA l).all isSc = true:=by
  induction l with
  | nil => rfl
  | cons a l ih => exact ih
@[simp] theorem A_apS (st : St) (v : V) (b : Bool) (l : List (Int × Int)) : apS st 2 v (gsl eA b l) = some (l.length,gk eA l,st):=apS_ge eA st v b l (sc_A l)
@[simp] theorem A_apD (b : Bool) (l m : List (Int × Int)) : apD 2 m.length (gk eA m) (gsl eA b l) = if l.length + m.length ≤ most then some (gsl eA (b && m.length == 0) (l ++ m)) else none:=apD_ge eA b l m
@[simp] theorem A_fold (b : Bool) (l : List (Int × Int)) : T.nd (K.sl b 2 l.length) (gk eA l) = gsl eA b l:=rfl
def okA (n : Int) (a : List (Int × Int)) (i : Nat) : Bool :=
  let p:=nth a (0,0) i
  let q:=nth a (0,0) (i - 1)
  decide (0 ≤ p.1) && decide (p.1 < n) && decide (0 ≤ p.2) && decide (p.2 < n) && !(p.1 == p.2) && (i == 0 || !(decide (p.1 < q.1) || (p.1 == q.1) && decide (p.2 ≤ q.2)))
def validB (n : Int) (a : List (Int × Int)) : Bool:=decide (0 ≤ n) && decide (n ≤ 24) && !(List.range a.length).any (fun i => !okA n a i)
theorem valid_all {n : Int} {a : List (Int × Int)} (h : validB n a = true) {i : Nat} (hi : i < a.length) : okA n a i = true:=by
  simp only [validB,Bool.and_eq_true,Bool.not_eq_true'] at h
  have:=(any_range _ _).1 h.2 i hi
  simpa using this
theorem valid_len {n : Int} {a : List (Int × Int)} (h : validB n a = true) : (a.length : Int) ≤ n * n:=by
  have key : ∀ i : Nat,i < a.length→(i : Int) ≤ (nth a (0,0) i).1 * n + (nth a (0,0) i).2:=by
    intro i
    induction i with
    | zero =>
      intro hi
      have:=valid_all h hi
      simp only [okA,Bool.and_eq_true,decide_eq_true_eq,Bool.not_eq_true'] at this
      obtain ⟨⟨⟨⟨⟨h1,h2⟩,h3⟩,h4⟩,_⟩,_⟩:=this
      have : 0 ≤ (nth a (0,0) 0).1 * n:=Int.mul_nonneg h1 (by omega)
      simp; omega
    | succ i ih =>
      intro hi
      have h0:=ih (by omega)
      have:=valid_all h hi
      have hb:=valid_all h (i:=i) (by omega)
      simp only [okA,Bool.and_eq_true,decide_eq_true_eq,Bool.not_eq_true',Nat.add_sub_cancel] at this hb
      obtain ⟨⟨⟨⟨⟨h1,h2⟩,h3⟩,h4⟩,_⟩,h5⟩:=this
      obtain ⟨⟨⟨⟨⟨g1,g2⟩,g3⟩,g4⟩,_⟩,_⟩:=hb
      generalize nth a (0,0) (i + 1) = p at *
      generalize nth a (0,0) i = q at *
      have h5' : ¬ p.1 < q.1∧(p.1 = q.1→q.2 < p.2):=by
        simp at h5
        omega
      rcases Int.lt_trichotomy q.1 p.1 with h6 | h6 | h6
      · have : (q.1 + 1) * n ≤ p.1 * n:=Int.mul_le_mul_of_nonneg_right (by omega) (by omega)
        rw [Int.add_mul] at this
        push_cast
        omega
      · have:=h5'.2 h6.symm
        rw [h6] at h0
        push_cast
        omega
      · omega
  rcases Nat.eq_zero_or_pos a.length with h0 | h0
  · have : 0 ≤ n:=by
      simp only [validB,Bool.and_eq_true,decide_eq_true_eq] at h
      exact h.1.1
    rw [h0]; exact Int.mul_nonneg this this
  · have h1:=key (a.length - 1) (by omega)
    have:=valid_all h (i:=a.length - 1) (by omega)
    simp only [okA,Bool.and_eq_true,decide_eq_true_eq,Bool.not_eq_true'] at this
    obtain ⟨⟨⟨⟨⟨h2,h3⟩,h4⟩,h5⟩,_⟩,_⟩:=this
    generalize nth a (0,0) (a.length - 1) = p at *
    have : (p.1 + 1) * n ≤ n * n:=Int.mul_le_mul_of_nonneg_right (by omega) (by omega)
    rw [Int.add_mul] at this
    omega
theorem loop38 (call : Oracle) (fuel : Nat) (b : Bool) (n : Int) (a : List (Int × Int)) (hl : a.length ≤ 1000) (fu : Nat) (hf : 1000 < fu) (st : St) (h0 : drops st h38_0 = L38_0 (ii n) (.ro (sa b a)) (.ro (sa b a)) (ii a.length) (ii 0)) :
    run.loopN (run call fuel b38_0) fu st = some (if (List.range a.length).any (fun i => !okA n a i) = true then (.ret,R38 (bb false)) else (.ex 0,X38_0)):=by
  refine loop_any call fuel h38_0 _ a.length (fun i => !okA n a i) (fun i => L38_0 (ii n) (.ro (sa b a)) (.ro (sa b a)) (ii a.length) (ii i)) (.ret,R38 (bb false)) (.ex 0,X38_0) (by simp) (by simp) ?_ (by simp) fu st h0 (by omega)
  intro i hi _
  have hw:=wrap_succ (i:=i) (by omega)
  have hp:=wrap_pred (i:=i) (by omega)
  have hi' : i - 1 < a.length:=by omega
  simp [hi,hw,hp,hi']
  unfold okA
  generalize nth a (0,0) i = p
  generalize nth a (0,0) (i - 1) = q
  grind
theorem f38 (call : Oracle) (fuel : Nat) (hf : 1000 < fuel) (b : Bool) (n : Int) (a : List (Int × Int)) (hl : a.length ≤ 1000) : callF call fuel c38 [.v (.int .i64 n),sa b a] = some (.v (.bool (validB n a))):=by
  have e:=loop38 call fuel b n a hl fuel hf
  rw [callF_tab call fuel c38 16 _ (by exact Nat.le_of_ble_eq_true rfl) (by exact Nat.le_of_ble_eq_true rfl)]
  simp [c38]
  rw [e _ (by simp)]
  unfold validB
  cases (List.range a.length).any (fun i => !okA n a i) <;> simp <;> grind
def okL (l : List Int) (lo hi : Int) (i : Nat) : Bool:=decide (lo ≤ nth l 0 i) && decide (nth l 0 i ≤ hi) && (i == 0 || decide (nth l 0 (i - 1) < nth l 0 i))
abbrev NA:=List (Nat × Nat)
def arcZ (p : Nat × Nat) : Int × Int:=((p.1 : Int),(p.2 : Int))
def arcsZ (a : NA) : List (Int × Int):=a.map arcZ
@[simp] theorem arcsZ_len (a : NA) : (arcsZ a).length = a.length:=by simp [arcsZ]
@[simp] theorem arcsZ_nth (a : NA) (i : Nat) : nth (arcsZ a) (0,0) i = (((nth a (0,0) i).1 : Int),((nth a (0,0) i).2 : Int)):=nth_map arcZ a (0,0) i
def zr (n : Nat) (g : Nat→Nat) : List Int:=row n (fun i => (g i : Int))
@[simp] theorem zr_len (n : Nat) (g : Nat→Nat) : (zr n g).length = n:=row_len _ _
theorem zr_nth (n : Nat) (g : Nat→Nat) {i : Nat} (h : i < n) : nth (zr n g) 0 i = (g i : Int):=nth_row _ _ _ h
@[simp] theorem zr_set (n : Nat) (g : Nat→Nat) (i y : Nat) : (zr n g).set i (y : Int) = zr n (updF g i y):=by
  unfold zr
  rw [row_set]
  congr 1
  funext j
  simp only [updF]
  split <;> rfl
theorem zr_ext {n : Nat} {g h : Nat→Nat} (e : ∀ i,i < n→g i = h i) : zr n g = zr n h:=row_ext _ fun i hi => by rw [e i hi]
abbrev su (n : Nat) (g : Nat→Nat) : D:=gsl (eI .u32) false (zr n g)
theorem f48 (call : Oracle) (fuel : Nat) (s t : Nat) (hs : s < 2 ^ 32) (ht : t < 32) : callF call fuel c48 [.v (.int .u32 (s : Int)),.v (.int .i64 (t : Int))] = some (.v (.bool (s.testBit t))):=by
  rw [callF_tab call fuel c48 5 _ (by exact Nat.le_of_ble_eq_true rfl) (by exact Nat.le_of_ble_eq_true rfl)]
  have h1:=bits_shr .u32 s t (by simpa [IntKind.bits] using Nat.le_of_lt ht)
  have h2:=bits_bit .u32 hs t
  simp [c48,h1,h2]
  cases s.testBit t <;> rfl
def addArc (g : Nat→Nat) (p : Nat × Nat) : Nat→Nat:=updF g p.1 (g p.1 ||| pw p.2)
def nextG (a : NA) : Nat→Nat:=a.foldl addArc fun _ => 0
theorem take_succ_nth {α : Type} {l : List α} {i : Nat} (d : α) (h : i < l.length) : l.take (i + 1) = l.take i ++ [nth l d i]:=by
  rw [nth_get d h,List.take_succ_eq_append_getElem h]
theorem foldl_take {α β : Type} (f : β→α→β) (b : β) {l : List α} {i : Nat} (d : α) (h : i < l.length) : (l.take (i + 1)).foldl f b = f ((l.take i).foldl f b) (nth l d i):=by
  rw [take_succ_nth d h,List.foldl_append]; rfl
theorem nextG_lt {n : Nat} (hn : n ≤ 32) {a : NA} (h : ∀ p ∈ a,p.1 < n∧p.2 < n) (i : Nat) : nextG a i < 2 ^ 32:=by
  suffices ∀ (a : NA) (g : Nat→Nat),(∀ p ∈ a,p.1 < n∧p.2 < n)→(∀ i,g i < 2 ^ 32)→∀ i,a.foldl addArc g i < 2 ^ 32 from this a _ h (fun _ => by simp) i
  intro a
  induction a with
  | nil => intro g _ hg i; exact hg i
  | cons p a ih =>
    intro g h hg i
    apply ih
    · exact fun q hq => h q (List.mem_cons_of_mem _ hq)
    · intro j
      unfold addArc updF
      split
      · exact Nat.or_lt_two_pow (hg _) (pw_lt (by have:=(h p (List.mem_cons_self ..)).2; omega))
      · exact hg j
theorem loop47 (call : Oracle) (fuel : Nat) (b : Bool) (n : Nat) (hn : n ≤ 24) (a : NA) (hv : ∀ p ∈ a,p.1 < n∧p.2 < n) (hl : a.length ≤ 1000) (fu : Nat) (hf : 1000 < fu) (st : St)
    (h0 : drops st h47_0 = L47_0 (.ro (sa b (arcsZ a))) (.own (su n fun _ => 0)) (.ro (sa b (arcsZ a))) (ii a.length) (ii 0)) :
    run.loopN (run call fuel b47_0) fu st = some (.ex 0,X47_0 (.own (su n (nextG a)))):=by
  refine loop_cnt call fuel h47_0 _ a.length (fun i => L47_0 (.ro (sa b (arcsZ a))) (.own (su n (nextG (a.take i)))) (.ro (sa b (arcsZ a))) (ii a.length) (ii i)) (.ex 0,X47_0 (.own (su n (nextG a)))) (by simp) ?_ (by simp) fu st h0 (by omega)
  intro i hi
  have hw:=wrap_succ (i:=i) (by omega)
  obtain ⟨h1,h2⟩:=hv _ (nth_mem (0,0) hi)
  have hs : nextG (a.take (i + 1)) = _:=foldl_take addArc _ (0,0) hi
  have hb : ∀ j,nextG (a.take i) j < 2 ^ 32:=nextG_lt (by omega) fun p hp => hv p (List.mem_of_mem_take hp)
  rw [hs]
  change _ = some (Ex.norm,L47_0 _ (.own (su n (addArc (nextG (a.take i)) (nth a (0,0) i)))) _ _ _)
  generalize nextG (a.take i) = g at *
  generalize hp : nth a (0,0) i = p at *
  obtain ⟨f,t⟩:=p
  simp only at h1 h2
  have e1:=zr_nth n g h1
  have e2:=bits_shl1 .u32 (t:=t) (Nat.lt_of_lt_of_le h2 (Nat.le_trans hn (by decide)))
  have e3:=bits_or .u32 (hb f) (b:=pw t) (pw_lt (m:=32) (by omega))
  simp [hi,hw,hp,h1,h2,e1,e2,e3,addArc]
theorem f47 (call : Oracle) (fuel : Nat) (hf : 1000 < fuel) (b : Bool) (n : Nat) (hn : n ≤ 24) (a : NA) (hv : ∀ p ∈ a,p.1 < n∧p.2 < n) (hl : a.length ≤ 1000) :
    callF call fuel c47 [.v (.int .i64 (n : Int)),sa b (arcsZ a)] = some (su n (nextG a)):=by
  have e:=loop47 call fuel b n hn a hv hl fuel hf
  have h0 : (List.replicate n (0 : Int)) = zr n fun _ => 0:=row_rep n 0
  have hm : n ≤ most:=by unfold most; omega
  rw [callF_tab call fuel c47 13 _ (by exact Nat.le_of_ble_eq_true rfl) (by exact Nat.le_of_ble_eq_true rfl)]
  simp [c47,h0,hm]
  rw [e _ (by simp)]
  simp
def stp (g : Nat→Nat) (m : Nat) : Nat→Nat:=fun j => if (g j).testBit m then g j ||| g m else g j
def warr (g : Nat→Nat) : Nat→Nat→Nat
  | 0 => g
  | k + 1 => stp (warr g k) k
def prt (g : Nat→Nat) (m i : Nat) : Nat→Nat:=fun j => if j < i then stp g m j else g j
theorem stp_lt {g : Nat→Nat} (h : ∀ i,g i < 2 ^ 32) (m i : Nat) : stp g m i < 2 ^ 32:=by
  unfold stp
  split
  · exact Nat.or_lt_two_pow (h _) (h _)
  · exact h i
theorem warr_lt {g : Nat→Nat} (h : ∀ i,g i < 2 ^ 32) (k i : Nat) : warr g k i < 2 ^ 32:=by
  induction k generalizing i with
  | zero => exact h i
  | succ k ih => exact stp_lt ih k i
theorem prt_lt {g : Nat→Nat} (h : ∀ i,g i < 2 ^ 32) (m k i : Nat) : prt g m k i < 2 ^ 32:=by
  unfold prt
  split
  · exact stp_lt h m i
  · exact h i
theorem prt_m (g : Nat→Nat) (m i : Nat) : prt g m i m = g m:=by simp [prt,stp]
theorem prt_i (g : Nat→Nat) (m i : Nat) : prt g m i i = g i:=by simp [prt]
theorem prt_succ (g : Nat→Nat) (m i : Nat) : prt g m (i + 1) = if (g i).testBit m then updF (prt g m i) i (g i ||| g m) else prt g m i:=by
  funext j
  by_cases hb : (g i).testBit m = true
  · simp only [hb,if_true,updF,prt]
    by_cases hj : j = i
    · subst hj; simp [stp,hb]
    · have : (j < i + 1) ↔ j < i:=by omega
      simp [hj,this]
  · simp only [hb,prt]
    by_cases hj : j = i
    · subst hj; simp [stp,hb,prt]
    · have : (j < i + 1) ↔ j < i:=by omega
      simp [this,prt]
def Bit28 (call : Oracle) : Prop:=∀ s t : Nat,s < 2 ^ 32→t < 32→call 48 [.v (.int .u32 (s : Int)),.v (.int .i64 (t : Int))] = some (.v (.bool (s.testBit t)))
theorem loop50_1 (call : Oracle) (fuel : Nat) (n : Nat) (hn : n ≤ 24) (g : Nat→Nat) (hg : ∀ i,g i < 2 ^ 32) (m : Nat) (hm : m < n) (h50 : Bit28 call) (fu : Nat) (hf : 1000 < fu) (st : St)
    (h0 : drops st h50_1 = L50_1 (ii n) (.own (su n g)) (ii m) (ii n) (ii m) (ii n) (ii 0)) :
    run.loopN (run call fuel b50_1) fu st = some (.ex 2,X50_2 (ii n) (.own (su n (stp g m))) (ii n) (ii m)):=by
  have he : su n (prt g m n) = su n (stp g m):=congrArg (gsl (eI .u32) false) (zr_ext fun j hj => by simp [prt,hj])
  have hz : prt g m 0 = g:=by funext j; simp [prt]
  refine loop_cnt call fuel h50_1 _ n (fun i => L50_1 (ii n) (.own (su n (prt g m i))) (ii m) (ii n) (ii m) (ii n) (ii i)) _ (by simp) ?_ (by simp [he]) fu st (by rw [hz]; exact h0) (by omega)
  intro i hi
  have hw:=wrap_succ (i:=i) (by omega)
  have e1:=zr_nth n (prt g m i) hi
  have e2:=zr_nth n (prt g m i) hm
  have e3:=bits_or .u32 (hg i) (hg m)
  have e4:=h50 (g i) m (hg i) (by omega)
  have hs:=prt_succ g m i
  rw [prt_i] at e1
  rw [prt_m] at e2
  rw [hs]
  generalize prt g m i = p at *
  cases hb : (g i).testBit m <;> rw [hb] at e4 <;> simp [hi,hm,hw,e1,e2,e3,e4]
theorem loop50_0 (call : Oracle) (fuel : Nat) (hf : 1000 < fuel) (n : Nat) (hn : n ≤ 24) (g : Nat→Nat) (hg : ∀ i,g i < 2 ^ 32) (h50 : Bit28 call) (st : St)
    (h0 : drops st h50_0 = L50_0 (ii n) (.own (su n g)) (ii n) (ii 0)) :
    run.loopN (run call fuel b50_0) fuel st = some (.ex 0,X50_0 (.own (su n (warr g n)))):=by
  refine loop_cnt call fuel h50_0 _ n (fun i => L50_0 (ii n) (.own (su n (warr g i))) (ii n) (ii i)) _ (by simp) ?_ (by simp) fuel st h0 (by omega)
  intro i hi
  have hw:=wrap_succ (i:=i) (by omega)
  have e:=loop50_1 call fuel n hn (warr g i) (warr_lt hg i) i hi h50 fuel hf
  simp [hi]
  rw [e _ (by simp)]
  simp [hw,warr]
theorem f50 (call : Oracle) (fuel : Nat) (hf : 1000 < fuel) (b : Bool) (n : Nat) (hn : n ≤ 24) (a : NA) (hv : ∀ p ∈ a,p.1 < n∧p.2 < n) (h50 : Bit28 call)
    (h51 : call 47 [.v (.int .i64 (n : Int)),sa b (arcsZ a)] = some (su n (nextG a))) :
    callF call fuel c50 [.v (.int .i64 (n : Int)),sa b (arcsZ a)] = some (su n (warr (nextG a) n)):=by
  have e:=loop50_0 call fuel hf n hn (nextG a) (nextG_lt (by omega) hv) h50
  rw [callF_tab call fuel c50 17 _ (by exact Nat.le_of_ble_eq_true rfl) (by exact Nat.le_of_ble_eq_true rfl)]
  simp [c50,h51]
  rw [e _ (by simp)]
  simp
theorem loop62 (call : Oracle) (fuel : Nat) (n : Nat) (hn : n ≤ 24) (g : Nat→Nat) (hg : ∀ i,g i < 2 ^ 32) (h50 : Bit28 call) (fu : Nat) (hf : 1000 < fu) (st : St)
    (h0 : drops st h62_0 = L62_0 (.ro (su n g)) (.ro (su n g)) (ii n) (ii 0)) :
    run.loopN (run call fuel b62_0) fu st = some (if (List.range n).any (fun i => (g i).testBit i) = true then (.ret,R62 (bb false)) else (.ex 0,X62_0)):=by
  refine loop_any call fuel h62_0 _ n (fun i => (g i).testBit i) (fun i => L62_0 (.ro (su n g)) (.ro (su n g)) (ii n) (ii i)) _ _ (by simp) (by simp) ?_ (by simp) fu st h0 (by omega)
  intro i hi _
  have hw:=wrap_succ (i:=i) (by omega)
  have e1:=zr_nth n g hi
  have e4:=h50 (g i) i (hg i) (by omega)
  cases hb : (g i).testBit i <;> rw [hb] at e4 <;> simp [hi,hw,e1,e4]
theorem f62 (call : Oracle) (fuel : Nat) (hf : 1000 < fuel) (n : Nat) (hn : n ≤ 24) (g : Nat→Nat) (hg : ∀ i,g i < 2 ^ 32) (h50 : Bit28 call) :
    callF call fuel c62 [su n g] = some (.v (.bool (!(List.range n).any (fun i => (g i).testBit i)))):=by
  have e:=loop62 call fuel n hn g hg h50 fuel hf
  rw [callF_tab call fuel c62 8 _ (by exact Nat.le_of_ble_eq_true rfl) (by exact Nat.le_of_ble_eq_true rfl)]
  simp [c62]
  rw [e _ (by simp)]
  cases (List.range n).any (fun i => (g i).testBit i) <;> simp
def natA (a : List (Int × Int)) : NA:=a.map fun p => (p.1.toNat,p.2.toNat)
theorem valid_nat {n : Int} {a : List (Int × Int)} (h : validB n a = true) : ∃ k : Nat,n = (k : Int)∧k ≤ 24∧a = arcsZ (natA a)∧(∀ p ∈ natA a,p.1 < k∧p.2 < k∧p.1 ≠ p.2):=by
  have hall : ∀ p ∈ a,0 ≤ p.1∧p.1 < n∧0 ≤ p.2∧p.2 < n∧p.1 ≠ p.2:=by
    intro p hp
    obtain ⟨i,hi,rfl⟩:=List.mem_iff_getElem.1 hp
    have:=valid_all h hi
    simp only [okA,nth_get (0,0) hi,Bool.and_eq_true,decide_eq_true_eq,Bool.not_eq_true',beq_eq_false_iff_ne] at this
    exact ⟨this.1.1.1.1.1,this.1.1.1.1.2,this.1.1.1.2,this.1.1.2,this.1.2⟩
  have h':=h
  simp only [validB,Bool.and_eq_true,decide_eq_true_eq] at h'
  obtain ⟨⟨h1,h2⟩,_⟩:=h'
  refine ⟨n.toNat,by omega,by omega,?_,?_⟩
  · unfold arcsZ natA
    rw [List.map_map]
    conv => lhs; rw [← List.map_id a]
    apply List.map_congr_left
    intro p hp
    obtain ⟨g1,_,g2,_,_⟩:=hall p hp
    simp only [Function.comp,id,arcZ]
    ext <;> simp <;> omega
  · intro p hp
    unfold natA at hp
    obtain ⟨q,hq,rfl⟩:=List.mem_map.1 hp
    obtain ⟨g1,g2,g3,g4,g5⟩:=hall q hq
    simp only
    omega
def rea (n : Int) (a : List (Int × Int)) : Nat→Nat:=warr (nextG (natA a)) n.toNat
def Reach31 (call : Oracle) : Prop:=∀ (b : Bool) (n : Int) (a : List (Int × Int)),validB n a = true→a.length ≤ 1000→call 50 [.v (.int .i64 n),sa b a] = some (su n.toNat (rea n a))
theorem rea_lt {n : Int} {a : List (Int × Int)} (h : validB n a = true) (i : Nat) : rea n a i < 2 ^ 32:=by
  obtain ⟨k,rfl,h1,h2,h3⟩:=valid_nat h
  exact warr_lt (nextG_lt (n:=k) (by omega) fun p hp => ⟨(h3 p hp).1,(h3 p hp).2.1⟩) _ _
def reachZ (n : Int) (a : List (Int × Int)) (i j : Int) : Bool :=
  validB n a && decide (0 ≤ i) && decide (i < n) && decide (0 ≤ j) && decide (j < n) && (rea n a i.toNat).testBit j.toNat
def acyB (n : Int) (a : List (Int × Int)) : Bool:=validB n a && !(List.range n.toNat).any (fun i => (rea n a i).testBit i)
theorem f39 (call : Oracle) (fuel : Nat) (b : Bool) (n : Int) (a : List (Int × Int)) (hl : a.length ≤ 1000)
    (h44 : call 38 [.v (.int .i64 n),sa b a] = some (.v (.bool (validB n a)))) (h49 : Reach31 call)
    (h48 : ∀ (k : Nat) (g : Nat→Nat),k ≤ 24→(∀ i,g i < 2 ^ 32)→call 62 [su k g] = some (.v (.bool (!(List.range k).any (fun i => (g i).testBit i))))) :
    callF call fuel c39 [.v (.int .i64 n),sa b a] = some (.v (.bool (acyB n a))):=by
  rw [callF_tab call fuel c39 5 _ (by exact Nat.le_of_ble_eq_true rfl) (by exact Nat.le_of_ble_eq_true rfl)]
  by_cases hv : validB n a = true
  · have e:=h49 b n a hv hl
    obtain ⟨k,hk,hk2,_⟩:=valid_nat hv
    have e2:=h48 n.toNat (rea n a) (by omega) (rea_lt hv)
    rw [hv] at h44
    simp [c39,h44,e,e2,acyB,hv]
  · have hv' : validB n a = false:=by simpa using hv
    rw [hv'] at h44
    simp [c39,h44,acyB,hv']
def tpr (g : Nat→Nat) (k i j : Nat) : Nat→Nat→Bool:=fun a b => if a < i ∨ (a = i∧b < j) then (stp g k a).testBit b else (g a).testBit b
def tbl35 (g : Nat→Nat) : Nat→Nat→Bool:=fun a b => (g a).testBit b
theorem stp_bit (g : Nat→Nat) (k i j : Nat) : (stp g k i).testBit j = ((g i).testBit j || (g i).testBit k && (g k).testBit j):=by
  unfold stp
  by_cases h : (g i).testBit k = true
  · simp [h,Nat.testBit_or]
  · simp [h]
theorem tpr_col (g : Nat→Nat) (k i j a : Nat) : tpr g k i j a k = (g a).testBit k:=by
  unfold tpr
  split
  · rw [stp_bit]; cases (g a).testBit k <;> simp
  · rfl
theorem tpr_row (g : Nat→Nat) (k i j b : Nat) : tpr g k i j k b = (g k).testBit b:=by
  unfold tpr
  split
  · rw [stp_bit]; cases (g k).testBit b <;> simp
  · rfl
theorem tpr_succ (g : Nat→Nat) (k i j : Nat) : tpr g k i (j + 1) = if ((g i).testBit k && (g k).testBit j) = true then updM (tpr g k i j) i j true else tpr g k i j:=by
  funext a b
  have hs:=stp_bit g k i j
  by_cases hab : a = i∧b = j
  · obtain ⟨rfl,rfl⟩:=hab
    have h1 : a < a ∨ (a = a∧b < b + 1):=by omega
    have h2 : ¬ (a < a ∨ (a = a∧b < b)):=by omega
    by_cases hc : ((g a).testBit k && (g k).testBit b) = true
    · rw [if_pos hc]
      simp only [tpr,if_pos h1,updM,hs,hc]
      simp
    · rw [if_neg hc]
      have hc' : ((g a).testBit k && (g k).testBit b) = false:=by simpa using hc
      simp only [tpr,hs,hc',Bool.or_false]
      split <;> split <;> rfl
  · have h1 : (a < i ∨ (a = i∧b < j + 1)) ↔ (a < i ∨ (a = i∧b < j)):=by omega
    split
    · simp only [updM,if_neg hab,tpr,h1]
    · simp only [tpr,h1]
theorem tpr_ext {g : Nat→Nat} {k i j i' j' : Nat} (h : ∀ a b,a < 24→b < 24→tpr g k i j a b = tpr g k i' j' a b) : mat 24 (tpr g k i j) = mat 24 (tpr g k i' j'):=mat_ext h
def Low (n : Nat) (g : Nat→Nat) : Prop:=∀ i j,n ≤ j→(g i).testBit j = false
def Lows (n : Nat) (g : Nat→Nat) : Prop:=Low n g∧∀ i,n ≤ i→g i = 0
theorem low_stp {n : Nat} {g : Nat→Nat} (h : Lows n g) (k : Nat) : Lows n (stp g k):=by
  refine ⟨fun i j hj => ?_,fun i hi => ?_⟩
  · rw [stp_bit,h.1 i j hj,h.1 k j hj]; simp
  · unfold stp; rw [h.2 i hi]; simp
theorem low_warr {n : Nat} {g : Nat→Nat} (h : Lows n g) (k : Nat) : Lows n (warr g k):=by
  induction k with
  | zero => exact h
  | succ k ih => exact low_stp ih k
theorem low_next {n : Nat} {a : NA} (hv : ∀ p ∈ a,p.1 < n∧p.2 < n) : Lows n (nextG a):=by
  suffices ∀ (a : NA) (g : Nat→Nat),(∀ p ∈ a,p.1 < n∧p.2 < n)→Lows n g→Lows n (a.foldl addArc g) from this a _ hv ⟨fun i j _ => by simp,fun i _ => rfl⟩
  intro a
  induction a with
  | nil => intro g _ h; exact h
  | cons p a ih =>
    intro g hv h
    obtain ⟨h1,h2⟩:=hv p (List.mem_cons_self ..)
    refine ih _ (fun q hq => hv q (List.mem_cons_of_mem _ hq)) ⟨fun i j hj => ?_,fun i hi => ?_⟩
    · unfold addArc updF
      split
      · rw [Nat.testBit_or,h.1 _ j hj,pw_bit]
        simp; omega
      · exact h.1 i j hj
    · unfold addArc updF
      rw [if_neg (by omega)]
      exact h.2 i hi
theorem tbl35_add (g : Nat→Nat) (f t : Nat) : tbl35 (addArc g (f,t)) = updM (tbl35 g) f t true:=by
  funext a b
  simp only [tbl35,addArc,updM,updF]
  by_cases h : a = f
  · subst h
    simp only [if_true,Nat.testBit_or,pw_bit,true_and]
    by_cases h2 : b = t
    · subst h2; simp
    · have : ¬ t = b:=fun e => h2 e.symm
      simp [h2,this]
  · simp [h]
def tabD (g : Nat→Nat) : D:=.nd .ag (gk eB (mat 24 (tbl35 g)))
def zl (l : List Nat) : List Int:=l.map fun (v : Nat) => (v : Int)
@[simp] theorem zl_len (l : List Nat) : (zl l).length = l.length:=by simp [zl]
theorem zl_snoc (l : List Nat) (v : Nat) : zl (l ++ [v]) = zl l ++ [(v : Int)]:=by simp [zl]
theorem zl_any (l : List Nat) (v : Nat) : (zl l).any (· == (v : Int)) = l.contains v:=by
  simp only [zl,List.any_map,List.contains_eq_any_beq]
  congr 1
  funext x
  simp only [Function.comp]
  rw [Bool.eq_iff_iff]
  simp
  omega
abbrev so (l : List Nat) : D:=si l.isEmpty (zl l)
theorem so_snoc (l : List Nat) (v : Nat) : so (l ++ [v]) = gsl (eI .i64) false (zl l ++ [(v : Int)]):=by
  have h : (l ++ [v]).isEmpty = false:=by simp
  show gsl (eI .i64) (l ++ [v]).isEmpty (zl (l ++ [v])) = _
  rw [h,zl_snoc]
def freeB (a : NA) (out : List Nat) (v : Nat) : Bool:=!out.contains v && a.all (fun p => p.2 != v || out.contains p.1)
def ordL (n : Nat) (a : NA) : Nat→List Nat→Option (List Nat)
  | 0,out => some out
  | k + 1,out => match (List.range n).find? (freeB a out) with
    | some v => ordL n a k (out ++ [v])
    | none => none
def nextV (n : Nat) (a : NA) (out : List Nat) (j : Nat) : Option Nat:=(List.range' (n - j) j).find? (freeB a out)
def optZ (o : Option Nat) : Int:=o.elim (-1) fun v => (v : Int)
theorem nextV_succ {n j : Nat} (a : NA) (out : List Nat) (h : j < n) : nextV n a out (j + 1) = if freeB a out (n - 1 - j) = true then some (n - 1 - j) else nextV n a out j:=by
  unfold nextV
  rw [List.range'_succ,show n - (j + 1) = n - 1 - j by omega,List.find?_cons,show n - 1 - j + 1 = n - j by omega]
  cases freeB a out (n - 1 - j) <;> rfl
def ordR (n : Nat) (a : NA) (out : List Nat) : Option (List Nat):=ordL n a (n - out.length) out
def ordD (n : Int) (a : List (Int × Int)) : D :=
  if validB n a then
    match ordR n.toNat (natA a) [] with
    | some l => .nd .tu [so l,.v (.int .i64 0)]
    | none => .nd .tu [si true [],.v (.int .i64 11)]
  else .nd .tu [si true [],.v (.int .i64 1)]
end Go.Mx.Q
/-
  Sequences: what may come next.
-/
namespace Go.Mx.Q
set_option linter.unusedVariables false
set_option linter.unusedSimpArgs false
set_option linter.unusedSectionVars false
open Go Go.Mx
@[simp ↓ high] theorem isSc_g' {α : Type} (e : En α) (b : Bool) (l : List α) : isSc (gsl e b l) = false:=rfl
@[simp ↓ high] theorem flat_g' {α : Type} (e : En α) (b : Bool) (l : List α) : flatOk (gsl e b l) = true:=rfl
abbrev nV (n : Int) : D:=.v (.int .i64 n)
abbrev bV (t : Bool) : D:=.v (.bool t)
theorem wrapI {n : Int} (h1 : -9223372036854775808 ≤ n) (h2 : n < 9223372036854775808) : IntKind.i64.wrap n = n:=wrap_eq ⟨h1,by omega⟩
def chkI (n : Int) (a : List (Int × Int)) : Int:=if validB n a = false then 1 else if 10 < n then 6 else if acyB n a = false then 11 else 0
theorem f23 (call : Oracle) (fuel : Nat) (b : Bool) (n : Int) (a : List (Int × Int)) (h44 : call 38 [nV n,sa b a] = some (bV (validB n a))) (h45 : call 39 [nV n,sa b a] = some (bV (acyB n a))) :
    callF call fuel c23 [nV n,sa b a] = some (nV (chkI n a)):=by
  rw [callF_tab call fuel c23 14 _ (by exact Nat.le_of_ble_eq_true rfl) (by exact Nat.le_of_ble_eq_true rfl)]
  unfold chkI
  generalize validB n a = v at *
  generalize acyB n a = w at *
  cases v with
  | false => simp [c23,h44]
  | true =>
    by_cases h : 10 < n
    · simp [c23,h44,h]
    · cases w <;> simp [c23,h44,h,h45]
def rdy (a : NA) (s v : Nat) : Bool:=!s.testBit v && a.all fun p => p.2 != v || s.testBit p.1
def addNeed (g : Nat→Nat) (p : Nat × Nat) : Nat→Nat:=updF g p.2 (g p.2 ||| pw p.1)
def needG (a : NA) : Nat→Nat:=a.foldl addNeed fun _ => 0
theorem needG_bit (a : NA) (v i : Nat) : (needG a v).testBit i = a.any fun p => p.2 == v && p.1 == i:=by
  have : ∀ (a : NA) (g : Nat→Nat),(a.foldl addNeed g v).testBit i = ((g v).testBit i || a.any fun p => p.2 == v && p.1 == i):=by
    intro a
    induction a with
    | nil => intro g; simp
    | cons p a ih =>
      intro g
      rw [List.foldl_cons,ih,List.any_cons]
      unfold addNeed updF
      by_cases h : v = p.2
      · subst h
        rw [if_pos rfl,Nat.testBit_or,pw_bit]
        by_cases h2 : p.1 = i
        · simp [h2]
        · have h3 : (p.1 == i) = false:=by simpa using h2
          simp [h2,h3]
      · have h' : (p.2 == v) = false:=by simpa using fun e => h e.symm
        rw [if_neg h,h']
        simp
  rw [needG,this]
  simp
theorem needG_lt {n : Nat} {a : NA} (h : ∀ p ∈ a,p.1 < n∧p.2 < n) (v : Nat) : needG a v < 2 ^ n:=by
  apply Nat.lt_pow_two_of_testBit
  intro i hi
  rw [needG_bit,List.any_eq_false]
  intro p hp
  have:=h p hp
  simp
  omega
theorem rdy_need (a : NA) (s v : Nat) : rdy a s v = (!s.testBit v && decide (andN (needG a v) s = 0)):=by
  unfold rdy
  congr 1
  rw [Bool.eq_iff_iff,decide_eq_true_eq,List.all_eq_true]
  constructor
  · intro h
    apply Nat.eq_of_testBit_eq
    intro i
    rw [andN_bit,needG_bit,Nat.zero_testBit]
    cases hb : s.testBit i with
    | true => simp
    | false =>
      simp only [Bool.not_false,Bool.and_true]
      rw [List.any_eq_false]
      intro p hp
      have:=h p hp
      simp only [Bool.or_eq_true,bne_iff_ne] at this
      simp only [Bool.and_eq_true,beq_iff_eq,not_and]
      rintro h1 rfl
      rcases this with h2 | h2
      · exact h2 h1
      · rw [hb] at h2; cases h2
  · intro h p hp
    simp only [Bool.or_eq_true,bne_iff_ne]
    by_cases h1 : p.2 = v
    · right
      have:=congrArg (fun x => x.testBit p.1) h
      simp only [andN_bit,needG_bit,Nat.zero_testBit] at this
      have ha : (a.any fun q => q.2 == v && q.1 == p.1) = true:=List.any_eq_true.2 ⟨p,hp,by simp [h1]⟩
      rw [ha] at this
      simpa using this
    · exact .inl h1
abbrev tbD (n : Nat) (c d : Bool) (need ways : List Int) : D:=.nd .ag [nV n,si c need,si d ways]
theorem f49 (call : Oracle) (fuel : Nat) (n : Nat) (a : NA) (c d : Bool) (w : List Int) (s v : Nat) (hn : n ≤ 10) (hv : v < n) (hs : s < 2 ^ n) (ha : ∀ p ∈ a,p.1 < n∧p.2 < n) :
    callB call fuel c49 [tbD n c d (zr n (needG a)) w,nV s,nV v] = some (bV (rdy a s v)):=by
  rw [callB_tab call fuel c49 7 _ rfl (by exact Nat.le_of_ble_eq_true rfl) (by exact Nat.le_of_ble_eq_true rfl)]
  have hp : (2 : Nat) ^ n ≤ 2 ^ 10:=Nat.pow_le_pow_right (by decide) hn
  have h63 : s < 2 ^ 63:=by omega
  have e1 : shiftBin .shr .i64 (s : Int) (v : Int) = some (.int .i64 ((srn s v : Nat) : Int)):=bits_shr .i64 s v (by show v ≤ 64; omega)
  have e2:=bits_bit .i64 (s:=s) h63 v
  have e3 : intBin .andNot .i64 ((needG a v : Nat) : Int) (s : Int) = some (.int .i64 ((andN (needG a v) s : Nat) : Int)):=bits_andN .i64 (by have:=needG_lt ha v; show _ < 2 ^ 63; omega) h63
  have e4:=zr_nth n (needG a) hv
  rw [rdy_need]
  cases hb : s.testBit v with
  | true =>
    rw [hb] at e2
    simp [c49,e1,e2]
  | false =>
    rw [hb] at e2
    simp [c49,e1,e2,hv,e4,e3]
    rw [Bool.eq_iff_iff]
    simp
end Go.Mx.Q
/-
  Sequences: in how many ways a set is followed.
-/
namespace Go.Mx.Q
set_option linter.unusedVariables false
set_option linter.unusedSimpArgs false
set_option linter.unusedSectionVars false
open Go Go.Mx
def innS (a : NA) (g : Nat→Nat) (s : Nat) : Nat→Nat→Nat
  | 0 => g
  | v + 1 => if rdy a s v = true then updF (innS a g s v) s (innS a g s v s + innS a g s v (s ||| pw v)) else innS a g s v
def tabJ (n : Nat) (a : NA) : Nat→Nat→Nat
  | 0 => updF (fun _ => 0) (pw n - 1) 1
  | j + 1 => innS a (tabJ n a j) (pw n - 2 - j) n
def wyG (n : Nat) (a : NA) : Nat→Nat:=tabJ n a (pw n - 1)
def miss : Nat→Nat→Nat
  | 0,_ => 0
  | n + 1,s => miss n s + if s.testBit n then 0 else 1
theorem miss_le : ∀ (n s : Nat),miss n s ≤ n
  | 0,_ => Nat.le_refl _
  | n + 1,s => by have:=miss_le n s; simp only [miss]; split <;> omega
theorem miss_same : ∀ (n s v : Nat),n ≤ v→miss n (s ||| pw v) = miss n s
  | 0,_,_,_ => rfl
  | n + 1,s,v,h => by
    have e : (s ||| pw v).testBit n = s.testBit n:=by
      rw [Nat.testBit_or,pw_bit]
      have : ¬ v = n:=by omega
      simp [this]
    simp only [miss,miss_same n s v (by omega),e]
theorem miss_or : ∀ (n s v : Nat),v < n→s.testBit v = false→miss n (s ||| pw v) + 1 = miss n s
  | n + 1,s,v,h,hb => by
    by_cases hv : v = n
    · subst hv
      have e : (s ||| pw v).testBit v = true:=by rw [Nat.testBit_or,pw_bit]; simp
      simp only [miss,miss_same v s v (Nat.le_refl _),e,hb]
      simp
    · have e : (s ||| pw v).testBit n = s.testBit n:=by
        rw [Nat.testBit_or,pw_bit]
        simp [hv]
      have:=miss_or n s v (by omega) hb
      simp only [miss,e]
      omega
theorem rdy_bit {a : NA} {s v : Nat} (h : rdy a s v = true) : s.testBit v = false:=by
  unfold rdy at h
  simp only [Bool.and_eq_true,Bool.not_eq_true'] at h
  exact h.1
theorem or_ne {s v : Nat} (h : s.testBit v = false) : s ||| pw v ≠ s:=by
  intro e
  have:=congrArg (fun x => x.testBit v) e
  simp only [Nat.testBit_or,pw_bit,h] at this
  simp at this
theorem innS_other (a : NA) (g : Nat→Nat) (s : Nat) : ∀ (v t : Nat),t ≠ s→innS a g s v t = g t
  | 0,_,_ => rfl
  | v + 1,t,h => by
    simp only [innS]
    split
    · unfold updF; rw [if_neg h]; exact innS_other a g s v t h
    · exact innS_other a g s v t h
theorem innS_le {n : Nat} {a : NA} {g : Nat→Nat} (hg : ∀ t,g t ≤ 10 ^ miss n t) {s : Nat} (h0 : g s = 0) : ∀ v,v ≤ n→innS a g s v s ≤ v * 10 ^ (miss n s - 1)
  | 0,_ => by simp [innS,h0]
  | v + 1,hv => by
    have ih:=innS_le (a:=a) hg h0 v (by omega)
    simp only [innS]
    split
    · rename_i hr
      have hb:=rdy_bit hr
      rw [updF_self]
      rw [innS_other a g s v _ (or_ne hb)]
      have h1:=hg (s ||| pw v)
      have h2:=miss_or n s v (by omega) hb
      rw [show miss n (s ||| pw v) = miss n s - 1 by omega] at h1
      rw [Nat.succ_mul]
      omega
    · rw [Nat.succ_mul]; exact Nat.le_trans ih (Nat.le_add_right _ _)
where
  updF_self {g : Nat→Nat} {i y : Nat} : updF g i y i = y:=by simp [updF]
theorem tabJ_zero {n : Nat} {a : NA} : ∀ (j t : Nat),t + 1 + j < pw n→tabJ n a j t = 0
  | 0,t,h => by
    simp only [tabJ,updF]
    rw [if_neg (by omega)]
  | j + 1,t,h => by
    simp only [tabJ]
    rw [innS_other _ _ _ _ _ (by omega)]
    exact tabJ_zero j t (by omega)
theorem tabJ_le {n : Nat} (hn : n ≤ 10) {a : NA} : ∀ (j : Nat),j + 1 ≤ pw n→∀ t,tabJ n a j t ≤ 10 ^ miss n t
  | 0,_,t => by
    have:=Nat.pow_pos (n:=miss n t) (show 0 < 10 by decide)
    simp only [tabJ,updF]
    split <;> omega
  | j + 1,hj,t => by
    have ih:=tabJ_le hn (a:=a) j (by omega)
    simp only [tabJ]
    by_cases ht : t = pw n - 2 - j
    · subst ht
      have h0:=tabJ_zero (n:=n) (a:=a) j (pw n - 2 - j) (by omega)
      have h1:=innS_le (n:=n) (a:=a) ih h0 n (Nat.le_refl _)
      generalize pw n - 2 - j = s at *
      cases hm : miss n s with
      | zero =>
        -- nothing is missing: nothing may come next
        have : innS a (tabJ n a j) s n s = 0:=by
          have : ∀ v,v ≤ n→innS a (tabJ n a j) s v s = 0:=by
            intro v
            induction v with
            | zero => intro _; exact h0
            | succ v ihv =>
              intro hv
              simp only [innS]
              have : rdy a s v = false:=by
                cases hr : rdy a s v with
                | false => rfl
                | true =>
                  have:=miss_or n s v (by omega) (rdy_bit hr)
                  omega
              rw [this]
              exact ihv (by omega)
          exact this n (Nat.le_refl _)
        rw [this]; exact Nat.zero_le _
      | succ m =>
        rw [hm,Nat.succ_sub_one] at h1
        refine Nat.le_trans h1 ?_
        rw [Nat.pow_succ,Nat.mul_comm]
        exact Nat.mul_le_mul_left _ hn
    · rw [innS_other _ _ _ _ _ ht]
      exact ih t
theorem pow10_le {n : Nat} (hn : n ≤ 10) (t : Nat) : 10 ^ miss n t ≤ 10000000000:=by
  have h1:=miss_le n t
  have : (10 : Nat) ^ miss n t ≤ 10 ^ 10:=Nat.pow_le_pow_right (by decide) (by omega)
  omega
theorem tab_lt {n : Nat} (hn : n ≤ 10) (a : NA) {j : Nat} (hj : j + 1 ≤ pw n) (t : Nat) : tabJ n a j t ≤ 10000000000:=Nat.le_trans (tabJ_le hn j hj t) (pow10_le hn t)
theorem inn_lt {n : Nat} (hn : n ≤ 10) (a : NA) {j : Nat} (hj : j + 2 ≤ pw n) {v : Nat} (hv : v ≤ n) (t : Nat) : innS a (tabJ n a j) (pw n - 2 - j) v t ≤ 100000000000:=by
  by_cases ht : t = pw n - 2 - j
  · subst ht
    have h0:=tabJ_zero (n:=n) (a:=a) j (pw n - 2 - j) (by omega)
    have h1:=innS_le (n:=n) (a:=a) (tabJ_le hn j (by omega)) h0 v hv
    have h2 : (10 : Nat) ^ (miss n (pw n - 2 - j) - 1) ≤ 10 ^ 10:=Nat.pow_le_pow_right (by decide) (by have:=miss_le n (pw n - 2 - j); omega)
    have h3 : v * 10 ^ (miss n (pw n - 2 - j) - 1) ≤ 10 * 10 ^ 10:=Nat.mul_le_mul (by omega) h2
    omega
  · rw [innS_other _ _ _ _ _ ht]
    have:=tab_lt hn a (j:=j) (by omega) t
    omega
theorem pw_le10 {n : Nat} (hn : n ≤ 10) : 1 ≤ pw n∧pw n ≤ 1024:=by
  have h1 : (2 : Nat) ^ n ≤ 2 ^ 10:=Nat.pow_le_pow_right (by decide) hn
  have h2 : 0 < (2 : Nat) ^ n:=Nat.pow_pos (by decide)
  unfold pw
  omega
theorem or_lt {n s v : Nat} (hs : s < pw n) (hv : v < n) : s ||| pw v < pw n:=Nat.or_lt_two_pow hs (Nat.pow_lt_pow_right (by decide) hv)
abbrev sz (N : Nat) (g : Nat→Nat) : D:=gsl (eI .i64) false (zr N g)
end Go.Mx.Q
/-
  Sequences: the table of a digraph.
-/
namespace Go.Mx.Q
set_option linter.unusedVariables false
set_option linter.unusedSimpArgs false
set_option linter.unusedSectionVars false
open Go Go.Mx
abbrev bxT (n : Nat) (need ways : List Int) : D:=.nd (.bx false) [nV n,si false need,si false ways]
abbrev bx0 : D:=.nd (.bx false) [nV 0,.nd (.sl true 1 0) [],.nd (.sl true 1 0) []]
@[simp] theorem aggV3 {α β : Type} (r : Nat) (p : List Nat) (x : Value) (e : En α) (b : Bool) (l : List α) (e' : En β) (b' : Bool) (l' : List β) :
    aggV r p [.v x,gsl e b l,gsl e' b' l'] 0 3 = some (.vn .ag [.sc x,.ref r (p ++ [1]),.ref r (p ++ [2])]):=rfl
def needJ (a : NA) (i : Nat) : Nat→Nat:=needG (a.take i)
theorem needJ_succ (a : NA) {i : Nat} (h : i < a.length) : needJ a (i + 1) = addNeed (needJ a i) (nth a (0,0) i):=by
  unfold needJ needG
  rw [List.take_succ_eq_append_getElem h,List.foldl_append]
  simp [nth,h]
theorem needJ_all (a : NA) : needJ a a.length = needG a:=by unfold needJ; rw [List.take_length]
theorem loop24_0 (call : Oracle) (fuel : Nat) (n : Nat) (hn : n ≤ 10) (b : Bool) (a : NA) (hl : a.length ≤ 1000) (ha : ∀ p ∈ a,p.1 < n∧p.2 < n) (ways : List Int) (fu : Nat) (hf : 1100 < fu) (st : St)
    (h0 : drops st h24_0 = L24_0 (ii n) (.ro (sa b (arcsZ a))) (.sc undef) (.own bx0) (.own (bxT n (zr n fun _ => 0) ways)) (.ro (sa b (arcsZ a))) (ii a.length) (ii 0)) :
    run.loopN (run call fuel b24_0) fu st = some (.ex 0,X24_0 (ii n) (.sc undef) (.own bx0) (.own (bxT n (zr n (needG a)) ways))):=by
  refine loop_cnt call fuel h24_0 _ a.length (fun i => L24_0 (ii n) (.ro (sa b (arcsZ a))) (.sc undef) (.own bx0) (.own (bxT n (zr n (needJ a i)) ways)) (.ro (sa b (arcsZ a))) (ii a.length) (ii i)) _ (by simp) ?_ (by simp [needJ_all]) fu st (by rw [h0]; rfl) (by omega)
  intro i hi
  have hw:=wrap_succ (i:=i) (by omega)
  have hv:=ha _ (nth_mem (0,0) hi)
  rw [needJ_succ a hi]
  have hlt : ∀ v,needJ a i v < 2 ^ n:=needG_lt fun p hp => ha p (List.mem_of_mem_take hp)
  generalize needJ a i = g at *
  generalize hq : nth a (0,0) i = p at *
  obtain ⟨x,y⟩:=p
  obtain ⟨hx,hy⟩:=hv
  simp only at hx hy
  have hp : (2 : Nat) ^ n ≤ 2 ^ 10:=Nat.pow_le_pow_right (by decide) hn
  have e1:=bits_shl1 .i64 (t:=x) (by show x < 63; omega)
  have e2 : intBin .or .i64 ((g y : Nat) : Int) ((pw x : Nat) : Int) = some (.int .i64 ((g y ||| pw x : Nat) : Int)):=by
    have hpv : pw x < pw n:=Nat.pow_lt_pow_right (by decide) hx
    have:=hlt y
    exact bits_or .i64 (show g y < 2 ^ 63 by omega) (show pw x < 2 ^ 63 by unfold pw at *; omega)
  have n1:=zr_nth n g hy
  simp [hi,hw,hq,e1,e2,n1,hy,addNeed]
theorem loop24_2 (call : Oracle) (fuel : Nat) (n : Nat) (hn : n ≤ 10) (a : NA) (need : List Int) (h43 : ∀ (w : List Int) (s v : Nat),s < pw n→v < n→call 49 [tbD n false false need w,nV s,nV v] = some (bV (rdy a s v))) (j : Nat) (hj : j + 2 ≤ pw n) (s : Nat) (hsj : s = pw n - 2 - j) (fu : Nat) (hf : 1100 < fu) (st : St)
    (h0 : drops st h24_2 = L24_2 (ii n) (.sc undef) (.own bx0) (.own (bxT n need (zr (pw n) (innS a (tabJ n a j) s 0)))) (ii s) (ii n) (ii 0)) :
    run.loopN (run call fuel b24_2) fu st = some (.ex 4,X24_4 (ii n) (.sc undef) (.own bx0) (.own (bxT n need (zr (pw n) (innS a (tabJ n a j) s n)))) (ii s)):=by
  refine loop_cnt call fuel h24_2 _ n (fun v => L24_2 (ii n) (.sc undef) (.own bx0) (.own (bxT n need (zr (pw n) (innS a (tabJ n a j) s v)))) (ii s) (ii n) (ii v)) _ (by simp) ?_ (by simp) fu st (by rw [h0]; rfl) (by omega)
  intro v hv
  have hw:=wrap_succ (i:=v) (by omega)
  have hN:=pw_le10 hn
  have hs : s < pw n:=by omega
  have hor:=or_lt hs hv
  have k:=h43 (zr (pw n) (innS a (tabJ n a j) s v)) s v hs hv
  have b1:=inn_lt hn a hj (v:=v) (by omega) s
  have b2:=inn_lt hn a hj (v:=v) (by omega) (s ||| pw v)
  rw [← hsj] at b1 b2
  have e1:=bits_shl1 .i64 (t:=v) (by show v < 63; omega)
  have e2 : intBin .or .i64 (s : Int) ((pw v : Nat) : Int) = some (.int .i64 ((s ||| pw v : Nat) : Int)):=by
    have hpv : pw v < pw n:=Nat.pow_lt_pow_right (by decide) hv
    exact bits_or .i64 (show s < 2 ^ 63 by omega) (show pw v < 2 ^ 63 by omega)
  simp only [innS]
  generalize innS a (tabJ n a j) s v = g at *
  have n1:=zr_nth (pw n) g hs
  have n2:=zr_nth (pw n) g hor
  have e3 : IntKind.i64.wrap (((g s : Nat) : Int) + ((g (s ||| pw v) : Nat) : Int)) = ((g s + g (s ||| pw v) : Nat) : Int):=by
    rw [wrapI (by omega) (by omega)]; omega
  generalize hq : s ||| pw v = q at *
  obtain ⟨y,hy⟩ : ∃ y,y = g s + g q:=⟨_,rfl⟩
  rw [← hy] at e3 ⊢
  cases hr : rdy a s v with
  | true =>
    rw [hr] at k
    simp [hv,hw,k,hs,hor,e1,e2,n1,n2,e3,hq]
  | false =>
    rw [hr] at k
    simp [hv,hw,k]
theorem loop24_1 (call : Oracle) (fuel : Nat) (hF : 1100 < fuel) (n : Nat) (hn : n ≤ 10) (a : NA) (need : List Int) (h43 : ∀ (w : List Int) (s v : Nat),s < pw n→v < n→call 49 [tbD n false false need w,nV s,nV v] = some (bV (rdy a s v))) (fu : Nat) (hf : 1100 < fu) (st : St)
    (h0 : drops st h24_1 = L24_1 (ii n) (.sc undef) (.own bx0) (.own (bxT n need (zr (pw n) (tabJ n a 0)))) (ii ((pw n : Int) - 2))) :
    run.loopN (run call fuel b24_1) fu st = some (.ex 2,X24_2 (.sc undef) (.own bx0) (.own (bxT n need (zr (pw n) (wyG n a))))):=by
  have hN:=pw_le10 hn
  refine loop_cnt call fuel h24_1 _ (pw n - 1) (fun j => L24_1 (ii n) (.sc undef) (.own bx0) (.own (bxT n need (zr (pw n) (tabJ n a j)))) (ii ((pw n : Int) - 2 - (j : Int)))) _ (by simp) ?_ ?_ fu st (by rw [h0]; simp) (by omega)
  · intro j hj
    obtain ⟨s,hs⟩ : ∃ s,s = pw n - 2 - j:=⟨_,rfl⟩
    have e1 : (pw n : Int) - 2 - (j : Int) = (s : Int):=by omega
    have e2 : IntKind.i64.wrap ((s : Int) - 1) = (pw n : Int) - 2 - ((j + 1 : Nat) : Int):=by rw [wrapI (by omega) (by omega)]; omega
    have hL:=loop24_2 call fuel n hn a need h43 j (by omega) s hs fuel hF
    have e3 : tabJ n a (j + 1) = innS a (tabJ n a j) s n:=by rw [hs]; rfl
    have e4 : innS a (tabJ n a j) s 0 = tabJ n a j:=rfl
    rw [e4] at hL
    rw [e3,e1,← e2]
    generalize innS a (tabJ n a j) s n = g' at *
    generalize tabJ n a j = g at *
    simp
    rw [hL _ (by simp)]
    simp
  · have e1 : (pw n : Int) - 2 - ((pw n - 1 : Nat) : Int) = -1:=by omega
    rw [e1]
    simp [wyG]
theorem f24 (call : Oracle) (fuel : Nat) (hF : 1100 < fuel) (n : Nat) (hn : n ≤ 10) (a : NA) (hl : a.length ≤ 1000) (ha : ∀ p ∈ a,p.1 < n∧p.2 < n) (b : Bool) (h43 : ∀ (w : List Int) (s v : Nat),s < pw n→v < n→call 49 [tbD n false false (zr n (needG a)) w,nV s,nV v] = some (bV (rdy a s v))) :
    callF call fuel c24 [nV n,sa b (arcsZ a)] = some (tbD n false false (zr n (needG a)) (zr (pw n) (wyG n a))):=by
  rw [callF_tab call fuel c24 74 _ (by exact Nat.le_of_ble_eq_true rfl) (by exact Nat.le_of_ble_eq_true rfl)]
  have hN:=pw_le10 hn
  have hL0:=loop24_0 call fuel n hn b a hl ha (zr (pw n) fun _ => 0) fuel hF
  have hL1:=loop24_1 call fuel hF n hn a _ h43 fuel hF
  have e1:=bits_shl1 .i64 (t:=n) (by show n < 63; omega)
  have hm : pw n ≤ most:=by unfold most; omega
  have hm' : n ≤ most:=by unfold most; omega
  have hr : List.replicate (pw n) (0 : Int) = zr (pw n) fun _ => 0:=row_rep _ _
  have hr' : List.replicate n (0 : Int) = zr n fun _ => 0:=row_rep _ _
  obtain ⟨m,hm1⟩ : ∃ m,m = pw n - 1:=⟨_,rfl⟩
  have e2 : IntKind.i64.wrap ((pw n : Int) - 1) = (m : Int):=by rw [wrapI (by omega) (by omega)]; omega
  have e3 : IntKind.i64.wrap ((m : Int) - 1) = (pw n : Int) - 2:=by rw [wrapI (by omega) (by omega)]; omega
  have hlt : m < pw n:=by omega
  have hs : (zr (pw n) fun _ => 0).set m 1 = zr (pw n) (tabJ n a 0):=by
    have:=zr_set (pw n) (fun _ => 0) m 1
    rw [show tabJ n a 0 = updF (fun _ => 0) m 1 by rw [hm1]; rfl]
    exact this
  simp [c24,e1,hm,hm',hr,hr']
  rw [hL0 _ (by simp)]
  simp [e1,e2,e3,hlt,hs]
  rw [hL1 _ (by simp)]
  simp
  and_intros <;> rfl
end Go.Mx.Q
/-
  Sequences: numbers of orders,plainly; the order with a number,the number of an order.
-/
namespace Go.Mx.Q
set_option linter.unusedVariables false
set_option linter.unusedSimpArgs false
set_option linter.unusedSectionVars false
open Go Go.Mx
def psum (a : NA) (w : Nat→Nat) (s : Nat) : Nat→Nat
  | 0 => 0
  | v + 1 => if rdy a s v = true then psum a w s v + w (s ||| pw v) else psum a w s v
theorem psum_mono {a : NA} {w : Nat→Nat} {s : Nat} {v u : Nat} (h : v ≤ u) : psum a w s v ≤ psum a w s u:=by
  induction u with
  | zero => have : v = 0 := by omega
            subst this; exact Nat.le_refl _
  | succ u ih =>
    by_cases hv : v = u + 1
    · subst hv; exact Nat.le_refl _
    · refine Nat.le_trans (ih (by omega)) ?_
      simp only [psum]; split <;> omega
theorem psum_congr {a : NA} {w w' : Nat→Nat} {s : Nat} : ∀ {v : Nat},(∀ u,u < v→rdy a s u = true→w (s ||| pw u) = w' (s ||| pw u))→psum a w s v = psum a w' s v
  | 0,_ => rfl
  | v + 1,h => by
    simp only [psum]
    rw [psum_congr (v:=v) fun u hu => h u (by omega)]
    split
    · rename_i hr; rw [h v (by omega) hr]
    · rfl
theorem innS_self (a : NA) (g : Nat→Nat) (s : Nat) : ∀ v,innS a g s v s = g s + psum a g s v
  | 0 => rfl
  | v + 1 => by
    simp only [innS,psum]
    split
    · rename_i hr
      unfold updF
      rw [if_pos rfl,innS_self a g s v,innS_other a g s v _ (or_ne (rdy_bit hr))]
      omega
    · exact innS_self a g s v
theorem or_gt {s v : Nat} (h : s.testBit v = false) : s < s ||| pw v:=by
  have h1 : s ≤ s ||| pw v:=Nat.left_le_or
  have:=or_ne h
  omega
theorem tabJ_stay {n : Nat} {a : NA} {j t : Nat} (hj : j + 2 ≤ pw n) (h : pw n ≤ t + j + 1) : tabJ n a (j + 1) t = tabJ n a j t:=by
  simp only [tabJ]
  exact innS_other _ _ _ _ _ (by omega)
theorem tabJ_end {n : Nat} {a : NA} {t : Nat} : ∀ (m j : Nat),j + m + 1 = pw n→pw n ≤ t + j + 1→tabJ n a (j + m) t = tabJ n a j t
  | 0,_,_,_ => rfl
  | m + 1,j,h,h2 => by
    have e:=tabJ_end (n:=n) (a:=a) (t:=t) m (j + 1) (by omega) (by omega)
    rw [show j + (m + 1) = j + 1 + m by omega,e]
    exact tabJ_stay (by omega) h2
theorem wy_full (n : Nat) (a : NA) : wyG n a (pw n - 1) = 1:=by
  have hN : 1 ≤ pw n:=Nat.pow_pos (by decide)
  have:=tabJ_end (n:=n) (a:=a) (t:=pw n - 1) (pw n - 1) 0 (by omega) (by omega)
  rw [Nat.zero_add] at this
  rw [wyG,this]
  simp [tabJ,updF]
theorem wy_rec {n : Nat} {a : NA} {s : Nat} (h : s < pw n - 1) : wyG n a s = psum a (wyG n a) s n:=by
  obtain ⟨j,hj⟩ : ∃ j,j = pw n - 2 - s:=⟨_,rfl⟩
  have e1:=tabJ_end (n:=n) (a:=a) (t:=s) (pw n - 1 - (j + 1)) (j + 1) (by omega) (by omega)
  rw [show j + 1 + (pw n - 1 - (j + 1)) = pw n - 1 by omega] at e1
  rw [show wyG n a s = tabJ n a (pw n - 1) s from rfl,e1]
  simp only [tabJ]
  rw [show pw n - 2 - j = s by omega,innS_self,tabJ_zero j s (by omega),Nat.zero_add]
  apply psum_congr
  intro u _ hr
  have hg:=or_gt (rdy_bit hr)
  have e2:=tabJ_end (n:=n) (a:=a) (t:=s ||| pw u) (pw n - 1 - j) j (by omega) (by omega)
  rw [show j + (pw n - 1 - j) = pw n - 1 by omega] at e2
  exact e2.symm
theorem full_bit {n v : Nat} (h : v < n) : (pw n - 1).testBit v = true:=by
  unfold pw
  rw [Nat.testBit_two_pow_sub_one]
  simpa using h
def stpS (a : NA) (w : Nat→Nat) (s k v : Nat) : Bool:=rdy a s v && decide (k < psum a w s (v + 1))
def pickV (a : NA) (w : Nat→Nat) (n s k : Nat) : Nat:=((List.range n).find? (stpS a w s k)).getD n
def remK (a : NA) (w : Nat→Nat) (s k v : Nat) : Nat:=k - psum a w s v
end Go.Mx.Q
/-
  Sequences: the order with a number.
-/
namespace Go.Mx.Q
set_option linter.unusedVariables false
set_option linter.unusedSimpArgs false
set_option linter.unusedSectionVars false
open Go Go.Mx
@[simp] theorem aggR3 (x y z : D) : aggR [x,y,z] 0 3 = some (.ro (.nd .ag [x,y,z])):=rfl
def atS (a : NA) (w : Nat→Nat) (n k : Nat) : Nat→Nat × Nat × List Nat
  | 0 => (0,k,[])
  | i + 1 => ((atS a w n k i).1 ||| pw (pickV a w n (atS a w n k i).1 (atS a w n k i).2.1),remK a w (atS a w n k i).1 (atS a w n k i).2.1 (pickV a w n (atS a w n k i).1 (atS a w n k i).2.1),
    (atS a w n k i).2.2 ++ [pickV a w n (atS a w n k i).1 (atS a w n k i).2.1])
def atL (n : Nat) (a : NA) (k : Nat) : List Nat:=(atS a (wyG n a) n k n).2.2
theorem miss_full (n : Nat) : ∀ m,m ≤ n→miss m (pw n - 1) = 0
  | 0,_ => rfl
  | m + 1,h => by simp only [miss]; rw [miss_full n m (by omega),full_bit (by omega)]; rfl
end Go.Mx.Q
/-
  Sequences: the order with a number,of the reference.
-/
namespace Go.Mx.Q
set_option linter.unusedVariables false
set_option linter.unusedSimpArgs false
set_option linter.unusedSectionVars false
open Go Go.Mx
def ctD (n : Nat) (a : NA) (e : Int) : D:=.nd .tu [nV (if e = 0 then (wyG n a 0 : Nat) else 0),nV e]
theorem ctD_ok (n : Nat) (a : NA) : ctD n a 0 = .nd .tu [nV (wyG n a 0 : Nat),nV 0]:=rfl
theorem ctD_err (n : Nat) (a : NA) {e : Int} (h : e ≠ 0) : ctD n a e = .nd .tu [nV 0,nV e]:=by unfold ctD; rw [if_neg h]
end Go.Mx.Q
/-
  Sequences: the number of an order.
-/
namespace Go.Mx.Q
set_option linter.unusedVariables false
set_option linter.unusedSimpArgs false
set_option linter.unusedSectionVars false
open Go Go.Mx
def badV (n : Nat) (a : NA) (s : Nat) (v : Int) : Bool:=!(decide (0 ≤ v∧v < n) && rdy a s v.toNat)
end Go.Mx.Q
/-
  Sequences: what is exported; the reference's number of an order.
-/
namespace Go.Mx.Q
set_option linter.unusedVariables false
set_option linter.unusedSimpArgs false
set_option linter.unusedSectionVars false
open Go Go.Mx
end Go.Mx.Q
/-
  Sequences: what is exported.
-/
namespace Go.Mx.Q
set_option linter.unusedVariables false
set_option linter.unusedSimpArgs false
set_option linter.unusedSectionVars false
open Go Go.Mx
@[simp ↓ high] theorem noMem_gf {α : Type} (e : En α) (l : List α) : noMem (gsl e false l) = false:=rfl
abbrev tbW (n : Nat) (a : NA) : D:=tbD n false false (zr n (needG a)) (zr (pw n) (wyG n a))
theorem f11 (call : Oracle) (fuel : Nat) (n : Nat) (b : Bool) (a : NA) (e : Int)
    (h35 : call 23 [nV n,sa b (arcsZ a)] = some (nV e)) (h36 : e = 0→call 24 [nV n,sa b (arcsZ a)] = some (tbW n a)) :
    callF call fuel c11 [nV n,sa b (arcsZ a)] = some (ctD n a e):=by
  rw [callF_tab call fuel c11 7 _ (by exact Nat.le_of_ble_eq_true rfl) (by exact Nat.le_of_ble_eq_true rfl)]
  by_cases he : e = 0
  · subst he
    have h36:=h36 rfl
    rw [ctD_ok]
    have hp : 0 < pw n:=Nat.pow_pos (by decide)
    have n2:=zr_nth (pw n) (wyG n a) hp
    simp [c11,h35,h36,hp,n2]
  · rw [ctD_err n a he]
    simp [c11,h35,he]
abbrev eII : En (Bool × List Int):=eL (eI .i64)
def rowS (n : Nat) (a : NA) (k : Nat) : Bool × List Int:=((atL n a k).isEmpty,zl (atL n a k))
def listsB (l m : List (Bool × List Int)) : Bool:=decide (l.length = m.length) && !(List.range l.length).any fun i => !((nth l (true,[]) i).2 == (nth m (true,[]) i).2)
end Go.Mx.Q
/-
  Sequences: how many orders there are of the vertices of a set; sums over sets.
-/
namespace Go.Mx.Q
set_option linter.unusedVariables false
set_option linter.unusedSimpArgs false
set_option linter.unusedSectionVars false
open Go Go.Mx
theorem psum_ge {a : NA} {w : Nat→Nat} {s v n : Nat} (hv : v < n) (hr : rdy a s v = true) : w (s ||| pw v) ≤ psum a w s n:=by
  refine Nat.le_trans ?_ (psum_mono (show v + 1 ≤ n by omega))
  simp only [psum]
  rw [if_pos hr]
  omega
theorem miss_ex : ∀ {n s : Nat},0 < miss n s→∃ v,v < n∧s.testBit v = false
  | n + 1,s,h => by
    simp only [miss] at h
    by_cases hb : s.testBit n = true
    · rw [if_pos hb] at h
      obtain ⟨v,h1,h2⟩:=miss_ex (n:=n) (s:=s) (by omega)
      exact ⟨v,by omega,h2⟩
    · exact ⟨n,by omega,by simpa using hb⟩
theorem miss_nil {n s : Nat} (hs : s < pw n) (h : miss n s = 0) : s = pw n - 1:=by
  apply Nat.eq_of_testBit_eq
  intro i
  have key : ∀ n,miss n s = 0→∀ i,i < n→s.testBit i = true:=by
    intro n
    induction n with
    | zero => intro _ i hi; omega
    | succ n ih =>
      intro h i hi
      simp only [miss] at h
      have h1 : s.testBit n = true:=by
        cases hb : s.testBit n with
        | true => rfl
        | false => rw [hb] at h; simp at h
      by_cases hin : i = n
      · subst hin; exact h1
      · exact ih (by omega) i (by omega)
  by_cases hi : i < n
  · rw [key n h i hi,full_bit hi]
  · have h1 : s.testBit i = false:=Nat.testBit_lt_two_pow (Nat.lt_of_lt_of_le hs (Nat.pow_le_pow_right (by decide) (by omega)))
    have h2 : (pw n - 1).testBit i = false:=Nat.testBit_lt_two_pow (Nat.lt_of_lt_of_le (show pw n - 1 < pw n by have : 0 < pw n:=Nat.pow_pos (by decide); omega) (Nat.pow_le_pow_right (by decide) (by omega)))
    rw [h1,h2]
end Go.Mx.Q
/-
  Sequences: how many orders have a vertex at a place.
-/
namespace Go.Mx.Q
set_option linter.unusedVariables false
set_option linter.unusedSimpArgs false
set_option linter.unusedSectionVars false
open Go Go.Mx
end Go.Mx.Q
/-
  Sequences: how many orders have a vertex at a place,the walks.
-/
namespace Go.Mx.Q
set_option linter.unusedVariables false
set_option linter.unusedSimpArgs false
set_option linter.unusedSectionVars false
open Go Go.Mx
end Go.Mx.Q
/-
  Sequences: how many orders have a vertex at a place,of the program.
-/
namespace Go.Mx.Q
set_option linter.unusedVariables false
set_option linter.unusedSimpArgs false
set_option linter.unusedSectionVars false
open Go Go.Mx
end Go.Mx.Q
/-
  Sequences: calls up to a depth.
-/
namespace Go.Mx.Q
set_option linter.unusedVariables false
set_option linter.unusedSimpArgs false
set_option linter.unusedSectionVars false
open Go Go.Mx
noncomputable abbrev S (n : Nat) : Oracle:=sem tbl 2100 n
theorem s38 (k : Nat) (b : Bool) (n : Int) (a : List (Int × Int)) (hl : a.length ≤ 1000) : S (k + 1) 38 [nV n,sa b a] = some (bV (validB n a)):=by
  rw [S,sem_succ (mf:=c38) rfl]; exact f38 _ _ (by decide) b n a hl
theorem s48 (k : Nat) : Bit28 (S (k + 1)):=by
  intro s t hs ht
  rw [S,sem_succ (mf:=c48) rfl]; exact f48 _ _ s t hs ht
theorem s47 (k : Nat) (b : Bool) (n : Int) (a : List (Int × Int)) (hv : validB n a = true) (hl : a.length ≤ 1000) : S (k + 1) 47 [nV n,sa b a] = some (su n.toNat (nextG (natA a))):=by
  obtain ⟨m,rfl,hm,ha,hp⟩:=valid_nat hv
  have:=f47 (S k) 2100 (by decide) b m hm (natA a) (fun p h => ⟨(hp p h).1,(hp p h).2.1⟩) (by simpa [natA] using hl)
  rw [← ha] at this
  rw [S,sem_succ (mf:=c47) rfl]; exact this
theorem s50 (k : Nat) : Reach31 (S (k + 2)):=by
  intro b n a hv hl
  obtain ⟨m,rfl,hm,ha,hp⟩:=valid_nat hv
  have h29:=s47 k b m a hv hl
  have:=f50 (S (k + 1)) 2100 (by decide) b m hm (natA a) (fun p h => ⟨(hp p h).1,(hp p h).2.1⟩) (s48 k) (by rw [← ha]; exact h29)
  rw [← ha] at this
  rw [S,sem_succ (mf:=c50) rfl]; exact this
theorem s62 (k : Nat) (n : Nat) (g : Nat→Nat) (hn : n ≤ 24) (hg : ∀ i,g i < 2 ^ 32) : S (k + 2) 62 [su n g] = some (bV (!(List.range n).any (fun i => (g i).testBit i))):=by
  rw [S,sem_succ (mf:=c62) rfl]; exact f62 _ _ (by decide) n hn g hg (s48 k)
theorem s39 (k : Nat) (b : Bool) (n : Int) (a : List (Int × Int)) (hl : a.length ≤ 1000) : S (k + 3) 39 [nV n,sa b a] = some (bV (acyB n a)):=by
  rw [S,sem_succ (mf:=c39) rfl]; exact f39 _ _ b n a hl (s38 (k + 1) b n a hl) (s50 k) (fun m g hm hg => s62 k m g hm hg)
theorem s23 (k : Nat) (b : Bool) (n : Int) (a : List (Int × Int)) (hl : a.length ≤ 1000) : S (k + 4) 23 [nV n,sa b a] = some (nV (chkI n a)):=by
  rw [S,sem_succ (mf:=c23) rfl]; exact f23 _ _ b n a (s38 (k + 2) b n a hl) (s39 k b n a hl)
structure GoodA (n : Nat) (a : NA) : Prop where
  hn : n ≤ 10
  ha : ∀ p ∈ a,p.1 < n∧p.2 < n
  hl : a.length ≤ 1000
theorem chk_ok {n : Int} {a : List (Int × Int)} (h : chkI n a = 0) (hl : a.length ≤ 1000) : ∃ m : Nat,n = (m : Int)∧a = arcsZ (natA a)∧GoodA m (natA a)∧acyB n a = true∧validB n a = true:=by
  unfold chkI at h
  by_cases hv : validB n a = false
  · rw [if_pos hv] at h; cases h
  · rw [if_neg hv] at h
    by_cases h10 : 10 < n
    · rw [if_pos h10] at h; cases h
    · rw [if_neg h10] at h
      have hv' : validB n a = true:=by simpa using hv
      obtain ⟨m,rfl,hm,ha,hp⟩:=valid_nat hv'
      refine ⟨m,rfl,ha,⟨by omega,fun p h => ⟨(hp p h).1,(hp p h).2.1⟩,by simpa [natA] using hl⟩,?_,hv'⟩
      cases hac : acyB m a with
      | true => rfl
      | false => rw [hac,if_pos rfl] at h; cases h
theorem s49 (k : Nat) {n : Nat} {a : NA} (h : GoodA n a) (c d : Bool) (w : List Int) (s v : Nat) (hs : s < pw n) (hv : v < n) : S (k + 1) 49 [tbD n c d (zr n (needG a)) w,nV s,nV v] = some (bV (rdy a s v)):=by
  rw [S,sem_succB (mf:=c49) rfl]; exact f49 _ _ n a c d w s v h.hn hv hs h.ha
theorem s24 (k : Nat) {n : Nat} {a : NA} (h : GoodA n a) (b : Bool) : S (k + 2) 24 [nV n,sa b (arcsZ a)] = some (tbW n a):=by
  rw [S,sem_succ (mf:=c24) rfl]; exact f24 _ _ (by decide) n h.hn a h.hl h.ha b (s49 k h false false)
def ctZ (n : Int) (a : List (Int × Int)) : D:=ctD n.toNat (natA a) (chkI n a)
section
variable (call : Oracle) (fuel : Nat) (n : Int) (b b' : Bool) (a : List (Int × Int)) (l : List Int) (i e : Int) (he : e ≠ 0)
include he
theorem f14e (h : call 23 [nV n,sa b a] = some (nV e)) : callF call fuel c11 [nV n,sa b a] = some (.nd .tu [nV 0,nV e]):=by
  rw [callF_tab call fuel c11 7 _ (by exact Nat.le_of_ble_eq_true rfl) (by exact Nat.le_of_ble_eq_true rfl)]; simp [c11,h,he]
end
section
variable (k : Nat) (n : Int) (b b' : Bool) (a : List (Int × Int)) (hl : a.length ≤ 1000) (l : List Int) (i : Int)
include hl
theorem s11 : S (k + 5) 11 [nV n,sa b a] = some (ctZ n a):=by
  have h:=s23 k b n a hl
  rw [S,sem_succ (mf:=c11) rfl]
  unfold ctZ
  by_cases he : chkI n a = 0
  · obtain ⟨m,rfl,h1,h2,_⟩:=chk_ok he hl
    have:=f11 (S (k + 4)) 2100 m b (natA a) (chkI m a) (by rw [← h1]; exact h) (fun _ => s24 (k + 2) h2 b)
    rw [← h1] at this
    exact this
  · rw [ctD_err _ _ he]; exact f14e _ _ n b a _ he h
end
end Go.Mx.Q
/-
  Sequences,plainly: numbers and orders are inverse; an order exists if nothing reaches itself.
-/
namespace Go.Mx.Q
set_option linter.unusedVariables false
set_option linter.unusedSimpArgs false
set_option linter.unusedSectionVars false
open Go Go.Mx
theorem warr_bit (g : Nat→Nat) (k i j : Nat) : (warr g (k + 1) i).testBit j = ((warr g k i).testBit j || (warr g k i).testBit k && (warr g k k).testBit j):=stp_bit (warr g k) k i j
theorem warr_mono (g : Nat→Nat) (k i j : Nat) (h : (g i).testBit j = true) : (warr g k i).testBit j = true:=by
  induction k with
  | zero => exact h
  | succ k ih => rw [warr_bit,ih]; rfl
theorem warr_trans (g : Nat→Nat) (k v i j : Nat) (hv : v < k) (h1 : (warr g k i).testBit v = true) (h2 : (warr g k v).testBit j = true) : (warr g k i).testBit j = true:=by
  induction k generalizing v i j with
  | zero => omega
  | succ k ih =>
    rw [warr_bit] at h1 h2 ⊢
    simp only [Bool.or_eq_true,Bool.and_eq_true] at *
    by_cases hk : v = k
    · subst hk
      have a1 : (warr g v i).testBit v = true:=by rcases h1 with h | ⟨h,_⟩ <;> exact h
      have a2 : (warr g v v).testBit j = true:=by rcases h2 with h | ⟨_,h⟩ <;> exact h
      exact Or.inr ⟨a1,a2⟩
    · have hv' : v < k:=by omega
      rcases h1 with h1 | ⟨h1,h3⟩ <;> rcases h2 with h2 | ⟨h2,h4⟩
      · exact Or.inl (ih v i j hv' h1 h2)
      · exact Or.inr ⟨ih v i k hv' h1 h2,h4⟩
      · exact Or.inr ⟨h1,ih v k j hv' h3 h2⟩
      · exact Or.inr ⟨h1,h4⟩
theorem warr_ind (g : Nat→Nat) (P : Nat→Nat→Prop) (h0 : ∀ i j,(g i).testBit j = true→P i j) (ht : ∀ i v j,P i v→P v j→P i j) (k i j : Nat) (h : (warr g k i).testBit j = true) : P i j:=by
  induction k generalizing i j with
  | zero => exact h0 i j h
  | succ k ih =>
    rw [warr_bit] at h
    simp only [Bool.or_eq_true,Bool.and_eq_true] at h
    rcases h with h | ⟨h1,h2⟩
    · exact ih i j h
    · exact ht i k j (ih i k h1) (ih k j h2)
theorem exists_min (r : Nat→Nat→Prop) (hi : ∀ x,¬ r x x) (ht : ∀ x y z,r x y→r y z→r x z) : ∀ (l : List Nat),l ≠ []→∃ m ∈ l,∀ x ∈ l,¬ r x m
  | [],h => absurd rfl h
  | [a],_ => ⟨a,List.mem_cons_self ..,fun x hx => by simp at hx; subst hx; exact hi _⟩
  | a :: b :: l,_ => by
    obtain ⟨m,hm,hmin⟩:=exists_min r hi ht (b :: l) (by simp)
    by_cases h : r a m
    · refine ⟨a,List.mem_cons_self ..,fun x hx hr => ?_⟩
      rcases List.mem_cons.1 hx with rfl | hx
      · exact hi _ hr
      · exact hmin x hx (ht _ _ _ hr h)
    · refine ⟨m,List.mem_cons_of_mem _ hm,fun x hx hr => ?_⟩
      rcases List.mem_cons.1 hx with rfl | hx
      · exact h hr
      · exact hmin x hx hr
theorem next_bit (a : NA) (i j : Nat) : (nextG a i).testBit j = a.any fun p => p.1 == i && p.2 == j:=by
  have : ∀ (a : NA) (g : Nat→Nat),(a.foldl addArc g i).testBit j = ((g i).testBit j || a.any fun p => p.1 == i && p.2 == j):=by
    intro a
    induction a with
    | nil => intro g; simp
    | cons p a ih =>
      intro g
      rw [List.foldl_cons,ih,List.any_cons]
      unfold addArc updF
      by_cases h : i = p.1
      · subst h
        rw [if_pos rfl,Nat.testBit_or,pw_bit]
        by_cases h2 : p.2 = j
        · simp [h2]
        · have h3 : (p.2 == j) = false:=by simpa using h2
          simp [h2,h3]
      · have h' : (p.1 == i) = false:=by simpa using fun e => h e.symm
        rw [if_neg h,h']
        simp
  rw [nextG,this]
  simp
def Acy (n : Nat) (a : NA) : Prop:=∀ i,i < n→(warr (nextG a) n i).testBit i = false
theorem acy_of {n : Nat} {a : List (Int × Int)} (h : acyB n a = true) : Acy n (natA a):=by
  intro i hi
  unfold acyB at h
  simp only [Bool.and_eq_true,Bool.not_eq_true',List.any_eq_false] at h
  have:=h.2 i (List.mem_range.2 (by omega))
  unfold rea at this
  simpa using this
theorem rdy_ex {n : Nat} {a : NA} (hv : ∀ p ∈ a,p.1 < n∧p.2 < n) (hac : Acy n a) {s : Nat} (hm : 0 < miss n s) : ∃ v,v < n∧rdy a s v = true:=by
  obtain ⟨v0,h1,h2⟩:=miss_ex hm
  obtain ⟨m,hm,hmin⟩:=exists_min (fun x y => x < n∧y < n∧(warr (nextG a) n x).testBit y = true) (fun x h => by rw [hac x h.1] at h; simp at h)
    (fun x y z h1 h2 => ⟨h1.1,h2.2.1,warr_trans _ _ _ _ _ h1.2.1 h1.2.2 h2.2.2⟩) ((List.range n).filter fun v => !s.testBit v) (by
      intro e
      have : v0 ∈ (List.range n).filter fun v => !s.testBit v:=List.mem_filter.2 ⟨List.mem_range.2 h1,by simp [h2]⟩
      rw [e] at this
      cases this)
  obtain ⟨hm1,hm2⟩:=List.mem_filter.1 hm
  refine ⟨m,List.mem_range.1 hm1,?_⟩
  unfold rdy
  simp only [Bool.and_eq_true,List.all_eq_true]
  refine ⟨hm2,fun p hp => ?_⟩
  by_cases hc : p.2 = m
  · have h3:=hv p hp
    cases hb : s.testBit p.1 with
    | true => simp
    | false =>
      exfalso
      refine hmin p.1 (List.mem_filter.2 ⟨List.mem_range.2 h3.1,by simp [hb]⟩) ⟨h3.1,by omega,warr_mono _ _ _ _ ?_⟩
      rw [next_bit,List.any_eq_true]
      exact ⟨p,hp,by simp [hc]⟩
  · simp [hc]
theorem wy_pos {n : Nat} {a : NA} (hv : ∀ p ∈ a,p.1 < n∧p.2 < n) (hac : Acy n a) : ∀ (k s : Nat),s < pw n→miss n s = k→0 < wyG n a s
  | 0,s,hs,h => by rw [miss_nil hs h,wy_full]; decide
  | k + 1,s,hs,h => by
    obtain ⟨v,h1,hr⟩:=rdy_ex hv hac (s:=s) (by omega)
    have h2:=miss_or n s v h1 (rdy_bit hr)
    have h3:=wy_pos hv hac k (s ||| pw v) (or_lt hs h1) (by omega)
    have hne : s < pw n - 1:=by
      have : s ≠ pw n - 1:=by intro e; rw [e,miss_full n n (Nat.le_refl _)] at h; omega
      omega
    rw [wy_rec hne]
    have h4:=psum_ge (w:=wyG n a) h1 hr
    omega
end Go.Mx.Q
/-
  Sequences,plainly: there is just one exactly if any two vertices can be compared.
-/
namespace Go.Mx.Q
set_option linter.unusedVariables false
set_option linter.unusedSimpArgs false
set_option linter.unusedSectionVars false
open Go Go.Mx
section
variable {n : Nat} {a : NA} (hv : ∀ p ∈ a,p.1 < n∧p.2 < n) (hac : Acy n a)
abbrev Rc (n : Nat) (a : NA) (u v : Nat) : Prop:=(warr (nextG a) n u).testBit v = true
include hv
theorem last_arc {u v : Nat} (h : Rc n a u v) : u < n∧v < n∧Rc n a u v∧∃ p ∈ a,p.2 = v∧(u = p.1 ∨ Rc n a u p.1):=by
  refine warr_ind (nextG a) (fun i j => i < n∧j < n∧Rc n a i j∧∃ p ∈ a,p.2 = j∧(i = p.1 ∨ Rc n a i p.1)) (fun i j h => ?_) (fun i v j h1 h2 => ?_) n u v h
  · have h':=h
    rw [next_bit,List.any_eq_true] at h'
    obtain ⟨p,hp,he⟩:=h'
    simp only [Bool.and_eq_true,beq_iff_eq] at he
    have:=hv p hp
    exact ⟨by omega,by omega,warr_mono _ _ _ _ h,p,hp,he.2,.inl he.1.symm⟩
  · obtain ⟨i1,v1,r1,_⟩:=h1
    obtain ⟨_,j2,r2,p,hp,e2,c2⟩:=h2
    refine ⟨i1,j2,warr_trans _ _ _ _ _ v1 r1 r2,p,hp,e2,.inr ?_⟩
    rcases c2 with rfl | c2
    · exact r1
    · exact warr_trans _ _ _ _ _ v1 r1 c2
def Dn (n : Nat) (a : NA) (s : Nat) : Prop:=∀ u v,Rc n a u v→s.testBit v = true→s.testBit u = true
def Tot (n : Nat) (a : NA) (s : Nat) : Prop:=∀ u v,u < n→v < n→u ≠ v→s.testBit u = false→s.testBit v = false→Rc n a u v ∨ Rc n a v u
theorem rdy_none {s v w : Nat} (hd : Dn n a s) (hr : rdy a s v = true) (hw : s.testBit w = false) : ¬ Rc n a w v:=by
  intro h
  obtain ⟨_,_,_,p,hp,e,c⟩:=last_arc hv h
  unfold rdy at hr
  simp only [Bool.and_eq_true,List.all_eq_true] at hr
  have h1:=hr.2 p hp
  have h2 : s.testBit p.1 = true:=by simpa [e] using h1
  rcases c with rfl | c
  · rw [h2] at hw; cases hw
  · rw [hd _ _ c h2] at hw; cases hw
theorem dn_or {s v : Nat} (hd : Dn n a s) (hr : rdy a s v = true) : Dn n a (s ||| pw v):=by
  intro u w h hw
  rw [Nat.testBit_or,Bool.or_eq_true] at hw ⊢
  rcases hw with hw | hw
  · exact .inl (hd _ _ h hw)
  · rw [pw_bit,decide_eq_true_eq] at hw
    subst hw
    cases hu : s.testBit u with
    | true => exact .inl rfl
    | false => exact absurd h (rdy_none hv hd hr hu)
omit hv in
theorem psum_two {w : Nat→Nat} {s v v' m : Nat} (h : v < v') (hm : v' < m) (hr : rdy a s v = true) (hr' : rdy a s v' = true) : w (s ||| pw v) + w (s ||| pw v') ≤ psum a w s m:=by
  have h1:=psum_ge (w:=w) (n:=v') h hr
  have h2 : psum a w s (v' + 1) = psum a w s v' + w (s ||| pw v'):=by simp [psum,hr']
  have h3:=psum_mono (a:=a) (w:=w) (s:=s) (show v' + 1 ≤ m by omega)
  omega
omit hv in
theorem psum_one {w : Nat→Nat} {s v : Nat} (hr : rdy a s v = true) (hu : ∀ x,rdy a s x = true→x < n→x = v) : ∀ m,m ≤ n→psum a w s m = if v < m then w (s ||| pw v) else 0
  | 0,_ => by simp [psum]
  | m + 1,h => by
    have ih:=psum_one (w:=w) hr hu m (by omega)
    simp only [psum]
    by_cases hm : rdy a s m = true
    · have:=hu m hm (by omega)
      subst this
      rw [if_pos hm,ih,if_neg (by omega),if_pos (by omega)]; omega
    · have hne : v ≠ m:=fun e => hm (e ▸ hr)
      rw [if_neg hm,ih]
      by_cases hlt : v < m
      · rw [if_pos hlt,if_pos (by omega)]
      · rw [if_neg hlt,if_neg (by omega)]
include hac
theorem cnt_one : ∀ (k s : Nat),s < pw n→miss n s = k→Dn n a s→(wyG n a s = 1 ↔ Tot n a s)
  | 0,s,hs,h,_ => by
    have e:=miss_nil hs h
    rw [e,wy_full]
    refine ⟨fun _ u v hu _ _ hsu => ?_,fun _ => rfl⟩
    exfalso
    have:=miss_or n (pw n - 1) u hu hsu
    rw [e] at h; omega
  | k + 1,s,hs,h,hd => by
    obtain ⟨v,h1,hr⟩:=rdy_ex hv hac (s:=s) (by omega)
    have hsv:=rdy_bit hr
    have h2:=miss_or n s v h1 hsv
    have hd':=dn_or hv hd hr
    have ih:=cnt_one k (s ||| pw v) (or_lt hs h1) (by omega) hd'
    have hp:=wy_pos hv hac k (s ||| pw v) (or_lt hs h1) (by omega)
    have hne : s < pw n - 1:=by
      have : s ≠ pw n - 1:=by intro e; rw [e,miss_full n n (Nat.le_refl _)] at h; omega
      omega
    rw [wy_rec hne]
    have bit : ∀ x,(s ||| pw v).testBit x = false ↔ s.testBit x = false∧x ≠ v:=by
      intro x
      rw [Nat.testBit_or,pw_bit,Bool.or_eq_false_iff,decide_eq_false_iff_not]
      exact ⟨fun h => ⟨h.1,fun e => h.2 e.symm⟩,fun h => ⟨h.1,fun e => h.2 e.symm⟩⟩
    constructor
    · intro h1w
      have uniq : ∀ x,rdy a s x = true→x < n→x = v:=by
        intro x hx hxn
        by_cases hxv : x = v
        · exact hxv
        · exfalso
          have h5:=miss_or n s x hxn (rdy_bit hx)
          have h6:=wy_pos hv hac k (s ||| pw x) (or_lt hs hxn) (by omega)
          rcases Nat.lt_or_gt_of_ne hxv with hlt | hlt
          · have:=psum_two (w:=wyG n a) hlt h1 hx hr
            omega
          · have:=psum_two (w:=wyG n a) hlt hxn hr hx
            omega
      rw [psum_one hr uniq n (Nat.le_refl _),if_pos h1] at h1w
      have ht:=ih.1 h1w
      -- every other vertex is behind v
      have behind : ∀ u,u < n→u ≠ v→s.testBit u = false→Rc n a v u:=by
        intro u hu huv hsu
        obtain ⟨m,hm,hmin⟩:=exists_min (fun x y => x < n∧y < n∧Rc n a x y) (fun x h => by have:=hac x h.1; have h':=h.2.2; rw [Rc,this] at h'; cases h')
          (fun x y z h1 h2 => ⟨h1.1,h2.2.1,warr_trans _ _ _ _ _ h1.2.1 h1.2.2 h2.2.2⟩) ((List.range n).filter fun x => !s.testBit x && (decide (x = u) || (warr (nextG a) n x).testBit u)) (by
            intro e
            have : u ∈ (List.range n).filter fun x => !s.testBit x && (decide (x = u) || (warr (nextG a) n x).testBit u):=List.mem_filter.2 ⟨List.mem_range.2 hu,by simp [hsu]⟩
            rw [e] at this; cases this)
        obtain ⟨hm1,hm2⟩:=List.mem_filter.1 hm
        have hmn:=List.mem_range.1 hm1
        simp only [Bool.and_eq_true,Bool.not_eq_true',Bool.or_eq_true,decide_eq_true_eq] at hm2
        have hrm : rdy a s m = true:=by
          unfold rdy
          simp only [Bool.and_eq_true,List.all_eq_true]
          refine ⟨by simp [hm2.1],fun p hp => ?_⟩
          by_cases hc : p.2 = m
          · have h3:=hv p hp
            cases hb : s.testBit p.1 with
            | true => simp
            | false =>
              exfalso
              have harc : Rc n a p.1 m:=by
                refine warr_mono _ _ _ _ ?_
                rw [next_bit,List.any_eq_true]
                exact ⟨p,hp,by simp [hc]⟩
              refine hmin p.1 (List.mem_filter.2 ⟨List.mem_range.2 h3.1,?_⟩) ⟨h3.1,hmn,harc⟩
              simp only [Bool.and_eq_true,Bool.not_eq_true',Bool.or_eq_true,decide_eq_true_eq]
              refine ⟨hb,.inr ?_⟩
              rcases hm2.2 with rfl | hm3
              · exact harc
              · exact warr_trans _ _ _ _ _ hmn harc hm3
          · simp [hc]
        have:=uniq m hrm hmn
        subst this
        rcases hm2.2 with rfl | hm3
        · exact absurd rfl huv
        · exact hm3
      intro x y hx hy hxy hsx hsy
      by_cases e1 : x = v
      · subst e1; exact .inl (behind y hy (fun e => hxy e.symm) hsy)
      · by_cases e2 : y = v
        · subst e2; exact .inr (behind x hx e1 hsx)
        · exact ht x y hx hy hxy ((bit x).2 ⟨hsx,e1⟩) ((bit y).2 ⟨hsy,e2⟩)
    · intro ht
      have uniq : ∀ x,rdy a s x = true→x < n→x = v:=by
        intro x hx hxn
        by_cases hxv : x = v
        · exact hxv
        · exfalso
          rcases ht x v hxn h1 hxv (rdy_bit hx) hsv with hR | hR
          · exact rdy_none hv hd hr (rdy_bit hx) hR
          · exact rdy_none hv hd hx hsv hR
      rw [psum_one hr uniq n (Nat.le_refl _),if_pos h1]
      exact ih.2 fun x y hx hy hxy hsx hsy => ht x y hx hy hxy ((bit x).1 hsx).1 ((bit y).1 hsy).1
theorem one_iff : wyG n a 0 = 1 ↔ ∀ u v,u < n→v < n→u ≠ v→Rc n a u v ∨ Rc n a v u:=by
  rw [cnt_one hv hac _ 0 (Nat.pow_pos (by decide)) rfl (fun u v _ h => by simp at h)]
  exact ⟨fun h u v hu hv' huv => h u v hu hv' huv (by simp) (by simp),fun h u v hu hv' huv _ _ => h u v hu hv' huv⟩
end
end Go.Mx.Q
