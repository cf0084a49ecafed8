/-
  Walks and plain laws towards the statements of this seat (Parts). Conditions: those that each theorem names.
-/
import Derived.Test.YtclnfgmcpodeaaaDoorTab
import Derived.Test.YtclnfgmcpodeaaaDoorDfa1
set_option linter.unusedVariables false
set_option linter.unusedSimpArgs false
namespace Go.Proofs
open Go Go.Fw
set_option maxHeartbeats 4000000
/- keys with numbers -/
def kvK (K : List (List UInt8)) : List (Value × FV) := K.zipIdx.map fun x => (str x.1, intF x.2)
theorem kvK_len (K : List (List UInt8)) : (kvK K).length = K.length := by simp [kvK]
theorem kvK_snoc (K : List (List UInt8)) (k : List UInt8) : kvK (K ++ [k]) = kvK K ++ [(str k, intF K.length)] := by
  simp [kvK, List.zipIdx_append]
theorem kvK_mem {K : List (List UInt8)} {p : Value × FV} (h : p ∈ kvK K) : ∃ (i : Nat) (k : List UInt8), K[i]? = some k ∧ p = (str k, intF i) := by
  simp only [kvK, List.mem_map] at h
  obtain ⟨x, h1, rfl⟩ := h
  exact ⟨x.2, x.1, by rw [List.mem_zipIdx_iff_getElem?] at h1; exact h1, rfl⟩
theorem kvK_in {K : List (List UInt8)} {i : Nat} {k : List UInt8} (h : K[i]? = some k) : (str k, intF i) ∈ kvK K := by
  simp only [kvK, List.mem_map]
  exact ⟨(k, i), by rw [List.mem_zipIdx_iff_getElem?]; simpa using h, rfl⟩
theorem kvK_keys {K : List (List UInt8)} (hn : K.Nodup) (hs : ∀ k ∈ K, k.length < 1000000) : KeysOK Tryd.prog 9 (kvK K) where
  lits p hp := by
    obtain ⟨i, k, hk, rfl⟩ := kvK_mem hp
    exact keyOf_S (hs k (List.mem_of_getElem? hk))
  apart := by
    have : (kvK K).map (·.1) = K.map str := by
      simp only [kvK, List.map_map]
      rw [show ((fun x : Value × FV => x.1) ∘ fun x : List UInt8 × Nat => (str x.1, intF x.2)) = str ∘ Prod.fst from rfl, ← List.map_map, List.zipIdx_map_fst]
    have h2 : ((kvK K).map (·.1)).Pairwise (· ≠ ·) := by
      rw [this, List.pairwise_map]
      exact hn.imp fun hne e => hne (str_inj e)
    rwa [List.pairwise_map] at h2
/-- which sets a byte is in -/
def sgn (l : List W4) (b : Nat) : List UInt8 := l.map fun s => if hasN s b then 1 else 0
def findK (K : List (List UInt8)) (k : List UInt8) : Option Nat := K.findIdx? fun x => decide (x = k)
def partStep (l : List W4) (st : List (List UInt8) × List Int) (b : Nat) : List (List UInt8) × List Int := match findK st.1 (sgn l b) with
  | some i => (st.1, st.2 ++ [(i : Int)])
  | none => (st.1 ++ [sgn l b], st.2 ++ [(st.1.length : Int)])
def partC (l : List W4) (n : Nat) : List (List UInt8) × List Int := (List.range n).foldl (partStep l) ([], [])
theorem partC_succ (l : List W4) (n : Nat) : partC l (n + 1) = partStep l (partC l n) n := by
  simp [partC, List.range_succ]
theorem findK_some {K : List (List UInt8)} {k : List UInt8} {i : Nat} (h : findK K k = some i) : K[i]? = some k := by
  unfold findK at h
  rw [List.findIdx?_eq_some_iff_getElem] at h
  obtain ⟨h1, h2, _⟩ := h
  simp only [decide_eq_true_eq] at h2
  rw [List.getElem?_eq_getElem h1, h2]
theorem findK_none {K : List (List UInt8)} {k : List UInt8} (h : findK K k = none) : ∀ x ∈ K, x ≠ k := by
  unfold findK at h
  rw [List.findIdx?_eq_none_iff] at h
  intro x hx
  simpa using h x hx
/-- keys each once, of the sets' number, no more than bytes -/
theorem partC_ok (l : List W4) : ∀ n, (partC l n).1.Nodup ∧ (∀ k ∈ (partC l n).1, k.length = l.length) ∧ (partC l n).1.length ≤ n ∧ (partC l n).2.length = n ∧ (∀ x ∈ (partC l n).2, 0 ≤ x ∧ x ≤ n)
  | 0 => by simp [partC]
  | n + 1 => by
    obtain ⟨h1, h2, h3, h4, h5⟩ := partC_ok l n
    rw [partC_succ]
    unfold partStep
    cases hf : findK (partC l n).1 (sgn l n) with
    | some i =>
      have hi := findK_some hf
      have hlt : i < (partC l n).1.length := by
        rcases Nat.lt_or_ge i (partC l n).1.length with h | h
        · exact h
        · rw [List.getElem?_eq_none h] at hi; cases hi
      refine ⟨h1, h2, by show (partC l n).1.length ≤ n + 1; omega, by simp [h4], fun x hx => ?_⟩
      simp only [List.mem_append, List.mem_singleton] at hx
      rcases hx with hx | rfl
      · have := h5 x hx; omega
      · omega
    | none =>
      have hno := findK_none hf
      refine ⟨?_, fun k hk => ?_, by simp; omega, by simp [h4], fun x hx => ?_⟩
      · rw [List.nodup_append]
        refine ⟨h1, by simp, fun a ha b hb => ?_⟩
        simp only [List.mem_singleton] at hb
        subst hb
        exact hno a ha
      · simp only [List.mem_append, List.mem_singleton] at hk
        rcases hk with hk | rfl
        · exact h2 k hk
        · simp [sgn]
      · simp only [List.mem_append, List.mem_singleton] at hx
        rcases hx with hx | rfl
        · have := h5 x hx; omega
        · omega
def partsR (l : List W4) : Option (List W4) := setsR (partC l 256).2
theorem set_app {α : Type} (A : List α) (v z : α) (n j : Nat) (hj : A.length = j) (hn : j < n) : (A ++ List.replicate (n - j) z).set j v = (A ++ [v]) ++ List.replicate (n - (j + 1)) z := by
  subst hj
  rw [List.set_append_right _ _ (Nat.le_refl _), Nat.sub_self, List.append_assoc]
  obtain ⟨m, hm⟩ : ∃ m, n - A.length = m + 1 := ⟨n - A.length - 1, by omega⟩
  rw [hm, List.replicate_succ, List.set_cons_zero, show n - (A.length + 1) = m by omega]
  rfl
def clsRow (l : List W4) (j : Nat) : List Int := (partC l j).2 ++ List.replicate (256 - j) 0
theorem clsRow_len (l : List W4) (j : Nat) (hj : j ≤ 256) : (clsRow l j).length = 256 := by
  have := (partC_ok l j).2.2.2.1
  simp [clsRow, this]; omega
def sgnRow (l : List W4) (b i : Nat) : List UInt8 := (sgn l b).take i ++ List.replicate (l.length - i) 0
theorem sgn_len (l : List W4) (b : Nat) : (sgn l b).length = l.length := by simp [sgn]
theorem sgnRow_len (l : List W4) (b i : Nat) (h : i ≤ l.length) : (sgnRow l b i).length = l.length := by
  simp [sgnRow, sgn_len]; omega
theorem sgnRow_end (l : List W4) (b : Nat) : sgnRow l b l.length = sgn l b := by
  simp [sgnRow, ← sgn_len l b]
theorem sgn_get (l : List W4) (b i : Nat) (h : i < l.length) : (sgn l b).getD i 0 = if hasN (l.getD i zW) b then 1 else 0 := by
  simp [sgn, List.getD, List.getElem?_map, List.getElem?_eq_getElem h]
theorem sgnRow_one (l : List W4) (b i : Nat) (h : i < l.length) (hb : hasN (l.getD i zW) b = true) : (sgnRow l b i).set i 1 = sgnRow l b (i + 1) := by
  have hg := sgn_get l b i h
  rw [hb] at hg
  unfold sgnRow
  rw [set_app _ _ _ _ _ (by simp [sgn_len]; omega) h, take_succ_e _ _ 0 (by rw [sgn_len]; exact h), hg]
  rfl
theorem sgnRow_no (l : List W4) (b i : Nat) (h : i < l.length) (hb : hasN (l.getD i zW) b = false) : sgnRow l b i = sgnRow l b (i + 1) := by
  have hg := sgn_get l b i h
  rw [hb] at hg
  unfold sgnRow
  rw [take_succ_e _ _ 0 (by rw [sgn_len]; exact h), hg]
  obtain ⟨m, hm⟩ : ∃ m, l.length - i = m + 1 := ⟨l.length - i - 1, by omega⟩
  rw [hm, List.replicate_succ, show l.length - (i + 1) = m by omega]
  simp
theorem clsRow0 (l : List W4) : (clsRow l 0).map intF = List.replicate 256 (FV.v (.int .i64 0)) := by
  unfold clsRow
  show (([] : List Int) ++ List.replicate 256 0).map intF = _
  rw [List.nil_append, List.map_replicate]
  rfl
theorem wf_small {x : Int} (h0 : -1000000 ≤ x) (h1 : x < 1000000) : (Lit.int .i64 x).wf = true := by
  have e1 : IntKind.i64.min = -9223372036854775808 := rfl
  have e2 : IntKind.i64.max = 9223372036854775807 := rfl
  simp only [Lit.wf, e1, e2, Bool.and_eq_true, decide_eq_true_eq]
  omega
theorem bytes_u8 (l : List UInt8) (n : Nat) (h : l.length ≤ n) : List.map fvByte (List.take n (List.map u8 l)) = l := by
  rw [List.take_of_length_le (by simpa using h), List.map_map]
  have : fvByte ∘ u8 = id := by
    funext c
    simp [fvByte, u8]
  rw [this, List.map_id]
theorem cls_hit {l : List W4} {j i : Nat} (hj : j < 256) (h : findK (partC l j).1 (sgn l j) = some i) : (partC l (j + 1)).1 = (partC l j).1 ∧ clsRow l (j + 1) = (clsRow l j).set j (i : Int) := by
  have h4 := (partC_ok l j).2.2.2.1
  have e : partC l (j + 1) = ((partC l j).1, (partC l j).2 ++ [(i : Int)]) := by rw [partC_succ]; unfold partStep; rw [h]
  refine ⟨by rw [e], ?_⟩
  unfold clsRow
  rw [set_app _ _ _ _ _ h4 hj, e]
theorem cls_new {l : List W4} {j : Nat} (hj : j < 256) (h : findK (partC l j).1 (sgn l j) = none) : (partC l (j + 1)).1 = (partC l j).1 ++ [sgn l j] ∧ clsRow l (j + 1) = (clsRow l j).set j ((partC l j).1.length : Int) := by
  have h4 := (partC_ok l j).2.2.2.1
  have e : partC l (j + 1) = ((partC l j).1 ++ [sgn l j], (partC l j).2 ++ [((partC l j).1.length : Int)]) := by rw [partC_succ]; unfold partStep; rw [h]
  refine ⟨by rw [e], ?_⟩
  unfold clsRow
  rw [set_app _ _ _ _ _ h4 hj, e]
theorem p_parts (l : List W4) (hl : l.length ≤ 1024) : PC Tryd.prog 32 [.sl 4 (l.map setW)] (· = setsV (partsR l)) := by
  refine PC.in 1000 Tryd.func32 (by kernel_rfl) rfl (by kernel_rfl) fun Ph Ps E Q hE hQ => ?_
  simp only [Tryd.f32, AWn, AWg, AWc, AWi, AWx, AWd, exitTo, slots, aEnd, aOut, jAV, aRet, retAV, tupOf, RF, RFo, release, release.rels, aop, ev, evs, evo, evl, constAV, strip, lk, guardOf, gd, Ja, Jb, Jc, St.put, Jd, Je, Jf, AV.s, AV.cells, FV.cells, AV.one, FV.okE, hset, hdel, aMove, aBin, resV, bopV, bopInt, bopStr, bopBool, aPick, aNot, aNeg, aXor, aConv, rdSl, aNil, newCells, aAlloc, aBox, ldAgg, aLoad, aStore, aStoreRow, writeAt, fldAt, aFieldAddr, partOf, aField, idxAddrE, arrAddrE, aIndexAddr, arrIdx, aIndex, bnds, slStr, slF, slO, aSlice, aExtract, bldParts, aggRes, aBuild, arrFs, bslParts, bslRes, bslE, aBuildSlice, mkSl, aMakeSlice, aLen, apRow, apE, apT, aAppend, aRange, nextS, aNext, aMkFunc, aCallV, VX, VXg, VXk, VXc, VXf, VXz, VQ, VQg, VQk, VQc, VQf, VQz, qk, pickT, putT, lks, tmpsOf, guardT, Op.operands, Call.operands, Jg, Option.toArray, Jh, Ji, Nat.reduceBEq, Nat.reduceAdd, Nat.reduceSub, Nat.reduceMul, Jj, Jk, Jl, Jm, Jn, Jo, Jp, Jq, Jr, Js, Jt, Ju, Jv, Jw, Jx, reduceIte, Nat.reduceLT, Nat.reduceLeDiff, Jy, reduceCtorEq, Jz, Ka, Kb, Kc, Kd, Ke, Kf, Kg, Kh, Ki, Kj, Kk, Kl, Km, Kn, Ko, Kp, Kq, Int.reduceLT, Int.reduceLE, Int.reduceGT, Int.reduceGE, Int.reduceAdd, Int.reduceSub, Int.reduceMul, Int.reduceNeg, Int.reduceBEq, Int.reduceEq, Int.reduceToNat, Kr, List.replicate_succ, Ks, Kt, Ku, Kv, renH, delAll, shift, rn, AO.ren, AV.ren, AV.rens, implies_true, pk0, tk3, tk4, tk5, tk9, tk22, tk50, tk52, tk56, tk58, tk97]
  refine ⟨fun h => by omega, fun _ => ?_⟩
  refine AW.newMap (n := 1000) rfl rfl ?_
  simp only [Tryd.f32, AWn, AWg, AWc, AWi, AWx, AWd, exitTo, slots, aEnd, aOut, jAV, aRet, retAV, tupOf, RF, RFo, release, release.rels, aop, ev, evs, evo, evl, constAV, strip, lk, guardOf, gd, Ja, Jb, Jc, St.put, Jd, Je, Jf, AV.s, AV.cells, FV.cells, AV.one, FV.okE, hset, hdel, aMove, aBin, resV, bopV, bopInt, bopStr, bopBool, aPick, aNot, aNeg, aXor, aConv, rdSl, aNil, newCells, aAlloc, aBox, ldAgg, aLoad, aStore, aStoreRow, writeAt, fldAt, aFieldAddr, partOf, aField, idxAddrE, arrAddrE, aIndexAddr, arrIdx, aIndex, bnds, slStr, slF, slO, aSlice, aExtract, bldParts, aggRes, aBuild, arrFs, bslParts, bslRes, bslE, aBuildSlice, mkSl, aMakeSlice, aLen, apRow, apE, apT, aAppend, aRange, nextS, aNext, aMkFunc, aCallV, VX, VXg, VXk, VXc, VXf, VXz, VQ, VQg, VQk, VQc, VQf, VQz, qk, pickT, putT, lks, tmpsOf, guardT, Op.operands, Call.operands, Jg, Option.toArray, Jh, Ji, Nat.reduceBEq, Nat.reduceAdd, Nat.reduceSub, Nat.reduceMul, Jj, Jk, Jl, Jm, Jn, Jo, Jp, Jq, Jr, Js, Jt, Ju, Jv, Jw, Jx, reduceIte, Nat.reduceLT, Nat.reduceLeDiff, Jy, reduceCtorEq, Jz, Ka, Kb, Kc, Kd, Ke, Kf, Kg, Kh, Ki, Kj, Kk, Kl, Km, Kn, Ko, Kp, Kq, Int.reduceLT, Int.reduceLE, Int.reduceGT, Int.reduceGE, Int.reduceAdd, Int.reduceSub, Int.reduceMul, Int.reduceNeg, Int.reduceBEq, Int.reduceEq, Int.reduceToNat, Kr, List.replicate_succ, Ks, Kt, Ku, Kv, renH, delAll, shift, rn, AO.ren, AV.ren, AV.rens, implies_true, pk0, tk3, tk4, tk5, tk9, tk22, tk50, tk52, tk56, tk58, tk97, -List.replicate_succ]
  refine AL.ind (X := Nat) 1000 (fun j => j ≤ 256) (fun j => 256 - j)
    (fun j => ⟨[(0, .f (.sl 4 (l.map setW))), (4, .mp 0), (5, .sl 1 1 0 256), (17, .s (.int .i64 j))], [(0, .map (kvK (partC l j).1)), (1, .row 3 1 ((clsRow l j).map intF))], 2⟩) 0 (Nat.zero_le _) ?_ ?_
  · (refine Imp.of ([]) hE ?_; simp only [subAll, fixAll, subT, subH, apartH, apart1, rn, lk, AV.ren, AV.rens, AV.und, AV.unds, AO.ren, AO.und, Nat.reduceBEq, beq_self_eq_true, Nat.reduceLT, Nat.reduceLeDiff, true_and, and_true, and_self, Option.some.injEq, ne_eq, not_true_eq_false, not_false_eq_true, Nat.reduceEqDiff, Nat.le_refl, AV.s, hE])
    refine ⟨rfl, rfl, ?_⟩
    rw [clsRow0]
  · rintro j hj ih
    obtain ⟨c1, c2, c3, c4, c5⟩ := partC_ok l j
    have c6 := clsRow_len l j hj
    by_cases hlt : (j : Int) < 256
    · have hj256 : j < 256 := by omega
      have wj : IntKind.u8.wrap (j : Int) = ((UInt8.ofNat j).toNat : Int) := by rw [wrap_u8 (by omega) (by omega)]; simp; omega
      have hjn : (UInt8.ofNat j).toNat = j := by simp; omega
      have wq : IntKind.i64.wrap ((j : Int) + 1) = ((j + 1 : Nat) : Int) := by rw [wrap_i64 (by omega) (by omega)]; omega
      simp only [Tryd.f32, AWn, AWg, AWc, AWi, AWx, AWd, exitTo, slots, aEnd, aOut, jAV, aRet, retAV, tupOf, RF, RFo, release, release.rels, aop, ev, evs, evo, evl, constAV, strip, lk, guardOf, gd, Ja, Jb, Jc, St.put, Jd, Je, Jf, AV.s, AV.cells, FV.cells, AV.one, FV.okE, hset, hdel, aMove, aBin, resV, bopV, bopInt, bopStr, bopBool, aPick, aNot, aNeg, aXor, aConv, rdSl, aNil, newCells, aAlloc, aBox, ldAgg, aLoad, aStore, aStoreRow, writeAt, fldAt, aFieldAddr, partOf, aField, idxAddrE, arrAddrE, aIndexAddr, arrIdx, aIndex, bnds, slStr, slF, slO, aSlice, aExtract, bldParts, aggRes, aBuild, arrFs, bslParts, bslRes, bslE, aBuildSlice, mkSl, aMakeSlice, aLen, apRow, apE, apT, aAppend, aRange, nextS, aNext, aMkFunc, aCallV, VX, VXg, VXk, VXc, VXf, VXz, VQ, VQg, VQk, VQc, VQf, VQz, qk, pickT, putT, lks, tmpsOf, guardT, Op.operands, Call.operands, Jg, Option.toArray, Jh, Ji, Nat.reduceBEq, Nat.reduceAdd, Nat.reduceSub, Nat.reduceMul, Jj, Jk, Jl, Jm, Jn, Jo, Jp, Jq, Jr, Js, Jt, Ju, Jv, Jw, Jx, reduceIte, Nat.reduceLT, Nat.reduceLeDiff, Jy, reduceCtorEq, Jz, Ka, Kb, Kc, Kd, Ke, Kf, Kg, Kh, Ki, Kj, Kk, Kl, Km, Kn, Ko, Kp, Kq, Int.reduceLT, Int.reduceLE, Int.reduceGT, Int.reduceGE, Int.reduceAdd, Int.reduceSub, Int.reduceMul, Int.reduceNeg, Int.reduceBEq, Int.reduceEq, Int.reduceToNat, Kr, List.replicate_succ, Ks, Kt, Ku, Kv, renH, delAll, shift, rn, AO.ren, AV.ren, AV.rens, implies_true, pk0, tk3, tk4, tk5, tk9, tk22, tk50, tk52, tk56, tk58, tk97, hlt, -List.replicate_succ]
      refine ⟨by omega, ?_⟩
      refine AL.ind (X := Nat) 1000 (fun i => i ≤ l.length) (fun i => l.length - i)
        (fun i => ⟨[(0, .f (.sl 4 (l.map setW))), (4, .mp 0), (5, .sl 1 1 0 256), (17, .s (.int .i64 j)), (6, .s (.int .i64 j)), (7, .sl 2 1 0 l.length), (23, .f (.sl 4 (l.map setW))), (24, .s (.int .i64 l.length)), (25, .s (.int .i64 i))],
          [(0, .map (kvK (partC l j).1)), (1, .row 3 1 ((clsRow l j).map intF)), (2, .row 5 1 ((sgnRow l j i).map u8))], 3⟩) 0 (Nat.zero_le _) ?_ ?_
      · (refine Imp.of ([]) hE ?_; simp only [subAll, fixAll, subT, subH, apartH, apart1, rn, lk, AV.ren, AV.rens, AV.und, AV.unds, AO.ren, AO.und, Nat.reduceBEq, beq_self_eq_true, Nat.reduceLT, Nat.reduceLeDiff, true_and, and_true, and_self, Option.some.injEq, ne_eq, not_true_eq_false, not_false_eq_true, Nat.reduceEqDiff, Nat.le_refl, AV.s, hE])
        refine ⟨rfl, ?_⟩
        simp [sgnRow, u8, List.map_replicate]
      · rintro i hi ih2
        have s1 := sgnRow_len l j i hi
        by_cases hil : i < l.length
        · have wi : IntKind.i64.wrap ((i : Int) + 1) = ((i + 1 : Nat) : Int) := by rw [wrap_i64 (by omega) (by omega)]; omega
          have hget := getD_setW l i
          simp only [Tryd.f32, AWn, AWg, AWc, AWi, AWx, AWd, exitTo, slots, aEnd, aOut, jAV, aRet, retAV, tupOf, RF, RFo, release, release.rels, aop, ev, evs, evo, evl, constAV, strip, lk, guardOf, gd, Ja, Jb, Jc, St.put, Jd, Je, Jf, AV.s, AV.cells, FV.cells, AV.one, FV.okE, hset, hdel, aMove, aBin, resV, bopV, bopInt, bopStr, bopBool, aPick, aNot, aNeg, aXor, aConv, rdSl, aNil, newCells, aAlloc, aBox, ldAgg, aLoad, aStore, aStoreRow, writeAt, fldAt, aFieldAddr, partOf, aField, idxAddrE, arrAddrE, aIndexAddr, arrIdx, aIndex, bnds, slStr, slF, slO, aSlice, aExtract, bldParts, aggRes, aBuild, arrFs, bslParts, bslRes, bslE, aBuildSlice, mkSl, aMakeSlice, aLen, apRow, apE, apT, aAppend, aRange, nextS, aNext, aMkFunc, aCallV, VX, VXg, VXk, VXc, VXf, VXz, VQ, VQg, VQk, VQc, VQf, VQz, qk, pickT, putT, lks, tmpsOf, guardT, Op.operands, Call.operands, Jg, Option.toArray, Jh, Ji, Nat.reduceBEq, Nat.reduceAdd, Nat.reduceSub, Nat.reduceMul, Jj, Jk, Jl, Jm, Jn, Jo, Jp, Jq, Jr, Js, Jt, Ju, Jv, Jw, Jx, reduceIte, Nat.reduceLT, Nat.reduceLeDiff, Jy, reduceCtorEq, Jz, Ka, Kb, Kc, Kd, Ke, Kf, Kg, Kh, Ki, Kj, Kk, Kl, Km, Kn, Ko, Kp, Kq, Int.reduceLT, Int.reduceLE, Int.reduceGT, Int.reduceGE, Int.reduceAdd, Int.reduceSub, Int.reduceMul, Int.reduceNeg, Int.reduceBEq, Int.reduceEq, Int.reduceToNat, Kr, List.replicate_succ, Ks, Kt, Ku, Kv, renH, delAll, shift, rn, AO.ren, AV.ren, AV.rens, implies_true, pk0, tk3, tk4, tk5, tk9, tk22, tk50, tk52, tk56, tk58, tk97, hil, hget, setW, setF, u64, wj]
          refine ACall.pure [setW (l.getD i zW), u8 (UInt8.ofNat j)] _ (by kernel_rfl) (p_has (l.getD i zW) (UInt8.ofNat j)) (by simp only [AV.fzs, AV.fz, setW, setF, u64, u8]) trivial ?_
          rintro r rfl
          rw [hjn]
          cases hb : hasN (l.getD i zW) j with
          | true =>
            have hone := sgnRow_one l j i hil hb
            simp only [Tryd.f32, AWn, AWg, AWc, AWi, AWx, AWd, exitTo, slots, aEnd, aOut, jAV, aRet, retAV, tupOf, RF, RFo, release, release.rels, aop, ev, evs, evo, evl, constAV, strip, lk, guardOf, gd, Ja, Jb, Jc, St.put, Jd, Je, Jf, AV.s, AV.cells, FV.cells, AV.one, FV.okE, hset, hdel, aMove, aBin, resV, bopV, bopInt, bopStr, bopBool, aPick, aNot, aNeg, aXor, aConv, rdSl, aNil, newCells, aAlloc, aBox, ldAgg, aLoad, aStore, aStoreRow, writeAt, fldAt, aFieldAddr, partOf, aField, idxAddrE, arrAddrE, aIndexAddr, arrIdx, aIndex, bnds, slStr, slF, slO, aSlice, aExtract, bldParts, aggRes, aBuild, arrFs, bslParts, bslRes, bslE, aBuildSlice, mkSl, aMakeSlice, aLen, apRow, apE, apT, aAppend, aRange, nextS, aNext, aMkFunc, aCallV, VX, VXg, VXk, VXc, VXf, VXz, VQ, VQg, VQk, VQc, VQf, VQz, qk, pickT, putT, lks, tmpsOf, guardT, Op.operands, Call.operands, Jg, Option.toArray, Jh, Ji, Nat.reduceBEq, Nat.reduceAdd, Nat.reduceSub, Nat.reduceMul, Jj, Jk, Jl, Jm, Jn, Jo, Jp, Jq, Jr, Js, Jt, Ju, Jv, Jw, Jx, reduceIte, Nat.reduceLT, Nat.reduceLeDiff, Jy, reduceCtorEq, Jz, Ka, Kb, Kc, Kd, Ke, Kf, Kg, Kh, Ki, Kj, Kk, Kl, Km, Kn, Ko, Kp, Kq, Int.reduceLT, Int.reduceLE, Int.reduceGT, Int.reduceGE, Int.reduceAdd, Int.reduceSub, Int.reduceMul, Int.reduceNeg, Int.reduceBEq, Int.reduceEq, Int.reduceToNat, Kr, List.replicate_succ, Ks, Kt, Ku, Kv, renH, delAll, shift, rn, AO.ren, AV.ren, AV.rens, implies_true, pk0, tk3, tk4, tk5, tk9, tk22, tk50, tk52, tk56, tk58, tk97, hil, hb, wi, s1]
            refine ih2 (i + 1) _ (by omega) (by omega) ?_
            rw [← hone]
            (refine Imp.of ([]) hE ?_; simp only [subAll, fixAll, subT, subH, apartH, apart1, rn, lk, AV.ren, AV.rens, AV.und, AV.unds, AO.ren, AO.und, Nat.reduceBEq, beq_self_eq_true, Nat.reduceLT, Nat.reduceLeDiff, true_and, and_true, and_self, Option.some.injEq, ne_eq, not_true_eq_false, not_false_eq_true, Nat.reduceEqDiff, Nat.le_refl, AV.s, hE])
            rw [List.map_set]
            rfl
          | false =>
            have hone := sgnRow_no l j i hil hb
            simp only [Tryd.f32, AWn, AWg, AWc, AWi, AWx, AWd, exitTo, slots, aEnd, aOut, jAV, aRet, retAV, tupOf, RF, RFo, release, release.rels, aop, ev, evs, evo, evl, constAV, strip, lk, guardOf, gd, Ja, Jb, Jc, St.put, Jd, Je, Jf, AV.s, AV.cells, FV.cells, AV.one, FV.okE, hset, hdel, aMove, aBin, resV, bopV, bopInt, bopStr, bopBool, aPick, aNot, aNeg, aXor, aConv, rdSl, aNil, newCells, aAlloc, aBox, ldAgg, aLoad, aStore, aStoreRow, writeAt, fldAt, aFieldAddr, partOf, aField, idxAddrE, arrAddrE, aIndexAddr, arrIdx, aIndex, bnds, slStr, slF, slO, aSlice, aExtract, bldParts, aggRes, aBuild, arrFs, bslParts, bslRes, bslE, aBuildSlice, mkSl, aMakeSlice, aLen, apRow, apE, apT, aAppend, aRange, nextS, aNext, aMkFunc, aCallV, VX, VXg, VXk, VXc, VXf, VXz, VQ, VQg, VQk, VQc, VQf, VQz, qk, pickT, putT, lks, tmpsOf, guardT, Op.operands, Call.operands, Jg, Option.toArray, Jh, Ji, Nat.reduceBEq, Nat.reduceAdd, Nat.reduceSub, Nat.reduceMul, Jj, Jk, Jl, Jm, Jn, Jo, Jp, Jq, Jr, Js, Jt, Ju, Jv, Jw, Jx, reduceIte, Nat.reduceLT, Nat.reduceLeDiff, Jy, reduceCtorEq, Jz, Ka, Kb, Kc, Kd, Ke, Kf, Kg, Kh, Ki, Kj, Kk, Kl, Km, Kn, Ko, Kp, Kq, Int.reduceLT, Int.reduceLE, Int.reduceGT, Int.reduceGE, Int.reduceAdd, Int.reduceSub, Int.reduceMul, Int.reduceNeg, Int.reduceBEq, Int.reduceEq, Int.reduceToNat, Kr, List.replicate_succ, Ks, Kt, Ku, Kv, renH, delAll, shift, rn, AO.ren, AV.ren, AV.rens, implies_true, pk0, tk3, tk4, tk5, tk9, tk22, tk50, tk52, tk56, tk58, tk97, hil, hb, wi]
            refine ih2 (i + 1) _ (by omega) (by omega) ?_
            rw [hone]
            (refine Imp.of ([]) hE ?_; simp only [subAll, fixAll, subT, subH, apartH, apart1, rn, lk, AV.ren, AV.rens, AV.und, AV.unds, AO.ren, AO.und, Nat.reduceBEq, beq_self_eq_true, Nat.reduceLT, Nat.reduceLeDiff, true_and, and_true, and_self, Option.some.injEq, ne_eq, not_true_eq_false, not_false_eq_true, Nat.reduceEqDiff, Nat.le_refl, AV.s, hE])
        · have hi' : i = l.length := by omega
          subst hi'
          rw [sgnRow_end]
          simp only [Tryd.f32, AWn, AWg, AWc, AWi, AWx, AWd, exitTo, slots, aEnd, aOut, jAV, aRet, retAV, tupOf, RF, RFo, release, release.rels, aop, ev, evs, evo, evl, constAV, strip, lk, guardOf, gd, Ja, Jb, Jc, St.put, Jd, Je, Jf, AV.s, AV.cells, FV.cells, AV.one, FV.okE, hset, hdel, aMove, aBin, resV, bopV, bopInt, bopStr, bopBool, aPick, aNot, aNeg, aXor, aConv, rdSl, aNil, newCells, aAlloc, aBox, ldAgg, aLoad, aStore, aStoreRow, writeAt, fldAt, aFieldAddr, partOf, aField, idxAddrE, arrAddrE, aIndexAddr, arrIdx, aIndex, bnds, slStr, slF, slO, aSlice, aExtract, bldParts, aggRes, aBuild, arrFs, bslParts, bslRes, bslE, aBuildSlice, mkSl, aMakeSlice, aLen, apRow, apE, apT, aAppend, aRange, nextS, aNext, aMkFunc, aCallV, VX, VXg, VXk, VXc, VXf, VXz, VQ, VQg, VQk, VQc, VQf, VQz, qk, pickT, putT, lks, tmpsOf, guardT, Op.operands, Call.operands, Jg, Option.toArray, Jh, Ji, Nat.reduceBEq, Nat.reduceAdd, Nat.reduceSub, Nat.reduceMul, Jj, Jk, Jl, Jm, Jn, Jo, Jp, Jq, Jr, Js, Jt, Ju, Jv, Jw, Jx, reduceIte, Nat.reduceLT, Nat.reduceLeDiff, Jy, reduceCtorEq, Jz, Ka, Kb, Kc, Kd, Ke, Kf, Kg, Kh, Ki, Kj, Kk, Kl, Km, Kn, Ko, Kp, Kq, Int.reduceLT, Int.reduceLE, Int.reduceGT, Int.reduceGE, Int.reduceAdd, Int.reduceSub, Int.reduceMul, Int.reduceNeg, Int.reduceBEq, Int.reduceEq, Int.reduceToNat, Kr, List.replicate_succ, Ks, Kt, Ku, Kv, renH, delAll, shift, rn, AO.ren, AV.ren, AV.rens, implies_true, pk0, tk3, tk4, tk5, tk9, tk22, tk50, tk52, tk56, tk58, tk97, hil]
          refine ⟨⟨by rw [sgn_len]; exact Nat.le_refl _, fun x hx => ?_⟩, ?_⟩
          · obtain ⟨c, _, rfl⟩ := List.mem_map.1 (List.mem_of_mem_take hx)
            simp [FV.isByte, u8]
          have hby := bytes_u8 (sgn l j) l.length (by rw [sgn_len]; exact Nat.le_refl _)
          rw [hby]
          have hsl := sgn_len l j
          obtain ⟨lit, hlit⟩ := keyOf_S (k := sgn l j) (by omega)
          have hkeys := kvK_keys c1 (fun k hk => by have := c2 k hk; omega)
          cases hf : findK (partC l j).1 (sgn l j) with
          | some at_ =>
            have hin := kvK_in (findK_some hf)
            obtain ⟨e1, e2⟩ := cls_hit hj256 hf
            refine AW.mapHit (n := 1000) (kt := 9) (e := 3) rfl rfl rfl rfl rfl rfl (by kernel_rfl) keyed_S hkeys hlit hin ?_
            simp only [Tryd.f32, AWn, AWg, AWc, AWi, AWx, AWd, exitTo, slots, aEnd, aOut, jAV, aRet, retAV, tupOf, RF, RFo, release, release.rels, aop, ev, evs, evo, evl, constAV, strip, lk, guardOf, gd, Ja, Jb, Jc, St.put, Jd, Je, Jf, AV.s, AV.cells, FV.cells, AV.one, FV.okE, hset, hdel, aMove, aBin, resV, bopV, bopInt, bopStr, bopBool, aPick, aNot, aNeg, aXor, aConv, rdSl, aNil, newCells, aAlloc, aBox, ldAgg, aLoad, aStore, aStoreRow, writeAt, fldAt, aFieldAddr, partOf, aField, idxAddrE, arrAddrE, aIndexAddr, arrIdx, aIndex, bnds, slStr, slF, slO, aSlice, aExtract, bldParts, aggRes, aBuild, arrFs, bslParts, bslRes, bslE, aBuildSlice, mkSl, aMakeSlice, aLen, apRow, apE, apT, aAppend, aRange, nextS, aNext, aMkFunc, aCallV, VX, VXg, VXk, VXc, VXf, VXz, VQ, VQg, VQk, VQc, VQf, VQz, qk, pickT, putT, lks, tmpsOf, guardT, Op.operands, Call.operands, Jg, Option.toArray, Jh, Ji, Nat.reduceBEq, Nat.reduceAdd, Nat.reduceSub, Nat.reduceMul, Jj, Jk, Jl, Jm, Jn, Jo, Jp, Jq, Jr, Js, Jt, Ju, Jv, Jw, Jx, reduceIte, Nat.reduceLT, Nat.reduceLeDiff, Jy, reduceCtorEq, Jz, Ka, Kb, Kc, Kd, Ke, Kf, Kg, Kh, Ki, Kj, Kk, Kl, Km, Kn, Ko, Kp, Kq, Int.reduceLT, Int.reduceLE, Int.reduceGT, Int.reduceGE, Int.reduceAdd, Int.reduceSub, Int.reduceMul, Int.reduceNeg, Int.reduceBEq, Int.reduceEq, Int.reduceToNat, Kr, List.replicate_succ, Ks, Kt, Ku, Kv, renH, delAll, shift, rn, AO.ren, AV.ren, AV.rens, implies_true, pk0, tk3, tk4, tk5, tk9, tk22, tk50, tk52, tk56, tk58, tk97, intF, c6, hj256, wq]
            refine ⟨by omega, ih (j + 1) _ (by omega) (by omega) ?_⟩
            rw [e1, e2]
            (refine Imp.of ([]) hE ?_; simp only [subAll, fixAll, subT, subH, apartH, apart1, rn, lk, AV.ren, AV.rens, AV.und, AV.unds, AO.ren, AO.und, Nat.reduceBEq, beq_self_eq_true, Nat.reduceLT, Nat.reduceLeDiff, true_and, and_true, and_self, Option.some.injEq, ne_eq, not_true_eq_false, not_false_eq_true, Nat.reduceEqDiff, Nat.le_refl, AV.s, hE])
            simp [intF, List.map_set]
          | none =>
            have hno := findK_none hf
            obtain ⟨e1, e2⟩ := cls_new hj256 hf
            refine AW.mapMiss (n := 1000) (kt := 9) (e := 3) rfl rfl rfl rfl rfl rfl (by kernel_rfl) keyed_S hkeys hlit (fun p hp e => by
              obtain ⟨i, k, hk, rfl⟩ := kvK_mem hp
              exact hno k (List.mem_of_getElem? hk) (str_inj e)) tk3 ?_
            simp only [Tryd.f32, AWn, AWg, AWc, AWi, AWx, AWd, exitTo, slots, aEnd, aOut, jAV, aRet, retAV, tupOf, RF, RFo, release, release.rels, aop, ev, evs, evo, evl, constAV, strip, lk, guardOf, gd, Ja, Jb, Jc, St.put, Jd, Je, Jf, AV.s, AV.cells, FV.cells, AV.one, FV.okE, hset, hdel, aMove, aBin, resV, bopV, bopInt, bopStr, bopBool, aPick, aNot, aNeg, aXor, aConv, rdSl, aNil, newCells, aAlloc, aBox, ldAgg, aLoad, aStore, aStoreRow, writeAt, fldAt, aFieldAddr, partOf, aField, idxAddrE, arrAddrE, aIndexAddr, arrIdx, aIndex, bnds, slStr, slF, slO, aSlice, aExtract, bldParts, aggRes, aBuild, arrFs, bslParts, bslRes, bslE, aBuildSlice, mkSl, aMakeSlice, aLen, apRow, apE, apT, aAppend, aRange, nextS, aNext, aMkFunc, aCallV, VX, VXg, VXk, VXc, VXf, VXz, VQ, VQg, VQk, VQc, VQf, VQz, qk, pickT, putT, lks, tmpsOf, guardT, Op.operands, Call.operands, Jg, Option.toArray, Jh, Ji, Nat.reduceBEq, Nat.reduceAdd, Nat.reduceSub, Nat.reduceMul, Jj, Jk, Jl, Jm, Jn, Jo, Jp, Jq, Jr, Js, Jt, Ju, Jv, Jw, Jx, reduceIte, Nat.reduceLT, Nat.reduceLeDiff, Jy, reduceCtorEq, Jz, Ka, Kb, Kc, Kd, Ke, Kf, Kg, Kh, Ki, Kj, Kk, Kl, Km, Kn, Ko, Kp, Kq, Int.reduceLT, Int.reduceLE, Int.reduceGT, Int.reduceGE, Int.reduceAdd, Int.reduceSub, Int.reduceMul, Int.reduceNeg, Int.reduceBEq, Int.reduceEq, Int.reduceToNat, Kr, List.replicate_succ, Ks, Kt, Ku, Kv, renH, delAll, shift, rn, AO.ren, AV.ren, AV.rens, implies_true, pk0, tk3, tk4, tk5, tk9, tk22, tk50, tk52, tk56, tk58, tk97, intF]
            refine AW.lenMap (n := 1000) (kt := 9) (e := 3) rfl rfl rfl rfl (by kernel_rfl) ?_
            rw [kvK_len]
            simp only [Tryd.f32, AWn, AWg, AWc, AWi, AWx, AWd, exitTo, slots, aEnd, aOut, jAV, aRet, retAV, tupOf, RF, RFo, release, release.rels, aop, ev, evs, evo, evl, constAV, strip, lk, guardOf, gd, Ja, Jb, Jc, St.put, Jd, Je, Jf, AV.s, AV.cells, FV.cells, AV.one, FV.okE, hset, hdel, aMove, aBin, resV, bopV, bopInt, bopStr, bopBool, aPick, aNot, aNeg, aXor, aConv, rdSl, aNil, newCells, aAlloc, aBox, ldAgg, aLoad, aStore, aStoreRow, writeAt, fldAt, aFieldAddr, partOf, aField, idxAddrE, arrAddrE, aIndexAddr, arrIdx, aIndex, bnds, slStr, slF, slO, aSlice, aExtract, bldParts, aggRes, aBuild, arrFs, bslParts, bslRes, bslE, aBuildSlice, mkSl, aMakeSlice, aLen, apRow, apE, apT, aAppend, aRange, nextS, aNext, aMkFunc, aCallV, VX, VXg, VXk, VXc, VXf, VXz, VQ, VQg, VQk, VQc, VQf, VQz, qk, pickT, putT, lks, tmpsOf, guardT, Op.operands, Call.operands, Jg, Option.toArray, Jh, Ji, Nat.reduceBEq, Nat.reduceAdd, Nat.reduceSub, Nat.reduceMul, Jj, Jk, Jl, Jm, Jn, Jo, Jp, Jq, Jr, Js, Jt, Ju, Jv, Jw, Jx, reduceIte, Nat.reduceLT, Nat.reduceLeDiff, Jy, reduceCtorEq, Jz, Ka, Kb, Kc, Kd, Ke, Kf, Kg, Kh, Ki, Kj, Kk, Kl, Km, Kn, Ko, Kp, Kq, Int.reduceLT, Int.reduceLE, Int.reduceGT, Int.reduceGE, Int.reduceAdd, Int.reduceSub, Int.reduceMul, Int.reduceNeg, Int.reduceBEq, Int.reduceEq, Int.reduceToNat, Kr, List.replicate_succ, Ks, Kt, Ku, Kv, renH, delAll, shift, rn, AO.ren, AV.ren, AV.rens, implies_true, pk0, tk3, tk4, tk5, tk9, tk22, tk50, tk52, tk56, tk58, tk97, intF]
            refine ⟨⟨by rw [sgn_len]; exact Nat.le_refl _, fun x hx => ?_⟩, ?_⟩
            · obtain ⟨c, _, rfl⟩ := List.mem_map.1 (List.mem_of_mem_take hx)
              simp [FV.isByte, u8]
            rw [hby]
            refine AW.mapPut (n := 1000) (kt := 9) (e := 3) rfl rfl rfl rfl rfl rfl rfl (by kernel_rfl) keyed_S hkeys hlit (fun p hp e => by
              obtain ⟨i, k, hk, rfl⟩ := kvK_mem hp
              exact hno k (List.mem_of_getElem? hk) (str_inj e)) ?_
            simp only [Tryd.f32, AWn, AWg, AWc, AWi, AWx, AWd, exitTo, slots, aEnd, aOut, jAV, aRet, retAV, tupOf, RF, RFo, release, release.rels, aop, ev, evs, evo, evl, constAV, strip, lk, guardOf, gd, Ja, Jb, Jc, St.put, Jd, Je, Jf, AV.s, AV.cells, FV.cells, AV.one, FV.okE, hset, hdel, aMove, aBin, resV, bopV, bopInt, bopStr, bopBool, aPick, aNot, aNeg, aXor, aConv, rdSl, aNil, newCells, aAlloc, aBox, ldAgg, aLoad, aStore, aStoreRow, writeAt, fldAt, aFieldAddr, partOf, aField, idxAddrE, arrAddrE, aIndexAddr, arrIdx, aIndex, bnds, slStr, slF, slO, aSlice, aExtract, bldParts, aggRes, aBuild, arrFs, bslParts, bslRes, bslE, aBuildSlice, mkSl, aMakeSlice, aLen, apRow, apE, apT, aAppend, aRange, nextS, aNext, aMkFunc, aCallV, VX, VXg, VXk, VXc, VXf, VXz, VQ, VQg, VQk, VQc, VQf, VQz, qk, pickT, putT, lks, tmpsOf, guardT, Op.operands, Call.operands, Jg, Option.toArray, Jh, Ji, Nat.reduceBEq, Nat.reduceAdd, Nat.reduceSub, Nat.reduceMul, Jj, Jk, Jl, Jm, Jn, Jo, Jp, Jq, Jr, Js, Jt, Ju, Jv, Jw, Jx, reduceIte, Nat.reduceLT, Nat.reduceLeDiff, Jy, reduceCtorEq, Jz, Ka, Kb, Kc, Kd, Ke, Kf, Kg, Kh, Ki, Kj, Kk, Kl, Km, Kn, Ko, Kp, Kq, Int.reduceLT, Int.reduceLE, Int.reduceGT, Int.reduceGE, Int.reduceAdd, Int.reduceSub, Int.reduceMul, Int.reduceNeg, Int.reduceBEq, Int.reduceEq, Int.reduceToNat, Kr, List.replicate_succ, Ks, Kt, Ku, Kv, renH, delAll, shift, rn, AO.ren, AV.ren, AV.rens, implies_true, pk0, tk3, tk4, tk5, tk9, tk22, tk50, tk52, tk56, tk58, tk97, intF, c6, hj256, wq]
            refine ⟨by omega, ih (j + 1) _ (by omega) (by omega) ?_⟩
            rw [e1, e2, kvK_snoc]
            (refine Imp.of ([]) hE ?_; simp only [subAll, fixAll, subT, subH, apartH, apart1, rn, lk, AV.ren, AV.rens, AV.und, AV.unds, AO.ren, AO.und, Nat.reduceBEq, beq_self_eq_true, Nat.reduceLT, Nat.reduceLeDiff, true_and, and_true, and_self, Option.some.injEq, ne_eq, not_true_eq_false, not_false_eq_true, Nat.reduceEqDiff, Nat.le_refl, AV.s, hE])
            simp [intF, List.map_set]
    · have hj' : j = 256 := by omega
      subst hj'
      have hcr : clsRow l 256 = (partC l 256).2 := by simp [clsRow]
      have hp : partsR l = setsR (partC l 256).2 := rfl
      rw [hcr] at c6 ⊢
      rw [hp] at hQ
      generalize (partC l 256).2 = c at c5 c6 hQ ⊢
      generalize (partC l 256).1 = c'
      simp only [Tryd.f32, AWn, AWg, AWc, AWi, AWx, AWd, exitTo, slots, aEnd, aOut, jAV, aRet, retAV, tupOf, RF, RFo, release, release.rels, aop, ev, evs, evo, evl, constAV, strip, lk, guardOf, gd, Ja, Jb, Jc, St.put, Jd, Je, Jf, AV.s, AV.cells, FV.cells, AV.one, FV.okE, hset, hdel, aMove, aBin, resV, bopV, bopInt, bopStr, bopBool, aPick, aNot, aNeg, aXor, aConv, rdSl, aNil, newCells, aAlloc, aBox, ldAgg, aLoad, aStore, aStoreRow, writeAt, fldAt, aFieldAddr, partOf, aField, idxAddrE, arrAddrE, aIndexAddr, arrIdx, aIndex, bnds, slStr, slF, slO, aSlice, aExtract, bldParts, aggRes, aBuild, arrFs, bslParts, bslRes, bslE, aBuildSlice, mkSl, aMakeSlice, aLen, apRow, apE, apT, aAppend, aRange, nextS, aNext, aMkFunc, aCallV, VX, VXg, VXk, VXc, VXf, VXz, VQ, VQg, VQk, VQc, VQf, VQz, qk, pickT, putT, lks, tmpsOf, guardT, Op.operands, Call.operands, Jg, Option.toArray, Jh, Ji, Nat.reduceBEq, Nat.reduceAdd, Nat.reduceSub, Nat.reduceMul, Jj, Jk, Jl, Jm, Jn, Jo, Jp, Jq, Jr, Js, Jt, Ju, Jv, Jw, Jx, reduceIte, Nat.reduceLT, Nat.reduceLeDiff, Jy, reduceCtorEq, Jz, Ka, Kb, Kc, Kd, Ke, Kf, Kg, Kh, Ki, Kj, Kk, Kl, Km, Kn, Ko, Kp, Kq, Int.reduceLT, Int.reduceLE, Int.reduceGT, Int.reduceGE, Int.reduceAdd, Int.reduceSub, Int.reduceMul, Int.reduceNeg, Int.reduceBEq, Int.reduceEq, Int.reduceToNat, Kr, List.replicate_succ, Ks, Kt, Ku, Kv, renH, delAll, shift, rn, AO.ren, AV.ren, AV.rens, implies_true, pk0, tk3, tk4, tk5, tk9, tk22, tk50, tk52, tk56, tk58, tk97, hlt]
      refine ACall.imp (Imp.frz 1 rfl) ?_
      simp only [Tryd.f32, AWn, AWg, AWc, AWi, AWx, AWd, exitTo, slots, aEnd, aOut, jAV, aRet, retAV, tupOf, RF, RFo, release, release.rels, aop, ev, evs, evo, evl, constAV, strip, lk, guardOf, gd, Ja, Jb, Jc, St.put, Jd, Je, Jf, AV.s, AV.cells, FV.cells, AV.one, FV.okE, hset, hdel, aMove, aBin, resV, bopV, bopInt, bopStr, bopBool, aPick, aNot, aNeg, aXor, aConv, rdSl, aNil, newCells, aAlloc, aBox, ldAgg, aLoad, aStore, aStoreRow, writeAt, fldAt, aFieldAddr, partOf, aField, idxAddrE, arrAddrE, aIndexAddr, arrIdx, aIndex, bnds, slStr, slF, slO, aSlice, aExtract, bldParts, aggRes, aBuild, arrFs, bslParts, bslRes, bslE, aBuildSlice, mkSl, aMakeSlice, aLen, apRow, apE, apT, aAppend, aRange, nextS, aNext, aMkFunc, aCallV, VX, VXg, VXk, VXc, VXf, VXz, VQ, VQg, VQk, VQc, VQf, VQz, qk, pickT, putT, lks, tmpsOf, guardT, Op.operands, Call.operands, Jg, Option.toArray, Jh, Ji, Nat.reduceBEq, Nat.reduceAdd, Nat.reduceSub, Nat.reduceMul, Jj, Jk, Jl, Jm, Jn, Jo, Jp, Jq, Jr, Js, Jt, Ju, Jv, Jw, Jx, reduceIte, Nat.reduceLT, Nat.reduceLeDiff, Jy, reduceCtorEq, Jz, Ka, Kb, Kc, Kd, Ke, Kf, Kg, Kh, Ki, Kj, Kk, Kl, Km, Kn, Ko, Kp, Kq, Int.reduceLT, Int.reduceLE, Int.reduceGT, Int.reduceGE, Int.reduceAdd, Int.reduceSub, Int.reduceMul, Int.reduceNeg, Int.reduceBEq, Int.reduceEq, Int.reduceToNat, Kr, List.replicate_succ, Ks, Kt, Ku, Kv, renH, delAll, shift, rn, AO.ren, AV.ren, AV.rens, implies_true, pk0, tk3, tk4, tk5, tk9, tk22, tk50, tk52, tk56, tk58, tk97, frzT, frzV, frzVs, frzH, frzO, c6]
      refine ACall.pure [.sl 1 (c.map intF)] _ (by kernel_rfl) (p_sets c (fun x hx => ?_)) (by simp only [AV.fzs, AV.fz]; rw [List.take_of_length_le (by simp [c6])]) trivial ?_
      · have := c5 x hx
        exact wf_small (by omega) (by omega)
      rintro r rfl
      cases hs : setsR c with
      | none =>
        rw [hs] at hQ
        simp only [Tryd.f32, AWn, AWg, AWc, AWi, AWx, AWd, exitTo, slots, aEnd, aOut, jAV, aRet, retAV, tupOf, RF, RFo, release, release.rels, aop, ev, evs, evo, evl, constAV, strip, lk, guardOf, gd, Ja, Jb, Jc, St.put, Jd, Je, Jf, AV.s, AV.cells, FV.cells, AV.one, FV.okE, hset, hdel, aMove, aBin, resV, bopV, bopInt, bopStr, bopBool, aPick, aNot, aNeg, aXor, aConv, rdSl, aNil, newCells, aAlloc, aBox, ldAgg, aLoad, aStore, aStoreRow, writeAt, fldAt, aFieldAddr, partOf, aField, idxAddrE, arrAddrE, aIndexAddr, arrIdx, aIndex, bnds, slStr, slF, slO, aSlice, aExtract, bldParts, aggRes, aBuild, arrFs, bslParts, bslRes, bslE, aBuildSlice, mkSl, aMakeSlice, aLen, apRow, apE, apT, aAppend, aRange, nextS, aNext, aMkFunc, aCallV, VX, VXg, VXk, VXc, VXf, VXz, VQ, VQg, VQk, VQc, VQf, VQz, qk, pickT, putT, lks, tmpsOf, guardT, Op.operands, Call.operands, Jg, Option.toArray, Jh, Ji, Nat.reduceBEq, Nat.reduceAdd, Nat.reduceSub, Nat.reduceMul, Jj, Jk, Jl, Jm, Jn, Jo, Jp, Jq, Jr, Js, Jt, Ju, Jv, Jw, Jx, reduceIte, Nat.reduceLT, Nat.reduceLeDiff, Jy, reduceCtorEq, Jz, Ka, Kb, Kc, Kd, Ke, Kf, Kg, Kh, Ki, Kj, Kk, Kl, Km, Kn, Ko, Kp, Kq, Int.reduceLT, Int.reduceLE, Int.reduceGT, Int.reduceGE, Int.reduceAdd, Int.reduceSub, Int.reduceMul, Int.reduceNeg, Int.reduceBEq, Int.reduceEq, Int.reduceToNat, Kr, List.replicate_succ, Ks, Kt, Ku, Kv, renH, delAll, shift, rn, AO.ren, AV.ren, AV.rens, implies_true, pk0, tk3, tk4, tk5, tk9, tk22, tk50, tk52, tk56, tk58, tk97, setsV]
        exact hQ _ _ _ (by simp only [RF, RFo, release, release.rels, u64, u8, true_and, and_true, and_self, setsV])
      | some q =>
        rw [hs] at hQ
        simp only [Tryd.f32, AWn, AWg, AWc, AWi, AWx, AWd, exitTo, slots, aEnd, aOut, jAV, aRet, retAV, tupOf, RF, RFo, release, release.rels, aop, ev, evs, evo, evl, constAV, strip, lk, guardOf, gd, Ja, Jb, Jc, St.put, Jd, Je, Jf, AV.s, AV.cells, FV.cells, AV.one, FV.okE, hset, hdel, aMove, aBin, resV, bopV, bopInt, bopStr, bopBool, aPick, aNot, aNeg, aXor, aConv, rdSl, aNil, newCells, aAlloc, aBox, ldAgg, aLoad, aStore, aStoreRow, writeAt, fldAt, aFieldAddr, partOf, aField, idxAddrE, arrAddrE, aIndexAddr, arrIdx, aIndex, bnds, slStr, slF, slO, aSlice, aExtract, bldParts, aggRes, aBuild, arrFs, bslParts, bslRes, bslE, aBuildSlice, mkSl, aMakeSlice, aLen, apRow, apE, apT, aAppend, aRange, nextS, aNext, aMkFunc, aCallV, VX, VXg, VXk, VXc, VXf, VXz, VQ, VQg, VQk, VQc, VQf, VQz, qk, pickT, putT, lks, tmpsOf, guardT, Op.operands, Call.operands, Jg, Option.toArray, Jh, Ji, Nat.reduceBEq, Nat.reduceAdd, Nat.reduceSub, Nat.reduceMul, Jj, Jk, Jl, Jm, Jn, Jo, Jp, Jq, Jr, Js, Jt, Ju, Jv, Jw, Jx, reduceIte, Nat.reduceLT, Nat.reduceLeDiff, Jy, reduceCtorEq, Jz, Ka, Kb, Kc, Kd, Ke, Kf, Kg, Kh, Ki, Kj, Kk, Kl, Km, Kn, Ko, Kp, Kq, Int.reduceLT, Int.reduceLE, Int.reduceGT, Int.reduceGE, Int.reduceAdd, Int.reduceSub, Int.reduceMul, Int.reduceNeg, Int.reduceBEq, Int.reduceEq, Int.reduceToNat, Kr, List.replicate_succ, Ks, Kt, Ku, Kv, renH, delAll, shift, rn, AO.ren, AV.ren, AV.rens, implies_true, pk0, tk3, tk4, tk5, tk9, tk22, tk50, tk52, tk56, tk58, tk97, setsV]
        exact hQ _ _ _ (by simp only [RF, RFo, release, release.rels, u64, u8, true_and, and_true, and_self, setsV])
end Go.Proofs
