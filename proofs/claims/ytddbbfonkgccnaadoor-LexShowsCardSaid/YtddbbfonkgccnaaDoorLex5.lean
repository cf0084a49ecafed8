/-
  Walks and plain laws towards the statements of this seat (Lex5). Conditions: those that each theorem names.
-/
import Derived.Test.YtddbbfonkgccnaaDoorLex4
set_option linter.unusedVariables false
set_option linter.unusedSimpArgs false
namespace Go.Proofs
open Go Go.Fw
set_option maxHeartbeats 2000000
def whiteS : List UInt8 := [32, 10, 13, 9]
/-- how far white goes; b: within a comment -/
def skipA (b : Bool) : List UInt8 → Nat
  | [] => 0
  | c :: u => match b with
    | false => if whiteS.contains c = true then 1 + skipA false u else if c = 35 then 1 + skipA true u else 0
    | true => if c = 10 then 1 + skipA false u else 1 + skipA true u
theorem skip_le : ∀ (u : List UInt8) (b : Bool), skipA b u ≤ u.length
  | [], b => by simp [skipA]
  | c :: u, b => by
    have h1 := skip_le u false
    have h2 := skip_le u true
    simp only [skipA, List.length_cons]
    cases b
    · simp only []; split
      · omega
      · split <;> omega
    · simp only []; split <;> omega
theorem skip_white : ∀ (u : List UInt8), skipA false u = (u.takeWhile whiteS.contains).length + skipA false (u.drop (u.takeWhile whiteS.contains).length)
  | [] => by simp [skipA]
  | c :: u => by
    rw [List.takeWhile_cons]
    split
    · rename_i h
      rw [List.length_cons, List.drop_succ_cons]
      have := skip_white u
      simp only [skipA]; rw [if_pos h]; omega
    · simp
theorem skip_comment : ∀ (u : List UInt8), (Lib.indexByte u 10 < 0 → skipA true u = u.length) ∧ (0 ≤ Lib.indexByte u 10 → skipA true u = (Lib.indexByte u 10).toNat + skipA false (u.drop (Lib.indexByte u 10).toNat) ∧ (Lib.indexByte u 10).toNat < u.length)
  | [] => by simp [skipA, Lib.indexByte]
  | c :: u => by
    have ⟨h1, h2⟩ := skip_comment u
    have hge := Lib.indexByte_ge u 10
    simp only [Lib.indexByte, skipA]
    by_cases hc : c = 10
    · subst hc
      simp [skipA, whiteS]
    · have : (c == (10 : UInt8)) = false := by simpa using hc
      rw [this]
      simp only [Bool.false_eq_true, if_false, if_neg hc]
      by_cases hm : Lib.indexByte u 10 = -1
      · rw [hm]; simp [h1 (by omega)]; omega
      · have hb : (Lib.indexByte u 10 == -1) = false := by simpa using hm
        rw [hb]
        simp only [Bool.false_eq_true, if_false]
        refine ⟨fun h => (by omega), fun _ => ?_⟩
        obtain ⟨h3, h4⟩ := h2 (by omega)
        have e : (Lib.indexByte u 10 + 1).toNat = (Lib.indexByte u 10).toNat + 1 := by omega
        rw [e, List.drop_succ_cons, h3, List.length_cons]
        exact ⟨by omega, by omega⟩
theorem tw_stop (p : UInt8 → Bool) : ∀ u : List UInt8, (u.takeWhile p).length < u.length → p (u.getD (u.takeWhile p).length 0) = false
  | [], h => by simp at h
  | c :: u, h => by
    rw [List.takeWhile_cons] at h ⊢
    split
    · rename_i hc
      rw [if_pos hc] at h
      rw [List.length_cons, List.getD_cons_succ]
      exact tw_stop p u (by simpa using h)
    · rename_i hc
      simpa using hc
theorem drop_cons_getD (s : List UInt8) (i : Nat) (h : i < s.length) : s.drop i = s.getD i 0 :: s.drop (i + 1) := by
  rw [List.drop_eq_getElem_cons h, List.getD, List.getElem?_eq_getElem h]; rfl
/-- at a place that is not white -/
theorem skip_at (s : List UInt8) (j : Nat) (hj : j ≤ s.length) (hw : j < s.length → whiteS.contains (s.getD j 0) = false) :
    ((decide (j < s.length) && s.getD j 0 == 35) = false → skipA false (s.drop j) = 0) ∧
    ((decide (j < s.length) && s.getD j 0 == 35) = true → (Lib.indexByte (s.drop j) 10 < 0 → skipA false (s.drop j) = s.length - j) ∧
      (0 ≤ Lib.indexByte (s.drop j) 10 → skipA false (s.drop j) = (Lib.indexByte (s.drop j) 10).toNat + skipA false (s.drop (j + (Lib.indexByte (s.drop j) 10).toNat)) ∧ 0 < (Lib.indexByte (s.drop j) 10).toNat ∧ j + (Lib.indexByte (s.drop j) 10).toNat < s.length)) := by
  by_cases hlt : j < s.length
  · rw [decide_eq_true hlt, Bool.true_and]
    have hd := drop_cons_getD s j hlt
    have hwj := hw hlt
    by_cases h35 : s.getD j 0 = 35
    · have hb : (s.getD j 0 == 35) = true := by rw [h35]; rfl
      rw [hb]
      refine ⟨fun h => (by cases h), fun _ => ?_⟩
      obtain ⟨c1, c2⟩ := skip_comment (s.drop (j + 1))
      have hs1 : skipA false (s.drop j) = 1 + skipA true (s.drop (j + 1)) := by
        rw [hd, h35]
        simp only [skipA]
        rw [if_neg (by decide), if_pos trivial]
      have hi1 : Lib.indexByte (s.drop j) 10 = if Lib.indexByte (s.drop (j + 1)) 10 == -1 then -1 else Lib.indexByte (s.drop (j + 1)) 10 + 1 := by
        conv => lhs; rw [hd, h35]
        simp only [Lib.indexByte]
        rw [if_neg (by decide)]
      have hge := Lib.indexByte_ge (s.drop (j + 1)) 10
      by_cases hm : Lib.indexByte (s.drop (j + 1)) 10 = -1
      · rw [hm] at hi1
        rw [hi1]
        refine ⟨fun _ => ?_, fun h => absurd h (by decide)⟩
        rw [hs1, c1 (by omega), List.length_drop]; omega
      · have hbm : (Lib.indexByte (s.drop (j + 1)) 10 == -1) = false := by simpa using hm
        rw [hbm] at hi1
        simp only [Bool.false_eq_true, if_false] at hi1
        rw [hi1]
        refine ⟨fun h => (by omega), fun _ => ?_⟩
        obtain ⟨c3, c4⟩ := c2 (by omega)
        have e : (Lib.indexByte (s.drop (j + 1)) 10 + 1).toNat = (Lib.indexByte (s.drop (j + 1)) 10).toNat + 1 := by omega
        rw [List.length_drop] at c4
        rw [List.drop_drop] at c3
        rw [e, hs1, c3]
        refine ⟨?_, by omega, by omega⟩
        rw [show j + 1 + (Lib.indexByte (s.drop (j + 1)) 10).toNat = j + ((Lib.indexByte (s.drop (j + 1)) 10).toNat + 1) by omega]
        omega
    · have hb : (s.getD j 0 == 35) = false := by simpa only [beq_eq_false_iff_ne] using h35
      rw [hb]
      refine ⟨fun _ => ?_, fun h => (by cases h)⟩
      rw [hd]
      simp only [skipA]
      rw [if_neg (by rw [hwj]; exact Bool.false_ne_true), if_neg h35]
  · rw [decide_eq_false hlt, Bool.false_and]
    refine ⟨fun _ => ?_, fun h => (by cases h)⟩
    rw [List.drop_of_length_le (by omega)]; rfl
theorem g_skip (s : List UInt8) (i : Nat) (hs : s.length < 100000000) (hi : i ≤ s.length) :
    GD Tryd.prog 14 1 (rdr s i) [.ptr 0 0] (.tup []) (rdr s (i + skipA false (s.drop i))) 1 := by
  refine GD.in 1000 Tryd.func14 (by kernel_rfl) rfl (by kernel_rfl) fun Ph Ps E Q hE hQ => ?_
  simp only [Tryd.f14, AWn, AWg, AWc, AWi, AWx, AWd, exitTo, slots, aEnd, aOut, jAV, aRet, retAV, tupOf, RF, RFo, release, release.rels, aop, ev, evs, evo, evl, constAV, strip, lk, guardOf, gd, strip_mkg, mkg_true, mkg_false, St.put, BR_true, BR_false, BR_split, bl_mk, AV.s, AV.cells, FV.cells, AV.one, FV.okE, hset, hdel, aMove, aBin, resV, bopV, bopInt, bopStr, bopBool, aPick, aNot, aNeg, aXor, aConv, rdSl, aNil, newCells, aAlloc, aBox, ldAgg, aLoad, aStore, aStoreRow, writeAt, fldAt, aFieldAddr, partOf, aField, idxAddrE, arrAddrE, aIndexAddr, arrIdx, aIndex, bnds, slStr, slF, slO, aSlice, aExtract, bldParts, aggRes, aBuild, arrFs, bslParts, bslRes, bslE, aBuildSlice, mkSl, aMakeSlice, aLen, apRow, apE, apT, aAppend, aRange, nextS, aNext, aMkFunc, aCallV, VM, VMg, VMk, VMc, VMf, VMz, VMs, VMo, VQ, VQg, VQk, VQc, VQf, VQz, qk, pickT, putT, looksAt_eq, lks, tmpsOf, guardT, Op.operands, Call.operands, Array.toList_append, Option.toArray, List.append_nil, List.toList_toArray, Nat.reduceBEq, Nat.reduceAdd, Nat.reduceSub, Nat.reduceMul, List.getElem?_cons_zero, List.getElem?_cons_succ, List.getElem?_nil, Option.bind_some, Option.map_some, Option.map_none, Bool.true_and, Bool.and_true, Bool.false_and, Bool.and_false, true_implies, false_implies, true_and, and_true, false_and, and_false, if_true, if_false, Bool.false_eq_true, List.getD_cons_zero, List.getD_cons_succ, List.getD_nil, List.length_cons, List.length_nil, reduceIte, Nat.reduceLT, Nat.reduceLeDiff, ne_eq, reduceCtorEq, beq_self_eq_true, implies_true, not_false_eq_true, not_true_eq_false, cond_true, cond_false, Bool.cond_self, Bool.not_true, Bool.not_false, List.map_cons, List.map_nil, List.drop_zero, List.drop_succ_cons, List.take_succ_cons, List.take_zero, List.cons_append, List.nil_append, List.all_cons, List.all_nil, List.set_cons_zero, List.set_cons_succ, Nat.zero_add, Nat.add_zero, Int.toNat_natCast, eq_self, Int.reduceLT, Int.reduceLE, Int.reduceGT, Int.reduceGE, Int.reduceAdd, Int.reduceSub, Int.reduceMul, Int.reduceNeg, Int.reduceBEq, Int.reduceEq, Int.reduceToNat, wrap_i64, wrap_u8, wrap_i32, wrap_u64, List.take_length, Int.cast_ofNat_Int, List.replicate_succ, List.replicate_zero, List.length_map, List.length_append, Nat.mul_one, take_len_map, decide_true, decide_false, renH, delAll, shift, rn, AO.ren, AV.ren, AV.rens, imp_self, decide_eq_true_eq, decide_eq_false_iff_not, Int.ofNat_lt, Int.ofNat_le, Int.natCast_nonneg, and_self, Bool.and_eq_true, tk1, tk3, tk4, tk5, tk9, tk40, tk42, rdr]
  refine AL.ind (X := Nat) 1000 (fun j => i ≤ j ∧ j ≤ s.length ∧ j + skipA false (s.drop j) = i + skipA false (s.drop i)) (fun j => s.length - j) (fun j => ⟨[(0, .ptr 0 0)], rdr s j, 1⟩) i ⟨Nat.le_refl _, hi, rfl⟩ ?_ ?_
  · unfold rdr
    (refine Imp.of ([]) hE ?_; simp only [subAll, fixAll, subT, subH, apartH, apart1, rn, lk, AV.ren, AV.rens, AV.und, AV.unds, AO.ren, AO.und, Nat.reduceBEq, beq_self_eq_true, Nat.reduceLT, Nat.reduceLeDiff, true_and, and_true, and_self, Option.some.injEq, ne_eq, not_true_eq_false, not_false_eq_true, Nat.reduceEqDiff, Nat.le_refl, AV.s, hE])
  · rintro j ⟨h1, h2, h3⟩ ih
    simp only [Tryd.f14, AWn, AWg, AWc, AWi, AWx, AWd, exitTo, slots, aEnd, aOut, jAV, aRet, retAV, tupOf, RF, RFo, release, release.rels, aop, ev, evs, evo, evl, constAV, strip, lk, guardOf, gd, strip_mkg, mkg_true, mkg_false, St.put, BR_true, BR_false, BR_split, bl_mk, AV.s, AV.cells, FV.cells, AV.one, FV.okE, hset, hdel, aMove, aBin, resV, bopV, bopInt, bopStr, bopBool, aPick, aNot, aNeg, aXor, aConv, rdSl, aNil, newCells, aAlloc, aBox, ldAgg, aLoad, aStore, aStoreRow, writeAt, fldAt, aFieldAddr, partOf, aField, idxAddrE, arrAddrE, aIndexAddr, arrIdx, aIndex, bnds, slStr, slF, slO, aSlice, aExtract, bldParts, aggRes, aBuild, arrFs, bslParts, bslRes, bslE, aBuildSlice, mkSl, aMakeSlice, aLen, apRow, apE, apT, aAppend, aRange, nextS, aNext, aMkFunc, aCallV, VM, VMg, VMk, VMc, VMf, VMz, VMs, VMo, VQ, VQg, VQk, VQc, VQf, VQz, qk, pickT, putT, looksAt_eq, lks, tmpsOf, guardT, Op.operands, Call.operands, Array.toList_append, Option.toArray, List.append_nil, List.toList_toArray, Nat.reduceBEq, Nat.reduceAdd, Nat.reduceSub, Nat.reduceMul, List.getElem?_cons_zero, List.getElem?_cons_succ, List.getElem?_nil, Option.bind_some, Option.map_some, Option.map_none, Bool.true_and, Bool.and_true, Bool.false_and, Bool.and_false, true_implies, false_implies, true_and, and_true, false_and, and_false, if_true, if_false, Bool.false_eq_true, List.getD_cons_zero, List.getD_cons_succ, List.getD_nil, List.length_cons, List.length_nil, reduceIte, Nat.reduceLT, Nat.reduceLeDiff, ne_eq, reduceCtorEq, beq_self_eq_true, implies_true, not_false_eq_true, not_true_eq_false, cond_true, cond_false, Bool.cond_self, Bool.not_true, Bool.not_false, List.map_cons, List.map_nil, List.drop_zero, List.drop_succ_cons, List.take_succ_cons, List.take_zero, List.cons_append, List.nil_append, List.all_cons, List.all_nil, List.set_cons_zero, List.set_cons_succ, Nat.zero_add, Nat.add_zero, Int.toNat_natCast, eq_self, Int.reduceLT, Int.reduceLE, Int.reduceGT, Int.reduceGE, Int.reduceAdd, Int.reduceSub, Int.reduceMul, Int.reduceNeg, Int.reduceBEq, Int.reduceEq, Int.reduceToNat, wrap_i64, wrap_u8, wrap_i32, wrap_u64, List.take_length, Int.cast_ofNat_Int, List.replicate_succ, List.replicate_zero, List.length_map, List.length_append, Nat.mul_one, take_len_map, decide_true, decide_false, renH, delAll, shift, rn, AO.ren, AV.ren, AV.rens, imp_self, decide_eq_true_eq, decide_eq_false_iff_not, Int.ofNat_lt, Int.ofNat_le, Int.natCast_nonneg, and_self, Bool.and_eq_true, tk1, tk3, tk4, tk5, tk9, tk40, tk42, rdr]
    refine ACall.det [] (by kernel_rfl) (g_run s j whiteS (by omega) h2 (by decide)) (by simp only [ownAll, AV.ren, AV.rens, AV.und, AV.unds, AO.ren, AO.und, subH, apartH, apart1, belowAll, rn, lk, Nat.reduceBEq, beq_self_eq_true, Nat.reduceLT, Nat.reduceLeDiff, true_and, and_true, and_self, Option.some.injEq, ne_eq, not_true_eq_false, not_false_eq_true, Nat.reduceEqDiff, Nat.le_refl, AV.s, rdr] <;> try rfl) trivial ?_
    simp only [Tryd.f14, AWn, AWg, AWc, AWi, AWx, AWd, exitTo, slots, aEnd, aOut, jAV, aRet, retAV, tupOf, RF, RFo, release, release.rels, aop, ev, evs, evo, evl, constAV, strip, lk, guardOf, gd, strip_mkg, mkg_true, mkg_false, St.put, BR_true, BR_false, BR_split, bl_mk, AV.s, AV.cells, FV.cells, AV.one, FV.okE, hset, hdel, aMove, aBin, resV, bopV, bopInt, bopStr, bopBool, aPick, aNot, aNeg, aXor, aConv, rdSl, aNil, newCells, aAlloc, aBox, ldAgg, aLoad, aStore, aStoreRow, writeAt, fldAt, aFieldAddr, partOf, aField, idxAddrE, arrAddrE, aIndexAddr, arrIdx, aIndex, bnds, slStr, slF, slO, aSlice, aExtract, bldParts, aggRes, aBuild, arrFs, bslParts, bslRes, bslE, aBuildSlice, mkSl, aMakeSlice, aLen, apRow, apE, apT, aAppend, aRange, nextS, aNext, aMkFunc, aCallV, VM, VMg, VMk, VMc, VMf, VMz, VMs, VMo, VQ, VQg, VQk, VQc, VQf, VQz, qk, pickT, putT, looksAt_eq, lks, tmpsOf, guardT, Op.operands, Call.operands, Array.toList_append, Option.toArray, List.append_nil, List.toList_toArray, Nat.reduceBEq, Nat.reduceAdd, Nat.reduceSub, Nat.reduceMul, List.getElem?_cons_zero, List.getElem?_cons_succ, List.getElem?_nil, Option.bind_some, Option.map_some, Option.map_none, Bool.true_and, Bool.and_true, Bool.false_and, Bool.and_false, true_implies, false_implies, true_and, and_true, false_and, and_false, if_true, if_false, Bool.false_eq_true, List.getD_cons_zero, List.getD_cons_succ, List.getD_nil, List.length_cons, List.length_nil, reduceIte, Nat.reduceLT, Nat.reduceLeDiff, ne_eq, reduceCtorEq, beq_self_eq_true, implies_true, not_false_eq_true, not_true_eq_false, cond_true, cond_false, Bool.cond_self, Bool.not_true, Bool.not_false, List.map_cons, List.map_nil, List.drop_zero, List.drop_succ_cons, List.take_succ_cons, List.take_zero, List.cons_append, List.nil_append, List.all_cons, List.all_nil, List.set_cons_zero, List.set_cons_succ, Nat.zero_add, Nat.add_zero, Int.toNat_natCast, eq_self, Int.reduceLT, Int.reduceLE, Int.reduceGT, Int.reduceGE, Int.reduceAdd, Int.reduceSub, Int.reduceMul, Int.reduceNeg, Int.reduceBEq, Int.reduceEq, Int.reduceToNat, wrap_i64, wrap_u8, wrap_i32, wrap_u64, List.take_length, Int.cast_ofNat_Int, List.replicate_succ, List.replicate_zero, List.length_map, List.length_append, Nat.mul_one, take_len_map, decide_true, decide_false, renH, delAll, shift, rn, AO.ren, AV.ren, AV.rens, imp_self, decide_eq_true_eq, decide_eq_false_iff_not, Int.ofNat_lt, Int.ofNat_le, Int.natCast_nonneg, and_self, Bool.and_eq_true, tk1, tk3, tk4, tk5, tk9, tk40, tk42, rdr]
    generalize hk : (List.takeWhile whiteS.contains (List.drop j s)).length = k
    have hkl : k ≤ s.length - j := by rw [← hk]; refine Nat.le_trans (List.takeWhile_prefix _).length_le ?_; simp
    have hw := skip_white (s.drop j)
    rw [hk, List.drop_drop] at hw
    refine ACall.det [] (by kernel_rfl) (g_see s (j + k) 35) (by simp only [ownAll, AV.ren, AV.rens, AV.und, AV.unds, AO.ren, AO.und, subH, apartH, apart1, belowAll, rn, lk, Nat.reduceBEq, beq_self_eq_true, Nat.reduceLT, Nat.reduceLeDiff, true_and, and_true, and_self, Option.some.injEq, ne_eq, not_true_eq_false, not_false_eq_true, Nat.reduceEqDiff, Nat.le_refl, AV.s, rdr, u8] <;> try rfl) trivial ?_
    simp only [Tryd.f14, AWn, AWg, AWc, AWi, AWx, AWd, exitTo, slots, aEnd, aOut, jAV, aRet, retAV, tupOf, RF, RFo, release, release.rels, aop, ev, evs, evo, evl, constAV, strip, lk, guardOf, gd, strip_mkg, mkg_true, mkg_false, St.put, BR_true, BR_false, BR_split, bl_mk, AV.s, AV.cells, FV.cells, AV.one, FV.okE, hset, hdel, aMove, aBin, resV, bopV, bopInt, bopStr, bopBool, aPick, aNot, aNeg, aXor, aConv, rdSl, aNil, newCells, aAlloc, aBox, ldAgg, aLoad, aStore, aStoreRow, writeAt, fldAt, aFieldAddr, partOf, aField, idxAddrE, arrAddrE, aIndexAddr, arrIdx, aIndex, bnds, slStr, slF, slO, aSlice, aExtract, bldParts, aggRes, aBuild, arrFs, bslParts, bslRes, bslE, aBuildSlice, mkSl, aMakeSlice, aLen, apRow, apE, apT, aAppend, aRange, nextS, aNext, aMkFunc, aCallV, VM, VMg, VMk, VMc, VMf, VMz, VMs, VMo, VQ, VQg, VQk, VQc, VQf, VQz, qk, pickT, putT, looksAt_eq, lks, tmpsOf, guardT, Op.operands, Call.operands, Array.toList_append, Option.toArray, List.append_nil, List.toList_toArray, Nat.reduceBEq, Nat.reduceAdd, Nat.reduceSub, Nat.reduceMul, List.getElem?_cons_zero, List.getElem?_cons_succ, List.getElem?_nil, Option.bind_some, Option.map_some, Option.map_none, Bool.true_and, Bool.and_true, Bool.false_and, Bool.and_false, true_implies, false_implies, true_and, and_true, false_and, and_false, if_true, if_false, Bool.false_eq_true, List.getD_cons_zero, List.getD_cons_succ, List.getD_nil, List.length_cons, List.length_nil, reduceIte, Nat.reduceLT, Nat.reduceLeDiff, ne_eq, reduceCtorEq, beq_self_eq_true, implies_true, not_false_eq_true, not_true_eq_false, cond_true, cond_false, Bool.cond_self, Bool.not_true, Bool.not_false, List.map_cons, List.map_nil, List.drop_zero, List.drop_succ_cons, List.take_succ_cons, List.take_zero, List.cons_append, List.nil_append, List.all_cons, List.all_nil, List.set_cons_zero, List.set_cons_succ, Nat.zero_add, Nat.add_zero, Int.toNat_natCast, eq_self, Int.reduceLT, Int.reduceLE, Int.reduceGT, Int.reduceGE, Int.reduceAdd, Int.reduceSub, Int.reduceMul, Int.reduceNeg, Int.reduceBEq, Int.reduceEq, Int.reduceToNat, wrap_i64, wrap_u8, wrap_i32, wrap_u64, List.take_length, Int.cast_ofNat_Int, List.replicate_succ, List.replicate_zero, List.length_map, List.length_append, Nat.mul_one, take_len_map, decide_true, decide_false, renH, delAll, shift, rn, AO.ren, AV.ren, AV.rens, imp_self, decide_eq_true_eq, decide_eq_false_iff_not, Int.ofNat_lt, Int.ofNat_le, Int.natCast_nonneg, and_self, Bool.and_eq_true, tk1, tk3, tk4, tk5, tk9, tk40, tk42, rdr]
    have hnw : j + k < s.length → whiteS.contains (s.getD (j + k) 0) = false := fun h => by
      have := tw_stop whiteS.contains (s.drop j) (by rw [hk]; simp; omega)
      rwa [hk, drop_getD] at this
    obtain ⟨a1, a2⟩ := skip_at s (j + k) (by omega) hnw
    have wadd : ∀ m : Nat, m < 200000000 → IntKind.i64.wrap (m : Int) = m := fun m hm => wrap_i64 (by omega) (by omega)
    cases hc : (decide (j + k < s.length) && s.getD (j + k) 0 == 35) with
    | false =>
      simp only [Bool.not_false, true_implies, Bool.true_eq_false, false_implies, and_true]
      have := a1 hc
      rw [this] at hw
      rw [← h3, hw] at hQ
      exact hQ _ _ _ (.refl _ _)
    | true =>
      simp only [Bool.not_true, Bool.false_eq_true, false_implies, true_implies, true_and]
      obtain ⟨a3, a4⟩ := a2 hc
      refine ADr.all 1000 (by kernel_rfl) ?_
      simp only [Tryd.f14, AWn, AWg, AWc, AWi, AWx, AWd, exitTo, slots, aEnd, aOut, jAV, aRet, retAV, tupOf, RF, RFo, release, release.rels, aop, ev, evs, evo, evl, constAV, strip, lk, guardOf, gd, strip_mkg, mkg_true, mkg_false, St.put, BR_true, BR_false, BR_split, bl_mk, AV.s, AV.cells, FV.cells, AV.one, FV.okE, hset, hdel, aMove, aBin, resV, bopV, bopInt, bopStr, bopBool, aPick, aNot, aNeg, aXor, aConv, rdSl, aNil, newCells, aAlloc, aBox, ldAgg, aLoad, aStore, aStoreRow, writeAt, fldAt, aFieldAddr, partOf, aField, idxAddrE, arrAddrE, aIndexAddr, arrIdx, aIndex, bnds, slStr, slF, slO, aSlice, aExtract, bldParts, aggRes, aBuild, arrFs, bslParts, bslRes, bslE, aBuildSlice, mkSl, aMakeSlice, aLen, apRow, apE, apT, aAppend, aRange, nextS, aNext, aMkFunc, aCallV, VM, VMg, VMk, VMc, VMf, VMz, VMs, VMo, VQ, VQg, VQk, VQc, VQf, VQz, qk, pickT, putT, looksAt_eq, lks, tmpsOf, guardT, Op.operands, Call.operands, Array.toList_append, Option.toArray, List.append_nil, List.toList_toArray, Nat.reduceBEq, Nat.reduceAdd, Nat.reduceSub, Nat.reduceMul, List.getElem?_cons_zero, List.getElem?_cons_succ, List.getElem?_nil, Option.bind_some, Option.map_some, Option.map_none, Bool.true_and, Bool.and_true, Bool.false_and, Bool.and_false, true_implies, false_implies, true_and, and_true, false_and, and_false, if_true, if_false, Bool.false_eq_true, List.getD_cons_zero, List.getD_cons_succ, List.getD_nil, List.length_cons, List.length_nil, reduceIte, Nat.reduceLT, Nat.reduceLeDiff, ne_eq, reduceCtorEq, beq_self_eq_true, implies_true, not_false_eq_true, not_true_eq_false, cond_true, cond_false, Bool.cond_self, Bool.not_true, Bool.not_false, List.map_cons, List.map_nil, List.drop_zero, List.drop_succ_cons, List.take_succ_cons, List.take_zero, List.cons_append, List.nil_append, List.all_cons, List.all_nil, List.set_cons_zero, List.set_cons_succ, Nat.zero_add, Nat.add_zero, Int.toNat_natCast, eq_self, Int.reduceLT, Int.reduceLE, Int.reduceGT, Int.reduceGE, Int.reduceAdd, Int.reduceSub, Int.reduceMul, Int.reduceNeg, Int.reduceBEq, Int.reduceEq, Int.reduceToNat, wrap_i64, wrap_u8, wrap_i32, wrap_u64, List.take_length, Int.cast_ofNat_Int, List.replicate_succ, List.replicate_zero, List.length_map, List.length_append, Nat.mul_one, take_len_map, decide_true, decide_false, renH, delAll, shift, rn, AO.ren, AV.ren, AV.rens, imp_self, decide_eq_true_eq, decide_eq_false_iff_not, Int.ofNat_lt, Int.ofNat_le, Int.natCast_nonneg, and_self, Bool.and_eq_true, tk1, tk3, tk4, tk5, tk9, tk40, tk42]
      refine ⟨by omega, VQp.mk [.v (str (s.drop (j + k))), u8 10] _ (fun _ => ⟨trivial, by kernel_rfl, rfl, p_indexByte _ _⟩) ?_⟩
      simp only [Tryd.f14, AWn, AWg, AWc, AWi, AWx, AWd, exitTo, slots, aEnd, aOut, jAV, aRet, retAV, tupOf, RF, RFo, release, release.rels, aop, ev, evs, evo, evl, constAV, strip, lk, guardOf, gd, strip_mkg, mkg_true, mkg_false, St.put, BR_true, BR_false, BR_split, bl_mk, AV.s, AV.cells, FV.cells, AV.one, FV.okE, hset, hdel, aMove, aBin, resV, bopV, bopInt, bopStr, bopBool, aPick, aNot, aNeg, aXor, aConv, rdSl, aNil, newCells, aAlloc, aBox, ldAgg, aLoad, aStore, aStoreRow, writeAt, fldAt, aFieldAddr, partOf, aField, idxAddrE, arrAddrE, aIndexAddr, arrIdx, aIndex, bnds, slStr, slF, slO, aSlice, aExtract, bldParts, aggRes, aBuild, arrFs, bslParts, bslRes, bslE, aBuildSlice, mkSl, aMakeSlice, aLen, apRow, apE, apT, aAppend, aRange, nextS, aNext, aMkFunc, aCallV, VM, VMg, VMk, VMc, VMf, VMz, VMs, VMo, VQ, VQg, VQk, VQc, VQf, VQz, qk, pickT, putT, looksAt_eq, lks, tmpsOf, guardT, Op.operands, Call.operands, Array.toList_append, Option.toArray, List.append_nil, List.toList_toArray, Nat.reduceBEq, Nat.reduceAdd, Nat.reduceSub, Nat.reduceMul, List.getElem?_cons_zero, List.getElem?_cons_succ, List.getElem?_nil, Option.bind_some, Option.map_some, Option.map_none, Bool.true_and, Bool.and_true, Bool.false_and, Bool.and_false, true_implies, false_implies, true_and, and_true, false_and, and_false, if_true, if_false, Bool.false_eq_true, List.getD_cons_zero, List.getD_cons_succ, List.getD_nil, List.length_cons, List.length_nil, reduceIte, Nat.reduceLT, Nat.reduceLeDiff, ne_eq, reduceCtorEq, beq_self_eq_true, implies_true, not_false_eq_true, not_true_eq_false, cond_true, cond_false, Bool.cond_self, Bool.not_true, Bool.not_false, List.map_cons, List.map_nil, List.drop_zero, List.drop_succ_cons, List.take_succ_cons, List.take_zero, List.cons_append, List.nil_append, List.all_cons, List.all_nil, List.set_cons_zero, List.set_cons_succ, Nat.zero_add, Nat.add_zero, Int.toNat_natCast, eq_self, Int.reduceLT, Int.reduceLE, Int.reduceGT, Int.reduceGE, Int.reduceAdd, Int.reduceSub, Int.reduceMul, Int.reduceNeg, Int.reduceBEq, Int.reduceEq, Int.reduceToNat, wrap_i64, wrap_u8, wrap_i32, wrap_u64, List.take_length, Int.cast_ofNat_Int, List.replicate_succ, List.replicate_zero, List.length_map, List.length_append, Nat.mul_one, take_len_map, decide_true, decide_false, renH, delAll, shift, rn, AO.ren, AV.ren, AV.rens, imp_self, decide_eq_true_eq, decide_eq_false_iff_not, Int.ofNat_lt, Int.ofNat_le, Int.natCast_nonneg, and_self, Bool.and_eq_true, tk1, tk3, tk4, tk5, tk9, tk40, tk42]
      refine ⟨fun h => ?_, fun h => ?_⟩
      · have := a3 h
        rw [this] at hw
        rw [← h3, hw, show j + (k + (s.length - (j + k))) = s.length by omega] at hQ
        exact hQ _ _ _ (.refl _ _)
      · obtain ⟨a5, a6, a7⟩ := a4 (by omega)
        have e1 : ((j + k : Nat) : Int) + Lib.indexByte (s.drop (j + k)) 10 = ((j + k + (Lib.indexByte (s.drop (j + k)) 10).toNat : Nat) : Int) := by
          rw [Int.natCast_add (j + k), Int.toNat_of_nonneg (by omega)]
        rw [e1, wadd _ (by omega)]
        refine ih _ _ ⟨by omega, Nat.le_of_lt a7, ?_⟩ (by omega) ?_
        · omega
        · unfold rdr
          (refine Imp.of ([]) hE ?_; simp only [subAll, fixAll, subT, subH, apartH, apart1, rn, lk, AV.ren, AV.rens, AV.und, AV.unds, AO.ren, AO.und, Nat.reduceBEq, beq_self_eq_true, Nat.reduceLT, Nat.reduceLeDiff, true_and, and_true, and_self, Option.some.injEq, ne_eq, not_true_eq_false, not_false_eq_true, Nat.reduceEqDiff, Nat.le_refl, AV.s, hE])
end Go.Proofs
