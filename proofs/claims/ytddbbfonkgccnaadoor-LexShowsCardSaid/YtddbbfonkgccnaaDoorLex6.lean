/-
  Walks and plain laws towards the statements of this seat (Lex6). Conditions: those that each theorem names.
-/
import Derived.Test.YtddbbfonkgccnaaDoorLex5
set_option linter.unusedVariables false
set_option linter.unusedSimpArgs false
namespace Go.Proofs
open Go Go.Fw
set_option maxHeartbeats 2000000
/-- a token's cells -/
def tokA (kind : Int) (text : List UInt8) (a b c d : Int) (num at_ : Int) : List AV := [.s (.int .i64 kind), .s (str text), .s (.int .u64 a), .s (.int .u64 b), .s (.int .u64 c), .s (.int .u64 d), .s (.int .i64 num), .s (.int .i64 at_)]
def tok0 : List AV := tokA 0 [] 0 0 0 0 0 0
theorem one_ok {u : List UInt8} (h : (oneR u).2.1 = 0) : 0 < (oneR u).2.2 ∧ (oneR u).2.2 ≤ u.length := by
  have six : (sixR (u.drop 2)).2.1 = 0 → (sixR (u.drop 2)).2.2 = 2 ∧ 2 ≤ (u.drop 2).length := by
    have hl : (u.drop 2).length = u.length - 2 := by simp
    unfold sixR
    rw [hl]
    repeat' split
    all_goals simp
    omega
  revert h
  unfold oneR
  repeat' split
  all_goals simp
  all_goals try omega
  intro h
  have := six h
  simp at this
  omega
/-- behind a quote: word, bytes, how far -/
def textF : Nat → List UInt8 → List UInt8 → Int × List UInt8 × Nat
  | 0, _, _ => (0, [], 0)
  | f + 1, u, acc => if (decide (0 < u.length) && u.getD 0 0 == 34) = true then (if acc.length > 256 then (2, [], 1) else (0, acc, 1))
    else if (oneR u).2.1 ≠ 0 then ((oneR u).2.1, [], (oneR u).2.2)
    else ((textF f (u.drop (oneR u).2.2) (acc ++ [(oneR u).1])).1, (textF f (u.drop (oneR u).2.2) (acc ++ [(oneR u).1])).2.1, (oneR u).2.2 + (textF f (u.drop (oneR u).2.2) (acc ++ [(oneR u).1])).2.2)
def textR (u : List UInt8) : Int × List UInt8 × Nat := textF (u.length + 1) u []
theorem textF_fuel : ∀ (f g : Nat) (u acc : List UInt8), u.length < f → u.length < g → textF f u acc = textF g u acc
  | 0, _, u, _, h, _ => by omega
  | _, 0, u, _, _, h => by omega
  | f + 1, g + 1, u, acc, h1, h2 => by
    simp only [textF]
    by_cases hz : (oneR u).2.1 ≠ 0
    · simp only [if_pos hz]
    · have ho := one_ok (u := u) (by simpa using hz)
      rw [textF_fuel f g (u.drop (oneR u).2.2) _ (by simp; omega) (by simp; omega)]
theorem map_byte (l : List UInt8) : (l.map u8).map fvByte = l := by
  rw [List.map_map]
  conv => rhs; rw [← List.map_id l]
  apply List.map_congr_left
  intro x _
  simp [u8, fvByte]
theorem all_byte (l : List UInt8) : ∀ x ∈ l.map u8, FV.isByte x := by
  intro x hx
  obtain ⟨b, _, rfl⟩ := List.mem_map.1 hx
  trivial
theorem g_text (s : List UInt8) (i : Nat) (hs : s.length < 100000000) (hi : i ≤ s.length) :
    GD Tryd.prog 32 1 (rdr s i) [.ptr 0 0] (.tup [.agg (if (textR (s.drop i)).1 = 0 then tokA 2 (textR (s.drop i)).2.1 0 0 0 0 0 0 else tok0), .s (.int .i64 (textR (s.drop i)).1)]) (rdr s (i + (textR (s.drop i)).2.2)) 1 := by
  refine GD.in 1000 Tryd.func32 (by kernel_rfl) rfl (by kernel_rfl) fun Ph Ps E Q hE hQ => ?_
  simp only [Tryd.f32, AWn, AWg, AWc, AWi, AWx, AWd, exitTo, slots, aEnd, aOut, jAV, aRet, retAV, tupOf, RF, RFo, release, release.rels, aop, ev, evs, evo, evl, constAV, strip, lk, guardOf, gd, strip_mkg, mkg_true, mkg_false, St.put, BR_true, BR_false, BR_split, bl_mk, AV.s, AV.cells, FV.cells, AV.one, FV.okE, hset, hdel, aMove, aBin, resV, bopV, bopInt, bopStr, bopBool, aPick, aNot, aNeg, aXor, aConv, rdSl, aNil, newCells, aAlloc, aBox, ldAgg, aLoad, aStore, aStoreRow, writeAt, fldAt, aFieldAddr, partOf, aField, idxAddrE, arrAddrE, aIndexAddr, arrIdx, aIndex, bnds, slStr, slF, slO, aSlice, aExtract, bldParts, aggRes, aBuild, arrFs, bslParts, bslRes, bslE, aBuildSlice, mkSl, aMakeSlice, aLen, apRow, apE, apT, aAppend, aRange, nextS, aNext, aMkFunc, aCallV, VM, VMg, VMk, VMc, VMf, VMz, VMs, VMo, VQ, VQg, VQk, VQc, VQf, VQz, qk, pickT, putT, looksAt_eq, lks, tmpsOf, guardT, Op.operands, Call.operands, Array.toList_append, Option.toArray, List.append_nil, List.toList_toArray, Nat.reduceBEq, Nat.reduceAdd, Nat.reduceSub, Nat.reduceMul, List.getElem?_cons_zero, List.getElem?_cons_succ, List.getElem?_nil, Option.bind_some, Option.map_some, Option.map_none, Bool.true_and, Bool.and_true, Bool.false_and, Bool.and_false, true_implies, false_implies, true_and, and_true, false_and, and_false, if_true, if_false, Bool.false_eq_true, List.getD_cons_zero, List.getD_cons_succ, List.getD_nil, List.length_cons, List.length_nil, reduceIte, Nat.reduceLT, Nat.reduceLeDiff, ne_eq, reduceCtorEq, beq_self_eq_true, implies_true, not_false_eq_true, not_true_eq_false, cond_true, cond_false, Bool.cond_self, Bool.not_true, Bool.not_false, List.map_cons, List.map_nil, List.drop_zero, List.drop_succ_cons, List.take_succ_cons, List.take_zero, List.cons_append, List.nil_append, List.all_cons, List.all_nil, List.set_cons_zero, List.set_cons_succ, Nat.zero_add, Nat.add_zero, Int.toNat_natCast, eq_self, Int.reduceLT, Int.reduceLE, Int.reduceGT, Int.reduceGE, Int.reduceAdd, Int.reduceSub, Int.reduceMul, Int.reduceNeg, Int.reduceBEq, Int.reduceEq, Int.reduceToNat, wrap_i64, wrap_u8, wrap_i32, wrap_u64, List.take_length, Int.cast_ofNat_Int, List.replicate_succ, List.replicate_zero, List.length_map, List.length_append, Nat.mul_one, take_len_map, decide_true, decide_false, renH, delAll, shift, rn, AO.ren, AV.ren, AV.rens, imp_self, decide_eq_true_eq, decide_eq_false_iff_not, Int.ofNat_lt, Int.ofNat_le, Int.natCast_nonneg, and_self, Bool.and_eq_true, tk1, tk2, tk3, tk4, tk5, tk9, tk23, tk26, tk28, tk30, tk40, tk42, tk48, rdr]
  refine AL.ind (X := Nat × List UInt8) 1000 (fun x => i ≤ x.1 ∧ x.1 ≤ s.length ∧ x.2.length ≤ x.1 ∧ ((textR (s.drop i)).1 = (textF (s.length - x.1 + 1) (s.drop x.1) x.2).1 ∧ (textR (s.drop i)).2.1 = (textF (s.length - x.1 + 1) (s.drop x.1) x.2).2.1 ∧ i + (textR (s.drop i)).2.2 = x.1 + (textF (s.length - x.1 + 1) (s.drop x.1) x.2).2.2)) (fun x => s.length - x.1)
    (fun x => ⟨[(0, .ptr 0 0), (2, .ptr 1 0), (4, .sl 2 1 0 x.2.length)], (0, .cells 42 [.s (str s), .s (.int .i64 x.1)]) :: (1, .cells 30 tok0) :: [(2, .row 5 1 (x.2.map u8))], 3⟩) (i, []) ⟨Nat.le_refl _, hi, Nat.zero_le _, by simp [textR]⟩ ?_ ?_
  · refine .trans (Imp.adopt 4 5 1 rfl) ?_
    unfold tok0 tokA
    (refine Imp.of ([]) hE ?_; simp only [subAll, fixAll, subT, subH, apartH, apart1, rn, lk, AV.ren, AV.rens, AV.und, AV.unds, AO.ren, AO.und, Nat.reduceBEq, beq_self_eq_true, Nat.reduceLT, Nat.reduceLeDiff, true_and, and_true, and_self, Option.some.injEq, ne_eq, not_true_eq_false, not_false_eq_true, Nat.reduceEqDiff, Nat.le_refl, AV.s, hE])
    exact ⟨rfl, rfl⟩
  · rintro ⟨j, acc⟩ ⟨h1, h2, h3, h4, h5, h6⟩ ih
    simp only at h1 h2 h3 h4 h5 h6
    simp only [Tryd.f32, AWn, AWg, AWc, AWi, AWx, AWd, exitTo, slots, aEnd, aOut, jAV, aRet, retAV, tupOf, RF, RFo, release, release.rels, aop, ev, evs, evo, evl, constAV, strip, lk, guardOf, gd, strip_mkg, mkg_true, mkg_false, St.put, BR_true, BR_false, BR_split, bl_mk, AV.s, AV.cells, FV.cells, AV.one, FV.okE, hset, hdel, aMove, aBin, resV, bopV, bopInt, bopStr, bopBool, aPick, aNot, aNeg, aXor, aConv, rdSl, aNil, newCells, aAlloc, aBox, ldAgg, aLoad, aStore, aStoreRow, writeAt, fldAt, aFieldAddr, partOf, aField, idxAddrE, arrAddrE, aIndexAddr, arrIdx, aIndex, bnds, slStr, slF, slO, aSlice, aExtract, bldParts, aggRes, aBuild, arrFs, bslParts, bslRes, bslE, aBuildSlice, mkSl, aMakeSlice, aLen, apRow, apE, apT, aAppend, aRange, nextS, aNext, aMkFunc, aCallV, VM, VMg, VMk, VMc, VMf, VMz, VMs, VMo, VQ, VQg, VQk, VQc, VQf, VQz, qk, pickT, putT, looksAt_eq, lks, tmpsOf, guardT, Op.operands, Call.operands, Array.toList_append, Option.toArray, List.append_nil, List.toList_toArray, Nat.reduceBEq, Nat.reduceAdd, Nat.reduceSub, Nat.reduceMul, List.getElem?_cons_zero, List.getElem?_cons_succ, List.getElem?_nil, Option.bind_some, Option.map_some, Option.map_none, Bool.true_and, Bool.and_true, Bool.false_and, Bool.and_false, true_implies, false_implies, true_and, and_true, false_and, and_false, if_true, if_false, Bool.false_eq_true, List.getD_cons_zero, List.getD_cons_succ, List.getD_nil, List.length_cons, List.length_nil, reduceIte, Nat.reduceLT, Nat.reduceLeDiff, ne_eq, reduceCtorEq, beq_self_eq_true, implies_true, not_false_eq_true, not_true_eq_false, cond_true, cond_false, Bool.cond_self, Bool.not_true, Bool.not_false, List.map_cons, List.map_nil, List.drop_zero, List.drop_succ_cons, List.take_succ_cons, List.take_zero, List.cons_append, List.nil_append, List.all_cons, List.all_nil, List.set_cons_zero, List.set_cons_succ, Nat.zero_add, Nat.add_zero, Int.toNat_natCast, eq_self, Int.reduceLT, Int.reduceLE, Int.reduceGT, Int.reduceGE, Int.reduceAdd, Int.reduceSub, Int.reduceMul, Int.reduceNeg, Int.reduceBEq, Int.reduceEq, Int.reduceToNat, wrap_i64, wrap_u8, wrap_i32, wrap_u64, List.take_length, Int.cast_ofNat_Int, List.replicate_succ, List.replicate_zero, List.length_map, List.length_append, Nat.mul_one, take_len_map, decide_true, decide_false, renH, delAll, shift, rn, AO.ren, AV.ren, AV.rens, imp_self, decide_eq_true_eq, decide_eq_false_iff_not, Int.ofNat_lt, Int.ofNat_le, Int.natCast_nonneg, and_self, Bool.and_eq_true, tk1, tk2, tk3, tk4, tk5, tk9, tk23, tk26, tk28, tk30, tk40, tk42, tk48]
    refine ACall.det [] (by kernel_rfl) (g_see s j 34) (by simp only [ownAll, AV.ren, AV.rens, AV.und, AV.unds, AO.ren, AO.und, subH, apartH, apart1, belowAll, rn, lk, Nat.reduceBEq, beq_self_eq_true, Nat.reduceLT, Nat.reduceLeDiff, true_and, and_true, and_self, Option.some.injEq, ne_eq, not_true_eq_false, not_false_eq_true, Nat.reduceEqDiff, Nat.le_refl, AV.s, rdr, u8] <;> try rfl) trivial ?_
    simp only [Tryd.f32, AWn, AWg, AWc, AWi, AWx, AWd, exitTo, slots, aEnd, aOut, jAV, aRet, retAV, tupOf, RF, RFo, release, release.rels, aop, ev, evs, evo, evl, constAV, strip, lk, guardOf, gd, strip_mkg, mkg_true, mkg_false, St.put, BR_true, BR_false, BR_split, bl_mk, AV.s, AV.cells, FV.cells, AV.one, FV.okE, hset, hdel, aMove, aBin, resV, bopV, bopInt, bopStr, bopBool, aPick, aNot, aNeg, aXor, aConv, rdSl, aNil, newCells, aAlloc, aBox, ldAgg, aLoad, aStore, aStoreRow, writeAt, fldAt, aFieldAddr, partOf, aField, idxAddrE, arrAddrE, aIndexAddr, arrIdx, aIndex, bnds, slStr, slF, slO, aSlice, aExtract, bldParts, aggRes, aBuild, arrFs, bslParts, bslRes, bslE, aBuildSlice, mkSl, aMakeSlice, aLen, apRow, apE, apT, aAppend, aRange, nextS, aNext, aMkFunc, aCallV, VM, VMg, VMk, VMc, VMf, VMz, VMs, VMo, VQ, VQg, VQk, VQc, VQf, VQz, qk, pickT, putT, looksAt_eq, lks, tmpsOf, guardT, Op.operands, Call.operands, Array.toList_append, Option.toArray, List.append_nil, List.toList_toArray, Nat.reduceBEq, Nat.reduceAdd, Nat.reduceSub, Nat.reduceMul, List.getElem?_cons_zero, List.getElem?_cons_succ, List.getElem?_nil, Option.bind_some, Option.map_some, Option.map_none, Bool.true_and, Bool.and_true, Bool.false_and, Bool.and_false, true_implies, false_implies, true_and, and_true, false_and, and_false, if_true, if_false, Bool.false_eq_true, List.getD_cons_zero, List.getD_cons_succ, List.getD_nil, List.length_cons, List.length_nil, reduceIte, Nat.reduceLT, Nat.reduceLeDiff, ne_eq, reduceCtorEq, beq_self_eq_true, implies_true, not_false_eq_true, not_true_eq_false, cond_true, cond_false, Bool.cond_self, Bool.not_true, Bool.not_false, List.map_cons, List.map_nil, List.drop_zero, List.drop_succ_cons, List.take_succ_cons, List.take_zero, List.cons_append, List.nil_append, List.all_cons, List.all_nil, List.set_cons_zero, List.set_cons_succ, Nat.zero_add, Nat.add_zero, Int.toNat_natCast, eq_self, Int.reduceLT, Int.reduceLE, Int.reduceGT, Int.reduceGE, Int.reduceAdd, Int.reduceSub, Int.reduceMul, Int.reduceNeg, Int.reduceBEq, Int.reduceEq, Int.reduceToNat, wrap_i64, wrap_u8, wrap_i32, wrap_u64, List.take_length, Int.cast_ofNat_Int, List.replicate_succ, List.replicate_zero, List.length_map, List.length_append, Nat.mul_one, take_len_map, decide_true, decide_false, renH, delAll, shift, rn, AO.ren, AV.ren, AV.rens, imp_self, decide_eq_true_eq, decide_eq_false_iff_not, Int.ofNat_lt, Int.ofNat_le, Int.natCast_nonneg, and_self, Bool.and_eq_true, tk1, tk2, tk3, tk4, tk5, tk9, tk23, tk26, tk28, tk30, tk40, tk42, tk48, rdr]
    have hl : (s.drop j).length = s.length - j := by simp
    have g0 : (s.drop j).getD 0 0 = s.getD j 0 := by rw [drop_getD]; rfl
    have hdec : decide (0 < s.length - j) = decide (j < s.length) := by by_cases h : j < s.length <;> simp <;> omega
    have hF : textF (s.length - j + 1) (s.drop j) acc = if (decide (j < s.length) && s.getD j 0 == 34) = true then (if acc.length > 256 then (2, [], 1) else (0, acc, 1))
        else if (oneR (s.drop j)).2.1 ≠ 0 then ((oneR (s.drop j)).2.1, [], (oneR (s.drop j)).2.2)
        else ((textF (s.length - j) ((s.drop j).drop (oneR (s.drop j)).2.2) (acc ++ [(oneR (s.drop j)).1])).1, (textF (s.length - j) ((s.drop j).drop (oneR (s.drop j)).2.2) (acc ++ [(oneR (s.drop j)).1])).2.1, (oneR (s.drop j)).2.2 + (textF (s.length - j) ((s.drop j).drop (oneR (s.drop j)).2.2) (acc ++ [(oneR (s.drop j)).1])).2.2) := by
      simp only [textF, hl, g0, hdec]
    have wadd : ∀ m : Nat, m < 200000000 → IntKind.i64.wrap (m : Int) = m := fun m hm => wrap_i64 (by omega) (by omega)
    have wj : IntKind.i64.wrap ((j : Int) + 1) = ((j + 1 : Nat) : Int) := by rw [wrap_i64 (by omega) (by omega)]; omega
    cases hq : (decide (j < s.length) && s.getD j 0 == 34) with
    | true =>
      rw [if_pos hq] at hF
      simp only [Bool.not_true, Bool.false_eq_true, false_implies, true_implies, true_and]
      simp only [Tryd.f32, AWn, AWg, AWc, AWi, AWx, AWd, exitTo, slots, aEnd, aOut, jAV, aRet, retAV, tupOf, RF, RFo, release, release.rels, aop, ev, evs, evo, evl, constAV, strip, lk, guardOf, gd, strip_mkg, mkg_true, mkg_false, St.put, BR_true, BR_false, BR_split, bl_mk, AV.s, AV.cells, FV.cells, AV.one, FV.okE, hset, hdel, aMove, aBin, resV, bopV, bopInt, bopStr, bopBool, aPick, aNot, aNeg, aXor, aConv, rdSl, aNil, newCells, aAlloc, aBox, ldAgg, aLoad, aStore, aStoreRow, writeAt, fldAt, aFieldAddr, partOf, aField, idxAddrE, arrAddrE, aIndexAddr, arrIdx, aIndex, bnds, slStr, slF, slO, aSlice, aExtract, bldParts, aggRes, aBuild, arrFs, bslParts, bslRes, bslE, aBuildSlice, mkSl, aMakeSlice, aLen, apRow, apE, apT, aAppend, aRange, nextS, aNext, aMkFunc, aCallV, VM, VMg, VMk, VMc, VMf, VMz, VMs, VMo, VQ, VQg, VQk, VQc, VQf, VQz, qk, pickT, putT, looksAt_eq, lks, tmpsOf, guardT, Op.operands, Call.operands, Array.toList_append, Option.toArray, List.append_nil, List.toList_toArray, Nat.reduceBEq, Nat.reduceAdd, Nat.reduceSub, Nat.reduceMul, List.getElem?_cons_zero, List.getElem?_cons_succ, List.getElem?_nil, Option.bind_some, Option.map_some, Option.map_none, Bool.true_and, Bool.and_true, Bool.false_and, Bool.and_false, true_implies, false_implies, true_and, and_true, false_and, and_false, if_true, if_false, Bool.false_eq_true, List.getD_cons_zero, List.getD_cons_succ, List.getD_nil, List.length_cons, List.length_nil, reduceIte, Nat.reduceLT, Nat.reduceLeDiff, ne_eq, reduceCtorEq, beq_self_eq_true, implies_true, not_false_eq_true, not_true_eq_false, cond_true, cond_false, Bool.cond_self, Bool.not_true, Bool.not_false, List.map_cons, List.map_nil, List.drop_zero, List.drop_succ_cons, List.take_succ_cons, List.take_zero, List.cons_append, List.nil_append, List.all_cons, List.all_nil, List.set_cons_zero, List.set_cons_succ, Nat.zero_add, Nat.add_zero, Int.toNat_natCast, eq_self, Int.reduceLT, Int.reduceLE, Int.reduceGT, Int.reduceGE, Int.reduceAdd, Int.reduceSub, Int.reduceMul, Int.reduceNeg, Int.reduceBEq, Int.reduceEq, Int.reduceToNat, wrap_i64, wrap_u8, wrap_i32, wrap_u64, List.take_length, Int.cast_ofNat_Int, List.replicate_succ, List.replicate_zero, List.length_map, List.length_append, Nat.mul_one, take_len_map, decide_true, decide_false, renH, delAll, shift, rn, AO.ren, AV.ren, AV.rens, imp_self, decide_eq_true_eq, decide_eq_false_iff_not, Int.ofNat_lt, Int.ofNat_le, Int.natCast_nonneg, and_self, Bool.and_eq_true, tk1, tk2, tk3, tk4, tk5, tk9, tk23, tk26, tk28, tk30, tk40, tk42, tk48, wj, tok0, tokA, map_byte]
      rw [hF] at h4 h5 h6
      refine ⟨fun h => ?_, fun h => ⟨⟨Nat.le_refl _, all_byte acc⟩, ?_⟩⟩
      · have h' : acc.length > 256 := by omega
        rw [if_pos h'] at h4 h5 h6
        simp only at h4 h5 h6
        rw [h6, h4, if_neg (by decide)] at hQ
        refine hQ _ _ _ ?_
        unfold rdr tok0 tokA
        (refine Imp.of ([]) hE ?_; simp only [subAll, fixAll, subT, subH, apartH, apart1, rn, lk, AV.ren, AV.rens, AV.und, AV.unds, AO.ren, AO.und, Nat.reduceBEq, beq_self_eq_true, Nat.reduceLT, Nat.reduceLeDiff, true_and, and_true, and_self, Option.some.injEq, ne_eq, not_true_eq_false, not_false_eq_true, Nat.reduceEqDiff, Nat.le_refl, AV.s, hE])
      · have h' : ¬ acc.length > 256 := by omega
        rw [if_neg h'] at h4 h5 h6
        simp only at h4 h5 h6
        rw [h6, h4, if_pos rfl, h5] at hQ
        refine hQ _ _ _ ?_
        unfold rdr tokA
        (refine Imp.of ([]) hE ?_; simp only [subAll, fixAll, subT, subH, apartH, apart1, rn, lk, AV.ren, AV.rens, AV.und, AV.unds, AO.ren, AO.und, Nat.reduceBEq, beq_self_eq_true, Nat.reduceLT, Nat.reduceLeDiff, true_and, and_true, and_self, Option.some.injEq, ne_eq, not_true_eq_false, not_false_eq_true, Nat.reduceEqDiff, Nat.le_refl, AV.s, hE])
    | false =>
      rw [hq, if_neg Bool.false_ne_true] at hF
      simp only [Bool.not_false, true_implies, Bool.true_eq_false, false_implies, and_true]
      refine ACall.det [] (by kernel_rfl) (g_one s j (by omega) h2) (by simp only [ownAll, AV.ren, AV.rens, AV.und, AV.unds, AO.ren, AO.und, subH, apartH, apart1, belowAll, rn, lk, Nat.reduceBEq, beq_self_eq_true, Nat.reduceLT, Nat.reduceLeDiff, true_and, and_true, and_self, Option.some.injEq, ne_eq, not_true_eq_false, not_false_eq_true, Nat.reduceEqDiff, Nat.le_refl, AV.s, rdr] <;> try rfl) trivial ?_
      simp only [Tryd.f32, AWn, AWg, AWc, AWi, AWx, AWd, exitTo, slots, aEnd, aOut, jAV, aRet, retAV, tupOf, RF, RFo, release, release.rels, aop, ev, evs, evo, evl, constAV, strip, lk, guardOf, gd, strip_mkg, mkg_true, mkg_false, St.put, BR_true, BR_false, BR_split, bl_mk, AV.s, AV.cells, FV.cells, AV.one, FV.okE, hset, hdel, aMove, aBin, resV, bopV, bopInt, bopStr, bopBool, aPick, aNot, aNeg, aXor, aConv, rdSl, aNil, newCells, aAlloc, aBox, ldAgg, aLoad, aStore, aStoreRow, writeAt, fldAt, aFieldAddr, partOf, aField, idxAddrE, arrAddrE, aIndexAddr, arrIdx, aIndex, bnds, slStr, slF, slO, aSlice, aExtract, bldParts, aggRes, aBuild, arrFs, bslParts, bslRes, bslE, aBuildSlice, mkSl, aMakeSlice, aLen, apRow, apE, apT, aAppend, aRange, nextS, aNext, aMkFunc, aCallV, VM, VMg, VMk, VMc, VMf, VMz, VMs, VMo, VQ, VQg, VQk, VQc, VQf, VQz, qk, pickT, putT, looksAt_eq, lks, tmpsOf, guardT, Op.operands, Call.operands, Array.toList_append, Option.toArray, List.append_nil, List.toList_toArray, Nat.reduceBEq, Nat.reduceAdd, Nat.reduceSub, Nat.reduceMul, List.getElem?_cons_zero, List.getElem?_cons_succ, List.getElem?_nil, Option.bind_some, Option.map_some, Option.map_none, Bool.true_and, Bool.and_true, Bool.false_and, Bool.and_false, true_implies, false_implies, true_and, and_true, false_and, and_false, if_true, if_false, Bool.false_eq_true, List.getD_cons_zero, List.getD_cons_succ, List.getD_nil, List.length_cons, List.length_nil, reduceIte, Nat.reduceLT, Nat.reduceLeDiff, ne_eq, reduceCtorEq, beq_self_eq_true, implies_true, not_false_eq_true, not_true_eq_false, cond_true, cond_false, Bool.cond_self, Bool.not_true, Bool.not_false, List.map_cons, List.map_nil, List.drop_zero, List.drop_succ_cons, List.take_succ_cons, List.take_zero, List.cons_append, List.nil_append, List.all_cons, List.all_nil, List.set_cons_zero, List.set_cons_succ, Nat.zero_add, Nat.add_zero, Int.toNat_natCast, eq_self, Int.reduceLT, Int.reduceLE, Int.reduceGT, Int.reduceGE, Int.reduceAdd, Int.reduceSub, Int.reduceMul, Int.reduceNeg, Int.reduceBEq, Int.reduceEq, Int.reduceToNat, wrap_i64, wrap_u8, wrap_i32, wrap_u64, List.take_length, Int.cast_ofNat_Int, List.replicate_succ, List.replicate_zero, List.length_map, List.length_append, Nat.mul_one, take_len_map, decide_true, decide_false, renH, delAll, shift, rn, AO.ren, AV.ren, AV.rens, imp_self, decide_eq_true_eq, decide_eq_false_iff_not, Int.ofNat_lt, Int.ofNat_le, Int.natCast_nonneg, and_self, Bool.and_eq_true, tk1, tk2, tk3, tk4, tk5, tk9, tk23, tk26, tk28, tk30, tk40, tk42, tk48, rdr, tok0, tokA, u8]
      refine ⟨fun h => ?_, fun h => ?_⟩
      · have h' : (oneR (s.drop j)).2.1 ≠ 0 := by simpa using h
        rw [if_pos h'] at hF
        rw [hF] at h4 h5 h6
        simp only at h4 h5 h6
        rw [h6, h4, if_neg h'] at hQ
        refine hQ _ _ _ ?_
        unfold rdr tok0 tokA
        (refine Imp.of ([]) hE ?_; simp only [subAll, fixAll, subT, subH, apartH, apart1, rn, lk, AV.ren, AV.rens, AV.und, AV.unds, AO.ren, AO.und, Nat.reduceBEq, beq_self_eq_true, Nat.reduceLT, Nat.reduceLeDiff, true_and, and_true, and_self, Option.some.injEq, ne_eq, not_true_eq_false, not_false_eq_true, Nat.reduceEqDiff, Nat.le_refl, AV.s, hE])
      · have h' : (oneR (s.drop j)).2.1 = 0 := by simpa using h
        rw [if_neg (by simpa using h')] at hF
        obtain ⟨o1, o2⟩ := one_ok h'
        rw [hl] at o2
        refine ⟨by omega, ?_⟩
        have hfu := textF_fuel (s.length - j) (s.length - (j + (oneR (s.drop j)).2.2) + 1) ((s.drop j).drop (oneR (s.drop j)).2.2) (acc ++ [(oneR (s.drop j)).1]) (by simp only [List.length_drop]; omega) (by simp only [List.length_drop]; omega)
        rw [hfu, List.drop_drop] at hF
        refine ih (j + (oneR (s.drop j)).2.2, acc ++ [(oneR (s.drop j)).1]) _ ?_ ?_ ?_
        · rw [hF] at h4 h5 h6
          simp only at h4 h5 h6 ⊢
          exact ⟨by omega, by omega, by simp; omega, h4, h5, by omega⟩
        · simp only; omega
        · unfold tok0 tokA
          (refine Imp.of ([(2, 4)]) hE ?_; simp only [subAll, fixAll, subT, subH, apartH, apart1, rn, lk, AV.ren, AV.rens, AV.und, AV.unds, AO.ren, AO.und, Nat.reduceBEq, beq_self_eq_true, Nat.reduceLT, Nat.reduceLeDiff, true_and, and_true, and_self, Option.some.injEq, ne_eq, not_true_eq_false, not_false_eq_true, Nat.reduceEqDiff, Nat.le_refl, AV.s, hE])
          simp [u8]
end Go.Proofs
