/-
  Walks and plain laws towards the statements of this seat (Ref3). Conditions: those that each theorem names.
-/
import Derived.Test.YtddbbfonkgccnaaDoorRef2
set_option linter.unusedVariables false
set_option linter.unusedSimpArgs false
namespace Go.Proofs
open Go Go.Fw
set_option maxHeartbeats 4000000
/-- what holds between two turns of the document's rows -/
def RowJ (l : List Nat) (i fr : Nat) (out : List (Nat × Nat)) : Prop :=
  (fr < i ∧ (l.take i).foldl rowStep [] = out ++ [(l.getD fr 0, l.getD (i - 1) 0)] ∧ i < l.length ∧ l.getD i 0 = l.getD (i - 1) 0 + 1) ∨
  (fr = i ∧ (l.take i).foldl rowStep [] = out ∧ ∀ a b, out.getLast? = some (a, b) → i < l.length → b + 1 ≠ l.getD i 0)
theorem rowJ_fold {l : List Nat} {i fr : Nat} {out : List (Nat × Nat)} (h : RowJ l i fr out) (hi : i < l.length) : (l.take (i + 1)).foldl rowStep [] = out ++ [(l.getD fr 0, l.getD i 0)] := by
  rw [take_succ_e l i 0 hi, List.foldl_append]
  rcases h with ⟨h1, h2, h3, h4⟩ | ⟨h1, h2, h3⟩
  · rw [h2]
    show rowStep (out ++ [(l.getD fr 0, l.getD (i - 1) 0)]) (l.getD i 0) = _
    rw [h4]
    simp [rowStep]
  · rw [h2, h1]
    show rowStep out (l.getD i 0) = _
    unfold rowStep
    split
    · rename_i a b e
      rw [if_neg (h3 a b e hi)]
    · rename_i e
      rw [List.getLast?_eq_none_iff] at e
      rw [e]; rfl
theorem rowJ_shut {l : List Nat} {i fr : Nat} {out : List (Nat × Nat)} (h : RowJ l i fr out) (hi : i < l.length) (hb : i + 1 = l.length ∨ l.getD (i + 1) 0 ≠ l.getD i 0 + 1) :
    RowJ l (i + 1) (i + 1) (out ++ [(l.getD fr 0, l.getD i 0)]) := by
  refine .inr ⟨rfl, rowJ_fold h hi, fun a b e hlt => ?_⟩
  simp at e
  rcases hb with hb | hb
  · omega
  · rw [← e.2]; exact fun h => hb h.symm
theorem rowJ_on {l : List Nat} {i fr : Nat} {out : List (Nat × Nat)} (h : RowJ l i fr out) (hi : i < l.length) (hb : ¬ (i + 1 = l.length ∨ l.getD (i + 1) 0 ≠ l.getD i 0 + 1)) :
    RowJ l (i + 1) fr out := by
  have hf : fr ≤ i := by rcases h with h | h <;> omega
  have hb' : i + 1 ≠ l.length ∧ l.getD (i + 1) 0 = l.getD i 0 + 1 := by
    refine ⟨fun h => hb (.inl h), Classical.byContradiction fun h => hb (.inr h)⟩
  exact .inl ⟨by omega, rowJ_fold h hi, by omega, hb'.2⟩
theorem rowJ_end {l : List Nat} {fr : Nat} {out : List (Nat × Nat)} (h : RowJ l l.length fr out) : l.foldl rowStep [] = out := by
  rcases h with ⟨_, _, h3, _⟩ | ⟨_, h2, _⟩
  · omega
  · rwa [List.take_length] at h2
theorem getD_nat (l : List Nat) (j : Nat) : (l.map natF).getD j (.v (.int .u8 0)) = .v (.int .u8 (l.getD j 0 : Nat)) := by
  simp only [List.getD, List.getElem?_map]
  cases l[j]? <;> rfl
theorem bytesN_lt (s : W4) (n i : Nat) (hn : 0 < n) : (bytesN s n).getD i 0 < n := by
  by_cases h : i < (bytesN s n).length
  · rw [List.getD, List.getElem?_eq_getElem h]
    have := List.getElem_mem h
    exact List.mem_range.1 (List.mem_filter.1 this).1
  · rw [List.getD, List.getElem?_eq_none (by omega)]; exact hn
theorem p_rowsR (s : W4) : PC Tryd.prog 28 [setW s] (· = .sl 2 ((rowsW s).map rowF)) := by
  refine PC.in 1000 Tryd.func28 (by kernel_rfl) rfl (by kernel_rfl) fun Ph Ps E Q hE hQ => ?_
  simp only [Tryd.f28, AWn, AWg, AWc, AWi, AWx, AWd, exitTo, slots, aEnd, aOut, jAV, aRet, retAV, tupOf, RF, RFo, release, release.rels, aop, ev, evs, evo, evl, constAV, strip, lk, guardOf, gd, strip_mkg, mkg_true, mkg_false, St.put, BR_true, BR_false, BR_split, bl_mk, AV.s, AV.cells, FV.cells, AV.one, FV.okE, hset, hdel, aMove, aBin, resV, bopV, bopInt, bopStr, bopBool, aPick, aNot, aNeg, aXor, aConv, rdSl, aNil, newCells, aAlloc, aBox, ldAgg, aLoad, aStore, aStoreRow, writeAt, fldAt, aFieldAddr, partOf, aField, idxAddrE, arrAddrE, aIndexAddr, arrIdx, aIndex, bnds, slStr, slF, slO, aSlice, aExtract, bldParts, aggRes, aBuild, arrFs, bslParts, bslRes, bslE, aBuildSlice, mkSl, aMakeSlice, aLen, apRow, apE, apT, aAppend, aRange, nextS, aNext, aMkFunc, aCallV, VM, VMg, VMk, VMc, VMf, VMz, VMs, VMo, VQ, VQg, VQk, VQc, VQf, VQz, qk, pickT, putT, looksAt_eq, lks, tmpsOf, guardT, Op.operands, Call.operands, Array.toList_append, Option.toArray, List.append_nil, List.toList_toArray, Nat.reduceBEq, Nat.reduceAdd, Nat.reduceSub, Nat.reduceMul, List.getElem?_cons_zero, List.getElem?_cons_succ, List.getElem?_nil, Option.bind_some, Option.map_some, Option.map_none, Bool.true_and, Bool.and_true, Bool.false_and, Bool.and_false, true_implies, false_implies, true_and, and_true, false_and, and_false, if_true, if_false, Bool.false_eq_true, List.getD_cons_zero, List.getD_cons_succ, List.getD_nil, List.length_cons, List.length_nil, reduceIte, Nat.reduceLT, Nat.reduceLeDiff, ne_eq, reduceCtorEq, beq_self_eq_true, implies_true, not_false_eq_true, not_true_eq_false, cond_true, cond_false, Bool.cond_self, Bool.not_true, Bool.not_false, List.map_cons, List.map_nil, List.drop_zero, List.drop_succ_cons, List.take_succ_cons, List.take_zero, List.cons_append, List.nil_append, List.all_cons, List.all_nil, List.set_cons_zero, List.set_cons_succ, Nat.zero_add, Nat.add_zero, Int.toNat_natCast, eq_self, Int.reduceLT, Int.reduceLE, Int.reduceGT, Int.reduceGE, Int.reduceAdd, Int.reduceSub, Int.reduceMul, Int.reduceNeg, Int.reduceBEq, Int.reduceEq, Int.reduceToNat, wrap_i64, wrap_u8, wrap_i32, wrap_u64, List.take_length, Int.cast_ofNat_Int, List.replicate_succ, List.replicate_zero, List.length_map, List.length_append, Nat.mul_one, take_len_map, decide_true, decide_false, renH, delAll, shift, rn, AO.ren, AV.ren, AV.rens, imp_self, decide_eq_true_eq, decide_eq_false_iff_not, Int.ofNat_lt, Int.ofNat_le, Int.natCast_nonneg, and_self, Bool.and_eq_true, tk1, tk3, tk5, tk26, tk28, tk48, tk60, tk62, setW, setF, u64]
  refine ACall.pure [setW s] _ (by kernel_rfl) (p_bytes s) rfl trivial ?_
  rintro r rfl
  have hres : rowsW s = (bytesN s 256).foldl rowStep [] := rfl
  have hb := fun i => bytesN_lt s 256 i (by decide)
  have hl := bytesN_len s 256
  simp only [hres] at hQ
  generalize bytesN s 256 = l at hb hl hQ hres ⊢
  clear hres
  simp only [Tryd.f28, AWn, AWg, AWc, AWi, AWx, AWd, exitTo, slots, aEnd, aOut, jAV, aRet, retAV, tupOf, RF, RFo, release, release.rels, aop, ev, evs, evo, evl, constAV, strip, lk, guardOf, gd, strip_mkg, mkg_true, mkg_false, St.put, BR_true, BR_false, BR_split, bl_mk, AV.s, AV.cells, FV.cells, AV.one, FV.okE, hset, hdel, aMove, aBin, resV, bopV, bopInt, bopStr, bopBool, aPick, aNot, aNeg, aXor, aConv, rdSl, aNil, newCells, aAlloc, aBox, ldAgg, aLoad, aStore, aStoreRow, writeAt, fldAt, aFieldAddr, partOf, aField, idxAddrE, arrAddrE, aIndexAddr, arrIdx, aIndex, bnds, slStr, slF, slO, aSlice, aExtract, bldParts, aggRes, aBuild, arrFs, bslParts, bslRes, bslE, aBuildSlice, mkSl, aMakeSlice, aLen, apRow, apE, apT, aAppend, aRange, nextS, aNext, aMkFunc, aCallV, VM, VMg, VMk, VMc, VMf, VMz, VMs, VMo, VQ, VQg, VQk, VQc, VQf, VQz, qk, pickT, putT, looksAt_eq, lks, tmpsOf, guardT, Op.operands, Call.operands, Array.toList_append, Option.toArray, List.append_nil, List.toList_toArray, Nat.reduceBEq, Nat.reduceAdd, Nat.reduceSub, Nat.reduceMul, List.getElem?_cons_zero, List.getElem?_cons_succ, List.getElem?_nil, Option.bind_some, Option.map_some, Option.map_none, Bool.true_and, Bool.and_true, Bool.false_and, Bool.and_false, true_implies, false_implies, true_and, and_true, false_and, and_false, if_true, if_false, Bool.false_eq_true, List.getD_cons_zero, List.getD_cons_succ, List.getD_nil, List.length_cons, List.length_nil, reduceIte, Nat.reduceLT, Nat.reduceLeDiff, ne_eq, reduceCtorEq, beq_self_eq_true, implies_true, not_false_eq_true, not_true_eq_false, cond_true, cond_false, Bool.cond_self, Bool.not_true, Bool.not_false, List.map_cons, List.map_nil, List.drop_zero, List.drop_succ_cons, List.take_succ_cons, List.take_zero, List.cons_append, List.nil_append, List.all_cons, List.all_nil, List.set_cons_zero, List.set_cons_succ, Nat.zero_add, Nat.add_zero, Int.toNat_natCast, eq_self, Int.reduceLT, Int.reduceLE, Int.reduceGT, Int.reduceGE, Int.reduceAdd, Int.reduceSub, Int.reduceMul, Int.reduceNeg, Int.reduceBEq, Int.reduceEq, Int.reduceToNat, wrap_i64, wrap_u8, wrap_i32, wrap_u64, List.take_length, Int.cast_ofNat_Int, List.replicate_succ, List.replicate_zero, List.length_map, List.length_append, Nat.mul_one, take_len_map, decide_true, decide_false, renH, delAll, shift, rn, AO.ren, AV.ren, AV.rens, imp_self, decide_eq_true_eq, decide_eq_false_iff_not, Int.ofNat_lt, Int.ofNat_le, Int.natCast_nonneg, and_self, Bool.and_eq_true, tk1, tk3, tk5, tk26, tk28, tk48, tk60, tk62, setW, setF, u64]
  refine AL.ind (X := Nat × Nat × List (Nat × Nat)) 1000 (fun x => x.1 ≤ l.length ∧ x.2.1 ≤ x.1 ∧ x.2.2.length ≤ x.1 ∧ RowJ l x.1 x.2.1 x.2.2) (fun x => l.length - x.1)
    (fun x => ⟨[(3, .sl 1 2 0 x.2.2.length), (4, .f (.sl 1 (l.map natF))), (5, .s (.int .i64 x.2.1)), (6, .s (.int .i64 x.1))], [(0, .cells 28 (w4A s)), (1, .row 62 2 (x.2.2.map rowF))], 2⟩) (0, 0, [])
    ⟨Nat.zero_le _, Nat.le_refl _, Nat.le_refl _, .inr ⟨rfl, rfl, fun a b e => by simp at e⟩⟩ ?_ ?_
  · refine .trans (Imp.adopt 3 62 2 rfl) ?_
    unfold w4A u64
    (refine Imp.of ([]) hE ?_; simp only [subAll, fixAll, subT, subH, apartH, apart1, rn, lk, AV.ren, AV.rens, AV.und, AV.unds, AO.ren, AO.und, Nat.reduceBEq, beq_self_eq_true, Nat.reduceLT, Nat.reduceLeDiff, true_and, and_true, and_self, Option.some.injEq, ne_eq, not_true_eq_false, not_false_eq_true, Nat.reduceEqDiff, Nat.le_refl, AV.s, hE])
    exact ⟨⟨rfl, rfl⟩, rfl⟩
  · rintro ⟨i, fr, out⟩ ⟨h1, h2, h3, h4⟩ ih
    simp only at h1 h2 h3 h4
    by_cases hlt : i < l.length
    · have wq : IntKind.i64.wrap ((i : Int) + 1) = ((i + 1 : Nat) : Int) := by rw [wrap_i64 (by omega) (by omega)]; omega
      have hbi := hb i
      have hbi1 := hb (i + 1)
      have hbf := hb fr
      have w2 : ∀ k : Nat, k < 256 → IntKind.i64.wrap (k : Int) = (k : Int) := fun k hk => wrap_i64 (by omega) (by omega)
      have w3 : ∀ k : Nat, k < 256 → IntKind.i64.wrap ((k : Int) + 1) = ((k + 1 : Nat) : Int) := fun k hk => by rw [wrap_i64 (by omega) (by omega)]; omega
      have hf : fr < l.length := by omega
      simp only [Tryd.f28, AWn, AWg, AWc, AWi, AWx, AWd, exitTo, slots, aEnd, aOut, jAV, aRet, retAV, tupOf, RF, RFo, release, release.rels, aop, ev, evs, evo, evl, constAV, strip, lk, guardOf, gd, strip_mkg, mkg_true, mkg_false, St.put, BR_true, BR_false, BR_split, bl_mk, AV.s, AV.cells, FV.cells, AV.one, FV.okE, hset, hdel, aMove, aBin, resV, bopV, bopInt, bopStr, bopBool, aPick, aNot, aNeg, aXor, aConv, rdSl, aNil, newCells, aAlloc, aBox, ldAgg, aLoad, aStore, aStoreRow, writeAt, fldAt, aFieldAddr, partOf, aField, idxAddrE, arrAddrE, aIndexAddr, arrIdx, aIndex, bnds, slStr, slF, slO, aSlice, aExtract, bldParts, aggRes, aBuild, arrFs, bslParts, bslRes, bslE, aBuildSlice, mkSl, aMakeSlice, aLen, apRow, apE, apT, aAppend, aRange, nextS, aNext, aMkFunc, aCallV, VM, VMg, VMk, VMc, VMf, VMz, VMs, VMo, VQ, VQg, VQk, VQc, VQf, VQz, qk, pickT, putT, looksAt_eq, lks, tmpsOf, guardT, Op.operands, Call.operands, Array.toList_append, Option.toArray, List.append_nil, List.toList_toArray, Nat.reduceBEq, Nat.reduceAdd, Nat.reduceSub, Nat.reduceMul, List.getElem?_cons_zero, List.getElem?_cons_succ, List.getElem?_nil, Option.bind_some, Option.map_some, Option.map_none, Bool.true_and, Bool.and_true, Bool.false_and, Bool.and_false, true_implies, false_implies, true_and, and_true, false_and, and_false, if_true, if_false, Bool.false_eq_true, List.getD_cons_zero, List.getD_cons_succ, List.getD_nil, List.length_cons, List.length_nil, reduceIte, Nat.reduceLT, Nat.reduceLeDiff, ne_eq, reduceCtorEq, beq_self_eq_true, implies_true, not_false_eq_true, not_true_eq_false, cond_true, cond_false, Bool.cond_self, Bool.not_true, Bool.not_false, List.map_cons, List.map_nil, List.drop_zero, List.drop_succ_cons, List.take_succ_cons, List.take_zero, List.cons_append, List.nil_append, List.all_cons, List.all_nil, List.set_cons_zero, List.set_cons_succ, Nat.zero_add, Nat.add_zero, Int.toNat_natCast, eq_self, Int.reduceLT, Int.reduceLE, Int.reduceGT, Int.reduceGE, Int.reduceAdd, Int.reduceSub, Int.reduceMul, Int.reduceNeg, Int.reduceBEq, Int.reduceEq, Int.reduceToNat, wrap_i64, wrap_u8, wrap_i32, wrap_u64, List.take_length, Int.cast_ofNat_Int, List.replicate_succ, List.replicate_zero, List.length_map, List.length_append, Nat.mul_one, take_len_map, decide_true, decide_false, renH, delAll, shift, rn, AO.ren, AV.ren, AV.rens, imp_self, decide_eq_true_eq, decide_eq_false_iff_not, Int.ofNat_lt, Int.ofNat_le, Int.natCast_nonneg, and_self, Bool.and_eq_true, tk1, tk3, tk5, tk26, tk28, tk48, tk60, tk62, hlt]
      refine ADr.all 1000 (by kernel_rfl) ?_
      simp only [Tryd.f28, AWn, AWg, AWc, AWi, AWx, AWd, exitTo, slots, aEnd, aOut, jAV, aRet, retAV, tupOf, RF, RFo, release, release.rels, aop, ev, evs, evo, evl, constAV, strip, lk, guardOf, gd, strip_mkg, mkg_true, mkg_false, St.put, BR_true, BR_false, BR_split, bl_mk, AV.s, AV.cells, FV.cells, AV.one, FV.okE, hset, hdel, aMove, aBin, resV, bopV, bopInt, bopStr, bopBool, aPick, aNot, aNeg, aXor, aConv, rdSl, aNil, newCells, aAlloc, aBox, ldAgg, aLoad, aStore, aStoreRow, writeAt, fldAt, aFieldAddr, partOf, aField, idxAddrE, arrAddrE, aIndexAddr, arrIdx, aIndex, bnds, slStr, slF, slO, aSlice, aExtract, bldParts, aggRes, aBuild, arrFs, bslParts, bslRes, bslE, aBuildSlice, mkSl, aMakeSlice, aLen, apRow, apE, apT, aAppend, aRange, nextS, aNext, aMkFunc, aCallV, VM, VMg, VMk, VMc, VMf, VMz, VMs, VMo, VQ, VQg, VQk, VQc, VQf, VQz, qk, pickT, putT, looksAt_eq, lks, tmpsOf, guardT, Op.operands, Call.operands, Array.toList_append, Option.toArray, List.append_nil, List.toList_toArray, Nat.reduceBEq, Nat.reduceAdd, Nat.reduceSub, Nat.reduceMul, List.getElem?_cons_zero, List.getElem?_cons_succ, List.getElem?_nil, Option.bind_some, Option.map_some, Option.map_none, Bool.true_and, Bool.and_true, Bool.false_and, Bool.and_false, true_implies, false_implies, true_and, and_true, false_and, and_false, if_true, if_false, Bool.false_eq_true, List.getD_cons_zero, List.getD_cons_succ, List.getD_nil, List.length_cons, List.length_nil, reduceIte, Nat.reduceLT, Nat.reduceLeDiff, ne_eq, reduceCtorEq, beq_self_eq_true, implies_true, not_false_eq_true, not_true_eq_false, cond_true, cond_false, Bool.cond_self, Bool.not_true, Bool.not_false, List.map_cons, List.map_nil, List.drop_zero, List.drop_succ_cons, List.take_succ_cons, List.take_zero, List.cons_append, List.nil_append, List.all_cons, List.all_nil, List.set_cons_zero, List.set_cons_succ, Nat.zero_add, Nat.add_zero, Int.toNat_natCast, eq_self, Int.reduceLT, Int.reduceLE, Int.reduceGT, Int.reduceGE, Int.reduceAdd, Int.reduceSub, Int.reduceMul, Int.reduceNeg, Int.reduceBEq, Int.reduceEq, Int.reduceToNat, wrap_i64, wrap_u8, wrap_i32, wrap_u64, List.take_length, Int.cast_ofNat_Int, List.replicate_succ, List.replicate_zero, List.length_map, List.length_append, Nat.mul_one, take_len_map, decide_true, decide_false, renH, delAll, shift, rn, AO.ren, AV.ren, AV.rens, imp_self, decide_eq_true_eq, decide_eq_false_iff_not, Int.ofNat_lt, Int.ofNat_le, Int.natCast_nonneg, and_self, Bool.and_eq_true, tk1, tk3, tk5, tk26, tk28, tk48, tk60, tk62, hlt, wq, getD_nat, w2 _ hbi, w3 _ hbi, w2 _ hbi1]
      refine ⟨fun h => ⟨h, ?_⟩, fun h => by rw [h]; rfl, fun h => ?_, fun h => ?_⟩
      · have : ¬ i + 1 = l.length := fun e => by rw [e] at h; simp at h
        omega
      · have hcl : i + 1 = l.length ∨ l.getD (i + 1) 0 ≠ l.getD i 0 + 1 := by
          by_cases e : i + 1 = l.length
          · exact .inl e
          · refine .inr fun e2 => ?_
            rw [e2] at h
            simp at h
            omega
        have hnew := rowJ_shut h4 hlt hcl
        refine ADr.intro 11 1000 (by kernel_rfl) (by decide) ?_
        simp only [Tryd.f28, AWn, AWg, AWc, AWi, AWx, AWd, exitTo, slots, aEnd, aOut, jAV, aRet, retAV, tupOf, RF, RFo, release, release.rels, aop, ev, evs, evo, evl, constAV, strip, lk, guardOf, gd, strip_mkg, mkg_true, mkg_false, St.put, BR_true, BR_false, BR_split, bl_mk, AV.s, AV.cells, FV.cells, AV.one, FV.okE, hset, hdel, aMove, aBin, resV, bopV, bopInt, bopStr, bopBool, aPick, aNot, aNeg, aXor, aConv, rdSl, aNil, newCells, aAlloc, aBox, ldAgg, aLoad, aStore, aStoreRow, writeAt, fldAt, aFieldAddr, partOf, aField, idxAddrE, arrAddrE, aIndexAddr, arrIdx, aIndex, bnds, slStr, slF, slO, aSlice, aExtract, bldParts, aggRes, aBuild, arrFs, bslParts, bslRes, bslE, aBuildSlice, mkSl, aMakeSlice, aLen, apRow, apE, apT, aAppend, aRange, nextS, aNext, aMkFunc, aCallV, VM, VMg, VMk, VMc, VMf, VMz, VMs, VMo, VQ, VQg, VQk, VQc, VQf, VQz, qk, pickT, putT, looksAt_eq, lks, tmpsOf, guardT, Op.operands, Call.operands, Array.toList_append, Option.toArray, List.append_nil, List.toList_toArray, Nat.reduceBEq, Nat.reduceAdd, Nat.reduceSub, Nat.reduceMul, List.getElem?_cons_zero, List.getElem?_cons_succ, List.getElem?_nil, Option.bind_some, Option.map_some, Option.map_none, Bool.true_and, Bool.and_true, Bool.false_and, Bool.and_false, true_implies, false_implies, true_and, and_true, false_and, and_false, if_true, if_false, Bool.false_eq_true, List.getD_cons_zero, List.getD_cons_succ, List.getD_nil, List.length_cons, List.length_nil, reduceIte, Nat.reduceLT, Nat.reduceLeDiff, ne_eq, reduceCtorEq, beq_self_eq_true, implies_true, not_false_eq_true, not_true_eq_false, cond_true, cond_false, Bool.cond_self, Bool.not_true, Bool.not_false, List.map_cons, List.map_nil, List.drop_zero, List.drop_succ_cons, List.take_succ_cons, List.take_zero, List.cons_append, List.nil_append, List.all_cons, List.all_nil, List.set_cons_zero, List.set_cons_succ, Nat.zero_add, Nat.add_zero, Int.toNat_natCast, eq_self, Int.reduceLT, Int.reduceLE, Int.reduceGT, Int.reduceGE, Int.reduceAdd, Int.reduceSub, Int.reduceMul, Int.reduceNeg, Int.reduceBEq, Int.reduceEq, Int.reduceToNat, wrap_i64, wrap_u8, wrap_i32, wrap_u64, List.take_length, Int.cast_ofNat_Int, List.replicate_succ, List.replicate_zero, List.length_map, List.length_append, Nat.mul_one, take_len_map, decide_true, decide_false, renH, delAll, shift, rn, AO.ren, AV.ren, AV.rens, imp_self, decide_eq_true_eq, decide_eq_false_iff_not, Int.ofNat_lt, Int.ofNat_le, Int.natCast_nonneg, and_self, Bool.and_eq_true, tk1, tk3, tk5, tk26, tk28, tk48, tk60, tk62, hlt, wq, getD_nat, hf, rng2]
        refine ⟨by omega, ?_⟩
        refine ih (i + 1, i + 1, out ++ [(l.getD fr 0, l.getD i 0)]) _ ⟨by simp only; omega, Nat.le_refl _, by simp; omega, hnew⟩ (by simp only; omega) ?_
        simp only [w4A, u64]
        (refine Imp.of ([(1, 2)]) hE ?_; simp only [subAll, fixAll, subT, subH, apartH, apart1, rn, lk, AV.ren, AV.rens, AV.und, AV.unds, AO.ren, AO.und, Nat.reduceBEq, beq_self_eq_true, Nat.reduceLT, Nat.reduceLeDiff, true_and, and_true, and_self, Option.some.injEq, ne_eq, not_true_eq_false, not_false_eq_true, Nat.reduceEqDiff, Nat.le_refl, AV.s, hE])
        simp [rowF]
      · have hcl : ¬ (i + 1 = l.length ∨ l.getD (i + 1) 0 ≠ l.getD i 0 + 1) := by
          rintro (e | e)
          · rw [e] at h; simp at h
          · have : (((l.getD (i + 1) 0 : Nat) : Int) != ((l.getD i 0 + 1 : Nat) : Int)) = true := by
              rw [bne_iff_ne]; omega
            rw [this] at h
            cases hq : ((((i + 1 : Nat) : Int)) == (l.length : Int)) <;> rw [hq] at h <;> simp at h
        have hnew := rowJ_on h4 hlt hcl
        refine ih (i + 1, fr, out) _ ⟨by simp only; omega, by simp only; omega, by simp only; omega, hnew⟩ (by simp only; omega) ?_
        simp only [w4A, u64]
        (refine Imp.of ([]) hE ?_; simp only [subAll, fixAll, subT, subH, apartH, apart1, rn, lk, AV.ren, AV.rens, AV.und, AV.unds, AO.ren, AO.und, Nat.reduceBEq, beq_self_eq_true, Nat.reduceLT, Nat.reduceLeDiff, true_and, and_true, and_self, Option.some.injEq, ne_eq, not_true_eq_false, not_false_eq_true, Nat.reduceEqDiff, Nat.le_refl, AV.s, hE])
    · have hi : i = l.length := by omega
      subst hi
      simp only [Tryd.f28, AWn, AWg, AWc, AWi, AWx, AWd, exitTo, slots, aEnd, aOut, jAV, aRet, retAV, tupOf, RF, RFo, release, release.rels, aop, ev, evs, evo, evl, constAV, strip, lk, guardOf, gd, strip_mkg, mkg_true, mkg_false, St.put, BR_true, BR_false, BR_split, bl_mk, AV.s, AV.cells, FV.cells, AV.one, FV.okE, hset, hdel, aMove, aBin, resV, bopV, bopInt, bopStr, bopBool, aPick, aNot, aNeg, aXor, aConv, rdSl, aNil, newCells, aAlloc, aBox, ldAgg, aLoad, aStore, aStoreRow, writeAt, fldAt, aFieldAddr, partOf, aField, idxAddrE, arrAddrE, aIndexAddr, arrIdx, aIndex, bnds, slStr, slF, slO, aSlice, aExtract, bldParts, aggRes, aBuild, arrFs, bslParts, bslRes, bslE, aBuildSlice, mkSl, aMakeSlice, aLen, apRow, apE, apT, aAppend, aRange, nextS, aNext, aMkFunc, aCallV, VM, VMg, VMk, VMc, VMf, VMz, VMs, VMo, VQ, VQg, VQk, VQc, VQf, VQz, qk, pickT, putT, looksAt_eq, lks, tmpsOf, guardT, Op.operands, Call.operands, Array.toList_append, Option.toArray, List.append_nil, List.toList_toArray, Nat.reduceBEq, Nat.reduceAdd, Nat.reduceSub, Nat.reduceMul, List.getElem?_cons_zero, List.getElem?_cons_succ, List.getElem?_nil, Option.bind_some, Option.map_some, Option.map_none, Bool.true_and, Bool.and_true, Bool.false_and, Bool.and_false, true_implies, false_implies, true_and, and_true, false_and, and_false, if_true, if_false, Bool.false_eq_true, List.getD_cons_zero, List.getD_cons_succ, List.getD_nil, List.length_cons, List.length_nil, reduceIte, Nat.reduceLT, Nat.reduceLeDiff, ne_eq, reduceCtorEq, beq_self_eq_true, implies_true, not_false_eq_true, not_true_eq_false, cond_true, cond_false, Bool.cond_self, Bool.not_true, Bool.not_false, List.map_cons, List.map_nil, List.drop_zero, List.drop_succ_cons, List.take_succ_cons, List.take_zero, List.cons_append, List.nil_append, List.all_cons, List.all_nil, List.set_cons_zero, List.set_cons_succ, Nat.zero_add, Nat.add_zero, Int.toNat_natCast, eq_self, Int.reduceLT, Int.reduceLE, Int.reduceGT, Int.reduceGE, Int.reduceAdd, Int.reduceSub, Int.reduceMul, Int.reduceNeg, Int.reduceBEq, Int.reduceEq, Int.reduceToNat, wrap_i64, wrap_u8, wrap_i32, wrap_u64, List.take_length, Int.cast_ofNat_Int, List.replicate_succ, List.replicate_zero, List.length_map, List.length_append, Nat.mul_one, take_len_map, decide_true, decide_false, renH, delAll, shift, rn, AO.ren, AV.ren, AV.rens, imp_self, decide_eq_true_eq, decide_eq_false_iff_not, Int.ofNat_lt, Int.ofNat_le, Int.natCast_nonneg, and_self, Bool.and_eq_true, tk1, tk3, tk5, tk26, tk28, tk48, tk60, tk62, hlt]
      rw [rowJ_end h4] at hQ
      exact hQ _ _ _ (by simp [RF, RFo, release, release.rels, lk, take_len_map])
end Go.Proofs
