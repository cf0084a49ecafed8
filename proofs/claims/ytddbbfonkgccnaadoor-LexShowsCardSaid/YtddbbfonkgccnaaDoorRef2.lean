/-
  Walks and plain laws towards the statements of this seat (Ref2). Conditions: those that each theorem names.
-/
import Derived.Test.YtddbbfonkgccnaaDoorRef1
set_option linter.unusedVariables false
set_option linter.unusedSimpArgs false
namespace Go.Proofs
open Go Go.Fw
set_option maxHeartbeats 4000000
theorem word_add (s : W4) (b i : Nat) : i < 4 → wordN (addW s b) i = if b / 64 = i then wordN s i + bitW (b % 64) else wordN s i := by
  intro hi
  rcases (by omega : i = 0 ∨ i = 1 ∨ i = 2 ∨ i = 3) with rfl | rfl | rfl | rfl <;> rfl
theorem add_bit (w : UInt64) (m : Nat) (hm : m < 64) (hw : w.toNat < 2 ^ m) (k : Nat) : (w + bitW m).toNat.testBit k = (w.toNat.testBit k || decide (k = m)) := by
  have h64 : 2 ^ m * 2 ≤ 2 ^ 64 := by rw [← Nat.pow_succ]; exact Nat.pow_le_pow_right (by decide) (by omega)
  rw [UInt64.toNat_add, bit_nat m hm, Nat.mod_eq_of_lt (by omega), Nat.add_comm, show 2 ^ m + w.toNat = 2 ^ m * 1 + w.toNat by omega, Nat.two_pow_add_eq_or_of_lt hw, Nat.mul_one, Nat.testBit_or, Nat.testBit_two_pow]
  rw [Bool.or_comm]
  congr 1
  simp only [decide_eq_decide]
  exact eq_comm
theorem has_make (f : Nat → Bool) : ∀ j, j ≤ 256 → ∀ n, n < 256 → hasN (makeN f j) n = (decide (n < j) && f n) := by
  intro j
  induction j with
  | zero => intro _ n hn; simp [makeN, has_zero]
  | succ j ih =>
    intro hj n hn
    have ih := ih (by omega)
    rw [makeN]
    split
    · rename_i hf
      have hlow : (wordN (makeN f j) (j / 64)).toNat < 2 ^ (j % 64) := by
        apply Nat.lt_pow_two_of_testBit
        intro i hi
        by_cases h64 : i < 64
        · have := ih (64 * (j / 64) + i) (by omega)
          rw [hasN_bit, show (64 * (j / 64) + i) / 64 = j / 64 by omega, show (64 * (j / 64) + i) % 64 = i by omega] at this
          rw [this, decide_eq_false (by omega)]; rfl
        · exact Nat.testBit_lt_two_pow (Nat.lt_of_lt_of_le (UInt64.toNat_lt _) (Nat.pow_le_pow_right (by decide) (by omega)))
      have ih' := ih n hn
      rw [hasN_bit] at ih' ⊢
      rw [word_add _ _ _ (by omega)]
      split
      · rename_i he
        rw [he] at hlow
        rw [add_bit _ _ (Nat.mod_lt _ (by decide)) hlow, ih']
        by_cases hnj : n = j
        · subst hnj; simp [hf]
        · have h1 : ¬ n % 64 = j % 64 := by omega
          have h2 : decide (n < j + 1) = decide (n < j) := by simp only [decide_eq_decide]; omega
          rw [h2, decide_eq_false h1, Bool.or_false]
      · rename_i he
        rw [ih']
        have h2 : decide (n < j + 1) = decide (n < j) := by
          have : n ≠ j := fun h => he (by rw [h])
          simp only [decide_eq_decide]; omega
        rw [h2]
    · rename_i hf
      rw [ih n hn]
      by_cases hnj : n = j
      · subst hnj; simp at hf; simp [hf]
      · have h2 : decide (n < j + 1) = decide (n < j) := by simp only [decide_eq_decide]; omega
        rw [h2]
theorem has_not (s : W4) (n : Nat) : hasN (notW s) n = !hasN s n := by
  rw [hasN_bit, hasN_bit]
  have : wordN (notW s) (n / 64) = ~~~ wordN s (n / 64) := by
    unfold wordN notW
    simp only
    split
    · rfl
    · split
      · rfl
      · split <;> rfl
  rw [this, UInt64.toNat_not]
  have h := Nat.mod_lt n (show 64 > 0 by decide)
  rw [show UInt64.size - 1 - (wordN s (n / 64)).toNat = 2 ^ 64 - ((wordN s (n / 64)).toNat + 1) by rw [show UInt64.size = 2 ^ 64 from rfl]; omega, Nat.testBit_two_pow_sub_succ (UInt64.toNat_lt _)]
  simp [h]
theorem make_not (s : W4) (f : Nat → Bool) (hf : ∀ n, n < 256 → f n = !hasN s n) : makeN f 256 = notW s := by
  apply w4_ext
  intro n hn
  rw [has_make f 256 (Nat.le_refl _) n hn, has_not, hf n hn, decide_eq_true hn, Bool.true_and]
def rowB (f : Nat → Bool) (j : Nat) : List Bool := (List.range 256).map fun n => decide (n < j) && f n
theorem rowB_set (f : Nat → Bool) (j : Nat) (hj : j < 256) : (rowB f j).set j (f j) = rowB f (j + 1) := by
  apply List.ext_getElem
  · simp [rowB]
  · intro i h1 h2
    simp only [rowB, List.getElem_set, List.getElem_map, List.getElem_range]
    split
    · rename_i h; subst h; simp
    · rename_i h
      have : decide (i < j + 1) = decide (i < j) := by simp only [decide_eq_decide]; omega
      rw [this]
theorem rowB_zero (f : Nat → Bool) : List.replicate 256 (FV.v (.bool false)) = (rowB f 0).map boolF := by
  refine (List.eq_replicate_iff.2 ⟨by simp [rowB], fun x hx => ?_⟩).symm
  simp only [rowB, List.mem_map, List.mem_range] at hx
  obtain ⟨b, ⟨n, hn, rfl⟩, rfl⟩ := hx
  simp [boolF]
theorem rowB_set' (f : Nat → Bool) (j : Nat) (b : Bool) : ((rowB f j).map boolF).set j (.v (.bool b)) = ((rowB f j).set j b).map boolF := by
  rw [List.map_set]; rfl
theorem rowB_getD (f : Nat → Bool) (n : Nat) (hn : n < 256) : (rowB f 256).getD n false = f n := by
  simp [rowB, List.getD, hn]
theorem p_by (s : W4) : PC Tryd.prog 27 [setW s, setW s, .v (.int .i64 3)] (· = setW (notW s)) := by
  refine PC.in 1000 Tryd.func27 (by kernel_rfl) rfl (by kernel_rfl) fun Ph Ps E Q hE hQ => ?_
  simp only [Tryd.f27, AWn, AWg, AWc, AWi, AWx, AWd, exitTo, slots, aEnd, aOut, jAV, aRet, retAV, tupOf, RF, RFo, release, release.rels, aop, ev, evs, evo, evl, constAV, strip, lk, guardOf, gd, strip_mkg, mkg_true, mkg_false, St.put, BR_true, BR_false, BR_split, bl_mk, AV.s, AV.cells, FV.cells, AV.one, FV.okE, hset, hdel, aMove, aBin, resV, bopV, bopInt, bopStr, bopBool, aPick, aNot, aNeg, aXor, aConv, rdSl, aNil, newCells, aAlloc, aBox, ldAgg, aLoad, aStore, aStoreRow, writeAt, fldAt, aFieldAddr, partOf, aField, idxAddrE, arrAddrE, aIndexAddr, arrIdx, aIndex, bnds, slStr, slF, slO, aSlice, aExtract, bldParts, aggRes, aBuild, arrFs, bslParts, bslRes, bslE, aBuildSlice, mkSl, aMakeSlice, aLen, apRow, apE, apT, aAppend, aRange, nextS, aNext, aMkFunc, aCallV, VM, VMg, VMk, VMc, VMf, VMz, VMs, VMo, VQ, VQg, VQk, VQc, VQf, VQz, qk, pickT, putT, looksAt_eq, lks, tmpsOf, guardT, Op.operands, Call.operands, Array.toList_append, Option.toArray, List.append_nil, List.toList_toArray, Nat.reduceBEq, Nat.reduceAdd, Nat.reduceSub, Nat.reduceMul, List.getElem?_cons_zero, List.getElem?_cons_succ, List.getElem?_nil, Option.bind_some, Option.map_some, Option.map_none, Bool.true_and, Bool.and_true, Bool.false_and, Bool.and_false, true_implies, false_implies, true_and, and_true, false_and, and_false, if_true, if_false, Bool.false_eq_true, List.getD_cons_zero, List.getD_cons_succ, List.getD_nil, List.length_cons, List.length_nil, reduceIte, Nat.reduceLT, Nat.reduceLeDiff, ne_eq, reduceCtorEq, beq_self_eq_true, implies_true, not_false_eq_true, not_true_eq_false, cond_true, cond_false, Bool.cond_self, Bool.not_true, Bool.not_false, List.map_cons, List.map_nil, List.drop_zero, List.drop_succ_cons, List.take_succ_cons, List.take_zero, List.cons_append, List.nil_append, List.all_cons, List.all_nil, List.set_cons_zero, List.set_cons_succ, Nat.zero_add, Nat.add_zero, Int.toNat_natCast, eq_self, Int.reduceLT, Int.reduceLE, Int.reduceGT, Int.reduceGE, Int.reduceAdd, Int.reduceSub, Int.reduceMul, Int.reduceNeg, Int.reduceBEq, Int.reduceEq, Int.reduceToNat, wrap_i64, wrap_u8, wrap_i32, wrap_u64, List.take_length, Int.cast_ofNat_Int, List.replicate_succ, List.replicate_zero, List.length_map, List.length_append, Nat.mul_one, take_len_map, decide_true, decide_false, renH, delAll, shift, rn, AO.ren, AV.ren, AV.rens, imp_self, decide_eq_true_eq, decide_eq_false_iff_not, Int.ofNat_lt, Int.ofNat_le, Int.natCast_nonneg, and_self, Bool.and_eq_true, tk3, tk4, tk6, tk26, tk28, tk79, setW, setF, u64, -List.replicate_succ]
  obtain ⟨f, hf⟩ : ∃ f : Nat → Bool, f = fun n => !hasN s n := ⟨_, rfl⟩
  have hfn : ∀ n, f n = !hasN s n := fun n => by rw [hf]
  refine AL.ind (X := Nat) 1000 (fun j => j ≤ 256) (fun j => 256 - j)
    (fun j => ⟨[(2, .s (.int .i64 3)), (3, .ptr 0 0), (4, .ptr 1 0), (6, .ptr 2 0), (7, .sl 3 1 0 256), (8, .s (.int .i64 j))],
      [(0, .cells 28 (w4A s)), (1, .cells 28 (w4A s)), (2, .cells 28 (w4A ⟨0, 0, 0, 0⟩)), (3, .row 4 1 ((rowB f j).map boolF))], 4⟩) 0 (by decide) ?_ ?_
  · unfold w4A u64
    (refine Imp.of ([]) hE ?_; simp only [subAll, fixAll, subT, subH, apartH, apart1, rn, lk, AV.ren, AV.rens, AV.und, AV.unds, AO.ren, AO.und, Nat.reduceBEq, beq_self_eq_true, Nat.reduceLT, Nat.reduceLeDiff, true_and, and_true, and_self, Option.some.injEq, ne_eq, not_true_eq_false, not_false_eq_true, Nat.reduceEqDiff, Nat.le_refl, AV.s, hE])
    exact ⟨rfl, rfl, by rw [← rowB_zero]⟩
  · intro j hj ih
    have hl : (rowB f j).length = 256 := by simp [rowB]
    by_cases hlt : (j : Int) < 256
    · have wq : IntKind.i64.wrap ((j : Int) + 1) = ((j + 1 : Nat) : Int) := by rw [wrap_i64 (by omega) (by omega)]; omega
      have hb : j < 256 := by omega
      have hrs := rowB_set f j hb
      rw [hfn j] at hrs
      simp only [Tryd.f27, AWn, AWg, AWc, AWi, AWx, AWd, exitTo, slots, aEnd, aOut, jAV, aRet, retAV, tupOf, RF, RFo, release, release.rels, aop, ev, evs, evo, evl, constAV, strip, lk, guardOf, gd, strip_mkg, mkg_true, mkg_false, St.put, BR_true, BR_false, BR_split, bl_mk, AV.s, AV.cells, FV.cells, AV.one, FV.okE, hset, hdel, aMove, aBin, resV, bopV, bopInt, bopStr, bopBool, aPick, aNot, aNeg, aXor, aConv, rdSl, aNil, newCells, aAlloc, aBox, ldAgg, aLoad, aStore, aStoreRow, writeAt, fldAt, aFieldAddr, partOf, aField, idxAddrE, arrAddrE, aIndexAddr, arrIdx, aIndex, bnds, slStr, slF, slO, aSlice, aExtract, bldParts, aggRes, aBuild, arrFs, bslParts, bslRes, bslE, aBuildSlice, mkSl, aMakeSlice, aLen, apRow, apE, apT, aAppend, aRange, nextS, aNext, aMkFunc, aCallV, VM, VMg, VMk, VMc, VMf, VMz, VMs, VMo, VQ, VQg, VQk, VQc, VQf, VQz, qk, pickT, putT, looksAt_eq, lks, tmpsOf, guardT, Op.operands, Call.operands, Array.toList_append, Option.toArray, List.append_nil, List.toList_toArray, Nat.reduceBEq, Nat.reduceAdd, Nat.reduceSub, Nat.reduceMul, List.getElem?_cons_zero, List.getElem?_cons_succ, List.getElem?_nil, Option.bind_some, Option.map_some, Option.map_none, Bool.true_and, Bool.and_true, Bool.false_and, Bool.and_false, true_implies, false_implies, true_and, and_true, false_and, and_false, if_true, if_false, Bool.false_eq_true, List.getD_cons_zero, List.getD_cons_succ, List.getD_nil, List.length_cons, List.length_nil, reduceIte, Nat.reduceLT, Nat.reduceLeDiff, ne_eq, reduceCtorEq, beq_self_eq_true, implies_true, not_false_eq_true, not_true_eq_false, cond_true, cond_false, Bool.cond_self, Bool.not_true, Bool.not_false, List.map_cons, List.map_nil, List.drop_zero, List.drop_succ_cons, List.take_succ_cons, List.take_zero, List.cons_append, List.nil_append, List.all_cons, List.all_nil, List.set_cons_zero, List.set_cons_succ, Nat.zero_add, Nat.add_zero, Int.toNat_natCast, eq_self, Int.reduceLT, Int.reduceLE, Int.reduceGT, Int.reduceGE, Int.reduceAdd, Int.reduceSub, Int.reduceMul, Int.reduceNeg, Int.reduceBEq, Int.reduceEq, Int.reduceToNat, wrap_i64, wrap_u8, wrap_i32, wrap_u64, List.take_length, Int.cast_ofNat_Int, List.replicate_succ, List.replicate_zero, List.length_map, List.length_append, Nat.mul_one, take_len_map, decide_true, decide_false, renH, delAll, shift, rn, AO.ren, AV.ren, AV.rens, imp_self, decide_eq_true_eq, decide_eq_false_iff_not, Int.ofNat_lt, Int.ofNat_le, Int.natCast_nonneg, and_self, Bool.and_eq_true, tk3, tk4, tk6, tk26, tk28, tk79, hlt, w4A, u64]
      refine ACall.pure [setW s, .v (.int .i64 j)] _ (by kernel_rfl) (p_hasR s j hb) rfl trivial ?_
      rintro r rfl
      simp only [Tryd.f27, AWn, AWg, AWc, AWi, AWx, AWd, exitTo, slots, aEnd, aOut, jAV, aRet, retAV, tupOf, RF, RFo, release, release.rels, aop, ev, evs, evo, evl, constAV, strip, lk, guardOf, gd, strip_mkg, mkg_true, mkg_false, St.put, BR_true, BR_false, BR_split, bl_mk, AV.s, AV.cells, FV.cells, AV.one, FV.okE, hset, hdel, aMove, aBin, resV, bopV, bopInt, bopStr, bopBool, aPick, aNot, aNeg, aXor, aConv, rdSl, aNil, newCells, aAlloc, aBox, ldAgg, aLoad, aStore, aStoreRow, writeAt, fldAt, aFieldAddr, partOf, aField, idxAddrE, arrAddrE, aIndexAddr, arrIdx, aIndex, bnds, slStr, slF, slO, aSlice, aExtract, bldParts, aggRes, aBuild, arrFs, bslParts, bslRes, bslE, aBuildSlice, mkSl, aMakeSlice, aLen, apRow, apE, apT, aAppend, aRange, nextS, aNext, aMkFunc, aCallV, VM, VMg, VMk, VMc, VMf, VMz, VMs, VMo, VQ, VQg, VQk, VQc, VQf, VQz, qk, pickT, putT, looksAt_eq, lks, tmpsOf, guardT, Op.operands, Call.operands, Array.toList_append, Option.toArray, List.append_nil, List.toList_toArray, Nat.reduceBEq, Nat.reduceAdd, Nat.reduceSub, Nat.reduceMul, List.getElem?_cons_zero, List.getElem?_cons_succ, List.getElem?_nil, Option.bind_some, Option.map_some, Option.map_none, Bool.true_and, Bool.and_true, Bool.false_and, Bool.and_false, true_implies, false_implies, true_and, and_true, false_and, and_false, if_true, if_false, Bool.false_eq_true, List.getD_cons_zero, List.getD_cons_succ, List.getD_nil, List.length_cons, List.length_nil, reduceIte, Nat.reduceLT, Nat.reduceLeDiff, ne_eq, reduceCtorEq, beq_self_eq_true, implies_true, not_false_eq_true, not_true_eq_false, cond_true, cond_false, Bool.cond_self, Bool.not_true, Bool.not_false, List.map_cons, List.map_nil, List.drop_zero, List.drop_succ_cons, List.take_succ_cons, List.take_zero, List.cons_append, List.nil_append, List.all_cons, List.all_nil, List.set_cons_zero, List.set_cons_succ, Nat.zero_add, Nat.add_zero, Int.toNat_natCast, eq_self, Int.reduceLT, Int.reduceLE, Int.reduceGT, Int.reduceGE, Int.reduceAdd, Int.reduceSub, Int.reduceMul, Int.reduceNeg, Int.reduceBEq, Int.reduceEq, Int.reduceToNat, wrap_i64, wrap_u8, wrap_i32, wrap_u64, List.take_length, Int.cast_ofNat_Int, List.replicate_succ, List.replicate_zero, List.length_map, List.length_append, Nat.mul_one, take_len_map, decide_true, decide_false, renH, delAll, shift, rn, AO.ren, AV.ren, AV.rens, imp_self, decide_eq_true_eq, decide_eq_false_iff_not, Int.ofNat_lt, Int.ofNat_le, Int.natCast_nonneg, and_self, Bool.and_eq_true, tk3, tk4, tk6, tk26, tk28, tk79, hlt, w4A, u64]
      refine ACall.pure [setW s, .v (.int .i64 j)] _ (by kernel_rfl) (p_hasR s j hb) rfl trivial ?_
      rintro r rfl
      simp only [Tryd.f27, AWn, AWg, AWc, AWi, AWx, AWd, exitTo, slots, aEnd, aOut, jAV, aRet, retAV, tupOf, RF, RFo, release, release.rels, aop, ev, evs, evo, evl, constAV, strip, lk, guardOf, gd, strip_mkg, mkg_true, mkg_false, St.put, BR_true, BR_false, BR_split, bl_mk, AV.s, AV.cells, FV.cells, AV.one, FV.okE, hset, hdel, aMove, aBin, resV, bopV, bopInt, bopStr, bopBool, aPick, aNot, aNeg, aXor, aConv, rdSl, aNil, newCells, aAlloc, aBox, ldAgg, aLoad, aStore, aStoreRow, writeAt, fldAt, aFieldAddr, partOf, aField, idxAddrE, arrAddrE, aIndexAddr, arrIdx, aIndex, bnds, slStr, slF, slO, aSlice, aExtract, bldParts, aggRes, aBuild, arrFs, bslParts, bslRes, bslE, aBuildSlice, mkSl, aMakeSlice, aLen, apRow, apE, apT, aAppend, aRange, nextS, aNext, aMkFunc, aCallV, VM, VMg, VMk, VMc, VMf, VMz, VMs, VMo, VQ, VQg, VQk, VQc, VQf, VQz, qk, pickT, putT, looksAt_eq, lks, tmpsOf, guardT, Op.operands, Call.operands, Array.toList_append, Option.toArray, List.append_nil, List.toList_toArray, Nat.reduceBEq, Nat.reduceAdd, Nat.reduceSub, Nat.reduceMul, List.getElem?_cons_zero, List.getElem?_cons_succ, List.getElem?_nil, Option.bind_some, Option.map_some, Option.map_none, Bool.true_and, Bool.and_true, Bool.false_and, Bool.and_false, true_implies, false_implies, true_and, and_true, false_and, and_false, if_true, if_false, Bool.false_eq_true, List.getD_cons_zero, List.getD_cons_succ, List.getD_nil, List.length_cons, List.length_nil, reduceIte, Nat.reduceLT, Nat.reduceLeDiff, ne_eq, reduceCtorEq, beq_self_eq_true, implies_true, not_false_eq_true, not_true_eq_false, cond_true, cond_false, Bool.cond_self, Bool.not_true, Bool.not_false, List.map_cons, List.map_nil, List.drop_zero, List.drop_succ_cons, List.take_succ_cons, List.take_zero, List.cons_append, List.nil_append, List.all_cons, List.all_nil, List.set_cons_zero, List.set_cons_succ, Nat.zero_add, Nat.add_zero, Int.toNat_natCast, eq_self, Int.reduceLT, Int.reduceLE, Int.reduceGT, Int.reduceGE, Int.reduceAdd, Int.reduceSub, Int.reduceMul, Int.reduceNeg, Int.reduceBEq, Int.reduceEq, Int.reduceToNat, wrap_i64, wrap_u8, wrap_i32, wrap_u64, List.take_length, Int.cast_ofNat_Int, List.replicate_succ, List.replicate_zero, List.length_map, List.length_append, Nat.mul_one, take_len_map, decide_true, decide_false, renH, delAll, shift, rn, AO.ren, AV.ren, AV.rens, imp_self, decide_eq_true_eq, decide_eq_false_iff_not, Int.ofNat_lt, Int.ofNat_le, Int.natCast_nonneg, and_self, Bool.and_eq_true, tk3, tk4, tk6, tk26, tk28, tk79, hlt, w4A, u64, wq, hl, hb, List.length_map]
      refine ih (j + 1) _ (by omega) (by omega) ?_
      rw [← hrs, ← rowB_set']
      simp only [w4A, u64]
      (refine Imp.of ([]) hE ?_; simp only [subAll, fixAll, subT, subH, apartH, apart1, rn, lk, AV.ren, AV.rens, AV.und, AV.unds, AO.ren, AO.und, Nat.reduceBEq, beq_self_eq_true, Nat.reduceLT, Nat.reduceLeDiff, true_and, and_true, and_self, Option.some.injEq, ne_eq, not_true_eq_false, not_false_eq_true, Nat.reduceEqDiff, Nat.le_refl, AV.s, hE])
    · have hj' : j = 256 := by omega
      subst hj'
      simp only [Tryd.f27, AWn, AWg, AWc, AWi, AWx, AWd, exitTo, slots, aEnd, aOut, jAV, aRet, retAV, tupOf, RF, RFo, release, release.rels, aop, ev, evs, evo, evl, constAV, strip, lk, guardOf, gd, strip_mkg, mkg_true, mkg_false, St.put, BR_true, BR_false, BR_split, bl_mk, AV.s, AV.cells, FV.cells, AV.one, FV.okE, hset, hdel, aMove, aBin, resV, bopV, bopInt, bopStr, bopBool, aPick, aNot, aNeg, aXor, aConv, rdSl, aNil, newCells, aAlloc, aBox, ldAgg, aLoad, aStore, aStoreRow, writeAt, fldAt, aFieldAddr, partOf, aField, idxAddrE, arrAddrE, aIndexAddr, arrIdx, aIndex, bnds, slStr, slF, slO, aSlice, aExtract, bldParts, aggRes, aBuild, arrFs, bslParts, bslRes, bslE, aBuildSlice, mkSl, aMakeSlice, aLen, apRow, apE, apT, aAppend, aRange, nextS, aNext, aMkFunc, aCallV, VM, VMg, VMk, VMc, VMf, VMz, VMs, VMo, VQ, VQg, VQk, VQc, VQf, VQz, qk, pickT, putT, looksAt_eq, lks, tmpsOf, guardT, Op.operands, Call.operands, Array.toList_append, Option.toArray, List.append_nil, List.toList_toArray, Nat.reduceBEq, Nat.reduceAdd, Nat.reduceSub, Nat.reduceMul, List.getElem?_cons_zero, List.getElem?_cons_succ, List.getElem?_nil, Option.bind_some, Option.map_some, Option.map_none, Bool.true_and, Bool.and_true, Bool.false_and, Bool.and_false, true_implies, false_implies, true_and, and_true, false_and, and_false, if_true, if_false, Bool.false_eq_true, List.getD_cons_zero, List.getD_cons_succ, List.getD_nil, List.length_cons, List.length_nil, reduceIte, Nat.reduceLT, Nat.reduceLeDiff, ne_eq, reduceCtorEq, beq_self_eq_true, implies_true, not_false_eq_true, not_true_eq_false, cond_true, cond_false, Bool.cond_self, Bool.not_true, Bool.not_false, List.map_cons, List.map_nil, List.drop_zero, List.drop_succ_cons, List.take_succ_cons, List.take_zero, List.cons_append, List.nil_append, List.all_cons, List.all_nil, List.set_cons_zero, List.set_cons_succ, Nat.zero_add, Nat.add_zero, Int.toNat_natCast, eq_self, Int.reduceLT, Int.reduceLE, Int.reduceGT, Int.reduceGE, Int.reduceAdd, Int.reduceSub, Int.reduceMul, Int.reduceNeg, Int.reduceBEq, Int.reduceEq, Int.reduceToNat, wrap_i64, wrap_u8, wrap_i32, wrap_u64, List.take_length, Int.cast_ofNat_Int, List.replicate_succ, List.replicate_zero, List.length_map, List.length_append, Nat.mul_one, take_len_map, decide_true, decide_false, renH, delAll, shift, rn, AO.ren, AV.ren, AV.rens, imp_self, decide_eq_true_eq, decide_eq_false_iff_not, Int.ofNat_lt, Int.ofNat_le, Int.natCast_nonneg, and_self, Bool.and_eq_true, tk3, tk4, tk6, tk26, tk28, tk79, hlt, hl]
      refine ACall.imp (Imp.frz 3 rfl) ?_
      have hm : makeN (fun j => (rowB f 256).getD j false) 256 = notW s := make_not s _ (fun n hn => by rw [rowB_getD f n hn, hfn n])
      simp only [Tryd.f27, AWn, AWg, AWc, AWi, AWx, AWd, exitTo, slots, aEnd, aOut, jAV, aRet, retAV, tupOf, RF, RFo, release, release.rels, aop, ev, evs, evo, evl, constAV, strip, lk, guardOf, gd, strip_mkg, mkg_true, mkg_false, St.put, BR_true, BR_false, BR_split, bl_mk, AV.s, AV.cells, FV.cells, AV.one, FV.okE, hset, hdel, aMove, aBin, resV, bopV, bopInt, bopStr, bopBool, aPick, aNot, aNeg, aXor, aConv, rdSl, aNil, newCells, aAlloc, aBox, ldAgg, aLoad, aStore, aStoreRow, writeAt, fldAt, aFieldAddr, partOf, aField, idxAddrE, arrAddrE, aIndexAddr, arrIdx, aIndex, bnds, slStr, slF, slO, aSlice, aExtract, bldParts, aggRes, aBuild, arrFs, bslParts, bslRes, bslE, aBuildSlice, mkSl, aMakeSlice, aLen, apRow, apE, apT, aAppend, aRange, nextS, aNext, aMkFunc, aCallV, VM, VMg, VMk, VMc, VMf, VMz, VMs, VMo, VQ, VQg, VQk, VQc, VQf, VQz, qk, pickT, putT, looksAt_eq, lks, tmpsOf, guardT, Op.operands, Call.operands, Array.toList_append, Option.toArray, List.append_nil, List.toList_toArray, Nat.reduceBEq, Nat.reduceAdd, Nat.reduceSub, Nat.reduceMul, List.getElem?_cons_zero, List.getElem?_cons_succ, List.getElem?_nil, Option.bind_some, Option.map_some, Option.map_none, Bool.true_and, Bool.and_true, Bool.false_and, Bool.and_false, true_implies, false_implies, true_and, and_true, false_and, and_false, if_true, if_false, Bool.false_eq_true, List.getD_cons_zero, List.getD_cons_succ, List.getD_nil, List.length_cons, List.length_nil, reduceIte, Nat.reduceLT, Nat.reduceLeDiff, ne_eq, reduceCtorEq, beq_self_eq_true, implies_true, not_false_eq_true, not_true_eq_false, cond_true, cond_false, Bool.cond_self, Bool.not_true, Bool.not_false, List.map_cons, List.map_nil, List.drop_zero, List.drop_succ_cons, List.take_succ_cons, List.take_zero, List.cons_append, List.nil_append, List.all_cons, List.all_nil, List.set_cons_zero, List.set_cons_succ, Nat.zero_add, Nat.add_zero, Int.toNat_natCast, eq_self, Int.reduceLT, Int.reduceLE, Int.reduceGT, Int.reduceGE, Int.reduceAdd, Int.reduceSub, Int.reduceMul, Int.reduceNeg, Int.reduceBEq, Int.reduceEq, Int.reduceToNat, wrap_i64, wrap_u8, wrap_i32, wrap_u64, List.take_length, Int.cast_ofNat_Int, List.replicate_succ, List.replicate_zero, List.length_map, List.length_append, Nat.mul_one, take_len_map, decide_true, decide_false, renH, delAll, shift, rn, AO.ren, AV.ren, AV.rens, imp_self, decide_eq_true_eq, decide_eq_false_iff_not, Int.ofNat_lt, Int.ofNat_le, Int.natCast_nonneg, and_self, Bool.and_eq_true, tk3, tk4, tk6, tk26, tk28, tk79, hlt, hl, frzT, frzH, frzV, frzO, frzVs, w4A]
      refine ACall.pure [.sl 1 ((rowB f 256).map boolF)] _ (by kernel_rfl) (p_make (rowB f 256) hl) (by simp only [AV.fzs, AV.fz, hl, List.length_map, List.take_of_length_le, Nat.le_refl, List.drop_zero]) trivial ?_
      rintro r rfl
      rw [hm]
      simp only [Tryd.f27, AWn, AWg, AWc, AWi, AWx, AWd, exitTo, slots, aEnd, aOut, jAV, aRet, retAV, tupOf, RF, RFo, release, release.rels, aop, ev, evs, evo, evl, constAV, strip, lk, guardOf, gd, strip_mkg, mkg_true, mkg_false, St.put, BR_true, BR_false, BR_split, bl_mk, AV.s, AV.cells, FV.cells, AV.one, FV.okE, hset, hdel, aMove, aBin, resV, bopV, bopInt, bopStr, bopBool, aPick, aNot, aNeg, aXor, aConv, rdSl, aNil, newCells, aAlloc, aBox, ldAgg, aLoad, aStore, aStoreRow, writeAt, fldAt, aFieldAddr, partOf, aField, idxAddrE, arrAddrE, aIndexAddr, arrIdx, aIndex, bnds, slStr, slF, slO, aSlice, aExtract, bldParts, aggRes, aBuild, arrFs, bslParts, bslRes, bslE, aBuildSlice, mkSl, aMakeSlice, aLen, apRow, apE, apT, aAppend, aRange, nextS, aNext, aMkFunc, aCallV, VM, VMg, VMk, VMc, VMf, VMz, VMs, VMo, VQ, VQg, VQk, VQc, VQf, VQz, qk, pickT, putT, looksAt_eq, lks, tmpsOf, guardT, Op.operands, Call.operands, Array.toList_append, Option.toArray, List.append_nil, List.toList_toArray, Nat.reduceBEq, Nat.reduceAdd, Nat.reduceSub, Nat.reduceMul, List.getElem?_cons_zero, List.getElem?_cons_succ, List.getElem?_nil, Option.bind_some, Option.map_some, Option.map_none, Bool.true_and, Bool.and_true, Bool.false_and, Bool.and_false, true_implies, false_implies, true_and, and_true, false_and, and_false, if_true, if_false, Bool.false_eq_true, List.getD_cons_zero, List.getD_cons_succ, List.getD_nil, List.length_cons, List.length_nil, reduceIte, Nat.reduceLT, Nat.reduceLeDiff, ne_eq, reduceCtorEq, beq_self_eq_true, implies_true, not_false_eq_true, not_true_eq_false, cond_true, cond_false, Bool.cond_self, Bool.not_true, Bool.not_false, List.map_cons, List.map_nil, List.drop_zero, List.drop_succ_cons, List.take_succ_cons, List.take_zero, List.cons_append, List.nil_append, List.all_cons, List.all_nil, List.set_cons_zero, List.set_cons_succ, Nat.zero_add, Nat.add_zero, Int.toNat_natCast, eq_self, Int.reduceLT, Int.reduceLE, Int.reduceGT, Int.reduceGE, Int.reduceAdd, Int.reduceSub, Int.reduceMul, Int.reduceNeg, Int.reduceBEq, Int.reduceEq, Int.reduceToNat, wrap_i64, wrap_u8, wrap_i32, wrap_u64, List.take_length, Int.cast_ofNat_Int, List.replicate_succ, List.replicate_zero, List.length_map, List.length_append, Nat.mul_one, take_len_map, decide_true, decide_false, renH, delAll, shift, rn, AO.ren, AV.ren, AV.rens, imp_self, decide_eq_true_eq, decide_eq_false_iff_not, Int.ofNat_lt, Int.ofNat_le, Int.natCast_nonneg, and_self, Bool.and_eq_true, tk3, tk4, tk6, tk26, tk28, tk79, hlt, hl, w4A, setW, setF, u64]
      exact hQ _ _ _ ⟨⟨trivial, trivial, trivial, trivial, trivial⟩, rfl⟩
end Go.Proofs
