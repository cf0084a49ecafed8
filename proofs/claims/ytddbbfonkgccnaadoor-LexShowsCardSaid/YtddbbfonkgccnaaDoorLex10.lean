/-
  Walks and plain laws towards the statements of this seat (Lex10). Conditions: those that each theorem names.
-/
import Derived.Test.YtddbbfonkgccnaaDoorLex9
set_option linter.unusedVariables false
set_option linter.unusedSimpArgs false
namespace Go.Proofs
open Go Go.Fw
set_option maxHeartbeats 4000000
theorem text_ok : ∀ (f : Nat) (u acc : List UInt8), u.length < f → (textF f u acc).1 = 0 → (textF f u acc).2.2 ≤ u.length
  | 0, u, acc, h, _ => by omega
  | f + 1, u, acc, hl, h => by
    simp only [textF] at h ⊢
    split at h
    · rename_i hq
      rw [if_pos hq]
      have : 0 < u.length := by simp at hq; exact hq.1
      split <;> exact this
    · rename_i hq
      rw [if_neg hq]
      split at h
      · rename_i hz; exact absurd h hz
      · rename_i hz
        rw [if_neg hz]
        have ho := one_ok (u := u) (by simpa using hz)
        have := text_ok f (u.drop (oneR u).2.2) _ (by simp only [List.length_drop]; omega) h
        simp only [List.length_drop] at this ⊢
        omega
theorem parts_ok : ∀ (f : Nat) (u : List UInt8) (s : W4), u.length < f → (partsF f u s).1 = 0 → (partsF f u s).2.2 ≤ u.length
  | 0, u, acc, h, _ => by omega
  | f + 1, u, s, hl, h => by
    simp only [partsF] at h ⊢
    split at h
    · rename_i hq
      rw [if_pos hq]
      have : 0 < u.length := by simp [headIs] at hq; exact hq.1
      exact this
    · rename_i hq
      rw [if_neg hq]
      split at h
      · rename_i hz; exact absurd h hz
      · rename_i hz
        rw [if_neg hz]
        split at h
        · exact absurd h (by simp)
        · rename_i hy
          rw [if_neg hy]
          have ho := part_ok (u := u) (by simpa using hz)
          have := parts_ok f (u.drop (partR u).2.2.2) _ (by simp only [List.length_drop]; omega) h
          simp only [List.length_drop] at this ⊢
          omega
theorem set_ok {u : List UInt8} (h : (setR u).1 = 0) : (setR u).2.2 ≤ u.length := by
  unfold setR at h ⊢
  split at h
  · rename_i hq
    rw [if_pos hq]
    have hu : 0 < u.length := by simp [headIs] at hq; exact hq.1
    have := parts_ok u.length (u.drop 1) zeroW (by simp only [List.length_drop]; omega) h
    simp only [List.length_drop] at this ⊢
    omega
  · rename_i hq
    rw [if_neg hq]
    exact parts_ok _ u zeroW (by omega) h
theorem tw_len (p : UInt8 → Bool) (u : List UInt8) : (u.takeWhile p).length ≤ u.length := (List.takeWhile_prefix p).length_le
theorem tw_pos {p : UInt8 → Bool} {u : List UInt8} (h : u ≠ []) (hp : p (u.getD 0 0) = true) : 0 < (u.takeWhile p).length := by
  cases u with
  | nil => exact absurd rfl h
  | cons c u =>
    have : p c = true := hp
    rw [List.takeWhile_cons, if_pos this]; simp
theorem let_both {c : UInt8} (h : lettersS.contains c = true) : (lettersS ++ digitsS).contains c = true := by
  simp only [List.contains_iff_mem, List.mem_append] at h ⊢
  exact .inl h
theorem token_ok {u : List UInt8} (hu : u ≠ []) (h : (tokenR u).1 = 0) : 0 < (tokenR u).2.2 ∧ (tokenR u).2.2 ≤ u.length ∧ (tokenR u).2.1.kind ≠ 0 := by
  have hl : 0 < u.length := List.length_pos_iff.2 hu
  unfold tokenR at h ⊢
  split at h
  · rename_i c1
    rw [if_pos c1]
    simp only at h ⊢
    rw [if_pos h]
    have := text_ok ((u.drop 1).length + 1) (u.drop 1) [] (Nat.lt_succ_self _) h
    unfold textR
    simp only [List.length_drop] at this ⊢
    exact ⟨by omega, by omega, by decide⟩
  · rename_i c1
    rw [if_neg c1]
    split at h
    · rename_i c2
      rw [if_pos c2]
      simp only at h ⊢
      rw [if_pos h]
      have := set_ok (u := u.drop 1) h
      simp only [List.length_drop] at this ⊢
      exact ⟨by omega, by omega, by decide⟩
    · rename_i c2
      rw [if_neg c2]
      split at h
      · rename_i c3
        rw [if_pos c3]
        split at h
        · exact absurd h (by simp)
        · rename_i c4
          rw [if_neg c4]
          exact ⟨tw_pos hu (let_both c3), tw_len _ _, by simp⟩
      · rename_i c3
        rw [if_neg c3]
        split at h
        · rename_i c5
          rw [if_pos c5]
          split at h
          · exact absurd h (by simp)
          · rename_i c4
            rw [if_neg c4]
            exact ⟨tw_pos hu c5, tw_len _ _, by simp⟩
        · rename_i c5
          rw [if_neg c5]
          split at h
          · rename_i c6
            rw [if_pos c6]
            have := (List.isPrefixOf_iff_prefix.1 c6).length_le
            simp [arrowS] at this
            exact ⟨by decide, this, by decide⟩
          · rename_i c6
            rw [if_neg c6]
            split at h
            · rename_i c7
              rw [if_pos c7]
              exact ⟨by simp, hl, by simp⟩
            · exact absurd h (by simp)
/-- behind a token -/
theorem next_ok {s : List UInt8} {i : Nat} (hi : i ≤ s.length) (h : (nextR s i).2.2.2 = 0) : (nextR s i).2.2.1 ≤ s.length ∧ ((nextR s i).1.kind ≠ 0 → i < (nextR s i).2.2.1) := by
  have hk : i + skipA false (s.drop i) ≤ s.length := by have := skip_le (s.drop i) false; rw [List.length_drop] at this; omega
  unfold nextR at h ⊢
  split at h
  · rename_i c1; rw [if_pos c1]; exact ⟨Nat.le_refl _, fun h => absurd rfl h⟩
  · rename_i c1
    rw [if_neg c1]
    split at h
    · rename_i c2
      rw [if_pos c2]
      have := token_ok (u := s.drop (i + skipA false (s.drop i))) (fun e => by have := congrArg List.length e; simp at this; omega) c2
      simp only [List.length_drop] at this ⊢
      exact ⟨by omega, fun _ => by omega⟩
    · rename_i c2; exact absurd h c2
/-- all tokens: tokens with their places, the place behind, the word -/
def allF (s : List UInt8) : Nat → Nat → List (Tk × Int) → List (Tk × Int) × Nat × Int
  | 0, _, acc => (acc, 0, 0)
  | k + 1, i, acc => if (nextR s i).2.2.2 ≠ 0 then ([], (nextR s i).2.2.1, (nextR s i).2.2.2) else if (nextR s i).1.kind = 0 then (acc, (nextR s i).2.2.1, 0)
    else allF s k (nextR s i).2.2.1 (acc ++ [((nextR s i).1, (nextR s i).2.1)])
def allR (s : List UInt8) : List (Tk × Int) × Nat × Int := if s.length > 65536 then ([], 0, 2) else allF s (s.length + 1) 0 []
def tokF (x : Tk × Int) : FV := .agg (tkF x.1 x.2)
def allV (x : List (Tk × Int) × Nat × Int) : FV := .tup [if x.2.2 = 0 then .sl 8 (x.1.map tokF) else .v (.slice none 0 0), .v (.int .i64 x.2.1), .v (.int .i64 x.2.2)]
theorem allF_fuel (s : List UInt8) : ∀ (f g i : Nat) (acc : List (Tk × Int)), i ≤ s.length → s.length - i < f → s.length - i < g → allF s f i acc = allF s g i acc
  | 0, _, i, _, _, h, _ => by omega
  | _, 0, i, _, _, _, h => by omega
  | f + 1, g + 1, i, acc, hi, h1, h2 => by
    simp only [allF]
    by_cases hz : (nextR s i).2.2.2 ≠ 0
    · simp only [if_pos hz]
    · simp only [if_neg hz]
      by_cases hk : (nextR s i).1.kind = 0
      · simp only [if_pos hk]
      · simp only [if_neg hk]
        obtain ⟨n1, n2⟩ := next_ok hi (by simpa using hz)
        have := n2 hk
        exact allF_fuel s f g _ _ n1 (by omega) (by omega)
theorem p_all (s : List UInt8) (hs : s.length < 100000000) : PC Tryd.prog 7 [.v (str s)] (· = allV (allR s)) := by
  refine PC.in 1000 Tryd.func7 (by kernel_rfl) rfl (by kernel_rfl) fun Ph Ps E Q hE hQ => ?_
  simp only [Tryd.f7, AWn, AWg, AWc, AWi, AWx, AWd, exitTo, slots, aEnd, aOut, jAV, aRet, retAV, tupOf, RF, RFo, release, release.rels, aop, ev, evs, evo, evl, constAV, strip, lk, guardOf, gd, strip_mkg, mkg_true, mkg_false, St.put, BR_true, BR_false, BR_split, bl_mk, AV.s, AV.cells, FV.cells, AV.one, FV.okE, hset, hdel, aMove, aBin, resV, bopV, bopInt, bopStr, bopBool, aPick, aNot, aNeg, aXor, aConv, rdSl, aNil, newCells, aAlloc, aBox, ldAgg, aLoad, aStore, aStoreRow, writeAt, fldAt, aFieldAddr, partOf, aField, idxAddrE, arrAddrE, aIndexAddr, arrIdx, aIndex, bnds, slStr, slF, slO, aSlice, aExtract, bldParts, aggRes, aBuild, arrFs, bslParts, bslRes, bslE, aBuildSlice, mkSl, aMakeSlice, aLen, apRow, apE, apT, aAppend, aRange, nextS, aNext, aMkFunc, aCallV, VM, VMg, VMk, VMc, VMf, VMz, VMs, VMo, VQ, VQg, VQk, VQc, VQf, VQz, qk, pickT, putT, looksAt_eq, lks, tmpsOf, guardT, Op.operands, Call.operands, Array.toList_append, Option.toArray, List.append_nil, List.toList_toArray, Nat.reduceBEq, Nat.reduceAdd, Nat.reduceSub, Nat.reduceMul, List.getElem?_cons_zero, List.getElem?_cons_succ, List.getElem?_nil, Option.bind_some, Option.map_some, Option.map_none, Bool.true_and, Bool.and_true, Bool.false_and, Bool.and_false, true_implies, false_implies, true_and, and_true, false_and, and_false, if_true, if_false, Bool.false_eq_true, List.getD_cons_zero, List.getD_cons_succ, List.getD_nil, List.length_cons, List.length_nil, reduceIte, Nat.reduceLT, Nat.reduceLeDiff, ne_eq, reduceCtorEq, beq_self_eq_true, implies_true, not_false_eq_true, not_true_eq_false, cond_true, cond_false, Bool.cond_self, Bool.not_true, Bool.not_false, List.map_cons, List.map_nil, List.drop_zero, List.drop_succ_cons, List.take_succ_cons, List.take_zero, List.cons_append, List.nil_append, List.all_cons, List.all_nil, List.set_cons_zero, List.set_cons_succ, Nat.zero_add, Nat.add_zero, Int.toNat_natCast, eq_self, Int.reduceLT, Int.reduceLE, Int.reduceGT, Int.reduceGE, Int.reduceAdd, Int.reduceSub, Int.reduceMul, Int.reduceNeg, Int.reduceBEq, Int.reduceEq, Int.reduceToNat, wrap_i64, wrap_u8, wrap_i32, wrap_u64, List.take_length, Int.cast_ofNat_Int, List.replicate_succ, List.replicate_zero, List.length_map, List.length_append, Nat.mul_one, take_len_map, decide_true, decide_false, renH, delAll, shift, rn, AO.ren, AV.ren, AV.rens, imp_self, decide_eq_true_eq, decide_eq_false_iff_not, Int.ofNat_lt, Int.ofNat_le, Int.natCast_nonneg, and_self, Bool.and_eq_true, tk1, tk3, tk9, tk22, tk23, tk26, tk28, tk30]
  refine ⟨fun h => ?_, fun h => ?_⟩
  · have h' : s.length > 65536 := by omega
    have e : allR s = ([], 0, 2) := by unfold allR; rw [if_pos h']
    rw [e] at hQ
    exact hQ _ _ _ ⟨⟨trivial, trivial, trivial, trivial⟩, rfl⟩
  · have h' : ¬ s.length > 65536 := by omega
    have e : allR s = allF s (s.length + 1) 0 [] := by unfold allR; rw [if_neg h']
    refine AL.ind (X := Nat × List (Tk × Int)) 1000 (fun x => x.1 ≤ s.length ∧ x.2.length ≤ x.1 ∧ allR s = allF s (s.length - x.1 + 1) x.1 x.2) (fun x => s.length - x.1)
      (fun x => ⟨[(0, .s (str s)), (5, .sl 0 8 0 x.2.length), (6, .s (.int .i64 x.1))], [(0, .row 30 8 (x.2.map tokF))], 1⟩) (0, []) ⟨Nat.zero_le _, Nat.le_refl _, e⟩ ?_ ?_
    · refine .trans (Imp.adopt 5 30 8 rfl) ?_
      (refine Imp.of ([]) hE ?_; simp only [subAll, fixAll, subT, subH, apartH, apart1, rn, lk, AV.ren, AV.rens, AV.und, AV.unds, AO.ren, AO.und, Nat.reduceBEq, beq_self_eq_true, Nat.reduceLT, Nat.reduceLeDiff, true_and, and_true, and_self, Option.some.injEq, ne_eq, not_true_eq_false, not_false_eq_true, Nat.reduceEqDiff, Nat.le_refl, AV.s, hE])
      exact ⟨⟨rfl, rfl⟩, rfl⟩
    · rintro ⟨j, acc⟩ ⟨h1, h2, h3⟩ ih
      simp only at h1 h2 h3
      simp only [Tryd.f7, AWn, AWg, AWc, AWi, AWx, AWd, exitTo, slots, aEnd, aOut, jAV, aRet, retAV, tupOf, RF, RFo, release, release.rels, aop, ev, evs, evo, evl, constAV, strip, lk, guardOf, gd, strip_mkg, mkg_true, mkg_false, St.put, BR_true, BR_false, BR_split, bl_mk, AV.s, AV.cells, FV.cells, AV.one, FV.okE, hset, hdel, aMove, aBin, resV, bopV, bopInt, bopStr, bopBool, aPick, aNot, aNeg, aXor, aConv, rdSl, aNil, newCells, aAlloc, aBox, ldAgg, aLoad, aStore, aStoreRow, writeAt, fldAt, aFieldAddr, partOf, aField, idxAddrE, arrAddrE, aIndexAddr, arrIdx, aIndex, bnds, slStr, slF, slO, aSlice, aExtract, bldParts, aggRes, aBuild, arrFs, bslParts, bslRes, bslE, aBuildSlice, mkSl, aMakeSlice, aLen, apRow, apE, apT, aAppend, aRange, nextS, aNext, aMkFunc, aCallV, VM, VMg, VMk, VMc, VMf, VMz, VMs, VMo, VQ, VQg, VQk, VQc, VQf, VQz, qk, pickT, putT, looksAt_eq, lks, tmpsOf, guardT, Op.operands, Call.operands, Array.toList_append, Option.toArray, List.append_nil, List.toList_toArray, Nat.reduceBEq, Nat.reduceAdd, Nat.reduceSub, Nat.reduceMul, List.getElem?_cons_zero, List.getElem?_cons_succ, List.getElem?_nil, Option.bind_some, Option.map_some, Option.map_none, Bool.true_and, Bool.and_true, Bool.false_and, Bool.and_false, true_implies, false_implies, true_and, and_true, false_and, and_false, if_true, if_false, Bool.false_eq_true, List.getD_cons_zero, List.getD_cons_succ, List.getD_nil, List.length_cons, List.length_nil, reduceIte, Nat.reduceLT, Nat.reduceLeDiff, ne_eq, reduceCtorEq, beq_self_eq_true, implies_true, not_false_eq_true, not_true_eq_false, cond_true, cond_false, Bool.cond_self, Bool.not_true, Bool.not_false, List.map_cons, List.map_nil, List.drop_zero, List.drop_succ_cons, List.take_succ_cons, List.take_zero, List.cons_append, List.nil_append, List.all_cons, List.all_nil, List.set_cons_zero, List.set_cons_succ, Nat.zero_add, Nat.add_zero, Int.toNat_natCast, eq_self, Int.reduceLT, Int.reduceLE, Int.reduceGT, Int.reduceGE, Int.reduceAdd, Int.reduceSub, Int.reduceMul, Int.reduceNeg, Int.reduceBEq, Int.reduceEq, Int.reduceToNat, wrap_i64, wrap_u8, wrap_i32, wrap_u64, List.take_length, Int.cast_ofNat_Int, List.replicate_succ, List.replicate_zero, List.length_map, List.length_append, Nat.mul_one, take_len_map, decide_true, decide_false, renH, delAll, shift, rn, AO.ren, AV.ren, AV.rens, imp_self, decide_eq_true_eq, decide_eq_false_iff_not, Int.ofNat_lt, Int.ofNat_le, Int.natCast_nonneg, and_self, Bool.and_eq_true, tk1, tk3, tk9, tk22, tk23, tk26, tk28, tk30]
      refine ACall.pure _ _ (by kernel_rfl) (p_next s j hs h1) (by simp only [AV.fzs, AV.fz, u64, u8]) trivial ?_
      rintro r rfl
      obtain ⟨tk, pl, nx, ec, hnx⟩ : ∃ tk pl nx ec, nextR s j = (tk, pl, nx, ec) := ⟨_, _, _, _, rfl⟩
      have hok := next_ok (s := s) (i := j) h1
      rw [hnx] at hok
      simp only at hok
      simp only [Tryd.f7, AWn, AWg, AWc, AWi, AWx, AWd, exitTo, slots, aEnd, aOut, jAV, aRet, retAV, tupOf, RF, RFo, release, release.rels, aop, ev, evs, evo, evl, constAV, strip, lk, guardOf, gd, strip_mkg, mkg_true, mkg_false, St.put, BR_true, BR_false, BR_split, bl_mk, AV.s, AV.cells, FV.cells, AV.one, FV.okE, hset, hdel, aMove, aBin, resV, bopV, bopInt, bopStr, bopBool, aPick, aNot, aNeg, aXor, aConv, rdSl, aNil, newCells, aAlloc, aBox, ldAgg, aLoad, aStore, aStoreRow, writeAt, fldAt, aFieldAddr, partOf, aField, idxAddrE, arrAddrE, aIndexAddr, arrIdx, aIndex, bnds, slStr, slF, slO, aSlice, aExtract, bldParts, aggRes, aBuild, arrFs, bslParts, bslRes, bslE, aBuildSlice, mkSl, aMakeSlice, aLen, apRow, apE, apT, aAppend, aRange, nextS, aNext, aMkFunc, aCallV, VM, VMg, VMk, VMc, VMf, VMz, VMs, VMo, VQ, VQg, VQk, VQc, VQf, VQz, qk, pickT, putT, looksAt_eq, lks, tmpsOf, guardT, Op.operands, Call.operands, Array.toList_append, Option.toArray, List.append_nil, List.toList_toArray, Nat.reduceBEq, Nat.reduceAdd, Nat.reduceSub, Nat.reduceMul, List.getElem?_cons_zero, List.getElem?_cons_succ, List.getElem?_nil, Option.bind_some, Option.map_some, Option.map_none, Bool.true_and, Bool.and_true, Bool.false_and, Bool.and_false, true_implies, false_implies, true_and, and_true, false_and, and_false, if_true, if_false, Bool.false_eq_true, List.getD_cons_zero, List.getD_cons_succ, List.getD_nil, List.length_cons, List.length_nil, reduceIte, Nat.reduceLT, Nat.reduceLeDiff, ne_eq, reduceCtorEq, beq_self_eq_true, implies_true, not_false_eq_true, not_true_eq_false, cond_true, cond_false, Bool.cond_self, Bool.not_true, Bool.not_false, List.map_cons, List.map_nil, List.drop_zero, List.drop_succ_cons, List.take_succ_cons, List.take_zero, List.cons_append, List.nil_append, List.all_cons, List.all_nil, List.set_cons_zero, List.set_cons_succ, Nat.zero_add, Nat.add_zero, Int.toNat_natCast, eq_self, Int.reduceLT, Int.reduceLE, Int.reduceGT, Int.reduceGE, Int.reduceAdd, Int.reduceSub, Int.reduceMul, Int.reduceNeg, Int.reduceBEq, Int.reduceEq, Int.reduceToNat, wrap_i64, wrap_u8, wrap_i32, wrap_u64, List.take_length, Int.cast_ofNat_Int, List.replicate_succ, List.replicate_zero, List.length_map, List.length_append, Nat.mul_one, take_len_map, decide_true, decide_false, renH, delAll, shift, rn, AO.ren, AV.ren, AV.rens, imp_self, decide_eq_true_eq, decide_eq_false_iff_not, Int.ofNat_lt, Int.ofNat_le, Int.natCast_nonneg, and_self, Bool.and_eq_true, tk1, tk3, tk9, tk22, tk23, tk26, tk28, tk30, nextF, hnx, tkF, u64]
      refine ⟨fun h0 => ?_, fun h0 => ⟨fun h4 => ?_, fun h4 => ?_⟩⟩
      · have h0' : ec ≠ 0 := by simpa using h0
        have e2 : allR s = ([], nx, ec) := by rw [h3]; simp only [allF, hnx]; rw [if_pos h0']
        rw [e2] at hQ
        exact hQ _ _ _ ⟨⟨trivial, trivial, trivial, trivial⟩, by simp only [allV]; rw [if_neg h0']⟩
      · have h0' : ec = 0 := by simpa using h0
        have h4' : tk.kind = 0 := by simpa using h4
        have e2 : allR s = (acc, nx, 0) := by rw [h3]; simp only [allF, hnx]; rw [if_neg (by simpa using h0'), if_pos h4']
        rw [e2] at hQ
        exact hQ _ _ _ (by simp [RF, RFo, release, release.rels, lk, allV, take_len_map])
      · have h0' : ec = 0 := by simpa using h0
        have h4' : tk.kind ≠ 0 := by simpa using h4
        obtain ⟨n1, n2⟩ := hok h0'
        have n3 := n2 h4'
        have e2 : allR s = allF s (s.length - nx + 1) nx (acc ++ [(tk, pl)]) := by
          rw [h3]; simp only [allF, hnx]; rw [if_neg (by simpa using h0'), if_neg h4']
          exact allF_fuel s (s.length - j) (s.length - nx + 1) nx _ n1 (by omega) (by omega)
        refine ⟨by omega, ?_⟩
        refine ih (nx, acc ++ [(tk, pl)]) _ ⟨n1, by simp; omega, e2⟩ (by simp only; omega) ?_
        (refine Imp.of ([(0, 3)]) hE ?_; simp only [subAll, fixAll, subT, subH, apartH, apart1, rn, lk, AV.ren, AV.rens, AV.und, AV.unds, AO.ren, AO.und, Nat.reduceBEq, beq_self_eq_true, Nat.reduceLT, Nat.reduceLeDiff, true_and, and_true, and_self, Option.some.injEq, ne_eq, not_true_eq_false, not_false_eq_true, Nat.reduceEqDiff, Nat.le_refl, AV.s, hE])
        simp [tokF, tkF, u64]
end Go.Proofs
