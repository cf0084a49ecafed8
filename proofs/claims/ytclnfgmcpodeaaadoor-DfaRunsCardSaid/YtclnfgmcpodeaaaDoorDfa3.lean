/-
  Walks and plain laws towards the statements of this seat (Dfa3). Conditions: those that each theorem names.
-/
import Derived.Test.YtclnfgmcpodeaaaDoorDfa2
set_option linter.unusedVariables false
set_option linter.unusedSimpArgs false
namespace Go.Proofs
open Go Go.Fw
set_option maxHeartbeats 4000000
theorem setsF_cls : ∀ (l : List Int) (b : Nat) (acc p : List W4), setsF l b acc = some p → ∀ k ∈ l, 0 ≤ k ∧ k < p.length
  | [], b, acc, p, h, k, hk => by cases hk
  | x :: l, b, acc, p, h, k, hk => by
    rw [setsF] at h
    split at h
    · cases h
    · rename_i hb
      have hlen := (setsF_len l (b + 1) _ p h).1
      simp only [putK, List.length_set] at hlen
      rcases List.mem_cons.1 hk with rfl | hk
      · split at hlen
        · simp at hlen; omega
        · omega
      · exact setsF_cls l (b + 1) _ p h k hk
theorem setsR_cls {l : List Int} {p : List W4} (h : setsR l = some p) : l.length = 256 ∧ ∀ k ∈ l, 0 ≤ k ∧ k < p.length := by
  unfold setsR at h
  split at h
  · rename_i hl; exact ⟨hl, setsF_cls l 0 [] p h⟩
  · cases h
theorem foldl_min_le : ∀ (l : List Int) (a : Int), l.foldl min a ≤ a ∧ ∀ x ∈ l, l.foldl min a ≤ x
  | [], a => by simp
  | y :: l, a => by
    have := foldl_min_le l (min a y)
    simp only [List.foldl_cons]
    refine ⟨by omega, fun x hx => ?_⟩
    rcases List.mem_cons.1 hx with rfl | hx
    · omega
    · exact this.2 x hx
theorem foldl_max_le : ∀ (l : List Int) (a : Int), a ≤ l.foldl max a ∧ ∀ x ∈ l, x ≤ l.foldl max a
  | [], a => by simp
  | y :: l, a => by
    have := foldl_max_le l (max a y)
    simp only [List.foldl_cons]
    refine ⟨by omega, fun x hx => ?_⟩
    rcases List.mem_cons.1 hx with rfl | hx
    · omega
    · exact this.2 x hx
theorem getD_memI {l : List Int} {i : Nat} (h : i < l.length) : l.getD i 0 ∈ l := by
  rw [List.getD, List.getElem?_eq_getElem h]; exact List.getElem_mem h
/-- what a right automaton has -/
structure Dfa.Right (d : Dfa) (m : Nat) : Prop where
  cls : d.cls.length = 256 ∧ ∀ b, b < 256 → 0 ≤ d.cls.getD b 0 ∧ d.cls.getD b 0 < m
  pos : 0 < m ∧ m ≤ 256
  n : 1 ≤ d.next.length ∧ d.next.length ≤ 1024 ∧ d.fin.length = d.next.length
  rows : ∀ s, s < d.next.length → (d.next.getD s []).length = m ∧ ∀ k, k < m → 0 ≤ (d.next.getD s []).getD k 0 ∧ (d.next.getD s []).getD k 0 < d.next.length
theorem okD_right {d : Dfa} (h : okD d = true) : ∃ m, d.Right m := by
  unfold okD at h
  split at h
  · cases h
  · rename_i p hp
    simp only [Bool.and_eq_true, decide_eq_true_eq, List.all_eq_true] at h
    obtain ⟨⟨⟨h1, h2⟩, h3⟩, h4⟩ := h
    have hc := setsR_cls hp
    refine ⟨p.length, ⟨hc.1, fun b hb => hc.2 _ (getD_memI (by omega))⟩, setsR_len hp, ⟨h1, h2, h3⟩, fun s hs => ?_⟩
    have hm : d.next.getD s [] ∈ d.next := by rw [List.getD, List.getElem?_eq_getElem hs]; exact List.getElem_mem hs
    have := h4 _ hm
    unfold rowOK at this
    simp only [Bool.and_eq_true, decide_eq_true_eq, Bool.not_eq_true', decide_eq_false_iff_not] at this
    obtain ⟨⟨h5, h6⟩, h7⟩ := this
    refine ⟨h5, fun k hk => ?_⟩
    have hx := getD_memI (l := d.next.getD s []) (i := k) (by omega)
    have a1 := (foldl_min_le (d.next.getD s []) ((d.next.getD s []).headD 0)).2 _ hx
    have a2 := (foldl_max_le (d.next.getD s []) ((d.next.getD s []).headD 0)).2 _ hx
    unfold Lib.minOf at h6
    unfold Lib.maxOf at h7
    omega
def stepD (d : Dfa) (s : Int) (b : UInt8) : Int := (d.next.getD s.toNat []).getD (d.cls.getD b.toNat 0).toNat 0
/-- where an automaton goes -/
def runR (d : Dfa) (s : Int) (w : List UInt8) : Int × Int := if okD d = true ∧ 0 ≤ s ∧ s < d.next.length then (w.foldl (stepD d) s, 0) else (0, 1)
theorem stepD_in {d : Dfa} {m : Nat} (h : d.Right m) {s : Int} (b : UInt8) (h0 : 0 ≤ s) (h1 : s < d.next.length) : 0 ≤ stepD d s b ∧ stepD d s b < d.next.length := by
  have hb := h.cls.2 b.toNat b.toNat_lt
  exact (h.rows s.toNat (by omega)).2 _ (by omega)
theorem getD_u8f (b : List UInt8) (j : Nat) : (b.map u8).getD j (.v (.int .u8 0)) = u8 (b.getD j 0) := getD_u8 b j
theorem p_run (d : Dfa) (hd : d.Wf) (s : Int) (w : List UInt8) (hw : w.length < 1000000000) : PC Tryd.prog 8 [dfaV d, .v (.int .i64 s), .v (str w)] (· = .tup [.v (.int .i64 (runR d s w).1), .v (.int .i64 (runR d s w).2)]) := by
  have hm : maxLen < 9223372036854775808 := by decide
  have hnl := hd.nlen
  refine PC.in 1000 Tryd.func8 (by kernel_rfl) rfl (by kernel_rfl) fun Ph Ps E Q hE hQ => ?_
  simp only [Tryd.f8, AWn, AWg, AWc, AWi, AWx, AWd, exitTo, slots, aEnd, aOut, jAV, aRet, retAV, tupOf, RF, RFo, release, release.rels, aop, ev, evs, evo, evl, constAV, strip, lk, guardOf, gd, Ja, Jb, Jc, St.put, Jd, Je, Jf, AV.s, AV.cells, FV.cells, AV.one, FV.okE, hset, hdel, aMove, aBin, resV, bopV, bopInt, bopStr, bopBool, aPick, aNot, aNeg, aXor, aConv, rdSl, aNil, newCells, aAlloc, aBox, ldAgg, aLoad, aStore, aStoreRow, writeAt, fldAt, aFieldAddr, partOf, aField, idxAddrE, arrAddrE, aIndexAddr, arrIdx, aIndex, bnds, slStr, slF, slO, aSlice, aExtract, bldParts, aggRes, aBuild, arrFs, bslParts, bslRes, bslE, aBuildSlice, mkSl, aMakeSlice, aLen, apRow, apE, apT, aAppend, aRange, nextS, aNext, aMkFunc, aCallV, VX, VXg, VXk, VXc, VXf, VXz, VQ, VQg, VQk, VQc, VQf, VQz, qk, pickT, putT, lks, tmpsOf, guardT, Op.operands, Call.operands, Jg, Option.toArray, Jh, Ji, Nat.reduceBEq, Nat.reduceAdd, Nat.reduceSub, Nat.reduceMul, Jj, Jk, Jl, Jm, Jn, Jo, Jp, Jq, Jr, Js, Jt, Ju, Jv, Jw, Jx, reduceIte, Nat.reduceLT, Nat.reduceLeDiff, Jy, reduceCtorEq, Jz, Ka, Kb, Kc, Kd, Ke, Kf, Kg, Kh, Ki, Kj, Kk, Kl, Km, Kn, Ko, Kp, Kq, Int.reduceLT, Int.reduceLE, Int.reduceGT, Int.reduceGE, Int.reduceAdd, Int.reduceSub, Int.reduceMul, Int.reduceNeg, Int.reduceBEq, Int.reduceEq, Int.reduceToNat, Kr, List.replicate_succ, Ks, Kt, Ku, Kv, renH, delAll, shift, rn, AO.ren, AV.ren, AV.rens, implies_true, pk0, tk1, tk3, tk4, tk5, tk9, tk22, tk23, tk24, tk26, tk28, tk50, dfaV]
  refine ACall.pure [dfaV d] _ (by kernel_rfl) (p_check d hd) rfl trivial ?_
  rintro r rfl
  by_cases hok : okD d = true
  · have hc : checkR d = 0 := by unfold checkR; rw [if_pos hok]
    rw [hc]
    have e0 : ((0 : Int) != 0) = false := rfl
    simp only [Tryd.f8, AWn, AWg, AWc, AWi, AWx, AWd, exitTo, slots, aEnd, aOut, jAV, aRet, retAV, tupOf, RF, RFo, release, release.rels, aop, ev, evs, evo, evl, constAV, strip, lk, guardOf, gd, Ja, Jb, Jc, St.put, Jd, Je, Jf, AV.s, AV.cells, FV.cells, AV.one, FV.okE, hset, hdel, aMove, aBin, resV, bopV, bopInt, bopStr, bopBool, aPick, aNot, aNeg, aXor, aConv, rdSl, aNil, newCells, aAlloc, aBox, ldAgg, aLoad, aStore, aStoreRow, writeAt, fldAt, aFieldAddr, partOf, aField, idxAddrE, arrAddrE, aIndexAddr, arrIdx, aIndex, bnds, slStr, slF, slO, aSlice, aExtract, bldParts, aggRes, aBuild, arrFs, bslParts, bslRes, bslE, aBuildSlice, mkSl, aMakeSlice, aLen, apRow, apE, apT, aAppend, aRange, nextS, aNext, aMkFunc, aCallV, VX, VXg, VXk, VXc, VXf, VXz, VQ, VQg, VQk, VQc, VQf, VQz, qk, pickT, putT, lks, tmpsOf, guardT, Op.operands, Call.operands, Jg, Option.toArray, Jh, Ji, Nat.reduceBEq, Nat.reduceAdd, Nat.reduceSub, Nat.reduceMul, Jj, Jk, Jl, Jm, Jn, Jo, Jp, Jq, Jr, Js, Jt, Ju, Jv, Jw, Jx, reduceIte, Nat.reduceLT, Nat.reduceLeDiff, Jy, reduceCtorEq, Jz, Ka, Kb, Kc, Kd, Ke, Kf, Kg, Kh, Ki, Kj, Kk, Kl, Km, Kn, Ko, Kp, Kq, Int.reduceLT, Int.reduceLE, Int.reduceGT, Int.reduceGE, Int.reduceAdd, Int.reduceSub, Int.reduceMul, Int.reduceNeg, Int.reduceBEq, Int.reduceEq, Int.reduceToNat, Kr, List.replicate_succ, Ks, Kt, Ku, Kv, renH, delAll, shift, rn, AO.ren, AV.ren, AV.rens, implies_true, pk0, tk1, tk3, tk4, tk5, tk9, tk22, tk23, tk24, tk26, tk28, tk50, e0]
    refine ⟨fun h => by rw [decide_eq_false h]; rfl, fun h => ?_, fun h => ?_⟩
    · have hr : runR d s w = (0, 1) := by
        unfold runR
        rw [if_neg]
        rintro ⟨_, h1, h2⟩
        rw [decide_eq_false (by omega), cond_false, decide_eq_true_eq] at h
        omega
      rw [hr] at hQ
      exact hQ _ _ _ (by simp only [RF, RFo, release, release.rels, u64, u8, true_and, and_true, and_self])
    · have hin : 0 ≤ s ∧ s < d.next.length := by
        by_cases h1 : s < 0
        · rw [decide_eq_true h1] at h; cases h
        · rw [decide_eq_false h1, cond_false, decide_eq_false_iff_not] at h; omega
      obtain ⟨m, hR⟩ := okD_right hok
      have hrun : runR d s w = (w.foldl (stepD d) s, 0) := by unfold runR; rw [if_pos ⟨hok, hin⟩]
      refine ⟨by omega, ?_⟩
      refine AL.ind (X := Nat × Int) 1000 (fun x => x.1 ≤ w.length ∧ 0 ≤ x.2 ∧ x.2 < d.next.length ∧ w.foldl (stepD d) s = (w.drop x.1).foldl (stepD d) x.2) (fun x => w.length - x.1)
        (fun x => ⟨[(1, .s (.int .i64 x.2)), (3, .ptr 0 0), (25, .f (.sl 1 (w.map u8))), (26, .s (.int .i64 w.length)), (27, .s (.int .i64 x.1))], [(0, .cells 26 [.f (.sl 1 (d.cls.map intF)), .f (.sl 1 (d.next.map rowI)), .f (.sl 1 (d.fin.map boolF))])], 1⟩) (0, s) ⟨Nat.zero_le _, hin.1, hin.2, rfl⟩ ?_ ?_
      · (refine Imp.of ([]) hE ?_; simp only [subAll, fixAll, subT, subH, apartH, apart1, rn, lk, AV.ren, AV.rens, AV.und, AV.unds, AO.ren, AO.und, Nat.reduceBEq, beq_self_eq_true, Nat.reduceLT, Nat.reduceLeDiff, true_and, and_true, and_self, Option.some.injEq, ne_eq, not_true_eq_false, not_false_eq_true, Nat.reduceEqDiff, Nat.le_refl, AV.s, hE])
        rfl
      · rintro ⟨j, q⟩ ⟨h1, h2, h3, h4⟩ ih
        simp only at h1 h2 h3 h4
        by_cases hlt : j < w.length
        · obtain ⟨q, rfl⟩ : ∃ n : Nat, q = n := ⟨q.toNat, by omega⟩
          have hq : q < d.next.length := by omega
          have hget := getD_row1 d.next q
          rw [if_pos hq] at hget
          have hb := hR.cls.2 (w.getD j 0).toNat (w.getD j 0).toNat_lt
          have hbl : (w.getD j 0).toNat < d.cls.length := by rw [hR.cls.1]; exact (w.getD j 0).toNat_lt
          have hrow := hR.rows q hq
          have hgi := getD_int (d.next.getD q [])
          have hgc := getD_int d.cls
          have hst : stepD d q (w.getD j 0) = (d.next.getD q []).getD (d.cls.getD (w.getD j 0).toNat 0).toNat 0 := rfl
          have hin2 := stepD_in hR (w.getD j 0) h2 h3
          rw [drop_getD_cons w j 0 hlt, List.foldl_cons] at h4
          have wq : IntKind.i64.wrap ((j : Int) + 1) = ((j + 1 : Nat) : Int) := by rw [wrap_i64 (by omega) (by omega)]; omega
          simp only [Tryd.f8, AWn, AWg, AWc, AWi, AWx, AWd, exitTo, slots, aEnd, aOut, jAV, aRet, retAV, tupOf, RF, RFo, release, release.rels, aop, ev, evs, evo, evl, constAV, strip, lk, guardOf, gd, Ja, Jb, Jc, St.put, Jd, Je, Jf, AV.s, AV.cells, FV.cells, AV.one, FV.okE, hset, hdel, aMove, aBin, resV, bopV, bopInt, bopStr, bopBool, aPick, aNot, aNeg, aXor, aConv, rdSl, aNil, newCells, aAlloc, aBox, ldAgg, aLoad, aStore, aStoreRow, writeAt, fldAt, aFieldAddr, partOf, aField, idxAddrE, arrAddrE, aIndexAddr, arrIdx, aIndex, bnds, slStr, slF, slO, aSlice, aExtract, bldParts, aggRes, aBuild, arrFs, bslParts, bslRes, bslE, aBuildSlice, mkSl, aMakeSlice, aLen, apRow, apE, apT, aAppend, aRange, nextS, aNext, aMkFunc, aCallV, VX, VXg, VXk, VXc, VXf, VXz, VQ, VQg, VQk, VQc, VQf, VQz, qk, pickT, putT, lks, tmpsOf, guardT, Op.operands, Call.operands, Jg, Option.toArray, Jh, Ji, Nat.reduceBEq, Nat.reduceAdd, Nat.reduceSub, Nat.reduceMul, Jj, Jk, Jl, Jm, Jn, Jo, Jp, Jq, Jr, Js, Jt, Ju, Jv, Jw, Jx, reduceIte, Nat.reduceLT, Nat.reduceLeDiff, Jy, reduceCtorEq, Jz, Ka, Kb, Kc, Kd, Ke, Kf, Kg, Kh, Ki, Kj, Kk, Kl, Km, Kn, Ko, Kp, Kq, Int.reduceLT, Int.reduceLE, Int.reduceGT, Int.reduceGE, Int.reduceAdd, Int.reduceSub, Int.reduceMul, Int.reduceNeg, Int.reduceBEq, Int.reduceEq, Int.reduceToNat, Kr, List.replicate_succ, Ks, Kt, Ku, Kv, renH, delAll, shift, rn, AO.ren, AV.ren, AV.rens, implies_true, pk0, tk1, tk3, tk4, tk5, tk9, tk22, tk23, tk24, tk26, tk28, tk50, hlt, getD_u8, u8]
          refine ADr.intro 12 1000 (by kernel_rfl) (by decide) ?_
          simp only [Tryd.f8, AWn, AWg, AWc, AWi, AWx, AWd, exitTo, slots, aEnd, aOut, jAV, aRet, retAV, tupOf, RF, RFo, release, release.rels, aop, ev, evs, evo, evl, constAV, strip, lk, guardOf, gd, Ja, Jb, Jc, St.put, Jd, Je, Jf, AV.s, AV.cells, FV.cells, AV.one, FV.okE, hset, hdel, aMove, aBin, resV, bopV, bopInt, bopStr, bopBool, aPick, aNot, aNeg, aXor, aConv, rdSl, aNil, newCells, aAlloc, aBox, ldAgg, aLoad, aStore, aStoreRow, writeAt, fldAt, aFieldAddr, partOf, aField, idxAddrE, arrAddrE, aIndexAddr, arrIdx, aIndex, bnds, slStr, slF, slO, aSlice, aExtract, bldParts, aggRes, aBuild, arrFs, bslParts, bslRes, bslE, aBuildSlice, mkSl, aMakeSlice, aLen, apRow, apE, apT, aAppend, aRange, nextS, aNext, aMkFunc, aCallV, VX, VXg, VXk, VXc, VXf, VXz, VQ, VQg, VQk, VQc, VQf, VQz, qk, pickT, putT, lks, tmpsOf, guardT, Op.operands, Call.operands, Jg, Option.toArray, Jh, Ji, Nat.reduceBEq, Nat.reduceAdd, Nat.reduceSub, Nat.reduceMul, Jj, Jk, Jl, Jm, Jn, Jo, Jp, Jq, Jr, Js, Jt, Ju, Jv, Jw, Jx, reduceIte, Nat.reduceLT, Nat.reduceLeDiff, Jy, reduceCtorEq, Jz, Ka, Kb, Kc, Kd, Ke, Kf, Kg, Kh, Ki, Kj, Kk, Kl, Km, Kn, Ko, Kp, Kq, Int.reduceLT, Int.reduceLE, Int.reduceGT, Int.reduceGE, Int.reduceAdd, Int.reduceSub, Int.reduceMul, Int.reduceNeg, Int.reduceBEq, Int.reduceEq, Int.reduceToNat, Kr, List.replicate_succ, Ks, Kt, Ku, Kv, renH, delAll, shift, rn, AO.ren, AV.ren, AV.rens, implies_true, pk0, tk1, tk3, tk4, tk5, tk9, tk22, tk23, tk24, tk26, tk28, tk50, hq, hget, rowI, hbl, hgc, hgi]
          refine ⟨by rw [hrow.1]; exact hb, ih (j + 1, stepD d q (w.getD j 0)) _ ⟨by simp only; omega, hin2.1, hin2.2, h4⟩ (by simp only; omega) ?_⟩
          (refine Imp.of ([]) hE ?_; simp only [subAll, fixAll, subT, subH, apartH, apart1, rn, lk, AV.ren, AV.rens, AV.und, AV.unds, AO.ren, AO.und, Nat.reduceBEq, beq_self_eq_true, Nat.reduceLT, Nat.reduceLeDiff, true_and, and_true, and_self, Option.some.injEq, ne_eq, not_true_eq_false, not_false_eq_true, Nat.reduceEqDiff, Nat.le_refl, AV.s, hE])
          refine ⟨by rw [hst], ?_⟩
          rw [wq]
        · have hj' : j = w.length := by omega
          subst hj'
          rw [List.drop_length] at h4
          rw [hrun, h4] at hQ
          simp only [Tryd.f8, AWn, AWg, AWc, AWi, AWx, AWd, exitTo, slots, aEnd, aOut, jAV, aRet, retAV, tupOf, RF, RFo, release, release.rels, aop, ev, evs, evo, evl, constAV, strip, lk, guardOf, gd, Ja, Jb, Jc, St.put, Jd, Je, Jf, AV.s, AV.cells, FV.cells, AV.one, FV.okE, hset, hdel, aMove, aBin, resV, bopV, bopInt, bopStr, bopBool, aPick, aNot, aNeg, aXor, aConv, rdSl, aNil, newCells, aAlloc, aBox, ldAgg, aLoad, aStore, aStoreRow, writeAt, fldAt, aFieldAddr, partOf, aField, idxAddrE, arrAddrE, aIndexAddr, arrIdx, aIndex, bnds, slStr, slF, slO, aSlice, aExtract, bldParts, aggRes, aBuild, arrFs, bslParts, bslRes, bslE, aBuildSlice, mkSl, aMakeSlice, aLen, apRow, apE, apT, aAppend, aRange, nextS, aNext, aMkFunc, aCallV, VX, VXg, VXk, VXc, VXf, VXz, VQ, VQg, VQk, VQc, VQf, VQz, qk, pickT, putT, lks, tmpsOf, guardT, Op.operands, Call.operands, Jg, Option.toArray, Jh, Ji, Nat.reduceBEq, Nat.reduceAdd, Nat.reduceSub, Nat.reduceMul, Jj, Jk, Jl, Jm, Jn, Jo, Jp, Jq, Jr, Js, Jt, Ju, Jv, Jw, Jx, reduceIte, Nat.reduceLT, Nat.reduceLeDiff, Jy, reduceCtorEq, Jz, Ka, Kb, Kc, Kd, Ke, Kf, Kg, Kh, Ki, Kj, Kk, Kl, Km, Kn, Ko, Kp, Kq, Int.reduceLT, Int.reduceLE, Int.reduceGT, Int.reduceGE, Int.reduceAdd, Int.reduceSub, Int.reduceMul, Int.reduceNeg, Int.reduceBEq, Int.reduceEq, Int.reduceToNat, Kr, List.replicate_succ, Ks, Kt, Ku, Kv, renH, delAll, shift, rn, AO.ren, AV.ren, AV.rens, implies_true, pk0, tk1, tk3, tk4, tk5, tk9, tk22, tk23, tk24, tk26, tk28, tk50, hlt]
          exact hQ _ _ _ (by simp only [RF, RFo, release, release.rels, u64, u8, true_and, and_true, and_self, List.foldl_nil])
  · have hc : checkR d = 1 := by unfold checkR; rw [if_neg hok]
    rw [hc]
    have hr : runR d s w = (0, 1) := by unfold runR; rw [if_neg (fun h => hok h.1)]
    rw [hr] at hQ
    have e0 : ((1 : Int) != 0) = true := rfl
    simp only [Tryd.f8, AWn, AWg, AWc, AWi, AWx, AWd, exitTo, slots, aEnd, aOut, jAV, aRet, retAV, tupOf, RF, RFo, release, release.rels, aop, ev, evs, evo, evl, constAV, strip, lk, guardOf, gd, Ja, Jb, Jc, St.put, Jd, Je, Jf, AV.s, AV.cells, FV.cells, AV.one, FV.okE, hset, hdel, aMove, aBin, resV, bopV, bopInt, bopStr, bopBool, aPick, aNot, aNeg, aXor, aConv, rdSl, aNil, newCells, aAlloc, aBox, ldAgg, aLoad, aStore, aStoreRow, writeAt, fldAt, aFieldAddr, partOf, aField, idxAddrE, arrAddrE, aIndexAddr, arrIdx, aIndex, bnds, slStr, slF, slO, aSlice, aExtract, bldParts, aggRes, aBuild, arrFs, bslParts, bslRes, bslE, aBuildSlice, mkSl, aMakeSlice, aLen, apRow, apE, apT, aAppend, aRange, nextS, aNext, aMkFunc, aCallV, VX, VXg, VXk, VXc, VXf, VXz, VQ, VQg, VQk, VQc, VQf, VQz, qk, pickT, putT, lks, tmpsOf, guardT, Op.operands, Call.operands, Jg, Option.toArray, Jh, Ji, Nat.reduceBEq, Nat.reduceAdd, Nat.reduceSub, Nat.reduceMul, Jj, Jk, Jl, Jm, Jn, Jo, Jp, Jq, Jr, Js, Jt, Ju, Jv, Jw, Jx, reduceIte, Nat.reduceLT, Nat.reduceLeDiff, Jy, reduceCtorEq, Jz, Ka, Kb, Kc, Kd, Ke, Kf, Kg, Kh, Ki, Kj, Kk, Kl, Km, Kn, Ko, Kp, Kq, Int.reduceLT, Int.reduceLE, Int.reduceGT, Int.reduceGE, Int.reduceAdd, Int.reduceSub, Int.reduceMul, Int.reduceNeg, Int.reduceBEq, Int.reduceEq, Int.reduceToNat, Kr, List.replicate_succ, Ks, Kt, Ku, Kv, renH, delAll, shift, rn, AO.ren, AV.ren, AV.rens, implies_true, pk0, tk1, tk3, tk4, tk5, tk9, tk22, tk23, tk24, tk26, tk28, tk50, e0]
    exact hQ _ _ _ (by simp only [RF, RFo, release, release.rels, u64, u8, true_and, and_true, and_self])
end Go.Proofs
