/-
  Walks and plain laws towards the statements of this seat (AwakeD). Conditions: those that each theorem names.
-/
import Derived.Test.YtclnfgmcpodeaaaDoorOf3
import Derived.Test.YtclnfgmcpodeaaaDoorDfa4
set_option linter.unusedVariables false
set_option linter.unusedSimpArgs false
namespace Go.Proofs
open Go Go.Fw
set_option maxHeartbeats 4000000
set_option maxRecDepth 100000
def abN : Nfa := textN [97, 98]
def abQ : List W4 := [⟨18446744073709551615, 18446744047939747839, 18446744073709551615, 18446744073709551615⟩, ⟨0, 8589934592, 0, 0⟩, ⟨0, 17179869184, 0, 0⟩]
def abC : List Int := List.replicate 97 0 ++ [1, 2] ++ List.replicate 157 0
def abD : Dfa := ⟨abC, [[1, 2, 1], [1, 1, 1], [1, 1, 3], [1, 1, 1]], [false, false, false, true]⟩
theorem ab_ok : okN abN = true := by kernel_rfl
theorem ab_q : partsR (setsOf abN.edges) = some abQ := by kernel_rfl
theorem ab_c : classR abQ = some abC := by kernel_rfl
theorem ab_of : ofF (fromOf abN.edges abN.states.toNat) abC abN.ends 1025 0 [srt abN.starts] [] [] = some (abD.next, abD.fin) := by kernel_rfl
theorem ab_t1 : takesR abD [97, 98] = (true, 0) := by kernel_rfl
theorem ab_t2 : takesR abD [97, 98, 97] = (false, 0) := by kernel_rfl
theorem ab_wfN : abN.Wf where
  states := by decide
  swf := by decide
  ewf := by decide
  slen := by decide
  elen := by decide
  dlen := by decide
  edges := by decide
theorem ab_all : (abC.all fun k => (Lit.int .i64 k).wf) = true := by kernel_rfl
theorem ab_rows : (abD.next.all fun r => (r.all fun k => (Lit.int .i64 k).wf) && decide (r.length ≤ maxLen)) = true := by kernel_rfl
theorem ab_clen : decide (abC.length ≤ maxLen) = true := by kernel_rfl
theorem ab_wfD : abD.Wf where
  cls := fun k hk => List.all_eq_true.1 ab_all k hk
  clen := of_decide_eq_true ab_clen
  nlen := by decide
  flen := by decide
  rows := fun r hr => by
    have := List.all_eq_true.1 ab_rows r hr
    simp only [Bool.and_eq_true, decide_eq_true_eq] at this
    exact ⟨fun k hk => List.all_eq_true.1 this.1 k hk, this.2⟩
theorem ab_sets : decide ((setsOf abN.edges).length ≤ 1024) = true := by kernel_rfl
theorem ab_nd : (abN.edges.map (·.fr)).Nodup := by
  show [(0 : Int), 1].Nodup
  decide
theorem ab_p : PC Tryd.prog 19 [nfaV abN] (· = .tup [dfaV abD, .v (.int .i64 0)]) :=
  p_ofN abN ab_wfN ab_ok (by decide) ab_nd (of_decide_eq_true ab_sets) ab_q ab_c ab_of
theorem ab_text : PC Tryd.prog 22 [.v (str [97, 98])] (· = .tup [nfaV abN, .v (.int .i64 0)]) := p_text [97, 98] (by decide)
theorem ab_k1 : PC Tryd.prog 11 [dfaV abD, .v (str [97, 98])] (· = .tup [.v (.bool true), .v (.int .i64 0)]) := by
  have := p_takes abD ab_wfD [97, 98] (by decide)
  rw [ab_t1] at this
  exact this
theorem ab_k2 : PC Tryd.prog 11 [dfaV abD, .v (str [97, 98, 97])] (· = .tup [.v (.bool false), .v (.int .i64 0)]) := by
  have := p_takes abD ab_wfD [97, 98, 97] (by decide)
  rw [ab_t2] at this
  exact this
theorem p_awake : PC Tryd.prog 9 [] (· = .v (.bool true)) := by
  have hl : abD.next.length = 4 := rfl
  have hN : nfaV abN = .agg [.v (.int .i64 3), .sl 1 (abN.starts.map intF), .sl 1 (abN.ends.map intF), .sl 6 (abN.edges.map edgeF)] := rfl
  have hD : dfaV abD = .agg [.sl 1 (abD.cls.map intF), .sl 1 (abD.next.map rowI), .sl 1 (abD.fin.map boolF)] := rfl
  have a1 := ab_text
  have a2 := ab_p
  have a3 := ab_k1
  have a4 := ab_k2
  rw [hN] at a1 a2
  rw [hD] at a2 a3 a4
  generalize abN.starts.map intF = x2 at *
  generalize abN.ends.map intF = x3 at *
  generalize abN.edges.map edgeF = x4 at *
  generalize abD.cls.map intF = y1 at *
  generalize abD.fin.map boolF = y3 at *
  have hl2 : (abD.next.map rowI).length = 4 := rfl
  generalize abD.next.map rowI = y2 at *
  have t0 : ((0 : Int) == 0) = true := rfl
  have t4 : ((4 : Int) == 4) = true := rfl
  refine PC.in 1000 Tryd.func9 (by kernel_rfl) rfl (by kernel_rfl) fun Ph Ps E Q hE hQ => ?_
  simp only [Tryd.f9, AWn, AWg, AWc, AWi, AWx, AWd, exitTo, slots, aEnd, aOut, jAV, aRet, retAV, tupOf, RF, RFo, release, release.rels, aop, ev, evs, evo, evl, constAV, strip, lk, guardOf, gd, Ja, Jb, Jc, St.put, Jd, Je, Jf, AV.s, AV.cells, FV.cells, AV.one, FV.okE, hset, hdel, aMove, aBin, resV, bopV, bopInt, bopStr, bopBool, aPick, aNot, aNeg, aXor, aConv, rdSl, aNil, newCells, aAlloc, aBox, ldAgg, aLoad, aStore, aStoreRow, writeAt, fldAt, aFieldAddr, partOf, aField, idxAddrE, arrAddrE, aIndexAddr, arrIdx, aIndex, bnds, slStr, slF, slO, aSlice, aExtract, bldParts, aggRes, aBuild, arrFs, bslParts, bslRes, bslE, aBuildSlice, mkSl, aMakeSlice, aLen, apRow, apE, apT, aAppend, aRange, nextS, aNext, aMkFunc, aCallV, VX, VXg, VXk, VXc, VXf, VXz, VQ, VQg, VQk, VQc, VQf, VQz, qk, pickT, putT, lks, tmpsOf, guardT, Op.operands, Call.operands, Jg, Option.toArray, Jh, Ji, Nat.reduceBEq, Nat.reduceAdd, Nat.reduceSub, Nat.reduceMul, Jj, Jk, Jl, Jm, Jn, Jo, Jp, Jq, Jr, Js, Jt, Ju, Jv, Jw, Jx, reduceIte, Nat.reduceLT, Nat.reduceLeDiff, Jy, reduceCtorEq, Jz, Ka, Kb, Kc, Kd, Ke, Kf, Kg, Kh, Ki, Kj, Kk, Kl, Km, Kn, Ko, Kp, Kq, Int.reduceLT, Int.reduceLE, Int.reduceGT, Int.reduceGE, Int.reduceAdd, Int.reduceSub, Int.reduceMul, Int.reduceNeg, Int.reduceBEq, Int.reduceEq, Int.reduceToNat, Kr, List.replicate_succ, Ks, Kt, Ku, Kv, renH, delAll, shift, rn, AO.ren, AV.ren, AV.rens, implies_true, pk0, tk1, tk3, tk4, tk9, tk22, tk23, tk24, tk26, tk28, tk35, tk37, tk56, tk58, tk60]
  refine ACall.pure [.v (str [97, 98])] _ (by kernel_rfl) a1 rfl trivial ?_
  rintro r rfl
  simp only [Tryd.f9, AWn, AWg, AWc, AWi, AWx, AWd, exitTo, slots, aEnd, aOut, jAV, aRet, retAV, tupOf, RF, RFo, release, release.rels, aop, ev, evs, evo, evl, constAV, strip, lk, guardOf, gd, Ja, Jb, Jc, St.put, Jd, Je, Jf, AV.s, AV.cells, FV.cells, AV.one, FV.okE, hset, hdel, aMove, aBin, resV, bopV, bopInt, bopStr, bopBool, aPick, aNot, aNeg, aXor, aConv, rdSl, aNil, newCells, aAlloc, aBox, ldAgg, aLoad, aStore, aStoreRow, writeAt, fldAt, aFieldAddr, partOf, aField, idxAddrE, arrAddrE, aIndexAddr, arrIdx, aIndex, bnds, slStr, slF, slO, aSlice, aExtract, bldParts, aggRes, aBuild, arrFs, bslParts, bslRes, bslE, aBuildSlice, mkSl, aMakeSlice, aLen, apRow, apE, apT, aAppend, aRange, nextS, aNext, aMkFunc, aCallV, VX, VXg, VXk, VXc, VXf, VXz, VQ, VQg, VQk, VQc, VQf, VQz, qk, pickT, putT, lks, tmpsOf, guardT, Op.operands, Call.operands, Jg, Option.toArray, Jh, Ji, Nat.reduceBEq, Nat.reduceAdd, Nat.reduceSub, Nat.reduceMul, Jj, Jk, Jl, Jm, Jn, Jo, Jp, Jq, Jr, Js, Jt, Ju, Jv, Jw, Jx, reduceIte, Nat.reduceLT, Nat.reduceLeDiff, Jy, reduceCtorEq, Jz, Ka, Kb, Kc, Kd, Ke, Kf, Kg, Kh, Ki, Kj, Kk, Kl, Km, Kn, Ko, Kp, Kq, Int.reduceLT, Int.reduceLE, Int.reduceGT, Int.reduceGE, Int.reduceAdd, Int.reduceSub, Int.reduceMul, Int.reduceNeg, Int.reduceBEq, Int.reduceEq, Int.reduceToNat, Kr, List.replicate_succ, Ks, Kt, Ku, Kv, renH, delAll, shift, rn, AO.ren, AV.ren, AV.rens, implies_true, pk0, tk1, tk3, tk4, tk9, tk22, tk23, tk24, tk26, tk28, tk35, tk37, tk56, tk58, tk60]
  refine ACall.pure [.agg [.v (.int .i64 3), .sl 1 x2, .sl 1 x3, .sl 6 x4]] _ (by kernel_rfl) a2 rfl trivial ?_
  rintro r rfl
  simp only [Tryd.f9, AWn, AWg, AWc, AWi, AWx, AWd, exitTo, slots, aEnd, aOut, jAV, aRet, retAV, tupOf, RF, RFo, release, release.rels, aop, ev, evs, evo, evl, constAV, strip, lk, guardOf, gd, Ja, Jb, Jc, St.put, Jd, Je, Jf, AV.s, AV.cells, FV.cells, AV.one, FV.okE, hset, hdel, aMove, aBin, resV, bopV, bopInt, bopStr, bopBool, aPick, aNot, aNeg, aXor, aConv, rdSl, aNil, newCells, aAlloc, aBox, ldAgg, aLoad, aStore, aStoreRow, writeAt, fldAt, aFieldAddr, partOf, aField, idxAddrE, arrAddrE, aIndexAddr, arrIdx, aIndex, bnds, slStr, slF, slO, aSlice, aExtract, bldParts, aggRes, aBuild, arrFs, bslParts, bslRes, bslE, aBuildSlice, mkSl, aMakeSlice, aLen, apRow, apE, apT, aAppend, aRange, nextS, aNext, aMkFunc, aCallV, VX, VXg, VXk, VXc, VXf, VXz, VQ, VQg, VQk, VQc, VQf, VQz, qk, pickT, putT, lks, tmpsOf, guardT, Op.operands, Call.operands, Jg, Option.toArray, Jh, Ji, Nat.reduceBEq, Nat.reduceAdd, Nat.reduceSub, Nat.reduceMul, Jj, Jk, Jl, Jm, Jn, Jo, Jp, Jq, Jr, Js, Jt, Ju, Jv, Jw, Jx, reduceIte, Nat.reduceLT, Nat.reduceLeDiff, Jy, reduceCtorEq, Jz, Ka, Kb, Kc, Kd, Ke, Kf, Kg, Kh, Ki, Kj, Kk, Kl, Km, Kn, Ko, Kp, Kq, Int.reduceLT, Int.reduceLE, Int.reduceGT, Int.reduceGE, Int.reduceAdd, Int.reduceSub, Int.reduceMul, Int.reduceNeg, Int.reduceBEq, Int.reduceEq, Int.reduceToNat, Kr, List.replicate_succ, Ks, Kt, Ku, Kv, renH, delAll, shift, rn, AO.ren, AV.ren, AV.rens, implies_true, pk0, tk1, tk3, tk4, tk9, tk22, tk23, tk24, tk26, tk28, tk35, tk37, tk56, tk58, tk60]
  refine ACall.pure [.agg [.sl 1 y1, .sl 1 y2, .sl 1 y3], .v (str [97, 98])] _ (by kernel_rfl) a3 rfl trivial ?_
  rintro r rfl
  simp only [Tryd.f9, AWn, AWg, AWc, AWi, AWx, AWd, exitTo, slots, aEnd, aOut, jAV, aRet, retAV, tupOf, RF, RFo, release, release.rels, aop, ev, evs, evo, evl, constAV, strip, lk, guardOf, gd, Ja, Jb, Jc, St.put, Jd, Je, Jf, AV.s, AV.cells, FV.cells, AV.one, FV.okE, hset, hdel, aMove, aBin, resV, bopV, bopInt, bopStr, bopBool, aPick, aNot, aNeg, aXor, aConv, rdSl, aNil, newCells, aAlloc, aBox, ldAgg, aLoad, aStore, aStoreRow, writeAt, fldAt, aFieldAddr, partOf, aField, idxAddrE, arrAddrE, aIndexAddr, arrIdx, aIndex, bnds, slStr, slF, slO, aSlice, aExtract, bldParts, aggRes, aBuild, arrFs, bslParts, bslRes, bslE, aBuildSlice, mkSl, aMakeSlice, aLen, apRow, apE, apT, aAppend, aRange, nextS, aNext, aMkFunc, aCallV, VX, VXg, VXk, VXc, VXf, VXz, VQ, VQg, VQk, VQc, VQf, VQz, qk, pickT, putT, lks, tmpsOf, guardT, Op.operands, Call.operands, Jg, Option.toArray, Jh, Ji, Nat.reduceBEq, Nat.reduceAdd, Nat.reduceSub, Nat.reduceMul, Jj, Jk, Jl, Jm, Jn, Jo, Jp, Jq, Jr, Js, Jt, Ju, Jv, Jw, Jx, reduceIte, Nat.reduceLT, Nat.reduceLeDiff, Jy, reduceCtorEq, Jz, Ka, Kb, Kc, Kd, Ke, Kf, Kg, Kh, Ki, Kj, Kk, Kl, Km, Kn, Ko, Kp, Kq, Int.reduceLT, Int.reduceLE, Int.reduceGT, Int.reduceGE, Int.reduceAdd, Int.reduceSub, Int.reduceMul, Int.reduceNeg, Int.reduceBEq, Int.reduceEq, Int.reduceToNat, Kr, List.replicate_succ, Ks, Kt, Ku, Kv, renH, delAll, shift, rn, AO.ren, AV.ren, AV.rens, implies_true, pk0, tk1, tk3, tk4, tk9, tk22, tk23, tk24, tk26, tk28, tk35, tk37, tk56, tk58, tk60]
  refine ACall.pure [.agg [.sl 1 y1, .sl 1 y2, .sl 1 y3], .v (str [97, 98, 97])] _ (by kernel_rfl) a4 rfl trivial ?_
  rintro r rfl
  simp only [Tryd.f9, AWn, AWg, AWc, AWi, AWx, AWd, exitTo, slots, aEnd, aOut, jAV, aRet, retAV, tupOf, RF, RFo, release, release.rels, aop, ev, evs, evo, evl, constAV, strip, lk, guardOf, gd, Ja, Jb, Jc, St.put, Jd, Je, Jf, AV.s, AV.cells, FV.cells, AV.one, FV.okE, hset, hdel, aMove, aBin, resV, bopV, bopInt, bopStr, bopBool, aPick, aNot, aNeg, aXor, aConv, rdSl, aNil, newCells, aAlloc, aBox, ldAgg, aLoad, aStore, aStoreRow, writeAt, fldAt, aFieldAddr, partOf, aField, idxAddrE, arrAddrE, aIndexAddr, arrIdx, aIndex, bnds, slStr, slF, slO, aSlice, aExtract, bldParts, aggRes, aBuild, arrFs, bslParts, bslRes, bslE, aBuildSlice, mkSl, aMakeSlice, aLen, apRow, apE, apT, aAppend, aRange, nextS, aNext, aMkFunc, aCallV, VX, VXg, VXk, VXc, VXf, VXz, VQ, VQg, VQk, VQc, VQf, VQz, qk, pickT, putT, lks, tmpsOf, guardT, Op.operands, Call.operands, Jg, Option.toArray, Jh, Ji, Nat.reduceBEq, Nat.reduceAdd, Nat.reduceSub, Nat.reduceMul, Jj, Jk, Jl, Jm, Jn, Jo, Jp, Jq, Jr, Js, Jt, Ju, Jv, Jw, Jx, reduceIte, Nat.reduceLT, Nat.reduceLeDiff, Jy, reduceCtorEq, Jz, Ka, Kb, Kc, Kd, Ke, Kf, Kg, Kh, Ki, Kj, Kk, Kl, Km, Kn, Ko, Kp, Kq, Int.reduceLT, Int.reduceLE, Int.reduceGT, Int.reduceGE, Int.reduceAdd, Int.reduceSub, Int.reduceMul, Int.reduceNeg, Int.reduceBEq, Int.reduceEq, Int.reduceToNat, Kr, List.replicate_succ, Ks, Kt, Ku, Kv, renH, delAll, shift, rn, AO.ren, AV.ren, AV.rens, implies_true, pk0, tk1, tk3, tk4, tk9, tk22, tk23, tk24, tk26, tk28, tk35, tk37, tk56, tk58, tk60, hl2, t0, t4]

  exact hQ _ _ _ (by simp only [RF, RFo, release, release.rels, u64, u8, true_and, and_true, and_self])
end Go.Proofs
