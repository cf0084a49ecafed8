/-
  Walks and plain laws towards the statements of this seat (Set2). Conditions: those that each theorem names.
-/
import Derived.Test.YtclnfgmcpodeaaaDoorSet1
set_option linter.unusedVariables false
set_option linter.unusedSimpArgs false
namespace Go.Proofs
open Go Go.Fw
set_option maxHeartbeats 2000000
structure W4 where
  a : UInt64
  b : UInt64
  c : UInt64
  d : UInt64
def setW (s : W4) : FV := setF s.a s.b s.c s.d
def anyW (s t : W4) : W4 := ⟨s.a ||| t.a, s.b ||| t.b, s.c ||| t.c, s.d ||| t.d⟩
def notW (s : W4) : W4 := ⟨~~~ s.a, ~~~ s.b, ~~~ s.c, ~~~ s.d⟩
def bitW (m : Nat) : UInt64 := UInt64.ofNat (2 ^ m)
def ofW (x : UInt8) : W4 := ⟨if x.toNat / 64 = 0 then bitW (x.toNat % 64) else 0, if x.toNat / 64 = 1 then bitW (x.toNat % 64) else 0, if x.toNat / 64 = 2 then bitW (x.toNat % 64) else 0, if x.toNat / 64 = 3 then bitW (x.toNat % 64) else 0⟩
theorem shl_bit (x : UInt8) : IntKind.u64.wrap (BitVec.ofInt IntKind.u64.bits 0 ||| BitVec.ofInt IntKind.u64.bits (IntKind.u64.wrap (1 * 2 ^ min ((x.toNat : Int).tmod 64).toNat IntKind.u64.bits))).toNat = ((bitW (x.toNat % 64)).toNat : Int) := by
  have h : ∀ n : Fin 256, IntKind.u64.wrap (BitVec.ofInt IntKind.u64.bits 0 ||| BitVec.ofInt IntKind.u64.bits (IntKind.u64.wrap (1 * 2 ^ min ((n.val : Int).tmod 64).toNat IntKind.u64.bits))).toNat = ((bitW (n.val % 64)).toNat : Int) := by decide +kernel
  exact h ⟨x.toNat, x.toNat_lt⟩
theorem p_of (x : UInt8) : PC Tryd.prog 50 [.sl 1 [u8 x]] (· = setW (ofW x)) := by
  have hx := x.toNat_lt
  have hq : (IntKind.u8.wrap ((x.toNat : Int).tdiv 64) = 0 ∧ x.toNat / 64 = 0) ∨ (IntKind.u8.wrap ((x.toNat : Int).tdiv 64) = 1 ∧ x.toNat / 64 = 1) ∨ (IntKind.u8.wrap ((x.toNat : Int).tdiv 64) = 2 ∧ x.toNat / 64 = 2) ∨ (IntKind.u8.wrap ((x.toNat : Int).tdiv 64) = 3 ∧ x.toNat / 64 = 3) := by
    have h : ∀ n : Fin 256, (IntKind.u8.wrap ((n.val : Int).tdiv 64) = 0 ∧ n.val / 64 = 0) ∨ (IntKind.u8.wrap ((n.val : Int).tdiv 64) = 1 ∧ n.val / 64 = 1) ∨ (IntKind.u8.wrap ((n.val : Int).tdiv 64) = 2 ∧ n.val / 64 = 2) ∨ (IntKind.u8.wrap ((n.val : Int).tdiv 64) = 3 ∧ n.val / 64 = 3) := by decide +kernel
    exact h ⟨x.toNat, hx⟩
  have hm : 0 ≤ (x.toNat : Int).tmod 64 := Int.tmod_nonneg _ (by omega)
  refine PC.in 1000 Tryd.func50 (by kernel_rfl) rfl (by kernel_rfl) fun Ph Ps E Q hE hQ => ?_
  simp only [Tryd.f50, AWn, AWg, AWc, AWi, AWx, AWd, exitTo, slots, aEnd, aOut, jAV, aRet, retAV, tupOf, RF, RFo, release, release.rels, aop, ev, evs, evo, evl, constAV, strip, lk, guardOf, gd, Ja, Jb, Jc, St.put, Jd, Je, Jf, AV.s, AV.cells, FV.cells, AV.one, FV.okE, hset, hdel, aMove, aBin, resV, bopV, bopInt, bopStr, bopBool, aPick, aNot, aNeg, aXor, aConv, rdSl, aNil, newCells, aAlloc, aBox, ldAgg, aLoad, aStore, aStoreRow, writeAt, fldAt, aFieldAddr, partOf, aField, idxAddrE, arrAddrE, aIndexAddr, arrIdx, aIndex, bnds, slStr, slF, slO, aSlice, aExtract, bldParts, aggRes, aBuild, arrFs, bslParts, bslRes, bslE, aBuildSlice, mkSl, aMakeSlice, aLen, apRow, apE, apT, aAppend, aRange, nextS, aNext, aMkFunc, aCallV, VX, VXg, VXk, VXc, VXf, VXz, VQ, VQg, VQk, VQc, VQf, VQz, qk, pickT, putT, lks, tmpsOf, guardT, Op.operands, Call.operands, Jg, Option.toArray, Jh, Ji, Nat.reduceBEq, Nat.reduceAdd, Nat.reduceSub, Nat.reduceMul, Jj, Jk, Jl, Jm, Jn, Jo, Jp, Jq, Jr, Js, Jt, Ju, Jv, Jw, Jx, reduceIte, Nat.reduceLT, Nat.reduceLeDiff, Jy, reduceCtorEq, Jz, Ka, Kb, Kc, Kd, Ke, Kf, Kg, Kh, Ki, Kj, Kk, Kl, Km, Kn, Ko, Kp, Kq, Int.reduceLT, Int.reduceLE, Int.reduceGT, Int.reduceGE, Int.reduceAdd, Int.reduceSub, Int.reduceMul, Int.reduceNeg, Int.reduceBEq, Int.reduceEq, Int.reduceToNat, Kr, List.replicate_succ, Ks, Kt, Ku, Kv, renH, delAll, shift, rn, AO.ren, AV.ren, AV.rens, implies_true, pk0, tk2, tk3, tk5, tk50, tk56, tk58, u8]
  refine AL.unroll 1000 ?_
  rcases hq with ⟨h1, h2⟩ | ⟨h1, h2⟩ | ⟨h1, h2⟩ | ⟨h1, h2⟩
  all_goals
    simp only [Tryd.f50, AWn, AWg, AWc, AWi, AWx, AWd, exitTo, slots, aEnd, aOut, jAV, aRet, retAV, tupOf, RF, RFo, release, release.rels, aop, ev, evs, evo, evl, constAV, strip, lk, guardOf, gd, Ja, Jb, Jc, St.put, Jd, Je, Jf, AV.s, AV.cells, FV.cells, AV.one, FV.okE, hset, hdel, aMove, aBin, resV, bopV, bopInt, bopStr, bopBool, aPick, aNot, aNeg, aXor, aConv, rdSl, aNil, newCells, aAlloc, aBox, ldAgg, aLoad, aStore, aStoreRow, writeAt, fldAt, aFieldAddr, partOf, aField, idxAddrE, arrAddrE, aIndexAddr, arrIdx, aIndex, bnds, slStr, slF, slO, aSlice, aExtract, bldParts, aggRes, aBuild, arrFs, bslParts, bslRes, bslE, aBuildSlice, mkSl, aMakeSlice, aLen, apRow, apE, apT, aAppend, aRange, nextS, aNext, aMkFunc, aCallV, VX, VXg, VXk, VXc, VXf, VXz, VQ, VQg, VQk, VQc, VQf, VQz, qk, pickT, putT, lks, tmpsOf, guardT, Op.operands, Call.operands, Jg, Option.toArray, Jh, Ji, Nat.reduceBEq, Nat.reduceAdd, Nat.reduceSub, Nat.reduceMul, Jj, Jk, Jl, Jm, Jn, Jo, Jp, Jq, Jr, Js, Jt, Ju, Jv, Jw, Jx, reduceIte, Nat.reduceLT, Nat.reduceLeDiff, Jy, reduceCtorEq, Jz, Ka, Kb, Kc, Kd, Ke, Kf, Kg, Kh, Ki, Kj, Kk, Kl, Km, Kn, Ko, Kp, Kq, Int.reduceLT, Int.reduceLE, Int.reduceGT, Int.reduceGE, Int.reduceAdd, Int.reduceSub, Int.reduceMul, Int.reduceNeg, Int.reduceBEq, Int.reduceEq, Int.reduceToNat, Kr, List.replicate_succ, Ks, Kt, Ku, Kv, renH, delAll, shift, rn, AO.ren, AV.ren, AV.rens, implies_true, pk0, tk2, tk3, tk5, tk50, tk56, tk58, u8, h1, hm]
    refine AL.unroll 1000 ?_
    simp only [Tryd.f50, AWn, AWg, AWc, AWi, AWx, AWd, exitTo, slots, aEnd, aOut, jAV, aRet, retAV, tupOf, RF, RFo, release, release.rels, aop, ev, evs, evo, evl, constAV, strip, lk, guardOf, gd, Ja, Jb, Jc, St.put, Jd, Je, Jf, AV.s, AV.cells, FV.cells, AV.one, FV.okE, hset, hdel, aMove, aBin, resV, bopV, bopInt, bopStr, bopBool, aPick, aNot, aNeg, aXor, aConv, rdSl, aNil, newCells, aAlloc, aBox, ldAgg, aLoad, aStore, aStoreRow, writeAt, fldAt, aFieldAddr, partOf, aField, idxAddrE, arrAddrE, aIndexAddr, arrIdx, aIndex, bnds, slStr, slF, slO, aSlice, aExtract, bldParts, aggRes, aBuild, arrFs, bslParts, bslRes, bslE, aBuildSlice, mkSl, aMakeSlice, aLen, apRow, apE, apT, aAppend, aRange, nextS, aNext, aMkFunc, aCallV, VX, VXg, VXk, VXc, VXf, VXz, VQ, VQg, VQk, VQc, VQf, VQz, qk, pickT, putT, lks, tmpsOf, guardT, Op.operands, Call.operands, Jg, Option.toArray, Jh, Ji, Nat.reduceBEq, Nat.reduceAdd, Nat.reduceSub, Nat.reduceMul, Jj, Jk, Jl, Jm, Jn, Jo, Jp, Jq, Jr, Js, Jt, Ju, Jv, Jw, Jx, reduceIte, Nat.reduceLT, Nat.reduceLeDiff, Jy, reduceCtorEq, Jz, Ka, Kb, Kc, Kd, Ke, Kf, Kg, Kh, Ki, Kj, Kk, Kl, Km, Kn, Ko, Kp, Kq, Int.reduceLT, Int.reduceLE, Int.reduceGT, Int.reduceGE, Int.reduceAdd, Int.reduceSub, Int.reduceMul, Int.reduceNeg, Int.reduceBEq, Int.reduceEq, Int.reduceToNat, Kr, List.replicate_succ, Ks, Kt, Ku, Kv, renH, delAll, shift, rn, AO.ren, AV.ren, AV.rens, implies_true, pk0, tk2, tk3, tk5, tk50, tk56, tk58, u8, h1]
    rw [shl_bit]
    refine hQ _ _ _ ?_
    simp only [RF, RFo, release, release.rels, setW, setF, ofW, h2, u64]
    simp
def spanN (f : Nat) : Nat → W4
  | 0 => ⟨0, 0, 0, 0⟩
  | n + 1 => anyW (spanN f n) (ofW (UInt8.ofNat (f + n)))
def spanW (f t : UInt8) : W4 := spanN f.toNat (t.toNat + 1 - f.toNat)
def w4A (s : W4) : List AV := [.f (u64 s.a), .f (u64 s.b), .f (u64 s.c), .f (u64 s.d)]
theorem p_anyW (s t : W4) : PC Tryd.prog 26 [setW s, setW t] (· = setW (anyW s t)) := p_any _ _ _ _ _ _ _ _
end Go.Proofs
