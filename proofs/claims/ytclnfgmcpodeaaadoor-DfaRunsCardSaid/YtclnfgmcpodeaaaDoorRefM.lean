/-
  Walks and plain laws towards the statements of this seat (RefM). Conditions: those that each theorem names.
-/
import Derived.Test.YtclnfgmcpodeaaaDoorSetH
import Derived.Test.YtclnfgmcpodeaaaDoorBase
set_option linter.unusedVariables false
set_option linter.unusedSimpArgs false
namespace Go.Proofs
open Go Go.Fw
set_option maxHeartbeats 4000000
/- the sets that are asked for, byte by byte -/
theorem bit_nat (m : Nat) (hm : m < 64) : (bitW m).toNat = 2 ^ m := by
  unfold bitW
  rw [UInt64.toNat_ofNat', Nat.mod_eq_of_lt (Nat.pow_lt_pow_right (by decide) hm)]
theorem p_power (n : Nat) (hn : n < 64) : PC Tryd.prog 58 [.v (.int .i64 n)] (· = u64 (bitW n)) := by
  refine PC.in 1000 Tryd.func58 (by kernel_rfl) rfl (by kernel_rfl) fun Ph Ps E Q hE hQ => ?_
  simp only [Tryd.f58, AWn, AWg, AWc, AWi, AWx, AWd, exitTo, slots, aEnd, aOut, jAV, aRet, retAV, tupOf, RF, RFo, release, release.rels, aop, ev, evs, evo, evl, constAV, strip, lk, guardOf, gd, Ja, Jb, Jc, St.put, Jd, Je, Jf, AV.s, AV.cells, FV.cells, AV.one, FV.okE, hset, hdel, aMove, aBin, resV, bopV, bopInt, bopStr, bopBool, aPick, aNot, aNeg, aXor, aConv, rdSl, aNil, newCells, aAlloc, aBox, ldAgg, aLoad, aStore, aStoreRow, writeAt, fldAt, aFieldAddr, partOf, aField, idxAddrE, arrAddrE, aIndexAddr, arrIdx, aIndex, bnds, slStr, slF, slO, aSlice, aExtract, bldParts, aggRes, aBuild, arrFs, bslParts, bslRes, bslE, aBuildSlice, mkSl, aMakeSlice, aLen, apRow, apE, apT, aAppend, aRange, nextS, aNext, aMkFunc, aCallV, VX, VXg, VXk, VXc, VXf, VXz, VQ, VQg, VQk, VQc, VQf, VQz, qk, pickT, putT, lks, tmpsOf, guardT, Op.operands, Call.operands, Jg, Option.toArray, Jh, Ji, Nat.reduceBEq, Nat.reduceAdd, Nat.reduceSub, Nat.reduceMul, Jj, Jk, Jl, Jm, Jn, Jo, Jp, Jq, Jr, Js, Jt, Ju, Jv, Jw, Jx, reduceIte, Nat.reduceLT, Nat.reduceLeDiff, Jy, reduceCtorEq, Jz, Ka, Kb, Kc, Kd, Ke, Kf, Kg, Kh, Ki, Kj, Kk, Kl, Km, Kn, Ko, Kp, Kq, Int.reduceLT, Int.reduceLE, Int.reduceGT, Int.reduceGE, Int.reduceAdd, Int.reduceSub, Int.reduceMul, Int.reduceNeg, Int.reduceBEq, Int.reduceEq, Int.reduceToNat, Kr, List.replicate_succ, Ks, Kt, Ku, Kv, renH, delAll, shift, rn, AO.ren, AV.ren, AV.rens, implies_true, pk0, tk3, tk56]
  refine AL.ind (X := Nat) 1000 (fun j => j ≤ n) (fun j => n - j)
    (fun j => ⟨[(0, .s (.int .i64 n)), (3, .s (.int .u64 (2 ^ j : Nat))), (4, .s (.int .i64 j))], [], 0⟩) 0 (Nat.zero_le _) ?_ ?_
  · (refine Imp.of ([]) hE ?_; simp only [subAll, fixAll, subT, subH, apartH, apart1, rn, lk, AV.ren, AV.rens, AV.und, AV.unds, AO.ren, AO.und, Nat.reduceBEq, beq_self_eq_true, Nat.reduceLT, Nat.reduceLeDiff, true_and, and_true, and_self, Option.some.injEq, ne_eq, not_true_eq_false, not_false_eq_true, Nat.reduceEqDiff, Nat.le_refl, AV.s, hE])
    exact ⟨rfl, rfl⟩
  · intro j hj ih
    have hp : 2 ^ j < 2 ^ 64 := Nat.pow_lt_pow_right (by decide) (by omega)
    by_cases hlt : j < n
    · have hp1 : 2 ^ (j + 1) < 2 ^ 64 := Nat.pow_lt_pow_right (by decide) (by omega)
      have e1 : IntKind.u64.wrap (2 * ((2 ^ j : Nat) : Int)) = ((2 ^ (j + 1) : Nat) : Int) := by
        have : 2 ^ (j + 1) = 2 ^ j * 2 := Nat.pow_succ ..
        generalize 2 ^ (j + 1) = q at hp1 this ⊢
        generalize 2 ^ j = p at this ⊢
        rw [wrap_u64 (by omega) (by omega)]
        omega
      have e2 : IntKind.i64.wrap ((j : Int) + 1) = ((j + 1 : Nat) : Int) := by rw [wrap_i64 (by omega) (by omega)]; omega
      simp only [Tryd.f58, AWn, AWg, AWc, AWi, AWx, AWd, exitTo, slots, aEnd, aOut, jAV, aRet, retAV, tupOf, RF, RFo, release, release.rels, aop, ev, evs, evo, evl, constAV, strip, lk, guardOf, gd, Ja, Jb, Jc, St.put, Jd, Je, Jf, AV.s, AV.cells, FV.cells, AV.one, FV.okE, hset, hdel, aMove, aBin, resV, bopV, bopInt, bopStr, bopBool, aPick, aNot, aNeg, aXor, aConv, rdSl, aNil, newCells, aAlloc, aBox, ldAgg, aLoad, aStore, aStoreRow, writeAt, fldAt, aFieldAddr, partOf, aField, idxAddrE, arrAddrE, aIndexAddr, arrIdx, aIndex, bnds, slStr, slF, slO, aSlice, aExtract, bldParts, aggRes, aBuild, arrFs, bslParts, bslRes, bslE, aBuildSlice, mkSl, aMakeSlice, aLen, apRow, apE, apT, aAppend, aRange, nextS, aNext, aMkFunc, aCallV, VX, VXg, VXk, VXc, VXf, VXz, VQ, VQg, VQk, VQc, VQf, VQz, qk, pickT, putT, lks, tmpsOf, guardT, Op.operands, Call.operands, Jg, Option.toArray, Jh, Ji, Nat.reduceBEq, Nat.reduceAdd, Nat.reduceSub, Nat.reduceMul, Jj, Jk, Jl, Jm, Jn, Jo, Jp, Jq, Jr, Js, Jt, Ju, Jv, Jw, Jx, reduceIte, Nat.reduceLT, Nat.reduceLeDiff, Jy, reduceCtorEq, Jz, Ka, Kb, Kc, Kd, Ke, Kf, Kg, Kh, Ki, Kj, Kk, Kl, Km, Kn, Ko, Kp, Kq, Int.reduceLT, Int.reduceLE, Int.reduceGT, Int.reduceGE, Int.reduceAdd, Int.reduceSub, Int.reduceMul, Int.reduceNeg, Int.reduceBEq, Int.reduceEq, Int.reduceToNat, Kr, List.replicate_succ, Ks, Kt, Ku, Kv, renH, delAll, shift, rn, AO.ren, AV.ren, AV.rens, implies_true, pk0, tk3, tk56, hlt, e1, e2]
      refine ih (j + 1) _ (by omega) (by omega) ?_
      (refine Imp.of ([]) hE ?_; simp only [subAll, fixAll, subT, subH, apartH, apart1, rn, lk, AV.ren, AV.rens, AV.und, AV.unds, AO.ren, AO.und, Nat.reduceBEq, beq_self_eq_true, Nat.reduceLT, Nat.reduceLeDiff, true_and, and_true, and_self, Option.some.injEq, ne_eq, not_true_eq_false, not_false_eq_true, Nat.reduceEqDiff, Nat.le_refl, AV.s, hE])
    · have hj' : j = n := by omega
      subst hj'
      simp only [Tryd.f58, AWn, AWg, AWc, AWi, AWx, AWd, exitTo, slots, aEnd, aOut, jAV, aRet, retAV, tupOf, RF, RFo, release, release.rels, aop, ev, evs, evo, evl, constAV, strip, lk, guardOf, gd, Ja, Jb, Jc, St.put, Jd, Je, Jf, AV.s, AV.cells, FV.cells, AV.one, FV.okE, hset, hdel, aMove, aBin, resV, bopV, bopInt, bopStr, bopBool, aPick, aNot, aNeg, aXor, aConv, rdSl, aNil, newCells, aAlloc, aBox, ldAgg, aLoad, aStore, aStoreRow, writeAt, fldAt, aFieldAddr, partOf, aField, idxAddrE, arrAddrE, aIndexAddr, arrIdx, aIndex, bnds, slStr, slF, slO, aSlice, aExtract, bldParts, aggRes, aBuild, arrFs, bslParts, bslRes, bslE, aBuildSlice, mkSl, aMakeSlice, aLen, apRow, apE, apT, aAppend, aRange, nextS, aNext, aMkFunc, aCallV, VX, VXg, VXk, VXc, VXf, VXz, VQ, VQg, VQk, VQc, VQf, VQz, qk, pickT, putT, lks, tmpsOf, guardT, Op.operands, Call.operands, Jg, Option.toArray, Jh, Ji, Nat.reduceBEq, Nat.reduceAdd, Nat.reduceSub, Nat.reduceMul, Jj, Jk, Jl, Jm, Jn, Jo, Jp, Jq, Jr, Js, Jt, Ju, Jv, Jw, Jx, reduceIte, Nat.reduceLT, Nat.reduceLeDiff, Jy, reduceCtorEq, Jz, Ka, Kb, Kc, Kd, Ke, Kf, Kg, Kh, Ki, Kj, Kk, Kl, Km, Kn, Ko, Kp, Kq, Int.reduceLT, Int.reduceLE, Int.reduceGT, Int.reduceGE, Int.reduceAdd, Int.reduceSub, Int.reduceMul, Int.reduceNeg, Int.reduceBEq, Int.reduceEq, Int.reduceToNat, Kr, List.replicate_succ, Ks, Kt, Ku, Kv, renH, delAll, shift, rn, AO.ren, AV.ren, AV.rens, implies_true, pk0, tk3, tk56, hlt]
      exact hQ _ _ _ ⟨trivial, by rw [u64, bit_nat j hn]⟩
/-- a byte's bit, added to a set's words -/
def addW (s : W4) (b : Nat) : W4 := ⟨if b / 64 = 0 then s.a + bitW (b % 64) else s.a, if b / 64 = 1 then s.b + bitW (b % 64) else s.b, if b / 64 = 2 then s.c + bitW (b % 64) else s.c, if b / 64 = 3 then s.d + bitW (b % 64) else s.d⟩
def makeN (f : Nat → Bool) : Nat → W4
  | 0 => ⟨0, 0, 0, 0⟩
  | j + 1 => if f j = true then addW (makeN f j) j else makeN f j
theorem u64_add (a b : UInt64) : IntKind.u64.wrap ((a.toNat : Int) + (b.toNat : Int)) = ((a + b).toNat : Int) := by
  rw [UInt64.toNat_add]
  show ((((a.toNat : Int) + (b.toNat : Int)) % 18446744073709551616 : Int)) = _
  omega
theorem p_make (l : List Bool) (hl : l.length = 256) : PC Tryd.prog 27 [.sl 1 (l.map boolF)] (· = setW (makeN (fun j => l.getD j false) 256)) := by
  refine PC.in 1000 Tryd.func27 (by kernel_rfl) rfl (by kernel_rfl) fun Ph Ps E Q hE hQ => ?_
  simp only [Tryd.f27, AWn, AWg, AWc, AWi, AWx, AWd, exitTo, slots, aEnd, aOut, jAV, aRet, retAV, tupOf, RF, RFo, release, release.rels, aop, ev, evs, evo, evl, constAV, strip, lk, guardOf, gd, Ja, Jb, Jc, St.put, Jd, Je, Jf, AV.s, AV.cells, FV.cells, AV.one, FV.okE, hset, hdel, aMove, aBin, resV, bopV, bopInt, bopStr, bopBool, aPick, aNot, aNeg, aXor, aConv, rdSl, aNil, newCells, aAlloc, aBox, ldAgg, aLoad, aStore, aStoreRow, writeAt, fldAt, aFieldAddr, partOf, aField, idxAddrE, arrAddrE, aIndexAddr, arrIdx, aIndex, bnds, slStr, slF, slO, aSlice, aExtract, bldParts, aggRes, aBuild, arrFs, bslParts, bslRes, bslE, aBuildSlice, mkSl, aMakeSlice, aLen, apRow, apE, apT, aAppend, aRange, nextS, aNext, aMkFunc, aCallV, VX, VXg, VXk, VXc, VXf, VXz, VQ, VQg, VQk, VQc, VQf, VQz, qk, pickT, putT, lks, tmpsOf, guardT, Op.operands, Call.operands, Jg, Option.toArray, Jh, Ji, Nat.reduceBEq, Nat.reduceAdd, Nat.reduceSub, Nat.reduceMul, Jj, Jk, Jl, Jm, Jn, Jo, Jp, Jq, Jr, Js, Jt, Ju, Jv, Jw, Jx, reduceIte, Nat.reduceLT, Nat.reduceLeDiff, Jy, reduceCtorEq, Jz, Ka, Kb, Kc, Kd, Ke, Kf, Kg, Kh, Ki, Kj, Kk, Kl, Km, Kn, Ko, Kp, Kq, Int.reduceLT, Int.reduceLE, Int.reduceGT, Int.reduceGE, Int.reduceAdd, Int.reduceSub, Int.reduceMul, Int.reduceNeg, Int.reduceBEq, Int.reduceEq, Int.reduceToNat, Kr, List.replicate_succ, Ks, Kt, Ku, Kv, renH, delAll, shift, rn, AO.ren, AV.ren, AV.rens, implies_true, pk0, tk2, tk3, tk4, tk24, tk56, tk58]
  refine AL.ind (X := Nat) 1000 (fun j => j ≤ 256) (fun j => 256 - j)
    (fun j => ⟨[(0, .f (.sl 1 (l.map boolF))), (2, .ptr 0 0), (3, .ptr 1 0), (4, .s (.int .i64 j))], [(0, .cells 58 (w4A ⟨0, 0, 0, 0⟩)), (1, .cells 58 (w4A (makeN (fun j => l.getD j false) j)))], 2⟩) 0 (by decide) ?_ ?_
  · unfold w4A u64
    (refine Imp.of ([]) hE ?_; simp only [subAll, fixAll, subT, subH, apartH, apart1, rn, lk, AV.ren, AV.rens, AV.und, AV.unds, AO.ren, AO.und, Nat.reduceBEq, beq_self_eq_true, Nat.reduceLT, Nat.reduceLeDiff, true_and, and_true, and_self, Option.some.injEq, ne_eq, not_true_eq_false, not_false_eq_true, Nat.reduceEqDiff, Nat.le_refl, AV.s, hE])
    exact ⟨rfl, rfl, rfl⟩
  · intro j hj ih
    by_cases hlt : (j : Int) < 256
    · have wq : IntKind.i64.wrap ((j : Int) + 1) = ((j + 1 : Nat) : Int) := by rw [wrap_i64 (by omega) (by omega)]; omega
      have hb : j < 256 := by omega
      have hjl : j < (l.map boolF).length := by simp; omega
      have hq : (((j : Int).tdiv 64) = 0 ∧ j / 64 = 0) ∨ (((j : Int).tdiv 64) = 1 ∧ j / 64 = 1) ∨ (((j : Int).tdiv 64) = 2 ∧ j / 64 = 2) ∨ (((j : Int).tdiv 64) = 3 ∧ j / 64 = 3) := by
        have h : ∀ n : Fin 256, (((n.val : Int).tdiv 64) = 0 ∧ n.val / 64 = 0) ∨ (((n.val : Int).tdiv 64) = 1 ∧ n.val / 64 = 1) ∨ (((n.val : Int).tdiv 64) = 2 ∧ n.val / 64 = 2) ∨ (((n.val : Int).tdiv 64) = 3 ∧ n.val / 64 = 3) := by decide +kernel
        exact h ⟨j, hb⟩
      have hm : (j : Int).tmod 64 = ((j % 64 : Nat) : Int) := rfl
      simp only [Tryd.f27, AWn, AWg, AWc, AWi, AWx, AWd, exitTo, slots, aEnd, aOut, jAV, aRet, retAV, tupOf, RF, RFo, release, release.rels, aop, ev, evs, evo, evl, constAV, strip, lk, guardOf, gd, Ja, Jb, Jc, St.put, Jd, Je, Jf, AV.s, AV.cells, FV.cells, AV.one, FV.okE, hset, hdel, aMove, aBin, resV, bopV, bopInt, bopStr, bopBool, aPick, aNot, aNeg, aXor, aConv, rdSl, aNil, newCells, aAlloc, aBox, ldAgg, aLoad, aStore, aStoreRow, writeAt, fldAt, aFieldAddr, partOf, aField, idxAddrE, arrAddrE, aIndexAddr, arrIdx, aIndex, bnds, slStr, slF, slO, aSlice, aExtract, bldParts, aggRes, aBuild, arrFs, bslParts, bslRes, bslE, aBuildSlice, mkSl, aMakeSlice, aLen, apRow, apE, apT, aAppend, aRange, nextS, aNext, aMkFunc, aCallV, VX, VXg, VXk, VXc, VXf, VXz, VQ, VQg, VQk, VQc, VQf, VQz, qk, pickT, putT, lks, tmpsOf, guardT, Op.operands, Call.operands, Jg, Option.toArray, Jh, Ji, Nat.reduceBEq, Nat.reduceAdd, Nat.reduceSub, Nat.reduceMul, Jj, Jk, Jl, Jm, Jn, Jo, Jp, Jq, Jr, Js, Jt, Ju, Jv, Jw, Jx, reduceIte, Nat.reduceLT, Nat.reduceLeDiff, Jy, reduceCtorEq, Jz, Ka, Kb, Kc, Kd, Ke, Kf, Kg, Kh, Ki, Kj, Kk, Kl, Km, Kn, Ko, Kp, Kq, Int.reduceLT, Int.reduceLE, Int.reduceGT, Int.reduceGE, Int.reduceAdd, Int.reduceSub, Int.reduceMul, Int.reduceNeg, Int.reduceBEq, Int.reduceEq, Int.reduceToNat, Kr, List.replicate_succ, Ks, Kt, Ku, Kv, renH, delAll, shift, rn, AO.ren, AV.ren, AV.rens, implies_true, pk0, tk2, tk3, tk4, tk24, tk56, tk58, hlt, hl, getD_bool, hb]
      refine ⟨fun h => ?_, fun h => ?_⟩
      · refine ADr.intro 11 1000 (by kernel_rfl) (by decide) ?_
        have hs : makeN (fun j => l.getD j false) (j + 1) = addW (makeN (fun j => l.getD j false) j) j := by rw [makeN, if_pos h]
        generalize makeN (fun j => l.getD j false) j = s at hs ⊢
        rcases hq with ⟨h1, h2⟩ | ⟨h1, h2⟩ | ⟨h1, h2⟩ | ⟨h1, h2⟩
        all_goals
          simp only [Tryd.f27, AWn, AWg, AWc, AWi, AWx, AWd, exitTo, slots, aEnd, aOut, jAV, aRet, retAV, tupOf, RF, RFo, release, release.rels, aop, ev, evs, evo, evl, constAV, strip, lk, guardOf, gd, Ja, Jb, Jc, St.put, Jd, Je, Jf, AV.s, AV.cells, FV.cells, AV.one, FV.okE, hset, hdel, aMove, aBin, resV, bopV, bopInt, bopStr, bopBool, aPick, aNot, aNeg, aXor, aConv, rdSl, aNil, newCells, aAlloc, aBox, ldAgg, aLoad, aStore, aStoreRow, writeAt, fldAt, aFieldAddr, partOf, aField, idxAddrE, arrAddrE, aIndexAddr, arrIdx, aIndex, bnds, slStr, slF, slO, aSlice, aExtract, bldParts, aggRes, aBuild, arrFs, bslParts, bslRes, bslE, aBuildSlice, mkSl, aMakeSlice, aLen, apRow, apE, apT, aAppend, aRange, nextS, aNext, aMkFunc, aCallV, VX, VXg, VXk, VXc, VXf, VXz, VQ, VQg, VQk, VQc, VQf, VQz, qk, pickT, putT, lks, tmpsOf, guardT, Op.operands, Call.operands, Jg, Option.toArray, Jh, Ji, Nat.reduceBEq, Nat.reduceAdd, Nat.reduceSub, Nat.reduceMul, Jj, Jk, Jl, Jm, Jn, Jo, Jp, Jq, Jr, Js, Jt, Ju, Jv, Jw, Jx, reduceIte, Nat.reduceLT, Nat.reduceLeDiff, Jy, reduceCtorEq, Jz, Ka, Kb, Kc, Kd, Ke, Kf, Kg, Kh, Ki, Kj, Kk, Kl, Km, Kn, Ko, Kp, Kq, Int.reduceLT, Int.reduceLE, Int.reduceGT, Int.reduceGE, Int.reduceAdd, Int.reduceSub, Int.reduceMul, Int.reduceNeg, Int.reduceBEq, Int.reduceEq, Int.reduceToNat, Kr, List.replicate_succ, Ks, Kt, Ku, Kv, renH, delAll, shift, rn, AO.ren, AV.ren, AV.rens, implies_true, pk0, tk2, tk3, tk4, tk24, tk56, tk58, w4A, h1, hm, u64, u64_add]
          refine VQp.mk [.v (.int .i64 ((j % 64 : Nat) : Int))] _ (fun _ => ⟨trivial, by kernel_rfl, rfl, p_power (j % 64) (Nat.mod_lt _ (by decide))⟩) ?_
          simp only [Tryd.f27, AWn, AWg, AWc, AWi, AWx, AWd, exitTo, slots, aEnd, aOut, jAV, aRet, retAV, tupOf, RF, RFo, release, release.rels, aop, ev, evs, evo, evl, constAV, strip, lk, guardOf, gd, Ja, Jb, Jc, St.put, Jd, Je, Jf, AV.s, AV.cells, FV.cells, AV.one, FV.okE, hset, hdel, aMove, aBin, resV, bopV, bopInt, bopStr, bopBool, aPick, aNot, aNeg, aXor, aConv, rdSl, aNil, newCells, aAlloc, aBox, ldAgg, aLoad, aStore, aStoreRow, writeAt, fldAt, aFieldAddr, partOf, aField, idxAddrE, arrAddrE, aIndexAddr, arrIdx, aIndex, bnds, slStr, slF, slO, aSlice, aExtract, bldParts, aggRes, aBuild, arrFs, bslParts, bslRes, bslE, aBuildSlice, mkSl, aMakeSlice, aLen, apRow, apE, apT, aAppend, aRange, nextS, aNext, aMkFunc, aCallV, VX, VXg, VXk, VXc, VXf, VXz, VQ, VQg, VQk, VQc, VQf, VQz, qk, pickT, putT, lks, tmpsOf, guardT, Op.operands, Call.operands, Jg, Option.toArray, Jh, Ji, Nat.reduceBEq, Nat.reduceAdd, Nat.reduceSub, Nat.reduceMul, Jj, Jk, Jl, Jm, Jn, Jo, Jp, Jq, Jr, Js, Jt, Ju, Jv, Jw, Jx, reduceIte, Nat.reduceLT, Nat.reduceLeDiff, Jy, reduceCtorEq, Jz, Ka, Kb, Kc, Kd, Ke, Kf, Kg, Kh, Ki, Kj, Kk, Kl, Km, Kn, Ko, Kp, Kq, Int.reduceLT, Int.reduceLE, Int.reduceGT, Int.reduceGE, Int.reduceAdd, Int.reduceSub, Int.reduceMul, Int.reduceNeg, Int.reduceBEq, Int.reduceEq, Int.reduceToNat, Kr, List.replicate_succ, Ks, Kt, Ku, Kv, renH, delAll, shift, rn, AO.ren, AV.ren, AV.rens, implies_true, pk0, tk2, tk3, tk4, tk24, tk56, tk58, w4A, h1, hm, u64, u64_add, wq]
          refine ih (j + 1) _ (by omega) (by omega) ?_
          rw [hs]
          simp only [w4A, u64, addW, h2, if_true, Nat.reduceEqDiff, if_false]
          (refine Imp.of ([]) hE ?_; simp only [subAll, fixAll, subT, subH, apartH, apart1, rn, lk, AV.ren, AV.rens, AV.und, AV.unds, AO.ren, AO.und, Nat.reduceBEq, beq_self_eq_true, Nat.reduceLT, Nat.reduceLeDiff, true_and, and_true, and_self, Option.some.injEq, ne_eq, not_true_eq_false, not_false_eq_true, Nat.reduceEqDiff, Nat.le_refl, AV.s, hE])
      · have hs : makeN (fun j => l.getD j false) (j + 1) = makeN (fun j => l.getD j false) j := by rw [makeN, if_neg (by simpa using h)]
        simp only [Tryd.f27, AWn, AWg, AWc, AWi, AWx, AWd, exitTo, slots, aEnd, aOut, jAV, aRet, retAV, tupOf, RF, RFo, release, release.rels, aop, ev, evs, evo, evl, constAV, strip, lk, guardOf, gd, Ja, Jb, Jc, St.put, Jd, Je, Jf, AV.s, AV.cells, FV.cells, AV.one, FV.okE, hset, hdel, aMove, aBin, resV, bopV, bopInt, bopStr, bopBool, aPick, aNot, aNeg, aXor, aConv, rdSl, aNil, newCells, aAlloc, aBox, ldAgg, aLoad, aStore, aStoreRow, writeAt, fldAt, aFieldAddr, partOf, aField, idxAddrE, arrAddrE, aIndexAddr, arrIdx, aIndex, bnds, slStr, slF, slO, aSlice, aExtract, bldParts, aggRes, aBuild, arrFs, bslParts, bslRes, bslE, aBuildSlice, mkSl, aMakeSlice, aLen, apRow, apE, apT, aAppend, aRange, nextS, aNext, aMkFunc, aCallV, VX, VXg, VXk, VXc, VXf, VXz, VQ, VQg, VQk, VQc, VQf, VQz, qk, pickT, putT, lks, tmpsOf, guardT, Op.operands, Call.operands, Jg, Option.toArray, Jh, Ji, Nat.reduceBEq, Nat.reduceAdd, Nat.reduceSub, Nat.reduceMul, Jj, Jk, Jl, Jm, Jn, Jo, Jp, Jq, Jr, Js, Jt, Ju, Jv, Jw, Jx, reduceIte, Nat.reduceLT, Nat.reduceLeDiff, Jy, reduceCtorEq, Jz, Ka, Kb, Kc, Kd, Ke, Kf, Kg, Kh, Ki, Kj, Kk, Kl, Km, Kn, Ko, Kp, Kq, Int.reduceLT, Int.reduceLE, Int.reduceGT, Int.reduceGE, Int.reduceAdd, Int.reduceSub, Int.reduceMul, Int.reduceNeg, Int.reduceBEq, Int.reduceEq, Int.reduceToNat, Kr, List.replicate_succ, Ks, Kt, Ku, Kv, renH, delAll, shift, rn, AO.ren, AV.ren, AV.rens, implies_true, pk0, tk2, tk3, tk4, tk24, tk56, tk58, wq]
        refine ih (j + 1) _ (by omega) (by omega) ?_
        rw [hs]
        simp only [w4A, u64]
        (refine Imp.of ([]) hE ?_; simp only [subAll, fixAll, subT, subH, apartH, apart1, rn, lk, AV.ren, AV.rens, AV.und, AV.unds, AO.ren, AO.und, Nat.reduceBEq, beq_self_eq_true, Nat.reduceLT, Nat.reduceLeDiff, true_and, and_true, and_self, Option.some.injEq, ne_eq, not_true_eq_false, not_false_eq_true, Nat.reduceEqDiff, Nat.le_refl, AV.s, hE])
    · have hj' : j = 256 := by omega
      subst hj'
      simp only [Tryd.f27, AWn, AWg, AWc, AWi, AWx, AWd, exitTo, slots, aEnd, aOut, jAV, aRet, retAV, tupOf, RF, RFo, release, release.rels, aop, ev, evs, evo, evl, constAV, strip, lk, guardOf, gd, Ja, Jb, Jc, St.put, Jd, Je, Jf, AV.s, AV.cells, FV.cells, AV.one, FV.okE, hset, hdel, aMove, aBin, resV, bopV, bopInt, bopStr, bopBool, aPick, aNot, aNeg, aXor, aConv, rdSl, aNil, newCells, aAlloc, aBox, ldAgg, aLoad, aStore, aStoreRow, writeAt, fldAt, aFieldAddr, partOf, aField, idxAddrE, arrAddrE, aIndexAddr, arrIdx, aIndex, bnds, slStr, slF, slO, aSlice, aExtract, bldParts, aggRes, aBuild, arrFs, bslParts, bslRes, bslE, aBuildSlice, mkSl, aMakeSlice, aLen, apRow, apE, apT, aAppend, aRange, nextS, aNext, aMkFunc, aCallV, VX, VXg, VXk, VXc, VXf, VXz, VQ, VQg, VQk, VQc, VQf, VQz, qk, pickT, putT, lks, tmpsOf, guardT, Op.operands, Call.operands, Jg, Option.toArray, Jh, Ji, Nat.reduceBEq, Nat.reduceAdd, Nat.reduceSub, Nat.reduceMul, Jj, Jk, Jl, Jm, Jn, Jo, Jp, Jq, Jr, Js, Jt, Ju, Jv, Jw, Jx, reduceIte, Nat.reduceLT, Nat.reduceLeDiff, Jy, reduceCtorEq, Jz, Ka, Kb, Kc, Kd, Ke, Kf, Kg, Kh, Ki, Kj, Kk, Kl, Km, Kn, Ko, Kp, Kq, Int.reduceLT, Int.reduceLE, Int.reduceGT, Int.reduceGE, Int.reduceAdd, Int.reduceSub, Int.reduceMul, Int.reduceNeg, Int.reduceBEq, Int.reduceEq, Int.reduceToNat, Kr, List.replicate_succ, Ks, Kt, Ku, Kv, renH, delAll, shift, rn, AO.ren, AV.ren, AV.rens, implies_true, pk0, tk2, tk3, tk4, tk24, tk56, tk58, hlt, w4A, u64]
      exact hQ _ _ _ ⟨⟨trivial, trivial, trivial, trivial, trivial⟩, rfl⟩
theorem word_add (s : W4) (b i : Nat) : i < 4 → wordN (addW s b) i = if b / 64 = i then wordN s i + bitW (b % 64) else wordN s i := by
  intro hi
  rcases (by omega : i = 0 ∨ i = 1 ∨ i = 2 ∨ i = 3) with rfl | rfl | rfl | rfl <;> rfl
theorem add_bit (w : UInt64) (m : Nat) (hm : m < 64) (hw : w.toNat < 2 ^ m) (k : Nat) : (w + bitW m).toNat.testBit k = (w.toNat.testBit k || decide (k = m)) := by
  have h64 : 2 ^ m * 2 ≤ 2 ^ 64 := by rw [← Nat.pow_succ]; exact Nat.pow_le_pow_right (by decide) (by omega)
  rw [UInt64.toNat_add, bit_nat m hm, Nat.mod_eq_of_lt (by omega), Nat.add_comm, show 2 ^ m + w.toNat = 2 ^ m * 1 + w.toNat by omega, Nat.two_pow_add_eq_or_of_lt hw, Nat.mul_one, Nat.testBit_or, Nat.testBit_two_pow]
  rw [Bool.or_comm]
  congr 1
  simp only [decide_eq_decide]
  exact eq_comm
theorem has_make (f : Nat → Bool) : ∀ j, j ≤ 256 → ∀ n, n < 256 → hasN (makeN f j) n = (decide (n < j) && f n) := by
  intro j
  induction j with
  | zero => intro _ n hn; simp [makeN, has_zero]
  | succ j ih =>
    intro hj n hn
    have ih := ih (by omega)
    rw [makeN]
    split
    · rename_i hf
      have hlow : (wordN (makeN f j) (j / 64)).toNat < 2 ^ (j % 64) := by
        apply Nat.lt_pow_two_of_testBit
        intro i hi
        by_cases h64 : i < 64
        · have := ih (64 * (j / 64) + i) (by omega)
          rw [hasN_bit, show (64 * (j / 64) + i) / 64 = j / 64 by omega, show (64 * (j / 64) + i) % 64 = i by omega] at this
          rw [this, decide_eq_false (by omega)]; rfl
        · exact Nat.testBit_lt_two_pow (Nat.lt_of_lt_of_le (UInt64.toNat_lt _) (Nat.pow_le_pow_right (by decide) (by omega)))
      have ih' := ih n hn
      rw [hasN_bit] at ih' ⊢
      rw [word_add _ _ _ (by omega)]
      split
      · rename_i he
        rw [he] at hlow
        rw [add_bit _ _ (Nat.mod_lt _ (by decide)) hlow, ih']
        by_cases hnj : n = j
        · subst hnj; simp [hf]
        · have h1 : ¬ n % 64 = j % 64 := by omega
          have h2 : decide (n < j + 1) = decide (n < j) := by simp only [decide_eq_decide]; omega
          rw [h2, decide_eq_false h1, Bool.or_false]
      · rename_i he
        rw [ih']
        have h2 : decide (n < j + 1) = decide (n < j) := by
          have : n ≠ j := fun h => he (by rw [h])
          simp only [decide_eq_decide]; omega
        rw [h2]
    · rename_i hf
      rw [ih n hn]
      by_cases hnj : n = j
      · subst hnj; simp at hf; simp [hf]
      · have h2 : decide (n < j + 1) = decide (n < j) := by simp only [decide_eq_decide]; omega
        rw [h2]
def rowB (f : Nat → Bool) (j : Nat) : List Bool := (List.range 256).map fun n => decide (n < j) && f n
theorem rowB_set (f : Nat → Bool) (j : Nat) (hj : j < 256) : (rowB f j).set j (f j) = rowB f (j + 1) := by
  apply List.ext_getElem
  · simp [rowB]
  · intro i h1 h2
    simp only [rowB, List.getElem_set, List.getElem_map, List.getElem_range]
    split
    · rename_i h; subst h; simp
    · rename_i h
      have : decide (i < j + 1) = decide (i < j) := by simp only [decide_eq_decide]; omega
      rw [this]
theorem rowB_zero (f : Nat → Bool) : List.replicate 256 (FV.v (.bool false)) = (rowB f 0).map boolF := by
  refine (List.eq_replicate_iff.2 ⟨by simp [rowB], fun x hx => ?_⟩).symm
  simp only [rowB, List.mem_map, List.mem_range] at hx
  obtain ⟨b, ⟨n, hn, rfl⟩, rfl⟩ := hx
  simp [boolF]
theorem rowB_set' (f : Nat → Bool) (j : Nat) (b : Bool) : ((rowB f j).map boolF).set j (.v (.bool b)) = ((rowB f j).set j b).map boolF := by
  rw [List.map_set]; rfl
theorem rowB_getD (f : Nat → Bool) (n : Nat) (hn : n < 256) : (rowB f 256).getD n false = f n := by
  simp [rowB, List.getD, hn]
end Go.Proofs
