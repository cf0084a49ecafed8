/-
  Walks and plain laws towards the statements of this seat (Dfa2). Conditions: those that each theorem names.
-/
import Derived.Test.YtclnfgmcpodeaaaDoorDfa1
import Derived.Test.YtclnfgmcpodeaaaDoorSh2
set_option linter.unusedVariables false
set_option linter.unusedSimpArgs false
namespace Go.Proofs
open Go Go.Fw
set_option maxHeartbeats 4000000
/-- an automaton of one way -/
structure Dfa where
  cls : List Int
  next : List (List Int)
  fin : List Bool
def rowI (r : List Int) : FV := .sl 1 (r.map intF)
def dfaV (d : Dfa) : FV := .agg [.sl 1 (d.cls.map intF), .sl 1 (d.next.map rowI), .sl 1 (d.fin.map boolF)]
/-- ints that are ints, rows that are no longer than they may be -/
structure Dfa.Wf (d : Dfa) : Prop where
  cls : ∀ k ∈ d.cls, (Lit.int .i64 k).wf = true
  clen : d.cls.length ≤ maxLen
  nlen : d.next.length ≤ maxLen
  flen : d.fin.length ≤ maxLen
  rows : ∀ r ∈ d.next, (∀ k ∈ r, (Lit.int .i64 k).wf = true) ∧ r.length ≤ maxLen
def rowOK (n m : Nat) (r : List Int) : Bool := decide (r.length = m) && !decide (Lib.minOf r < 0) && !decide (Lib.maxOf r ≥ n)
def okD (d : Dfa) : Bool := match setsR d.cls with
  | none => false
  | some p => decide (1 ≤ d.next.length) && decide (d.next.length ≤ 1024) && decide (d.fin.length = d.next.length) && d.next.all (rowOK d.next.length p.length)
def checkR (d : Dfa) : Int := if okD d = true then 0 else 1
theorem getD_row1 (l : List (List Int)) (j : Nat) : (l.map rowI).getD j (.v (.slice none 0 0)) = if j < l.length then rowI (l.getD j []) else .v (.slice none 0 0) := by
  simp only [List.getD, List.getElem?_map]
  by_cases h : j < l.length
  · rw [if_pos h, List.getElem?_eq_getElem h]; rfl
  · rw [if_neg h, List.getElem?_eq_none (by omega)]; rfl
theorem setsF_len : ∀ (l : List Int) (b : Nat) (acc p : List W4), setsF l b acc = some p → acc.length ≤ p.length ∧ p.length ≤ acc.length + l.length ∧ (0 < l.length → 0 < p.length)
  | [], b, acc, p, h => by simp [setsF] at h; subst h; simp
  | k :: l, b, acc, p, h => by
    rw [setsF] at h
    split at h
    · cases h
    · have := setsF_len l (b + 1) _ p h
      simp only [putK, List.length_set] at this
      split at this
      · simp at this ⊢; omega
      · simp at this ⊢; omega
theorem setsR_len {l : List Int} {p : List W4} (h : setsR l = some p) : 0 < p.length ∧ p.length ≤ 256 := by
  unfold setsR at h
  split at h
  · rename_i hl
    have := setsF_len l 0 [] p h
    simp at this
    omega
  · cases h
theorem p_check (d : Dfa) (hd : d.Wf) : PC Tryd.prog 15 [dfaV d] (· = .v (.int .i64 (checkR d))) := by
  have hm : maxLen < 9223372036854775808 := by decide
  have hnl := hd.nlen
  have hfl := hd.flen
  refine PC.in 1000 Tryd.func15 (by kernel_rfl) rfl (by kernel_rfl) fun Ph Ps E Q hE hQ => ?_
  simp only [Tryd.f15, AWn, AWg, AWc, AWi, AWx, AWd, exitTo, slots, aEnd, aOut, jAV, aRet, retAV, tupOf, RF, RFo, release, release.rels, aop, ev, evs, evo, evl, constAV, strip, lk, guardOf, gd, Ja, Jb, Jc, St.put, Jd, Je, Jf, AV.s, AV.cells, FV.cells, AV.one, FV.okE, hset, hdel, aMove, aBin, resV, bopV, bopInt, bopStr, bopBool, aPick, aNot, aNeg, aXor, aConv, rdSl, aNil, newCells, aAlloc, aBox, ldAgg, aLoad, aStore, aStoreRow, writeAt, fldAt, aFieldAddr, partOf, aField, idxAddrE, arrAddrE, aIndexAddr, arrIdx, aIndex, bnds, slStr, slF, slO, aSlice, aExtract, bldParts, aggRes, aBuild, arrFs, bslParts, bslRes, bslE, aBuildSlice, mkSl, aMakeSlice, aLen, apRow, apE, apT, aAppend, aRange, nextS, aNext, aMkFunc, aCallV, VX, VXg, VXk, VXc, VXf, VXz, VQ, VQg, VQk, VQc, VQf, VQz, qk, pickT, putT, lks, tmpsOf, guardT, Op.operands, Call.operands, Jg, Option.toArray, Jh, Ji, Nat.reduceBEq, Nat.reduceAdd, Nat.reduceSub, Nat.reduceMul, Jj, Jk, Jl, Jm, Jn, Jo, Jp, Jq, Jr, Js, Jt, Ju, Jv, Jw, Jx, reduceIte, Nat.reduceLT, Nat.reduceLeDiff, Jy, reduceCtorEq, Jz, Ka, Kb, Kc, Kd, Ke, Kf, Kg, Kh, Ki, Kj, Kk, Kl, Km, Kn, Ko, Kp, Kq, Int.reduceLT, Int.reduceLE, Int.reduceGT, Int.reduceGE, Int.reduceAdd, Int.reduceSub, Int.reduceMul, Int.reduceNeg, Int.reduceBEq, Int.reduceEq, Int.reduceToNat, Kr, List.replicate_succ, Ks, Kt, Ku, Kv, renH, delAll, shift, rn, AO.ren, AV.ren, AV.rens, implies_true, pk0, tk1, tk2, tk3, tk4, tk22, tk23, tk24, tk26, tk28, tk52, tk56, tk58, dfaV]
  refine ACall.pure [.sl 1 (d.cls.map intF)] _ (by kernel_rfl) (p_sets d.cls hd.cls) rfl trivial ?_
  rintro r rfl
  cases hs : setsR d.cls with
  | none =>
    have hr : checkR d = 1 := by simp [checkR, okD, hs]
    rw [hr] at hQ
    have e0 : ((1 : Int) != 0) = true := rfl
    simp only [Tryd.f15, AWn, AWg, AWc, AWi, AWx, AWd, exitTo, slots, aEnd, aOut, jAV, aRet, retAV, tupOf, RF, RFo, release, release.rels, aop, ev, evs, evo, evl, constAV, strip, lk, guardOf, gd, Ja, Jb, Jc, St.put, Jd, Je, Jf, AV.s, AV.cells, FV.cells, AV.one, FV.okE, hset, hdel, aMove, aBin, resV, bopV, bopInt, bopStr, bopBool, aPick, aNot, aNeg, aXor, aConv, rdSl, aNil, newCells, aAlloc, aBox, ldAgg, aLoad, aStore, aStoreRow, writeAt, fldAt, aFieldAddr, partOf, aField, idxAddrE, arrAddrE, aIndexAddr, arrIdx, aIndex, bnds, slStr, slF, slO, aSlice, aExtract, bldParts, aggRes, aBuild, arrFs, bslParts, bslRes, bslE, aBuildSlice, mkSl, aMakeSlice, aLen, apRow, apE, apT, aAppend, aRange, nextS, aNext, aMkFunc, aCallV, VX, VXg, VXk, VXc, VXf, VXz, VQ, VQg, VQk, VQc, VQf, VQz, qk, pickT, putT, lks, tmpsOf, guardT, Op.operands, Call.operands, Jg, Option.toArray, Jh, Ji, Nat.reduceBEq, Nat.reduceAdd, Nat.reduceSub, Nat.reduceMul, Jj, Jk, Jl, Jm, Jn, Jo, Jp, Jq, Jr, Js, Jt, Ju, Jv, Jw, Jx, reduceIte, Nat.reduceLT, Nat.reduceLeDiff, Jy, reduceCtorEq, Jz, Ka, Kb, Kc, Kd, Ke, Kf, Kg, Kh, Ki, Kj, Kk, Kl, Km, Kn, Ko, Kp, Kq, Int.reduceLT, Int.reduceLE, Int.reduceGT, Int.reduceGE, Int.reduceAdd, Int.reduceSub, Int.reduceMul, Int.reduceNeg, Int.reduceBEq, Int.reduceEq, Int.reduceToNat, Kr, List.replicate_succ, Ks, Kt, Ku, Kv, renH, delAll, shift, rn, AO.ren, AV.ren, AV.rens, implies_true, pk0, tk1, tk2, tk3, tk4, tk22, tk23, tk24, tk26, tk28, tk52, tk56, tk58, setsV, e0]
    exact hQ _ _ _ (by simp only [RF, RFo, release, release.rels, u64, u8, true_and, and_true, and_self])
  | some p =>
    have hp := setsR_len hs
    have e0 : ((0 : Int) != 0) = false := rfl
    have hok : okD d = (decide (1 ≤ d.next.length) && decide (d.next.length ≤ 1024) && decide (d.fin.length = d.next.length) && d.next.all (rowOK d.next.length p.length)) := by simp [okD, hs]
    have e1 : decide ((d.next.length : Int) < 1) = !decide (1 ≤ d.next.length) := by
      by_cases h : 1 ≤ d.next.length
      · rw [decide_eq_true h, decide_eq_false (by omega)]; rfl
      · rw [decide_eq_false h, decide_eq_true (by omega)]; rfl
    have e2 : decide ((d.next.length : Int) > 1024) = !decide (d.next.length ≤ 1024) := by
      by_cases h : d.next.length ≤ 1024
      · rw [decide_eq_true h, decide_eq_false (by omega)]; rfl
      · rw [decide_eq_false h, decide_eq_true (by omega)]; rfl
    have e3 : ((d.fin.length : Int) != d.next.length) = !decide (d.fin.length = d.next.length) := by
      by_cases h : d.fin.length = d.next.length
      · rw [decide_eq_true h, h]; simp
      · rw [decide_eq_false h]
        have : ¬ ((d.fin.length : Int) = d.next.length) := by omega
        simpa using this
    simp only [Tryd.f15, AWn, AWg, AWc, AWi, AWx, AWd, exitTo, slots, aEnd, aOut, jAV, aRet, retAV, tupOf, RF, RFo, release, release.rels, aop, ev, evs, evo, evl, constAV, strip, lk, guardOf, gd, Ja, Jb, Jc, St.put, Jd, Je, Jf, AV.s, AV.cells, FV.cells, AV.one, FV.okE, hset, hdel, aMove, aBin, resV, bopV, bopInt, bopStr, bopBool, aPick, aNot, aNeg, aXor, aConv, rdSl, aNil, newCells, aAlloc, aBox, ldAgg, aLoad, aStore, aStoreRow, writeAt, fldAt, aFieldAddr, partOf, aField, idxAddrE, arrAddrE, aIndexAddr, arrIdx, aIndex, bnds, slStr, slF, slO, aSlice, aExtract, bldParts, aggRes, aBuild, arrFs, bslParts, bslRes, bslE, aBuildSlice, mkSl, aMakeSlice, aLen, apRow, apE, apT, aAppend, aRange, nextS, aNext, aMkFunc, aCallV, VX, VXg, VXk, VXc, VXf, VXz, VQ, VQg, VQk, VQc, VQf, VQz, qk, pickT, putT, lks, tmpsOf, guardT, Op.operands, Call.operands, Jg, Option.toArray, Jh, Ji, Nat.reduceBEq, Nat.reduceAdd, Nat.reduceSub, Nat.reduceMul, Jj, Jk, Jl, Jm, Jn, Jo, Jp, Jq, Jr, Js, Jt, Ju, Jv, Jw, Jx, reduceIte, Nat.reduceLT, Nat.reduceLeDiff, Jy, reduceCtorEq, Jz, Ka, Kb, Kc, Kd, Ke, Kf, Kg, Kh, Ki, Kj, Kk, Kl, Km, Kn, Ko, Kp, Kq, Int.reduceLT, Int.reduceLE, Int.reduceGT, Int.reduceGE, Int.reduceAdd, Int.reduceSub, Int.reduceMul, Int.reduceNeg, Int.reduceBEq, Int.reduceEq, Int.reduceToNat, Kr, List.replicate_succ, Ks, Kt, Ku, Kv, renH, delAll, shift, rn, AO.ren, AV.ren, AV.rens, implies_true, pk0, tk1, tk2, tk3, tk4, tk22, tk23, tk24, tk26, tk28, tk52, tk56, tk58, setsV, e0, e1, e2, e3]
    refine ⟨fun h => by rw [h]; rfl, fun h => by rw [h]; rfl, fun h => ?_, fun h => ?_⟩
    · have hr : checkR d = 1 := by
        unfold checkR
        rw [hok, if_neg]
        intro hh
        simp only [Bool.and_eq_true] at hh
        rw [hh.1.1.1, hh.1.1.2, hh.1.2] at h
        simp at h
      rw [hr] at hQ
      exact hQ _ _ _ (by simp only [RF, RFo, release, release.rels, u64, u8, true_and, and_true, and_self])
    · obtain ⟨hA, hB, hC⟩ : decide (1 ≤ d.next.length) = true ∧ decide (d.next.length ≤ 1024) = true ∧ decide (d.fin.length = d.next.length) = true := by
        cases hA : decide (1 ≤ d.next.length) <;> cases hB : decide (d.next.length ≤ 1024) <;> cases hC : decide (d.fin.length = d.next.length) <;> rw [hA, hB, hC] at h <;> simp at h ⊢
      rw [hA, hB, hC] at hok
      simp only [Bool.true_and] at hok
      simp only [decide_eq_true_eq] at hA hB hC
      refine AL.ind (X := Nat) 1000 (fun j => j ≤ d.next.length ∧ ∀ i, i < j → rowOK d.next.length p.length (d.next.getD i []) = true) (fun j => d.next.length - j)
        (fun j => ⟨[(3, .f (.sl 4 (p.map setW))), (5, .s (.int .i64 d.next.length)), (35, .f (.sl 1 (d.next.map rowI))), (36, .s (.int .i64 d.next.length)), (37, .s (.int .i64 j))], [], 0⟩) 0 ⟨Nat.zero_le _, fun i hi => by omega⟩ ?_ ?_
      · (refine Imp.of ([]) hE ?_; simp only [subAll, fixAll, subT, subH, apartH, apart1, rn, lk, AV.ren, AV.rens, AV.und, AV.unds, AO.ren, AO.und, Nat.reduceBEq, beq_self_eq_true, Nat.reduceLT, Nat.reduceLeDiff, true_and, and_true, and_self, Option.some.injEq, ne_eq, not_true_eq_false, not_false_eq_true, Nat.reduceEqDiff, Nat.le_refl, AV.s, hE])
        rfl
      · rintro j ⟨hj, hall⟩ ih
        by_cases hlt : j < d.next.length
        · have wq : IntKind.i64.wrap ((j : Int) + 1) = ((j + 1 : Nat) : Int) := by rw [wrap_i64 (by omega) (by omega)]; omega
          have hget := getD_row1 d.next j
          rw [if_pos hlt] at hget
          have hmem : d.next.getD j [] ∈ d.next := by rw [List.getD, List.getElem?_eq_getElem hlt]; exact List.getElem_mem hlt
          have hrow := hd.rows _ hmem
          have hnext : rowOK d.next.length p.length (d.next.getD j []) = true → ∀ i, i < j + 1 → rowOK d.next.length p.length (d.next.getD i []) = true := by
            intro h i hi
            by_cases e : i = j
            · subst e; exact h
            · exact hall i (by omega)
          have hfail : rowOK d.next.length p.length (d.next.getD j []) = false → checkR d = 1 := by
            intro h
            unfold checkR
            rw [hok, if_neg]
            intro hh
            rw [List.all_eq_true] at hh
            rw [hh _ hmem] at h
            cases h
          generalize d.next.getD j [] = row at hget hmem hrow hnext hfail
          by_cases hl : row.length = p.length
          · have hl' : ((row.length : Int) != p.length) = false := by rw [hl]; simp
            have hne : row ≠ [] := by rintro rfl; simp at hl; omega
            simp only [Tryd.f15, AWn, AWg, AWc, AWi, AWx, AWd, exitTo, slots, aEnd, aOut, jAV, aRet, retAV, tupOf, RF, RFo, release, release.rels, aop, ev, evs, evo, evl, constAV, strip, lk, guardOf, gd, Ja, Jb, Jc, St.put, Jd, Je, Jf, AV.s, AV.cells, FV.cells, AV.one, FV.okE, hset, hdel, aMove, aBin, resV, bopV, bopInt, bopStr, bopBool, aPick, aNot, aNeg, aXor, aConv, rdSl, aNil, newCells, aAlloc, aBox, ldAgg, aLoad, aStore, aStoreRow, writeAt, fldAt, aFieldAddr, partOf, aField, idxAddrE, arrAddrE, aIndexAddr, arrIdx, aIndex, bnds, slStr, slF, slO, aSlice, aExtract, bldParts, aggRes, aBuild, arrFs, bslParts, bslRes, bslE, aBuildSlice, mkSl, aMakeSlice, aLen, apRow, apE, apT, aAppend, aRange, nextS, aNext, aMkFunc, aCallV, VX, VXg, VXk, VXc, VXf, VXz, VQ, VQg, VQk, VQc, VQf, VQz, qk, pickT, putT, lks, tmpsOf, guardT, Op.operands, Call.operands, Jg, Option.toArray, Jh, Ji, Nat.reduceBEq, Nat.reduceAdd, Nat.reduceSub, Nat.reduceMul, Jj, Jk, Jl, Jm, Jn, Jo, Jp, Jq, Jr, Js, Jt, Ju, Jv, Jw, Jx, reduceIte, Nat.reduceLT, Nat.reduceLeDiff, Jy, reduceCtorEq, Jz, Ka, Kb, Kc, Kd, Ke, Kf, Kg, Kh, Ki, Kj, Kk, Kl, Km, Kn, Ko, Kp, Kq, Int.reduceLT, Int.reduceLE, Int.reduceGT, Int.reduceGE, Int.reduceAdd, Int.reduceSub, Int.reduceMul, Int.reduceNeg, Int.reduceBEq, Int.reduceEq, Int.reduceToNat, Kr, List.replicate_succ, Ks, Kt, Ku, Kv, renH, delAll, shift, rn, AO.ren, AV.ren, AV.rens, implies_true, pk0, tk1, tk2, tk3, tk4, tk22, tk23, tk24, tk26, tk28, tk52, tk56, tk58, hlt, hget, rowI, hl']
            refine ACall.pure [.sl 1 (row.map intF)] _ (by kernel_rfl) (p_min row (by omega) hne) rfl trivial ?_
            rintro r rfl
            simp only [Tryd.f15, AWn, AWg, AWc, AWi, AWx, AWd, exitTo, slots, aEnd, aOut, jAV, aRet, retAV, tupOf, RF, RFo, release, release.rels, aop, ev, evs, evo, evl, constAV, strip, lk, guardOf, gd, Ja, Jb, Jc, St.put, Jd, Je, Jf, AV.s, AV.cells, FV.cells, AV.one, FV.okE, hset, hdel, aMove, aBin, resV, bopV, bopInt, bopStr, bopBool, aPick, aNot, aNeg, aXor, aConv, rdSl, aNil, newCells, aAlloc, aBox, ldAgg, aLoad, aStore, aStoreRow, writeAt, fldAt, aFieldAddr, partOf, aField, idxAddrE, arrAddrE, aIndexAddr, arrIdx, aIndex, bnds, slStr, slF, slO, aSlice, aExtract, bldParts, aggRes, aBuild, arrFs, bslParts, bslRes, bslE, aBuildSlice, mkSl, aMakeSlice, aLen, apRow, apE, apT, aAppend, aRange, nextS, aNext, aMkFunc, aCallV, VX, VXg, VXk, VXc, VXf, VXz, VQ, VQg, VQk, VQc, VQf, VQz, qk, pickT, putT, lks, tmpsOf, guardT, Op.operands, Call.operands, Jg, Option.toArray, Jh, Ji, Nat.reduceBEq, Nat.reduceAdd, Nat.reduceSub, Nat.reduceMul, Jj, Jk, Jl, Jm, Jn, Jo, Jp, Jq, Jr, Js, Jt, Ju, Jv, Jw, Jx, reduceIte, Nat.reduceLT, Nat.reduceLeDiff, Jy, reduceCtorEq, Jz, Ka, Kb, Kc, Kd, Ke, Kf, Kg, Kh, Ki, Kj, Kk, Kl, Km, Kn, Ko, Kp, Kq, Int.reduceLT, Int.reduceLE, Int.reduceGT, Int.reduceGE, Int.reduceAdd, Int.reduceSub, Int.reduceMul, Int.reduceNeg, Int.reduceBEq, Int.reduceEq, Int.reduceToNat, Kr, List.replicate_succ, Ks, Kt, Ku, Kv, renH, delAll, shift, rn, AO.ren, AV.ren, AV.rens, implies_true, pk0, tk1, tk2, tk3, tk4, tk22, tk23, tk24, tk26, tk28, tk52, tk56, tk58, hl']
            refine ACall.pureG [.sl 1 (row.map intF)] (.v (.int .i64 (Lib.maxOf row))) (fun _ => by kernel_rfl) (fun _ => p_max row (by omega) hne) (fun _ => rfl) (fun h => h) ?_
            simp only [Tryd.f15, AWn, AWg, AWc, AWi, AWx, AWd, exitTo, slots, aEnd, aOut, jAV, aRet, retAV, tupOf, RF, RFo, release, release.rels, aop, ev, evs, evo, evl, constAV, strip, lk, guardOf, gd, Ja, Jb, Jc, St.put, Jd, Je, Jf, AV.s, AV.cells, FV.cells, AV.one, FV.okE, hset, hdel, aMove, aBin, resV, bopV, bopInt, bopStr, bopBool, aPick, aNot, aNeg, aXor, aConv, rdSl, aNil, newCells, aAlloc, aBox, ldAgg, aLoad, aStore, aStoreRow, writeAt, fldAt, aFieldAddr, partOf, aField, idxAddrE, arrAddrE, aIndexAddr, arrIdx, aIndex, bnds, slStr, slF, slO, aSlice, aExtract, bldParts, aggRes, aBuild, arrFs, bslParts, bslRes, bslE, aBuildSlice, mkSl, aMakeSlice, aLen, apRow, apE, apT, aAppend, aRange, nextS, aNext, aMkFunc, aCallV, VX, VXg, VXk, VXc, VXf, VXz, VQ, VQg, VQk, VQc, VQf, VQz, qk, pickT, putT, lks, tmpsOf, guardT, Op.operands, Call.operands, Jg, Option.toArray, Jh, Ji, Nat.reduceBEq, Nat.reduceAdd, Nat.reduceSub, Nat.reduceMul, Jj, Jk, Jl, Jm, Jn, Jo, Jp, Jq, Jr, Js, Jt, Ju, Jv, Jw, Jx, reduceIte, Nat.reduceLT, Nat.reduceLeDiff, Jy, reduceCtorEq, Jz, Ka, Kb, Kc, Kd, Ke, Kf, Kg, Kh, Ki, Kj, Kk, Kl, Km, Kn, Ko, Kp, Kq, Int.reduceLT, Int.reduceLE, Int.reduceGT, Int.reduceGE, Int.reduceAdd, Int.reduceSub, Int.reduceMul, Int.reduceNeg, Int.reduceBEq, Int.reduceEq, Int.reduceToNat, Kr, List.replicate_succ, Ks, Kt, Ku, Kv, renH, delAll, shift, rn, AO.ren, AV.ren, AV.rens, implies_true, pk0, tk1, tk2, tk3, tk4, tk22, tk23, tk24, tk26, tk28, tk52, tk56, tk58, hl', wq]
            have hrow : rowOK d.next.length p.length row = (!decide (Lib.minOf row < 0) && !decide (Lib.maxOf row ≥ d.next.length)) := by
              unfold rowOK
              rw [decide_eq_true hl, Bool.true_and]
            refine ⟨fun h => by rw [decide_eq_false h]; rfl, fun h => ?_, fun h => ?_⟩
            · have : rowOK d.next.length p.length row = false := by
                rw [hrow]
                cases h1 : decide (Lib.minOf row < 0) <;> cases h2 : decide (Lib.maxOf row ≥ d.next.length) <;> rw [h1, h2] at h <;> simp at h ⊢
              rw [hfail this] at hQ
              exact hQ _ _ _ (by simp only [RF, RFo, release, release.rels, u64, u8, true_and, and_true, and_self])
            · have : rowOK d.next.length p.length row = true := by
                rw [hrow]
                cases h1 : decide (Lib.minOf row < 0) <;> cases h2 : decide (Lib.maxOf row ≥ d.next.length) <;> rw [h1, h2] at h <;> simp at h ⊢
              refine ih (j + 1) _ ⟨by omega, hnext this⟩ (by omega) ?_
              (refine Imp.of ([]) hE ?_; simp only [subAll, fixAll, subT, subH, apartH, apart1, rn, lk, AV.ren, AV.rens, AV.und, AV.unds, AO.ren, AO.und, Nat.reduceBEq, beq_self_eq_true, Nat.reduceLT, Nat.reduceLeDiff, true_and, and_true, and_self, Option.some.injEq, ne_eq, not_true_eq_false, not_false_eq_true, Nat.reduceEqDiff, Nat.le_refl, AV.s, hE])
          · have hl' : ((row.length : Int) != p.length) = true := by simp; omega
            simp only [Tryd.f15, AWn, AWg, AWc, AWi, AWx, AWd, exitTo, slots, aEnd, aOut, jAV, aRet, retAV, tupOf, RF, RFo, release, release.rels, aop, ev, evs, evo, evl, constAV, strip, lk, guardOf, gd, Ja, Jb, Jc, St.put, Jd, Je, Jf, AV.s, AV.cells, FV.cells, AV.one, FV.okE, hset, hdel, aMove, aBin, resV, bopV, bopInt, bopStr, bopBool, aPick, aNot, aNeg, aXor, aConv, rdSl, aNil, newCells, aAlloc, aBox, ldAgg, aLoad, aStore, aStoreRow, writeAt, fldAt, aFieldAddr, partOf, aField, idxAddrE, arrAddrE, aIndexAddr, arrIdx, aIndex, bnds, slStr, slF, slO, aSlice, aExtract, bldParts, aggRes, aBuild, arrFs, bslParts, bslRes, bslE, aBuildSlice, mkSl, aMakeSlice, aLen, apRow, apE, apT, aAppend, aRange, nextS, aNext, aMkFunc, aCallV, VX, VXg, VXk, VXc, VXf, VXz, VQ, VQg, VQk, VQc, VQf, VQz, qk, pickT, putT, lks, tmpsOf, guardT, Op.operands, Call.operands, Jg, Option.toArray, Jh, Ji, Nat.reduceBEq, Nat.reduceAdd, Nat.reduceSub, Nat.reduceMul, Jj, Jk, Jl, Jm, Jn, Jo, Jp, Jq, Jr, Js, Jt, Ju, Jv, Jw, Jx, reduceIte, Nat.reduceLT, Nat.reduceLeDiff, Jy, reduceCtorEq, Jz, Ka, Kb, Kc, Kd, Ke, Kf, Kg, Kh, Ki, Kj, Kk, Kl, Km, Kn, Ko, Kp, Kq, Int.reduceLT, Int.reduceLE, Int.reduceGT, Int.reduceGE, Int.reduceAdd, Int.reduceSub, Int.reduceMul, Int.reduceNeg, Int.reduceBEq, Int.reduceEq, Int.reduceToNat, Kr, List.replicate_succ, Ks, Kt, Ku, Kv, renH, delAll, shift, rn, AO.ren, AV.ren, AV.rens, implies_true, pk0, tk1, tk2, tk3, tk4, tk22, tk23, tk24, tk26, tk28, tk52, tk56, tk58, hlt, hget, rowI, hl']
            refine ACall.no (.f (.v (.int .i64 0))) ?_
            simp only [Tryd.f15, AWn, AWg, AWc, AWi, AWx, AWd, exitTo, slots, aEnd, aOut, jAV, aRet, retAV, tupOf, RF, RFo, release, release.rels, aop, ev, evs, evo, evl, constAV, strip, lk, guardOf, gd, Ja, Jb, Jc, St.put, Jd, Je, Jf, AV.s, AV.cells, FV.cells, AV.one, FV.okE, hset, hdel, aMove, aBin, resV, bopV, bopInt, bopStr, bopBool, aPick, aNot, aNeg, aXor, aConv, rdSl, aNil, newCells, aAlloc, aBox, ldAgg, aLoad, aStore, aStoreRow, writeAt, fldAt, aFieldAddr, partOf, aField, idxAddrE, arrAddrE, aIndexAddr, arrIdx, aIndex, bnds, slStr, slF, slO, aSlice, aExtract, bldParts, aggRes, aBuild, arrFs, bslParts, bslRes, bslE, aBuildSlice, mkSl, aMakeSlice, aLen, apRow, apE, apT, aAppend, aRange, nextS, aNext, aMkFunc, aCallV, VX, VXg, VXk, VXc, VXf, VXz, VQ, VQg, VQk, VQc, VQf, VQz, qk, pickT, putT, lks, tmpsOf, guardT, Op.operands, Call.operands, Jg, Option.toArray, Jh, Ji, Nat.reduceBEq, Nat.reduceAdd, Nat.reduceSub, Nat.reduceMul, Jj, Jk, Jl, Jm, Jn, Jo, Jp, Jq, Jr, Js, Jt, Ju, Jv, Jw, Jx, reduceIte, Nat.reduceLT, Nat.reduceLeDiff, Jy, reduceCtorEq, Jz, Ka, Kb, Kc, Kd, Ke, Kf, Kg, Kh, Ki, Kj, Kk, Kl, Km, Kn, Ko, Kp, Kq, Int.reduceLT, Int.reduceLE, Int.reduceGT, Int.reduceGE, Int.reduceAdd, Int.reduceSub, Int.reduceMul, Int.reduceNeg, Int.reduceBEq, Int.reduceEq, Int.reduceToNat, Kr, List.replicate_succ, Ks, Kt, Ku, Kv, renH, delAll, shift, rn, AO.ren, AV.ren, AV.rens, implies_true, pk0, tk1, tk2, tk3, tk4, tk22, tk23, tk24, tk26, tk28, tk52, tk56, tk58, hl']
            refine ACall.no (.f (.v (.int .i64 0))) ?_
            simp only [Tryd.f15, AWn, AWg, AWc, AWi, AWx, AWd, exitTo, slots, aEnd, aOut, jAV, aRet, retAV, tupOf, RF, RFo, release, release.rels, aop, ev, evs, evo, evl, constAV, strip, lk, guardOf, gd, Ja, Jb, Jc, St.put, Jd, Je, Jf, AV.s, AV.cells, FV.cells, AV.one, FV.okE, hset, hdel, aMove, aBin, resV, bopV, bopInt, bopStr, bopBool, aPick, aNot, aNeg, aXor, aConv, rdSl, aNil, newCells, aAlloc, aBox, ldAgg, aLoad, aStore, aStoreRow, writeAt, fldAt, aFieldAddr, partOf, aField, idxAddrE, arrAddrE, aIndexAddr, arrIdx, aIndex, bnds, slStr, slF, slO, aSlice, aExtract, bldParts, aggRes, aBuild, arrFs, bslParts, bslRes, bslE, aBuildSlice, mkSl, aMakeSlice, aLen, apRow, apE, apT, aAppend, aRange, nextS, aNext, aMkFunc, aCallV, VX, VXg, VXk, VXc, VXf, VXz, VQ, VQg, VQk, VQc, VQf, VQz, qk, pickT, putT, lks, tmpsOf, guardT, Op.operands, Call.operands, Jg, Option.toArray, Jh, Ji, Nat.reduceBEq, Nat.reduceAdd, Nat.reduceSub, Nat.reduceMul, Jj, Jk, Jl, Jm, Jn, Jo, Jp, Jq, Jr, Js, Jt, Ju, Jv, Jw, Jx, reduceIte, Nat.reduceLT, Nat.reduceLeDiff, Jy, reduceCtorEq, Jz, Ka, Kb, Kc, Kd, Ke, Kf, Kg, Kh, Ki, Kj, Kk, Kl, Km, Kn, Ko, Kp, Kq, Int.reduceLT, Int.reduceLE, Int.reduceGT, Int.reduceGE, Int.reduceAdd, Int.reduceSub, Int.reduceMul, Int.reduceNeg, Int.reduceBEq, Int.reduceEq, Int.reduceToNat, Kr, List.replicate_succ, Ks, Kt, Ku, Kv, renH, delAll, shift, rn, AO.ren, AV.ren, AV.rens, implies_true, pk0, tk1, tk2, tk3, tk4, tk22, tk23, tk24, tk26, tk28, tk52, tk56, tk58, hl']
            rw [hfail (by unfold rowOK; rw [decide_eq_false hl]; rfl)] at hQ
            exact hQ _ _ _ (by simp only [RF, RFo, release, release.rels, u64, u8, true_and, and_true, and_self])
        · have hj' : j = d.next.length := by omega
          have hr : checkR d = 0 := by
            unfold checkR
            rw [hok, if_pos]
            rw [List.all_eq_true]
            intro r hr
            obtain ⟨i, hi, rfl⟩ := List.getElem_of_mem hr
            have := hall i (by omega)
            rwa [List.getD, List.getElem?_eq_getElem hi] at this
          rw [hr] at hQ
          simp only [Tryd.f15, AWn, AWg, AWc, AWi, AWx, AWd, exitTo, slots, aEnd, aOut, jAV, aRet, retAV, tupOf, RF, RFo, release, release.rels, aop, ev, evs, evo, evl, constAV, strip, lk, guardOf, gd, Ja, Jb, Jc, St.put, Jd, Je, Jf, AV.s, AV.cells, FV.cells, AV.one, FV.okE, hset, hdel, aMove, aBin, resV, bopV, bopInt, bopStr, bopBool, aPick, aNot, aNeg, aXor, aConv, rdSl, aNil, newCells, aAlloc, aBox, ldAgg, aLoad, aStore, aStoreRow, writeAt, fldAt, aFieldAddr, partOf, aField, idxAddrE, arrAddrE, aIndexAddr, arrIdx, aIndex, bnds, slStr, slF, slO, aSlice, aExtract, bldParts, aggRes, aBuild, arrFs, bslParts, bslRes, bslE, aBuildSlice, mkSl, aMakeSlice, aLen, apRow, apE, apT, aAppend, aRange, nextS, aNext, aMkFunc, aCallV, VX, VXg, VXk, VXc, VXf, VXz, VQ, VQg, VQk, VQc, VQf, VQz, qk, pickT, putT, lks, tmpsOf, guardT, Op.operands, Call.operands, Jg, Option.toArray, Jh, Ji, Nat.reduceBEq, Nat.reduceAdd, Nat.reduceSub, Nat.reduceMul, Jj, Jk, Jl, Jm, Jn, Jo, Jp, Jq, Jr, Js, Jt, Ju, Jv, Jw, Jx, reduceIte, Nat.reduceLT, Nat.reduceLeDiff, Jy, reduceCtorEq, Jz, Ka, Kb, Kc, Kd, Ke, Kf, Kg, Kh, Ki, Kj, Kk, Kl, Km, Kn, Ko, Kp, Kq, Int.reduceLT, Int.reduceLE, Int.reduceGT, Int.reduceGE, Int.reduceAdd, Int.reduceSub, Int.reduceMul, Int.reduceNeg, Int.reduceBEq, Int.reduceEq, Int.reduceToNat, Kr, List.replicate_succ, Ks, Kt, Ku, Kv, renH, delAll, shift, rn, AO.ren, AV.ren, AV.rens, implies_true, pk0, tk1, tk2, tk3, tk4, tk22, tk23, tk24, tk26, tk28, tk52, tk56, tk58, hlt]
          exact hQ _ _ _ (by simp only [RF, RFo, release, release.rels, u64, u8, true_and, and_true, and_self])
end Go.Proofs
