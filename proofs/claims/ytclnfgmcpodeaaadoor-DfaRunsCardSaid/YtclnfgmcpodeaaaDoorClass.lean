/-
  Walks and plain laws towards the statements of this seat (Class). Conditions: those that each theorem names.
-/
import Derived.Test.YtclnfgmcpodeaaaDoorParts
set_option linter.unusedVariables false
set_option linter.unusedSimpArgs false
namespace Go.Proofs
open Go Go.Fw
set_option maxHeartbeats 4000000
/-- a byte's class, if it is in a set -/
def clsB (s : W4) (i : Int) (cur : List Int) (b : Nat) : Option (List Int) := if hasN s b then (if cur.getD b 0 ≥ 0 then none else some (cur.set b i)) else some cur
def clsS (s : W4) (i : Int) (cur : List Int) (b : Nat) : Option (List Int) := ((List.range 256).drop b).foldlM (clsB s i) cur
def clsP (p : List W4) (i : Nat) (cur : List Int) : Option (List Int) := (p.zipIdx.drop i).foldlM (fun cur x => clsS x.1 x.2 cur 0) cur
/-- which part a byte is in -/
def classR (p : List W4) : Option (List Int) := match clsP p 0 (List.replicate 256 (-1)) with
  | none => none
  | some cur => match setsR cur with
    | none => none
    | some q => if q.length = p.length then some cur else none
def classV : Option (List Int) → FV
  | none => .tup [.v (.slice none 0 0), .v (.int .i64 1)]
  | some c => .tup [.sl 1 (c.map intF), .v (.int .i64 0)]
theorem clsS_step (s : W4) (i : Int) (cur : List Int) (b : Nat) (h : b < 256) : clsS s i cur b = (clsB s i cur b).bind fun c => clsS s i c (b + 1) := by
  unfold clsS
  have : (List.range 256).drop b = b :: (List.range 256).drop (b + 1) := by
    rw [List.drop_eq_getElem_cons (by simpa using h)]
    simp
  rw [this, List.foldlM_cons]
  rfl
theorem clsS_end (s : W4) (i : Int) (cur : List Int) : clsS s i cur 256 = some cur := by
  unfold clsS
  rw [List.drop_of_length_le (by simp)]
  rfl
theorem clsP_step (p : List W4) (i : Nat) (cur : List Int) (h : i < p.length) : clsP p i cur = (clsS (p.getD i zW) i cur 0).bind fun c => clsP p (i + 1) c := by
  unfold clsP
  have : p.zipIdx.drop i = (p.getD i zW, i) :: p.zipIdx.drop (i + 1) := by
    rw [List.drop_eq_getElem_cons (by simpa using h)]
    simp [List.getD, List.getElem?_eq_getElem h]
  rw [this, List.foldlM_cons]
  rfl
theorem clsP_end (p : List W4) (cur : List Int) : clsP p p.length cur = some cur := by
  unfold clsP
  rw [List.drop_of_length_le (by simp)]
  rfl
theorem m1_zero : List.replicate 256 (FV.v (.int .i64 0)) = (List.replicate 0 (-1 : Int) ++ List.replicate (256 - 0) 0).map intF := by
  rw [List.replicate_zero, List.nil_append, List.map_replicate]
  rfl
theorem m1_set (j : Nat) (h : j < 256) : ((List.replicate j (-1 : Int) ++ List.replicate (256 - j) 0).map intF).set j (.v (.int .i64 (-1))) = (List.replicate (j + 1) (-1 : Int) ++ List.replicate (256 - (j + 1)) 0).map intF := by
  rw [show FV.v (.int .i64 (-1)) = intF (-1) from rfl, ← List.map_set, set_app _ _ _ _ _ (by simp) h, ← List.replicate_succ']
theorem p_class (p : List W4) (hp : p.length < 1000000) : PC Tryd.prog 33 [.sl 4 (p.map setW)] (· = classV (classR p)) := by
  refine PC.in 1000 Tryd.func33 (by kernel_rfl) rfl (by kernel_rfl) fun Ph Ps E Q hE hQ => ?_
  simp only [Tryd.f33, AWn, AWg, AWc, AWi, AWx, AWd, exitTo, slots, aEnd, aOut, jAV, aRet, retAV, tupOf, RF, RFo, release, release.rels, aop, ev, evs, evo, evl, constAV, strip, lk, guardOf, gd, Ja, Jb, Jc, St.put, Jd, Je, Jf, AV.s, AV.cells, FV.cells, AV.one, FV.okE, hset, hdel, aMove, aBin, resV, bopV, bopInt, bopStr, bopBool, aPick, aNot, aNeg, aXor, aConv, rdSl, aNil, newCells, aAlloc, aBox, ldAgg, aLoad, aStore, aStoreRow, writeAt, fldAt, aFieldAddr, partOf, aField, idxAddrE, arrAddrE, aIndexAddr, arrIdx, aIndex, bnds, slStr, slF, slO, aSlice, aExtract, bldParts, aggRes, aBuild, arrFs, bslParts, bslRes, bslE, aBuildSlice, mkSl, aMakeSlice, aLen, apRow, apE, apT, aAppend, aRange, nextS, aNext, aMkFunc, aCallV, VX, VXg, VXk, VXc, VXf, VXz, VQ, VQg, VQk, VQc, VQf, VQz, qk, pickT, putT, lks, tmpsOf, guardT, Op.operands, Call.operands, Jg, Option.toArray, Jh, Ji, Nat.reduceBEq, Nat.reduceAdd, Nat.reduceSub, Nat.reduceMul, Jj, Jk, Jl, Jm, Jn, Jo, Jp, Jq, Jr, Js, Jt, Ju, Jv, Jw, Jx, reduceIte, Nat.reduceLT, Nat.reduceLeDiff, Jy, reduceCtorEq, Jz, Ka, Kb, Kc, Kd, Ke, Kf, Kg, Kh, Ki, Kj, Kk, Kl, Km, Kn, Ko, Kp, Kq, Int.reduceLT, Int.reduceLE, Int.reduceGT, Int.reduceGE, Int.reduceAdd, Int.reduceSub, Int.reduceMul, Int.reduceNeg, Int.reduceBEq, Int.reduceEq, Int.reduceToNat, Kr, List.replicate_succ, Ks, Kt, Ku, Kv, renH, delAll, shift, rn, AO.ren, AV.ren, AV.rens, implies_true, pk0, tk3, tk4, tk5, tk22, tk28, tk52, tk56, tk58, -List.replicate_succ]
  refine AL.ind (X := Nat) 1000 (fun j => j ≤ 256) (fun j => 256 - j)
    (fun j => ⟨[(0, .f (.sl 4 (p.map setW))), (4, .sl 0 1 0 256), (12, .sl 0 1 0 256), (13, .s (.int .i64 256)), (14, .s (.int .i64 j))], [(0, .row 3 1 ((List.replicate j (-1 : Int) ++ List.replicate (256 - j) 0).map intF))], 1⟩) 0 (Nat.zero_le _) ?_ ?_
  · rw [m1_zero]
    (refine Imp.of ([]) hE ?_; simp only [subAll, fixAll, subT, subH, apartH, apart1, rn, lk, AV.ren, AV.rens, AV.und, AV.unds, AO.ren, AO.und, Nat.reduceBEq, beq_self_eq_true, Nat.reduceLT, Nat.reduceLeDiff, true_and, and_true, and_self, Option.some.injEq, ne_eq, not_true_eq_false, not_false_eq_true, Nat.reduceEqDiff, Nat.le_refl, AV.s, hE])
    exact rfl
  · rintro j hj ih
    by_cases hlt : (j : Int) < 256
    · have hj256 : j < 256 := by omega
      have wq : IntKind.i64.wrap ((j : Int) + 1) = ((j + 1 : Nat) : Int) := by rw [wrap_i64 (by omega) (by omega)]; omega
      simp only [Tryd.f33, AWn, AWg, AWc, AWi, AWx, AWd, exitTo, slots, aEnd, aOut, jAV, aRet, retAV, tupOf, RF, RFo, release, release.rels, aop, ev, evs, evo, evl, constAV, strip, lk, guardOf, gd, Ja, Jb, Jc, St.put, Jd, Je, Jf, AV.s, AV.cells, FV.cells, AV.one, FV.okE, hset, hdel, aMove, aBin, resV, bopV, bopInt, bopStr, bopBool, aPick, aNot, aNeg, aXor, aConv, rdSl, aNil, newCells, aAlloc, aBox, ldAgg, aLoad, aStore, aStoreRow, writeAt, fldAt, aFieldAddr, partOf, aField, idxAddrE, arrAddrE, aIndexAddr, arrIdx, aIndex, bnds, slStr, slF, slO, aSlice, aExtract, bldParts, aggRes, aBuild, arrFs, bslParts, bslRes, bslE, aBuildSlice, mkSl, aMakeSlice, aLen, apRow, apE, apT, aAppend, aRange, nextS, aNext, aMkFunc, aCallV, VX, VXg, VXk, VXc, VXf, VXz, VQ, VQg, VQk, VQc, VQf, VQz, qk, pickT, putT, lks, tmpsOf, guardT, Op.operands, Call.operands, Jg, Option.toArray, Jh, Ji, Nat.reduceBEq, Nat.reduceAdd, Nat.reduceSub, Nat.reduceMul, Jj, Jk, Jl, Jm, Jn, Jo, Jp, Jq, Jr, Js, Jt, Ju, Jv, Jw, Jx, reduceIte, Nat.reduceLT, Nat.reduceLeDiff, Jy, reduceCtorEq, Jz, Ka, Kb, Kc, Kd, Ke, Kf, Kg, Kh, Ki, Kj, Kk, Kl, Km, Kn, Ko, Kp, Kq, Int.reduceLT, Int.reduceLE, Int.reduceGT, Int.reduceGE, Int.reduceAdd, Int.reduceSub, Int.reduceMul, Int.reduceNeg, Int.reduceBEq, Int.reduceEq, Int.reduceToNat, Kr, List.replicate_succ, Ks, Kt, Ku, Kv, renH, delAll, shift, rn, AO.ren, AV.ren, AV.rens, implies_true, pk0, tk3, tk4, tk5, tk22, tk28, tk52, tk56, tk58, hlt, -List.replicate_succ, List.length_replicate, wq]
      refine ⟨by omega, ih (j + 1) _ (by omega) (by omega) ?_⟩
      rw [← m1_set j hj256]
      (refine Imp.of ([]) hE ?_; simp only [subAll, fixAll, subT, subH, apartH, apart1, rn, lk, AV.ren, AV.rens, AV.und, AV.unds, AO.ren, AO.und, Nat.reduceBEq, beq_self_eq_true, Nat.reduceLT, Nat.reduceLeDiff, true_and, and_true, and_self, Option.some.injEq, ne_eq, not_true_eq_false, not_false_eq_true, Nat.reduceEqDiff, Nat.le_refl, AV.s, hE])
    · have hj' : j = 256 := by omega
      subst hj'
      have e256 : List.replicate 256 (-1 : Int) ++ List.replicate (256 - 256) 0 = List.replicate 256 (-1) := by rw [Nat.sub_self, List.replicate_zero, List.append_nil]
      rw [e256]
      have hR : classR p = match clsP p 0 (List.replicate 256 (-1)) with
        | none => none
        | some cur => match setsR cur with
          | none => none
          | some q => if q.length = p.length then some cur else none := rfl
      have h0 : (List.replicate 256 (-1 : Int)).length = 256 := List.length_replicate
      have h1 : ∀ x ∈ List.replicate 256 (-1 : Int), -1 ≤ x ∧ x < 1000000 := fun x hx => by rw [List.eq_of_mem_replicate hx]; omega
      generalize List.replicate 256 (-1 : Int) = cur0 at hR h0 h1 ⊢
      simp only [Tryd.f33, AWn, AWg, AWc, AWi, AWx, AWd, exitTo, slots, aEnd, aOut, jAV, aRet, retAV, tupOf, RF, RFo, release, release.rels, aop, ev, evs, evo, evl, constAV, strip, lk, guardOf, gd, Ja, Jb, Jc, St.put, Jd, Je, Jf, AV.s, AV.cells, FV.cells, AV.one, FV.okE, hset, hdel, aMove, aBin, resV, bopV, bopInt, bopStr, bopBool, aPick, aNot, aNeg, aXor, aConv, rdSl, aNil, newCells, aAlloc, aBox, ldAgg, aLoad, aStore, aStoreRow, writeAt, fldAt, aFieldAddr, partOf, aField, idxAddrE, arrAddrE, aIndexAddr, arrIdx, aIndex, bnds, slStr, slF, slO, aSlice, aExtract, bldParts, aggRes, aBuild, arrFs, bslParts, bslRes, bslE, aBuildSlice, mkSl, aMakeSlice, aLen, apRow, apE, apT, aAppend, aRange, nextS, aNext, aMkFunc, aCallV, VX, VXg, VXk, VXc, VXf, VXz, VQ, VQg, VQk, VQc, VQf, VQz, qk, pickT, putT, lks, tmpsOf, guardT, Op.operands, Call.operands, Jg, Option.toArray, Jh, Ji, Nat.reduceBEq, Nat.reduceAdd, Nat.reduceSub, Nat.reduceMul, Jj, Jk, Jl, Jm, Jn, Jo, Jp, Jq, Jr, Js, Jt, Ju, Jv, Jw, Jx, reduceIte, Nat.reduceLT, Nat.reduceLeDiff, Jy, reduceCtorEq, Jz, Ka, Kb, Kc, Kd, Ke, Kf, Kg, Kh, Ki, Kj, Kk, Kl, Km, Kn, Ko, Kp, Kq, Int.reduceLT, Int.reduceLE, Int.reduceGT, Int.reduceGE, Int.reduceAdd, Int.reduceSub, Int.reduceMul, Int.reduceNeg, Int.reduceBEq, Int.reduceEq, Int.reduceToNat, Kr, List.replicate_succ, Ks, Kt, Ku, Kv, renH, delAll, shift, rn, AO.ren, AV.ren, AV.rens, implies_true, pk0, tk3, tk4, tk5, tk22, tk28, tk52, tk56, tk58, hlt]
      refine AL.ind (X := Nat × List Int) 1000 (fun x => x.1 ≤ p.length ∧ x.2.length = 256 ∧ (∀ y ∈ x.2, -1 ≤ y ∧ y < 1000000) ∧ clsP p 0 cur0 = clsP p x.1 x.2) (fun x => p.length - x.1)
        (fun x => ⟨[(0, .f (.sl 4 (p.map setW))), (4, .sl 0 1 0 256), (21, .f (.sl 4 (p.map setW))), (22, .s (.int .i64 p.length)), (23, .s (.int .i64 x.1))], [(0, .row 3 1 (x.2.map intF))], 1⟩) (0, cur0) ⟨Nat.zero_le _, h0, h1, rfl⟩ ?_ ?_
      · (refine Imp.of ([]) hE ?_; simp only [subAll, fixAll, subT, subH, apartH, apart1, rn, lk, AV.ren, AV.rens, AV.und, AV.unds, AO.ren, AO.und, Nat.reduceBEq, beq_self_eq_true, Nat.reduceLT, Nat.reduceLeDiff, true_and, and_true, and_self, Option.some.injEq, ne_eq, not_true_eq_false, not_false_eq_true, Nat.reduceEqDiff, Nat.le_refl, AV.s, hE])
        exact rfl
      · rintro ⟨i, cur⟩ ⟨i1, i2, i3, i4⟩ ih1
        simp only at i1 i2 i3 i4
        by_cases hil : i < p.length
        · have wi : IntKind.i64.wrap ((i : Int) + 1) = ((i + 1 : Nat) : Int) := by rw [wrap_i64 (by omega) (by omega)]; omega
          have hget := getD_setW p i
          rw [clsP_step p i cur hil] at i4
          generalize p.getD i zW = s at hget i4
          simp only [Tryd.f33, AWn, AWg, AWc, AWi, AWx, AWd, exitTo, slots, aEnd, aOut, jAV, aRet, retAV, tupOf, RF, RFo, release, release.rels, aop, ev, evs, evo, evl, constAV, strip, lk, guardOf, gd, Ja, Jb, Jc, St.put, Jd, Je, Jf, AV.s, AV.cells, FV.cells, AV.one, FV.okE, hset, hdel, aMove, aBin, resV, bopV, bopInt, bopStr, bopBool, aPick, aNot, aNeg, aXor, aConv, rdSl, aNil, newCells, aAlloc, aBox, ldAgg, aLoad, aStore, aStoreRow, writeAt, fldAt, aFieldAddr, partOf, aField, idxAddrE, arrAddrE, aIndexAddr, arrIdx, aIndex, bnds, slStr, slF, slO, aSlice, aExtract, bldParts, aggRes, aBuild, arrFs, bslParts, bslRes, bslE, aBuildSlice, mkSl, aMakeSlice, aLen, apRow, apE, apT, aAppend, aRange, nextS, aNext, aMkFunc, aCallV, VX, VXg, VXk, VXc, VXf, VXz, VQ, VQg, VQk, VQc, VQf, VQz, qk, pickT, putT, lks, tmpsOf, guardT, Op.operands, Call.operands, Jg, Option.toArray, Jh, Ji, Nat.reduceBEq, Nat.reduceAdd, Nat.reduceSub, Nat.reduceMul, Jj, Jk, Jl, Jm, Jn, Jo, Jp, Jq, Jr, Js, Jt, Ju, Jv, Jw, Jx, reduceIte, Nat.reduceLT, Nat.reduceLeDiff, Jy, reduceCtorEq, Jz, Ka, Kb, Kc, Kd, Ke, Kf, Kg, Kh, Ki, Kj, Kk, Kl, Km, Kn, Ko, Kp, Kq, Int.reduceLT, Int.reduceLE, Int.reduceGT, Int.reduceGE, Int.reduceAdd, Int.reduceSub, Int.reduceMul, Int.reduceNeg, Int.reduceBEq, Int.reduceEq, Int.reduceToNat, Kr, List.replicate_succ, Ks, Kt, Ku, Kv, renH, delAll, shift, rn, AO.ren, AV.ren, AV.rens, implies_true, pk0, tk3, tk4, tk5, tk22, tk28, tk52, tk56, tk58, hil, hget, setW, setF, u64]
          refine AL.ind (X := Nat × List Int) 1000 (fun x => x.1 ≤ 256 ∧ x.2.length = 256 ∧ (∀ y ∈ x.2, -1 ≤ y ∧ y < 1000000) ∧ clsP p 0 cur0 = (clsS s i x.2 x.1).bind fun c => clsP p (i + 1) c) (fun x => 256 - x.1)
            (fun x => ⟨[(0, .f (.sl 4 (p.map setW))), (4, .sl 0 1 0 256), (21, .f (.sl 4 (p.map setW))), (22, .s (.int .i64 p.length)), (23, .s (.int .i64 i)), (6, .s (.int .i64 i)), (7, .ptr 1 0), (28, .s (.int .i64 x.1))],
              [(0, .row 3 1 (x.2.map intF)), (1, .cells 58 [.f (u64 s.a), .f (u64 s.b), .f (u64 s.c), .f (u64 s.d)])], 2⟩) (0, cur) ⟨Nat.zero_le _, i2, i3, i4⟩ ?_ ?_
          · (refine Imp.of ([]) hE ?_; simp only [subAll, fixAll, subT, subH, apartH, apart1, rn, lk, AV.ren, AV.rens, AV.und, AV.unds, AO.ren, AO.und, Nat.reduceBEq, beq_self_eq_true, Nat.reduceLT, Nat.reduceLeDiff, true_and, and_true, and_self, Option.some.injEq, ne_eq, not_true_eq_false, not_false_eq_true, Nat.reduceEqDiff, Nat.le_refl, AV.s, hE])
            exact ⟨rfl, rfl⟩
          · rintro ⟨b, c⟩ ⟨b1, b2, b3, b4⟩ ih2
            simp only at b1 b2 b3 b4
            by_cases hbl : (b : Int) < 256
            · have hb256 : b < 256 := by omega
              have wj : IntKind.u8.wrap (b : Int) = ((UInt8.ofNat b).toNat : Int) := by rw [wrap_u8 (by omega) (by omega)]; simp; omega
              have hjn : (UInt8.ofNat b).toNat = b := by simp; omega
              have wq : IntKind.i64.wrap ((b : Int) + 1) = ((b + 1 : Nat) : Int) := by rw [wrap_i64 (by omega) (by omega)]; omega
              rw [clsS_step s i c b hb256] at b4
              simp only [Tryd.f33, AWn, AWg, AWc, AWi, AWx, AWd, exitTo, slots, aEnd, aOut, jAV, aRet, retAV, tupOf, RF, RFo, release, release.rels, aop, ev, evs, evo, evl, constAV, strip, lk, guardOf, gd, Ja, Jb, Jc, St.put, Jd, Je, Jf, AV.s, AV.cells, FV.cells, AV.one, FV.okE, hset, hdel, aMove, aBin, resV, bopV, bopInt, bopStr, bopBool, aPick, aNot, aNeg, aXor, aConv, rdSl, aNil, newCells, aAlloc, aBox, ldAgg, aLoad, aStore, aStoreRow, writeAt, fldAt, aFieldAddr, partOf, aField, idxAddrE, arrAddrE, aIndexAddr, arrIdx, aIndex, bnds, slStr, slF, slO, aSlice, aExtract, bldParts, aggRes, aBuild, arrFs, bslParts, bslRes, bslE, aBuildSlice, mkSl, aMakeSlice, aLen, apRow, apE, apT, aAppend, aRange, nextS, aNext, aMkFunc, aCallV, VX, VXg, VXk, VXc, VXf, VXz, VQ, VQg, VQk, VQc, VQf, VQz, qk, pickT, putT, lks, tmpsOf, guardT, Op.operands, Call.operands, Jg, Option.toArray, Jh, Ji, Nat.reduceBEq, Nat.reduceAdd, Nat.reduceSub, Nat.reduceMul, Jj, Jk, Jl, Jm, Jn, Jo, Jp, Jq, Jr, Js, Jt, Ju, Jv, Jw, Jx, reduceIte, Nat.reduceLT, Nat.reduceLeDiff, Jy, reduceCtorEq, Jz, Ka, Kb, Kc, Kd, Ke, Kf, Kg, Kh, Ki, Kj, Kk, Kl, Km, Kn, Ko, Kp, Kq, Int.reduceLT, Int.reduceLE, Int.reduceGT, Int.reduceGE, Int.reduceAdd, Int.reduceSub, Int.reduceMul, Int.reduceNeg, Int.reduceBEq, Int.reduceEq, Int.reduceToNat, Kr, List.replicate_succ, Ks, Kt, Ku, Kv, renH, delAll, shift, rn, AO.ren, AV.ren, AV.rens, implies_true, pk0, tk3, tk4, tk5, tk22, tk28, tk52, tk56, tk58, hbl, u64, wj]
              refine ACall.pure [setW s, u8 (UInt8.ofNat b)] _ (by kernel_rfl) (p_has s (UInt8.ofNat b)) (by simp only [AV.fzs, AV.fz, setW, setF, u64, u8]) trivial ?_
              rintro r rfl
              rw [hjn]
              cases hb : hasN s b with
              | false =>
                have e : clsB s i c b = some c := by unfold clsB; rw [hb]; rfl
                rw [e] at b4
                simp only [Tryd.f33, AWn, AWg, AWc, AWi, AWx, AWd, exitTo, slots, aEnd, aOut, jAV, aRet, retAV, tupOf, RF, RFo, release, release.rels, aop, ev, evs, evo, evl, constAV, strip, lk, guardOf, gd, Ja, Jb, Jc, St.put, Jd, Je, Jf, AV.s, AV.cells, FV.cells, AV.one, FV.okE, hset, hdel, aMove, aBin, resV, bopV, bopInt, bopStr, bopBool, aPick, aNot, aNeg, aXor, aConv, rdSl, aNil, newCells, aAlloc, aBox, ldAgg, aLoad, aStore, aStoreRow, writeAt, fldAt, aFieldAddr, partOf, aField, idxAddrE, arrAddrE, aIndexAddr, arrIdx, aIndex, bnds, slStr, slF, slO, aSlice, aExtract, bldParts, aggRes, aBuild, arrFs, bslParts, bslRes, bslE, aBuildSlice, mkSl, aMakeSlice, aLen, apRow, apE, apT, aAppend, aRange, nextS, aNext, aMkFunc, aCallV, VX, VXg, VXk, VXc, VXf, VXz, VQ, VQg, VQk, VQc, VQf, VQz, qk, pickT, putT, lks, tmpsOf, guardT, Op.operands, Call.operands, Jg, Option.toArray, Jh, Ji, Nat.reduceBEq, Nat.reduceAdd, Nat.reduceSub, Nat.reduceMul, Jj, Jk, Jl, Jm, Jn, Jo, Jp, Jq, Jr, Js, Jt, Ju, Jv, Jw, Jx, reduceIte, Nat.reduceLT, Nat.reduceLeDiff, Jy, reduceCtorEq, Jz, Ka, Kb, Kc, Kd, Ke, Kf, Kg, Kh, Ki, Kj, Kk, Kl, Km, Kn, Ko, Kp, Kq, Int.reduceLT, Int.reduceLE, Int.reduceGT, Int.reduceGE, Int.reduceAdd, Int.reduceSub, Int.reduceMul, Int.reduceNeg, Int.reduceBEq, Int.reduceEq, Int.reduceToNat, Kr, List.replicate_succ, Ks, Kt, Ku, Kv, renH, delAll, shift, rn, AO.ren, AV.ren, AV.rens, implies_true, pk0, tk3, tk4, tk5, tk22, tk28, tk52, tk56, tk58, hb, wq]
                refine ih2 (b + 1, c) _ ⟨by simp only; omega, b2, b3, b4⟩ (by simp only; omega) ?_
                (refine Imp.of ([]) hE ?_; simp only [subAll, fixAll, subT, subH, apartH, apart1, rn, lk, AV.ren, AV.rens, AV.und, AV.unds, AO.ren, AO.und, Nat.reduceBEq, beq_self_eq_true, Nat.reduceLT, Nat.reduceLeDiff, true_and, and_true, and_self, Option.some.injEq, ne_eq, not_true_eq_false, not_false_eq_true, Nat.reduceEqDiff, Nat.le_refl, AV.s, hE])
                exact rfl
              | true =>
                have hgi := getD_int c b
                have hmem : c.getD b 0 ∈ c := getD_memI' (by omega)
                by_cases hge : c.getD b 0 ≥ 0
                · have e : clsB s i c b = none := by unfold clsB; rw [hb, if_pos rfl, if_pos hge]
                  rw [e] at b4
                  have hRn : classR p = none := by rw [hR, b4]; rfl
                  rw [hRn] at hQ
                  simp only [Tryd.f33, AWn, AWg, AWc, AWi, AWx, AWd, exitTo, slots, aEnd, aOut, jAV, aRet, retAV, tupOf, RF, RFo, release, release.rels, aop, ev, evs, evo, evl, constAV, strip, lk, guardOf, gd, Ja, Jb, Jc, St.put, Jd, Je, Jf, AV.s, AV.cells, FV.cells, AV.one, FV.okE, hset, hdel, aMove, aBin, resV, bopV, bopInt, bopStr, bopBool, aPick, aNot, aNeg, aXor, aConv, rdSl, aNil, newCells, aAlloc, aBox, ldAgg, aLoad, aStore, aStoreRow, writeAt, fldAt, aFieldAddr, partOf, aField, idxAddrE, arrAddrE, aIndexAddr, arrIdx, aIndex, bnds, slStr, slF, slO, aSlice, aExtract, bldParts, aggRes, aBuild, arrFs, bslParts, bslRes, bslE, aBuildSlice, mkSl, aMakeSlice, aLen, apRow, apE, apT, aAppend, aRange, nextS, aNext, aMkFunc, aCallV, VX, VXg, VXk, VXc, VXf, VXz, VQ, VQg, VQk, VQc, VQf, VQz, qk, pickT, putT, lks, tmpsOf, guardT, Op.operands, Call.operands, Jg, Option.toArray, Jh, Ji, Nat.reduceBEq, Nat.reduceAdd, Nat.reduceSub, Nat.reduceMul, Jj, Jk, Jl, Jm, Jn, Jo, Jp, Jq, Jr, Js, Jt, Ju, Jv, Jw, Jx, reduceIte, Nat.reduceLT, Nat.reduceLeDiff, Jy, reduceCtorEq, Jz, Ka, Kb, Kc, Kd, Ke, Kf, Kg, Kh, Ki, Kj, Kk, Kl, Km, Kn, Ko, Kp, Kq, Int.reduceLT, Int.reduceLE, Int.reduceGT, Int.reduceGE, Int.reduceAdd, Int.reduceSub, Int.reduceMul, Int.reduceNeg, Int.reduceBEq, Int.reduceEq, Int.reduceToNat, Kr, List.replicate_succ, Ks, Kt, Ku, Kv, renH, delAll, shift, rn, AO.ren, AV.ren, AV.rens, implies_true, pk0, tk3, tk4, tk5, tk22, tk28, tk52, tk56, tk58, hb, wq, b2, hb256, hgi, hge]
                  refine ⟨by omega, ?_⟩
                  exact hQ _ _ _ (by simp only [RF, RFo, release, release.rels, u64, u8, true_and, and_true, and_self, classV])
                · have e : clsB s i c b = some (c.set b i) := by unfold clsB; rw [hb, if_pos rfl, if_neg hge]
                  rw [e] at b4
                  simp only [Tryd.f33, AWn, AWg, AWc, AWi, AWx, AWd, exitTo, slots, aEnd, aOut, jAV, aRet, retAV, tupOf, RF, RFo, release, release.rels, aop, ev, evs, evo, evl, constAV, strip, lk, guardOf, gd, Ja, Jb, Jc, St.put, Jd, Je, Jf, AV.s, AV.cells, FV.cells, AV.one, FV.okE, hset, hdel, aMove, aBin, resV, bopV, bopInt, bopStr, bopBool, aPick, aNot, aNeg, aXor, aConv, rdSl, aNil, newCells, aAlloc, aBox, ldAgg, aLoad, aStore, aStoreRow, writeAt, fldAt, aFieldAddr, partOf, aField, idxAddrE, arrAddrE, aIndexAddr, arrIdx, aIndex, bnds, slStr, slF, slO, aSlice, aExtract, bldParts, aggRes, aBuild, arrFs, bslParts, bslRes, bslE, aBuildSlice, mkSl, aMakeSlice, aLen, apRow, apE, apT, aAppend, aRange, nextS, aNext, aMkFunc, aCallV, VX, VXg, VXk, VXc, VXf, VXz, VQ, VQg, VQk, VQc, VQf, VQz, qk, pickT, putT, lks, tmpsOf, guardT, Op.operands, Call.operands, Jg, Option.toArray, Jh, Ji, Nat.reduceBEq, Nat.reduceAdd, Nat.reduceSub, Nat.reduceMul, Jj, Jk, Jl, Jm, Jn, Jo, Jp, Jq, Jr, Js, Jt, Ju, Jv, Jw, Jx, reduceIte, Nat.reduceLT, Nat.reduceLeDiff, Jy, reduceCtorEq, Jz, Ka, Kb, Kc, Kd, Ke, Kf, Kg, Kh, Ki, Kj, Kk, Kl, Km, Kn, Ko, Kp, Kq, Int.reduceLT, Int.reduceLE, Int.reduceGT, Int.reduceGE, Int.reduceAdd, Int.reduceSub, Int.reduceMul, Int.reduceNeg, Int.reduceBEq, Int.reduceEq, Int.reduceToNat, Kr, List.replicate_succ, Ks, Kt, Ku, Kv, renH, delAll, shift, rn, AO.ren, AV.ren, AV.rens, implies_true, pk0, tk3, tk4, tk5, tk22, tk28, tk52, tk56, tk58, hb, wq, b2, hb256, hgi, hge]
                  refine ⟨by omega, by omega, ih2 (b + 1, c.set b i) _ ⟨by simp only; omega, by simpa using b2, fun y hy => ?_, b4⟩ (by simp only; omega) ?_⟩
                  · rcases List.mem_or_eq_of_mem_set hy with h | h
                    · exact b3 y h
                    · omega
                  · (refine Imp.of ([]) hE ?_; simp only [subAll, fixAll, subT, subH, apartH, apart1, rn, lk, AV.ren, AV.rens, AV.und, AV.unds, AO.ren, AO.und, Nat.reduceBEq, beq_self_eq_true, Nat.reduceLT, Nat.reduceLeDiff, true_and, and_true, and_self, Option.some.injEq, ne_eq, not_true_eq_false, not_false_eq_true, Nat.reduceEqDiff, Nat.le_refl, AV.s, hE])
                    rw [List.map_set]
                    exact ⟨rfl, rfl⟩
            · have hb' : b = 256 := by omega
              subst hb'
              rw [clsS_end] at b4
              simp only [Tryd.f33, AWn, AWg, AWc, AWi, AWx, AWd, exitTo, slots, aEnd, aOut, jAV, aRet, retAV, tupOf, RF, RFo, release, release.rels, aop, ev, evs, evo, evl, constAV, strip, lk, guardOf, gd, Ja, Jb, Jc, St.put, Jd, Je, Jf, AV.s, AV.cells, FV.cells, AV.one, FV.okE, hset, hdel, aMove, aBin, resV, bopV, bopInt, bopStr, bopBool, aPick, aNot, aNeg, aXor, aConv, rdSl, aNil, newCells, aAlloc, aBox, ldAgg, aLoad, aStore, aStoreRow, writeAt, fldAt, aFieldAddr, partOf, aField, idxAddrE, arrAddrE, aIndexAddr, arrIdx, aIndex, bnds, slStr, slF, slO, aSlice, aExtract, bldParts, aggRes, aBuild, arrFs, bslParts, bslRes, bslE, aBuildSlice, mkSl, aMakeSlice, aLen, apRow, apE, apT, aAppend, aRange, nextS, aNext, aMkFunc, aCallV, VX, VXg, VXk, VXc, VXf, VXz, VQ, VQg, VQk, VQc, VQf, VQz, qk, pickT, putT, lks, tmpsOf, guardT, Op.operands, Call.operands, Jg, Option.toArray, Jh, Ji, Nat.reduceBEq, Nat.reduceAdd, Nat.reduceSub, Nat.reduceMul, Jj, Jk, Jl, Jm, Jn, Jo, Jp, Jq, Jr, Js, Jt, Ju, Jv, Jw, Jx, reduceIte, Nat.reduceLT, Nat.reduceLeDiff, Jy, reduceCtorEq, Jz, Ka, Kb, Kc, Kd, Ke, Kf, Kg, Kh, Ki, Kj, Kk, Kl, Km, Kn, Ko, Kp, Kq, Int.reduceLT, Int.reduceLE, Int.reduceGT, Int.reduceGE, Int.reduceAdd, Int.reduceSub, Int.reduceMul, Int.reduceNeg, Int.reduceBEq, Int.reduceEq, Int.reduceToNat, Kr, List.replicate_succ, Ks, Kt, Ku, Kv, renH, delAll, shift, rn, AO.ren, AV.ren, AV.rens, implies_true, pk0, tk3, tk4, tk5, tk22, tk28, tk52, tk56, tk58, hbl, wi]
              refine ih1 (i + 1, c) _ ⟨by simp only; omega, b2, b3, b4⟩ (by simp only; omega) ?_
              (refine Imp.of ([]) hE ?_; simp only [subAll, fixAll, subT, subH, apartH, apart1, rn, lk, AV.ren, AV.rens, AV.und, AV.unds, AO.ren, AO.und, Nat.reduceBEq, beq_self_eq_true, Nat.reduceLT, Nat.reduceLeDiff, true_and, and_true, and_self, Option.some.injEq, ne_eq, not_true_eq_false, not_false_eq_true, Nat.reduceEqDiff, Nat.le_refl, AV.s, hE])
        · have hi' : i = p.length := by omega
          subst hi'
          rw [clsP_end] at i4
          rw [i4] at hR
          simp only at hR
          rw [hR] at hQ
          simp only [Tryd.f33, AWn, AWg, AWc, AWi, AWx, AWd, exitTo, slots, aEnd, aOut, jAV, aRet, retAV, tupOf, RF, RFo, release, release.rels, aop, ev, evs, evo, evl, constAV, strip, lk, guardOf, gd, Ja, Jb, Jc, St.put, Jd, Je, Jf, AV.s, AV.cells, FV.cells, AV.one, FV.okE, hset, hdel, aMove, aBin, resV, bopV, bopInt, bopStr, bopBool, aPick, aNot, aNeg, aXor, aConv, rdSl, aNil, newCells, aAlloc, aBox, ldAgg, aLoad, aStore, aStoreRow, writeAt, fldAt, aFieldAddr, partOf, aField, idxAddrE, arrAddrE, aIndexAddr, arrIdx, aIndex, bnds, slStr, slF, slO, aSlice, aExtract, bldParts, aggRes, aBuild, arrFs, bslParts, bslRes, bslE, aBuildSlice, mkSl, aMakeSlice, aLen, apRow, apE, apT, aAppend, aRange, nextS, aNext, aMkFunc, aCallV, VX, VXg, VXk, VXc, VXf, VXz, VQ, VQg, VQk, VQc, VQf, VQz, qk, pickT, putT, lks, tmpsOf, guardT, Op.operands, Call.operands, Jg, Option.toArray, Jh, Ji, Nat.reduceBEq, Nat.reduceAdd, Nat.reduceSub, Nat.reduceMul, Jj, Jk, Jl, Jm, Jn, Jo, Jp, Jq, Jr, Js, Jt, Ju, Jv, Jw, Jx, reduceIte, Nat.reduceLT, Nat.reduceLeDiff, Jy, reduceCtorEq, Jz, Ka, Kb, Kc, Kd, Ke, Kf, Kg, Kh, Ki, Kj, Kk, Kl, Km, Kn, Ko, Kp, Kq, Int.reduceLT, Int.reduceLE, Int.reduceGT, Int.reduceGE, Int.reduceAdd, Int.reduceSub, Int.reduceMul, Int.reduceNeg, Int.reduceBEq, Int.reduceEq, Int.reduceToNat, Kr, List.replicate_succ, Ks, Kt, Ku, Kv, renH, delAll, shift, rn, AO.ren, AV.ren, AV.rens, implies_true, pk0, tk3, tk4, tk5, tk22, tk28, tk52, tk56, tk58, hil]
          refine ACall.imp (Imp.frz 0 rfl) ?_
          simp only [Tryd.f33, AWn, AWg, AWc, AWi, AWx, AWd, exitTo, slots, aEnd, aOut, jAV, aRet, retAV, tupOf, RF, RFo, release, release.rels, aop, ev, evs, evo, evl, constAV, strip, lk, guardOf, gd, Ja, Jb, Jc, St.put, Jd, Je, Jf, AV.s, AV.cells, FV.cells, AV.one, FV.okE, hset, hdel, aMove, aBin, resV, bopV, bopInt, bopStr, bopBool, aPick, aNot, aNeg, aXor, aConv, rdSl, aNil, newCells, aAlloc, aBox, ldAgg, aLoad, aStore, aStoreRow, writeAt, fldAt, aFieldAddr, partOf, aField, idxAddrE, arrAddrE, aIndexAddr, arrIdx, aIndex, bnds, slStr, slF, slO, aSlice, aExtract, bldParts, aggRes, aBuild, arrFs, bslParts, bslRes, bslE, aBuildSlice, mkSl, aMakeSlice, aLen, apRow, apE, apT, aAppend, aRange, nextS, aNext, aMkFunc, aCallV, VX, VXg, VXk, VXc, VXf, VXz, VQ, VQg, VQk, VQc, VQf, VQz, qk, pickT, putT, lks, tmpsOf, guardT, Op.operands, Call.operands, Jg, Option.toArray, Jh, Ji, Nat.reduceBEq, Nat.reduceAdd, Nat.reduceSub, Nat.reduceMul, Jj, Jk, Jl, Jm, Jn, Jo, Jp, Jq, Jr, Js, Jt, Ju, Jv, Jw, Jx, reduceIte, Nat.reduceLT, Nat.reduceLeDiff, Jy, reduceCtorEq, Jz, Ka, Kb, Kc, Kd, Ke, Kf, Kg, Kh, Ki, Kj, Kk, Kl, Km, Kn, Ko, Kp, Kq, Int.reduceLT, Int.reduceLE, Int.reduceGT, Int.reduceGE, Int.reduceAdd, Int.reduceSub, Int.reduceMul, Int.reduceNeg, Int.reduceBEq, Int.reduceEq, Int.reduceToNat, Kr, List.replicate_succ, Ks, Kt, Ku, Kv, renH, delAll, shift, rn, AO.ren, AV.ren, AV.rens, implies_true, pk0, tk3, tk4, tk5, tk22, tk28, tk52, tk56, tk58, frzT, frzV, frzVs, frzH, frzO, i2]
          refine ACall.pure [.sl 1 (cur.map intF)] _ (by kernel_rfl) (p_sets cur (fun x hx => ?_)) (by simp only [AV.fzs, AV.fz]; rw [List.take_of_length_le (by simp [i2])]) trivial ?_
          · have := i3 x hx
            exact wf_small (by omega) (by omega)
          rintro r rfl
          have htk : List.take 256 (cur.map intF) = cur.map intF := List.take_of_length_le (by simp [i2])
          rw [htk]
          have f1 : ((1 : Int) != 0) = true := rfl
          have f0 : ((0 : Int) != 0) = false := rfl
          cases hs : setsR cur with
          | none =>
            rw [hs] at hQ
            simp only [Tryd.f33, AWn, AWg, AWc, AWi, AWx, AWd, exitTo, slots, aEnd, aOut, jAV, aRet, retAV, tupOf, RF, RFo, release, release.rels, aop, ev, evs, evo, evl, constAV, strip, lk, guardOf, gd, Ja, Jb, Jc, St.put, Jd, Je, Jf, AV.s, AV.cells, FV.cells, AV.one, FV.okE, hset, hdel, aMove, aBin, resV, bopV, bopInt, bopStr, bopBool, aPick, aNot, aNeg, aXor, aConv, rdSl, aNil, newCells, aAlloc, aBox, ldAgg, aLoad, aStore, aStoreRow, writeAt, fldAt, aFieldAddr, partOf, aField, idxAddrE, arrAddrE, aIndexAddr, arrIdx, aIndex, bnds, slStr, slF, slO, aSlice, aExtract, bldParts, aggRes, aBuild, arrFs, bslParts, bslRes, bslE, aBuildSlice, mkSl, aMakeSlice, aLen, apRow, apE, apT, aAppend, aRange, nextS, aNext, aMkFunc, aCallV, VX, VXg, VXk, VXc, VXf, VXz, VQ, VQg, VQk, VQc, VQf, VQz, qk, pickT, putT, lks, tmpsOf, guardT, Op.operands, Call.operands, Jg, Option.toArray, Jh, Ji, Nat.reduceBEq, Nat.reduceAdd, Nat.reduceSub, Nat.reduceMul, Jj, Jk, Jl, Jm, Jn, Jo, Jp, Jq, Jr, Js, Jt, Ju, Jv, Jw, Jx, reduceIte, Nat.reduceLT, Nat.reduceLeDiff, Jy, reduceCtorEq, Jz, Ka, Kb, Kc, Kd, Ke, Kf, Kg, Kh, Ki, Kj, Kk, Kl, Km, Kn, Ko, Kp, Kq, Int.reduceLT, Int.reduceLE, Int.reduceGT, Int.reduceGE, Int.reduceAdd, Int.reduceSub, Int.reduceMul, Int.reduceNeg, Int.reduceBEq, Int.reduceEq, Int.reduceToNat, Kr, List.replicate_succ, Ks, Kt, Ku, Kv, renH, delAll, shift, rn, AO.ren, AV.ren, AV.rens, implies_true, pk0, tk3, tk4, tk5, tk22, tk28, tk52, tk56, tk58, setsV, f1]
            exact hQ _ _ _ (by simp only [RF, RFo, release, release.rels, u64, u8, true_and, and_true, and_self, classV])
          | some q =>
            have hql := setsR_len hs
            rw [hs] at hQ
            by_cases hqp : q.length = p.length
            · have e0 : ((q.length : Int) != p.length) = false := by rw [hqp]; simp
              simp only [if_pos hqp] at hQ
              simp only [Tryd.f33, AWn, AWg, AWc, AWi, AWx, AWd, exitTo, slots, aEnd, aOut, jAV, aRet, retAV, tupOf, RF, RFo, release, release.rels, aop, ev, evs, evo, evl, constAV, strip, lk, guardOf, gd, Ja, Jb, Jc, St.put, Jd, Je, Jf, AV.s, AV.cells, FV.cells, AV.one, FV.okE, hset, hdel, aMove, aBin, resV, bopV, bopInt, bopStr, bopBool, aPick, aNot, aNeg, aXor, aConv, rdSl, aNil, newCells, aAlloc, aBox, ldAgg, aLoad, aStore, aStoreRow, writeAt, fldAt, aFieldAddr, partOf, aField, idxAddrE, arrAddrE, aIndexAddr, arrIdx, aIndex, bnds, slStr, slF, slO, aSlice, aExtract, bldParts, aggRes, aBuild, arrFs, bslParts, bslRes, bslE, aBuildSlice, mkSl, aMakeSlice, aLen, apRow, apE, apT, aAppend, aRange, nextS, aNext, aMkFunc, aCallV, VX, VXg, VXk, VXc, VXf, VXz, VQ, VQg, VQk, VQc, VQf, VQz, qk, pickT, putT, lks, tmpsOf, guardT, Op.operands, Call.operands, Jg, Option.toArray, Jh, Ji, Nat.reduceBEq, Nat.reduceAdd, Nat.reduceSub, Nat.reduceMul, Jj, Jk, Jl, Jm, Jn, Jo, Jp, Jq, Jr, Js, Jt, Ju, Jv, Jw, Jx, reduceIte, Nat.reduceLT, Nat.reduceLeDiff, Jy, reduceCtorEq, Jz, Ka, Kb, Kc, Kd, Ke, Kf, Kg, Kh, Ki, Kj, Kk, Kl, Km, Kn, Ko, Kp, Kq, Int.reduceLT, Int.reduceLE, Int.reduceGT, Int.reduceGE, Int.reduceAdd, Int.reduceSub, Int.reduceMul, Int.reduceNeg, Int.reduceBEq, Int.reduceEq, Int.reduceToNat, Kr, List.replicate_succ, Ks, Kt, Ku, Kv, renH, delAll, shift, rn, AO.ren, AV.ren, AV.rens, implies_true, pk0, tk3, tk4, tk5, tk22, tk28, tk52, tk56, tk58, setsV, e0, f0]
              exact hQ _ _ _ (by simp only [RF, RFo, release, release.rels, u64, u8, true_and, and_true, and_self, classV])
            · have e0 : ((q.length : Int) != p.length) = true := by simp; omega
              simp only [if_neg hqp] at hQ
              simp only [Tryd.f33, AWn, AWg, AWc, AWi, AWx, AWd, exitTo, slots, aEnd, aOut, jAV, aRet, retAV, tupOf, RF, RFo, release, release.rels, aop, ev, evs, evo, evl, constAV, strip, lk, guardOf, gd, Ja, Jb, Jc, St.put, Jd, Je, Jf, AV.s, AV.cells, FV.cells, AV.one, FV.okE, hset, hdel, aMove, aBin, resV, bopV, bopInt, bopStr, bopBool, aPick, aNot, aNeg, aXor, aConv, rdSl, aNil, newCells, aAlloc, aBox, ldAgg, aLoad, aStore, aStoreRow, writeAt, fldAt, aFieldAddr, partOf, aField, idxAddrE, arrAddrE, aIndexAddr, arrIdx, aIndex, bnds, slStr, slF, slO, aSlice, aExtract, bldParts, aggRes, aBuild, arrFs, bslParts, bslRes, bslE, aBuildSlice, mkSl, aMakeSlice, aLen, apRow, apE, apT, aAppend, aRange, nextS, aNext, aMkFunc, aCallV, VX, VXg, VXk, VXc, VXf, VXz, VQ, VQg, VQk, VQc, VQf, VQz, qk, pickT, putT, lks, tmpsOf, guardT, Op.operands, Call.operands, Jg, Option.toArray, Jh, Ji, Nat.reduceBEq, Nat.reduceAdd, Nat.reduceSub, Nat.reduceMul, Jj, Jk, Jl, Jm, Jn, Jo, Jp, Jq, Jr, Js, Jt, Ju, Jv, Jw, Jx, reduceIte, Nat.reduceLT, Nat.reduceLeDiff, Jy, reduceCtorEq, Jz, Ka, Kb, Kc, Kd, Ke, Kf, Kg, Kh, Ki, Kj, Kk, Kl, Km, Kn, Ko, Kp, Kq, Int.reduceLT, Int.reduceLE, Int.reduceGT, Int.reduceGE, Int.reduceAdd, Int.reduceSub, Int.reduceMul, Int.reduceNeg, Int.reduceBEq, Int.reduceEq, Int.reduceToNat, Kr, List.replicate_succ, Ks, Kt, Ku, Kv, renH, delAll, shift, rn, AO.ren, AV.ren, AV.rens, implies_true, pk0, tk3, tk4, tk5, tk22, tk28, tk52, tk56, tk58, setsV, e0, f0]
              exact hQ _ _ _ (by simp only [RF, RFo, release, release.rels, u64, u8, true_and, and_true, and_self, classV])
end Go.Proofs
