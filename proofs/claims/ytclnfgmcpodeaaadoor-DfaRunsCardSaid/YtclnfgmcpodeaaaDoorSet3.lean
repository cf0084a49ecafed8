/-
  Walks and plain laws towards the statements of this seat (Set3). Conditions: those that each theorem names.
-/
import Derived.Test.YtclnfgmcpodeaaaDoorSet2
set_option linter.unusedVariables false
set_option linter.unusedSimpArgs false
namespace Go.Proofs
open Go Go.Fw
set_option maxHeartbeats 2000000
def wordN (s : W4) (i : Nat) : UInt64 := if i = 0 then s.a else if i = 1 then s.b else if i = 2 then s.c else s.d
/-- is a byte in a set? -/
def hasN (s : W4) (n : Nat) : Bool := (wordN s (n / 64)).toNat / 2 ^ (n % 64) % 2 == 1
theorem shr_and1 (w : UInt64) (m : Nat) (hm : m < 64) : (IntKind.u64.wrap (BitVec.ofInt IntKind.u64.bits ((w.toNat : Int).fdiv (2 ^ (min m IntKind.u64.bits))) &&& BitVec.ofInt IntKind.u64.bits 1).toNat == 1) = (w.toNat / 2 ^ m % 2 == 1) := by
  have hw := w.toNat_lt
  have e1 : min m IntKind.u64.bits = m := Nat.min_eq_left (by show m ≤ 64; omega)
  have e2 : (w.toNat : Int).fdiv (2 ^ m) = ((w.toNat / 2 ^ m : Nat) : Int) := by
    rw [Int.fdiv_eq_ediv_of_nonneg _ (Int.le_of_lt (Int.pow_pos (by decide)))]
    simp
  have hlt : w.toNat / 2 ^ m < 2 ^ 64 := Nat.lt_of_le_of_lt (Nat.div_le_self _ _) hw
  rw [e1, e2]
  generalize w.toNat / 2 ^ m = n at hlt
  have e3 : (BitVec.ofInt 64 (n : Int) &&& BitVec.ofInt 64 1).toNat = n % 2 := by
    have h1 : BitVec.ofInt 64 (n : Int) = BitVec.ofNat 64 n := BitVec.ofInt_ofNat 64 n
    have h2 : BitVec.ofInt 64 1 = 1#64 := by decide
    rw [h1, h2, BitVec.toNat_and, BitVec.toNat_ofNat, Nat.mod_eq_of_lt hlt]
    exact Nat.and_one_is_mod n
  show (IntKind.u64.wrap ((BitVec.ofInt 64 (n : Int) &&& BitVec.ofInt 64 1).toNat : Int) == 1) = _
  rw [e3]
  have : n % 2 < 2 := Nat.mod_lt _ (by decide)
  rw [wrap_u64 (by omega) (by omega)]
  generalize n % 2 = r at this
  match r, this with
  | 0, _ => rfl
  | 1, _ => rfl
theorem tmod64 (c : UInt8) : ((c.toNat : Int).tmod 64).toNat = c.toNat % 64 := by
  have h : ∀ n : Fin 256, ((n.val : Int).tmod 64).toNat = n.val % 64 := by decide +kernel
  exact h ⟨c.toNat, c.toNat_lt⟩
theorem p_has (s : W4) (x : UInt8) : PC Tryd.prog 37 [setW s, u8 x] (· = .v (.bool (hasN s x.toNat))) := by
  have hx := x.toNat_lt
  have hq : (IntKind.u8.wrap ((x.toNat : Int).tdiv 64) = 0 ∧ x.toNat / 64 = 0) ∨ (IntKind.u8.wrap ((x.toNat : Int).tdiv 64) = 1 ∧ x.toNat / 64 = 1) ∨ (IntKind.u8.wrap ((x.toNat : Int).tdiv 64) = 2 ∧ x.toNat / 64 = 2) ∨ (IntKind.u8.wrap ((x.toNat : Int).tdiv 64) = 3 ∧ x.toNat / 64 = 3) := by
    have h : ∀ n : Fin 256, (IntKind.u8.wrap ((n.val : Int).tdiv 64) = 0 ∧ n.val / 64 = 0) ∨ (IntKind.u8.wrap ((n.val : Int).tdiv 64) = 1 ∧ n.val / 64 = 1) ∨ (IntKind.u8.wrap ((n.val : Int).tdiv 64) = 2 ∧ n.val / 64 = 2) ∨ (IntKind.u8.wrap ((n.val : Int).tdiv 64) = 3 ∧ n.val / 64 = 3) := by decide +kernel
    exact h ⟨x.toNat, hx⟩
  have hm : 0 ≤ (x.toNat : Int).tmod 64 := Int.tmod_nonneg _ (by omega)
  have hs := fun w => shr_and1 w (x.toNat % 64) (Nat.mod_lt _ (by decide))
  refine PC.in 1000 Tryd.func37 (by kernel_rfl) rfl (by kernel_rfl) fun Ph Ps E Q hE hQ => ?_
  rcases hq with ⟨h1, h2⟩ | ⟨h1, h2⟩ | ⟨h1, h2⟩ | ⟨h1, h2⟩
  all_goals
    simp only [Tryd.f37, AWn, AWg, AWc, AWi, AWx, AWd, exitTo, slots, aEnd, aOut, jAV, aRet, retAV, tupOf, RF, RFo, release, release.rels, aop, ev, evs, evo, evl, constAV, strip, lk, guardOf, gd, Ja, Jb, Jc, St.put, Jd, Je, Jf, AV.s, AV.cells, FV.cells, AV.one, FV.okE, hset, hdel, aMove, aBin, resV, bopV, bopInt, bopStr, bopBool, aPick, aNot, aNeg, aXor, aConv, rdSl, aNil, newCells, aAlloc, aBox, ldAgg, aLoad, aStore, aStoreRow, writeAt, fldAt, aFieldAddr, partOf, aField, idxAddrE, arrAddrE, aIndexAddr, arrIdx, aIndex, bnds, slStr, slF, slO, aSlice, aExtract, bldParts, aggRes, aBuild, arrFs, bslParts, bslRes, bslE, aBuildSlice, mkSl, aMakeSlice, aLen, apRow, apE, apT, aAppend, aRange, nextS, aNext, aMkFunc, aCallV, VX, VXg, VXk, VXc, VXf, VXz, VQ, VQg, VQk, VQc, VQf, VQz, qk, pickT, putT, lks, tmpsOf, guardT, Op.operands, Call.operands, Jg, Option.toArray, Jh, Ji, Nat.reduceBEq, Nat.reduceAdd, Nat.reduceSub, Nat.reduceMul, Jj, Jk, Jl, Jm, Jn, Jo, Jp, Jq, Jr, Js, Jt, Ju, Jv, Jw, Jx, reduceIte, Nat.reduceLT, Nat.reduceLeDiff, Jy, reduceCtorEq, Jz, Ka, Kb, Kc, Kd, Ke, Kf, Kg, Kh, Ki, Kj, Kk, Kl, Km, Kn, Ko, Kp, Kq, Int.reduceLT, Int.reduceLE, Int.reduceGT, Int.reduceGE, Int.reduceAdd, Int.reduceSub, Int.reduceMul, Int.reduceNeg, Int.reduceBEq, Int.reduceEq, Int.reduceToNat, Kr, List.replicate_succ, Ks, Kt, Ku, Kv, renH, delAll, shift, rn, AO.ren, AV.ren, AV.rens, implies_true, pk0, tk5, tk56, tk58, setW, setF, u64, u8, h1, hm, tmod64, hs]
    refine hQ _ _ _ ⟨trivial, ?_⟩
    simp [hasN, h2, wordN]
end Go.Proofs
